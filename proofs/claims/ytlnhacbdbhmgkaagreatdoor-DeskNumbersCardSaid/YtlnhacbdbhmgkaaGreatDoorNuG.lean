/- desk.New; the state of the law's loop. -/
import Derived.Test.YtlnhacbdbhmgkaaGreatDoorAwakeN
import Derived.Test.YtlnhacbdbhmgkaaGreatDoorNuF
import Derived.Test.YtlnhacbdbhmgkaaGreatDoorNuD
import Derived.Test.YtlnhacbdbhmgkaaGreatDoorNuE
import Derived.Test.YtlnhacbdbhmgkaaGreatDoorNuR
namespace Go.Proofs.YtlnhacbdbhmgkaaGreatDoor
open Go.RowKit Go.Maps

theorem desk_bad (m : Int) (w : World) (h : m < 1 ∨ 64 < m) : Calls Tryz.prog 4 #[.int .i64 m] w fun e w' => e = .returned (.tuple #[.pointer none, .int .i64 50]) ∧ w = w' := by
  go_enter Tryz.func4, Tryz.ntmps4
  by_cases h1 : m < 1
  · go_wp2
    go_ret2
    exact ⟨rfl, rfl⟩
  · have h2 : 64 < m := by omega
    go_wp2
    go_ret2
    exact ⟨rfl, rfl⟩

theorem desk_ok (m : Int) (w : World) (h : 1 ≤ m ∧ m ≤ 64) : Calls Tryz.prog 4 #[.int .i64 m] w fun e w' => e = .returned (.tuple #[.pointer (some ⟨w.heap.size + 1, 0, none⟩), .int .i64 0]) ∧
    w' = (w.alloc (.map #[] 0)).alloc (.cells #[.int .i64 m, .int .i64 0, .map (some w.heap.size)] 49) := by
  have h1 : ¬ m < 1 := by omega
  have h2 : ¬ 64 < m := by omega
  have hmk : ∀ w : World, (Instr.makeMap 47 none).run Tryz.prog w = .ok (.map (some w.heap.size)) (w.alloc (.map #[] 0)) := fun _ => rfl
  go_enter Tryz.func4, Tryz.ntmps4
  go_wp2
  go_ret2
  exact ⟨rfl, rfl⟩


theorem cell0_upd {w w' : World} (h0 : w.cell? ⟨0, 0, none⟩ = some (.int .u8 0)) (hU : Upd w [] w' []) : w'.cell? ⟨0, 0, none⟩ = some (.int .u8 0) := hU.cell h0 (fun h => by cases h)

/-- The array open: place i tells whether the number i is open. -/
def Arr (w : World) (A : Nat) (D : DataW Unit) : Prop :=
  ∃ cs, w.heap[A]? = some (.cells cs 38 (0, 0)) ∧ ∀ i : Nat, i < 66 → cs[i]? = some (.bool (hasI D i))

theorem Arr.cell {w : World} {A : Nat} {D : DataW Unit} (h : Arr w A D) {i : Nat} (hi : i < 66) : w.cell? ⟨A, i, none⟩ = some (.bool (hasI D i)) := by
  obtain ⟨cs, h1, h2⟩ := h
  exact cell_at h1 (h2 i hi)
theorem Arr.free {w : World} {A : Nat} {D : DataW Unit} (h : Arr w A D) (i : Nat) : w.frozen? ⟨A, i, none⟩ = false := by
  obtain ⟨cs, h1, h2⟩ := h
  exact free_at h1 i
theorem Arr.keeps {w w' : World} {A : Nat} {D : DataW Unit} (h : Arr w A D) (hk : w'.heap[A]? = w.heap[A]?) : Arr w' A D := by
  obtain ⟨cs, h1, h2⟩ := h
  exact ⟨cs, hk.trans h1, h2⟩
theorem Arr.set {w : World} {A : Nat} {D D' : DataW Unit} (h : Arr w A D) {n : Nat} {b : Bool} (hn : hasI D' n = b) (ho : ∀ i : Nat, i ≠ n → hasI D' i = hasI D i) : Arr (w.setCell ⟨A, n, none⟩ (.bool b)) A D' := by
  obtain ⟨cs, h1, h2⟩ := h
  refine ⟨_, heap_setCell_at _ h1, fun i hi => ?_⟩
  have hs : i < cs.size := (Array.getElem?_eq_some_iff.1 (h2 i hi)).1
  by_cases e : n = i
  · subst e
    rw [Array.getElem?_setIfInBounds_self_of_lt hs, hn]
  · rw [Array.getElem?_setIfInBounds_ne e, h2 i hi, ho i (fun e' => e e'.symm)]

theorem zero_arr {i : Nat} (hi : i < 66) : Tryz.zeroCells38[i]? = some (.bool false) := by
  have h : ((List.range 66).all fun i => match Tryz.zeroCells38[i]? with | some v => same v (.bool false) | none => false) = true := by kernel_rfl
  have := List.all_eq_true.1 h i (List.mem_range.2 hi)
  split at this
  · rename_i v hv
    rw [hv, same_eq _ _ this]
  · cases this

/-- What holds at the head of the law's loop: the numbers in D are open. -/
structure St (W : World) (Dk M lo hi A : Nat) (most : Int) (t : Value) (w : World) (k : Nat) (D : DataW Unit) : Prop where
  tree : TreeAt st1Out 91 w lo hi t
  desk : DeskAt w Dk M k lo (A + 1) most t D
  arr : Arr w A D
  keys : ∀ x, hasI D x = true → 1 ≤ x ∧ x ≤ 64
  size : (Maps.size D : Int) ≤ most ∧ most ≤ 64
  upd : Upd W [] w []
  low : hi ≤ A ∧ W.heap.size ≤ M ∧ W.heap.size ≤ Dk ∧ W.heap.size ≤ lo ∧ A < w.heap.size ∧ lo ≤ hi

theorem hasI_none (x : Int) : hasI (.map []) x = false := rfl

theorem St.start {W w : World} {Dk M lo A : Nat} {most : Int} {t : Value} (hT : TreeAt st1Out 91 w lo A t) (hM : w.heap[M]? = some (.map #[] 0)) (hD : w.heap[Dk]? = some (.cells #[.int .i64 most, .int .i64 0, .map (some M)] 49 (0, 0)))
    (hA : A = w.heap.size) (hU : Upd W [] w []) (hm : 1 ≤ most ∧ most ≤ 64) (hlow : W.heap.size = M ∧ Dk = M + 1 ∧ lo = M + 2 ∧ lo ≤ A ∧ 0 < M) :
    St W Dk M lo A A most t (w.alloc (.cells Tryz.zeroCells38 38)) 0 (.map []) := by
  have hUa : Upd w [] (w.alloc (.cells Tryz.zeroCells38 38)) [] := (Upd.refl w []).alloc _
  refine ⟨hT.upd hUa (fun b hb => by cases hb), ⟨hUa.keeps hD (fun h => by cases h), ⟨?_, fun id hid => ?_⟩, by omega⟩, ⟨_, hA ▸ heap_alloc_new w _, fun i hi => zero_arr hi⟩, fun x hx => ?_, ⟨?_, hm.2⟩, hU.trans hUa, ?_⟩
  · obtain ⟨es, clock, hb, F, hs, hD'⟩ := World.ownsMap_made (H := Unit) { w with heap := w.heap.extract 0 M } Tryz.prog 3 refEl
    refine ⟨es, clock, ?_, F, hs, hD'⟩
    have e1 : (Obj.map es clock) = .map #[] 0 := by
      have hsz : (w.heap.extract 0 M).size = M := by
        have := lt_of_block hM
        simp; omega
      have h1 := heap_alloc_new { w with heap := w.heap.extract 0 M } (.map #[] 0)
      have hb' := hb
      rw [show ({ w with heap := w.heap.extract 0 M } : World).heap.size = M from hsz] at hb' h1
      exact Option.some.inj (hb'.symm.trans h1)
    rw [e1]
    exact hUa.keeps hM (fun h => by cases h)
  · rw [hasI_none] at hid; cases hid
  · rw [hasI_none] at hx; cases hx
  · show ((0 : Nat) : Int) ≤ most
    omega
  · have : (w.alloc (.cells Tryz.zeroCells38 38)).heap.size = w.heap.size + 1 := World.size_alloc ..
    omega

section
variable {W : World} {Dk M lo hi A : Nat} {most : Int} {t : Value} {w : World} {k : Nat} {D : DataW Unit}

theorem St.drewN (h : St W Dk M lo hi A most t w k D) (n : Nat) : St W Dk M lo hi A most t (w.drewN n) k D :=
  ⟨h.tree.agree fun _ _ _ => rfl, h.desk.agree rfl rfl fun _ _ _ => rfl, h.arr.keeps rfl, h.keys, h.size, h.upd.drewN n, h.low⟩
theorem St.notA (h : St W Dk M lo hi A most t w k D) : A ∉ (M :: TrS lo hi) := by
  have h1 := h.desk.low
  have h2 := h.low
  rw [List.mem_cons, mem_TrS]
  omega
theorem St.small (h : St W Dk M lo hi A most t w k D) : Maps.size D ≤ 64 := by
  have := h.size
  omega

/-- Open has given the number id, and the law writes it down. -/
theorem St.opened (h : St W Dk M lo hi A most t w k D) (hne : (Maps.size D : Int) ≠ most) {id : Nat} {w' : World} (hO : OpenR st1Out 91 w Dk M k lo hi (A + 1) most t D id w') :
    id ≤ 64 ∧ w'.cell? ⟨A, id, none⟩ = some (.bool false) ∧ w'.frozen? ⟨A, id, none⟩ = false ∧
      ∃ D', St W Dk M lo hi A most t (w'.setCell ⟨A, id, none⟩ (.bool true)) (k + 1) D' ∧ Maps.size D' = Maps.size D + 1 := by
  have hlow := h.low
  have hdl := h.desk.low
  have hsz := h.size
  have hid : id ≤ 64 := by
    have := size_ge (id - 1) h.desk.opens.tidy fun j h1 h2 => hO.least j h1 (by omega)
    omega
  have hA : w'.heap[A]? = w.heap[A]? := hO.upd.block A hlow.2.2.2.2.1 h.notA
  have hArr : Arr w' A D := h.arr.keeps hA
  obtain ⟨d, hDk⟩ := hO.desk
  have hAw' : A < w'.heap.size := Nat.lt_of_lt_of_le hlow.2.2.2.2.1 hO.upd.size
  have hUs : Upd w' [A] (w'.setCell ⟨A, id, none⟩ (.bool true)) [A] := (Upd.refl w' [A]).setCell (.inl (by simp)) _
  refine ⟨hid, by rw [hArr.cell (by omega), hO.free], hArr.free _, D.put (.int .i64 (id : Int)) d, ⟨hO.tree.upd hUs (fun b hb => by simp at hb; omega), hDk.agree (hUs.block _ (lt_of_block hDk.desk) (by simp; omega)) (hUs.block _ hDk.opens.own.lt (by simp; omega)) (fun b hb hlt => hUs.block b hlt (by simp; omega)),
    hArr.set ?_ (fun i hi => ?_), fun x hx => ?_, ?_, ?_, ?_⟩, size_putI h.desk.opens.tidy hO.free d⟩
  · rw [hasI_put h.desk.opens.tidy]
    simp
  · rw [hasI_put h.desk.opens.tidy]
    have : ¬ (i : Int) = (id : Int) := by omega
    simp [this]
  · rw [hasI_put h.desk.opens.tidy] at hx
    simp only [Bool.or_eq_true, decide_eq_true_eq] at hx
    rcases hx with rfl | hx
    · have := hO.one
      omega
    · exact h.keys x hx
  · have := size_putI h.desk.opens.tidy hO.free d
    omega
  · have h1 : Upd W [] w' [] := ((h.upd.to (T := M :: TrS lo hi) (fun b hb => .inr (by rw [List.mem_cons, mem_TrS] at hb; omega))).trans hO.upd).to (fun b hb => by cases hb)
    exact h1.setCell (.inr (show W.heap.size ≤ A by omega)) _
  · have : (w'.setCell ⟨A, id, none⟩ (.bool true)).heap.size = w'.heap.size := World.size_setCell ..
    omega

/-- Close has taken the number c away, and the law writes it down. -/
theorem St.closed (h : St W Dk M lo hi A most t w k D) {c : Int} (hc : hasI D c = true) {w' : World} (hC : CloseR st1Out 91 w Dk M k lo hi (A + 1) most t D c w') :
    ∃ j : Nat, c = j ∧ j ≤ 64 ∧ w'.cell? ⟨A, j, none⟩ = some (.bool true) ∧ w'.frozen? ⟨A, j, none⟩ = false ∧ hasI (D.del (.int .i64 c)) c = false ∧
      St W Dk M lo hi A most t (w'.setCell ⟨A, j, none⟩ (.bool false)) k (D.del (.int .i64 c)) ∧ Maps.size (D.del (.int .i64 c)) + 1 = Maps.size D := by
  have hlow := h.low
  have hdl := h.desk.low
  have hsz := h.size
  have hk := h.keys c hc
  obtain ⟨hDk, hT, C, hCA, hU⟩ := hC
  have hA : w'.heap[A]? = w.heap[A]? := hU.block A hlow.2.2.2.2.1 (by simp; omega)
  have hArr : Arr w' A D := h.arr.keeps hA
  have hAw' : A < w'.heap.size := Nat.lt_of_lt_of_le hlow.2.2.2.2.1 hU.size
  have hj : c = (c.toNat : Int) := by omega
  have hUs : Upd w' [A] (w'.setCell ⟨A, c.toNat, none⟩ (.bool false)) [A] := (Upd.refl w' [A]).setCell (.inl (by simp)) _
  have hsd := size_delI h.desk.opens.tidy hc
  refine ⟨c.toNat, hj, by omega, by rw [hArr.cell (by omega), ← hj, hc], hArr.free _, by rw [hasI_del]; simp, ⟨hT.upd hUs (fun b hb => by simp at hb; omega), hDk.agree (hUs.block _ (lt_of_block hDk.desk) (by simp; omega)) (hUs.block _ hDk.opens.own.lt (by simp; omega)) (fun b hb hlt => hUs.block b hlt (by simp; omega)),
    hArr.set ?_ (fun i hi => ?_), fun x hx => ?_, by omega, ?_, ?_⟩, hsd⟩
  · rw [hasI_del, ← hj]
    simp
  · rw [hasI_del]
    have : ¬ (i : Int) = c := by omega
    simp [this]
  · rw [hasI_del] at hx
    simp only [Bool.and_eq_true] at hx
    exact h.keys x hx.2
  · have h1 : Upd W [] w' [] := ((h.upd.to (T := [M, C]) (fun b hb => .inr (by simp at hb; omega))).trans hU).to (fun b hb => by cases hb)
    exact h1.setCell (.inr (show W.heap.size ≤ A by omega)) _
  · have : (w'.setCell ⟨A, c.toNat, none⟩ (.bool false)).heap.size = w'.heap.size := World.size_setCell ..
    omega
end

end Go.Proofs.YtlnhacbdbhmgkaaGreatDoor
