/- Slices of int cut and appended, whole runs at once; the document's answer osierref04.Lists in memory ('Ref'). -/
import Derived.Test.YtgcemlilfdjjlaaChainJ
import Derived.Test.YtgcemlilfdjjlaaArgs
import Derived.Maps.AppendAt
namespace Go.Proofs.Ytgcemlilfdjjlaa
open Go.RowKit

theorem getD_map_int (xs : List Int) (i : Nat) (h : i < xs.length) : (xs.map (Value.int .i64)).getD i undef = .int .i64 (xs.getD i 0) := by
  simp [List.getD, h]

theorem Ints.own {w : World} {v : Value} {xs : List Int} (h : Ints w v xs) : w.ownsRow 0 3 1 v xs.length (xs.map (Value.int .i64)) := by
  refine ⟨by simp, ?_⟩
  rcases h with h | ⟨g, cap, cur, hv, hg, hn, hm, hs, hc⟩
  · exact .inl h
  · refine .inr ⟨g, cap, cur, hv, Nat.zero_le _, hg, hn, hm, hs, ?_⟩
    apply List.ext_getElem?
    intro i
    rw [List.getElem?_take]
    by_cases hi : i < xs.length
    · have := hc i 0 hi (by omega)
      rw [Nat.mul_one, Nat.add_zero] at this
      rw [if_pos (by omega), Array.getElem?_toList, this]
      simp [hi]
    · rw [if_neg (by omega)]
      simp [Nat.le_of_not_lt hi]

theorem Ints.of_own {w : World} {base : Nat} {v : Value} {xs : List Int} (h : w.ownsRow base 3 1 v xs.length (xs.map (Value.int .i64))) : Ints w v xs := by
  refine (Tab.of_own h).congr fun i j hi hj => ?_
  obtain rfl : j = 0 := by omega
  rw [Nat.mul_one, Nat.add_zero]
  exact getD_map_int xs i hi

theorem Ints.inInts {w : World} {v : Value} {xs : List Int} (h : Ints w v xs) : InInts w v xs := by
  rcases h with ⟨h1, h2⟩ | ⟨g, cap, cur, hv, hg, hn, hm, hs, hc⟩
  · exact .inl ⟨h1, List.eq_nil_of_length_eq_zero h2⟩
  · refine .inr ⟨⟨g, 0, none⟩, cap, hv, by omega, fun i x hx => ?_⟩
    have hi : i < xs.length := (List.getElem?_eq_some_iff.1 hx).1
    have := hc i 0 hi (by omega)
    rw [Nat.mul_one, Nat.add_zero] at this
    rw [show (⟨g, 0, none⟩ : Addr).add i = ⟨g, i, none⟩ from by unfold Addr.add; split <;> simp_all, cell_at hg this]
    simp [List.getD, hx]

theorem add_add' (a : Addr) (i j : Nat) : (a.add i).add j = a.add (i + j) := by
  unfold Addr.add
  by_cases hi : i = 0 <;> by_cases hj : j = 0 <;> simp [hi, hj, Nat.add_assoc]

/-- 'x[:k]'. -/
theorem cut_to {w : World} {v : Value} {xs : List Int} (h : Ints w v xs) (k : Nat) (hk : k ≤ xs.length) :
    ∃ v', (∀ W, (Instr.slice 38 v none (some (.int .i64 k)) none).run Try.prog W = .ok v' W) ∧ InInts w v' (xs.take k) := by
  have hlen : (xs.take k).length = k := by rw [List.length_take]; omega
  have h' := h.inInts
  obtain ⟨i0, hi, hz0, hz1, hz2⟩ := info_parts infoInt
  rcases h with ⟨rfl, h2⟩ | ⟨g, cap, cur, rfl, hg, hn, hm, hs, hc⟩
  · obtain rfl : k = 0 := by omega
    refine ⟨.slice none 0 0, fun W => ?_, .inl ⟨rfl, by simp⟩⟩
    simp [Instr.slice, Instr.sliceBounds, Instr.sliceBound, run_underlying Try.underlying38, go_sem, sizeOf, typeInfo, hi]
  · refine ⟨.slice (some ⟨g, 0, none⟩) k cap, fun W => ?_, .inr ⟨_, cap, by rw [hlen], by omega, fun i x hx => ?_⟩⟩
    · have h2 : k ≤ cap := by omega
      simp [Instr.slice, Instr.sliceBounds, Instr.sliceBound, run_underlying Try.underlying38, go_sem, sizeOf, typeInfo, hi, h2, Addr.add]
    · rw [List.getElem?_take] at hx
      split at hx
      · rcases h' with ⟨h', _⟩ | ⟨a, cap', hv, _, hcell⟩
        · cases h'
        · injection hv with e1 e2 e3
          injection e1 with e1
          subst e1
          exact hcell i x hx
      · cases hx

/-- 'x[k:]'. -/
theorem cut_from {w : World} {v : Value} {xs : List Int} (h : Ints w v xs) (k : Nat) (hk : k ≤ xs.length) :
    ∃ v', (∀ W, (Instr.slice 38 v (some (.int .i64 k)) none none).run Try.prog W = .ok v' W) ∧ InInts w v' (xs.drop k) := by
  have hlen : (xs.drop k).length = xs.length - k := List.length_drop
  have h' := h.inInts
  obtain ⟨i0, hi, hz0, hz1, hz2⟩ := info_parts infoInt
  rcases h with ⟨rfl, h2⟩ | ⟨g, cap, cur, rfl, hg, hn, hm, hs, hc⟩
  · obtain rfl : k = 0 := by omega
    refine ⟨.slice none 0 0, fun W => ?_, .inl ⟨rfl, by rw [List.eq_nil_of_length_eq_zero h2]; rfl⟩⟩
    simp [Instr.slice, Instr.sliceBounds, Instr.sliceBound, run_underlying Try.underlying38, go_sem, sizeOf, typeInfo, hi]
  · refine ⟨.slice (some (if cap = k then ⟨g, 0, none⟩ else (⟨g, 0, none⟩ : Addr).add k)) (xs.length - k) (cap - k), fun W => ?_, .inr ⟨_, cap - k, by rw [hlen], by omega, fun i x hx => ?_⟩⟩
    · by_cases hck : cap = k
      · simp [Instr.slice, Instr.sliceBounds, Instr.sliceBound, run_underlying Try.underlying38, go_sem, sizeOf, typeInfo, hi, hk, hck]
      · simp [Instr.slice, Instr.sliceBounds, Instr.sliceBound, run_underlying Try.underlying38, go_sem, sizeOf, typeInfo, hi, hz1, hk, hck]
    · rw [List.getElem?_drop] at hx
      have hlt := (List.getElem?_eq_some_iff.1 hx).1
      rw [if_neg (by omega), add_add']
      rcases h' with ⟨h', _⟩ | ⟨a, cap', hv, _, hcell⟩
      · cases h'
      · injection hv with e1 e2 e3
        injection e1 with e1
        subst e1
        exact hcell (k + i) x hx

/-- 'append(v, x...)'. -/
theorem run_append_ints (w : World) (ty : TypeId) {v x : Value} {zs ys : List Int} (hI : Ints w v zs) (hx : InInts w x ys) (hl : zs.length + ys.length ≤ 17592186044416) :
    ∃ v' w', (Builtin.append_ #[38, 38] ty #[v, x]).run Try.prog w = .ok v' w' ∧ Ints w' v' (zs ++ ys) ∧ w.grownBy w' v.ownBlock ∧ (v'.ownBlock = v.ownBlock ∨ v'.ownBlock = some w.heap.size) := by
  obtain ⟨i0, hi, hz0, hz1, hz2⟩ := info_parts infoInt
  rcases hx with ⟨rfl, rfl⟩ | ⟨a, cap, rfl, hm, hc⟩
  · refine ⟨v, w, run_append_owned_none (P := Try.prog) (w := w) 0 _ ty 3 i0 1 Try.underlying38 hi v _ _ hI.own, by rw [List.append_nil]; exact hI, ⟨rfl, rfl, rfl, Nat.le_refl _, fun _ _ _ => rfl⟩, .inl rfl⟩
  · obtain ⟨v', w', hr, h2, h3, h4, h5⟩ := run_append_own_at (P := Try.prog) w 0 38 ty 3 i0 (.int .i64 0) 1 8 Try.underlying38 hi hz0 hz1 hz2 rfl (by omega) v _ _ hI.own a ys.length cap (ys.map (Value.int .i64)) (by simp)
      (fun j u hu => by
        rw [List.getElem?_map] at hu
        cases hy : ys[j]? with
        | none => rw [hy] at hu; cases hu
        | some y => rw [hy] at hu; injection hu with hu; rw [← hu]; exact hc j y hy)
      (fun u hu => by obtain ⟨y, _, rfl⟩ := List.mem_map.1 hu; rfl)
      (by simp only [maxLen]; omega) (by omega) (Nat.zero_le _)
    refine ⟨v', w', hr, Ints.of_own (base := 0) ?_, h3, h5⟩
    rw [List.length_append, List.map_append]
    exact h2

theorem wpList_append_ints {ops : Array Oper} {rest : List Oper} {o : Oper} {a : Act} {Q : Exit → Act → World → Prop} (w : World) (hgd : o.guard = none) (s x : Operand)
    (ho : o.op = .call { callee := .builtin .append, args := #[s, x], argTypes := #[38, 38] })
    {v y : Value} {zs ys : List Int} (hs : a.eval s = v) (hy : a.eval x = y) (hI : Ints w v zs) (hx : InInts w y ys) (hl : zs.length + ys.length ≤ 17592186044416)
    (h : ∀ v' w', Ints w' v' (zs ++ ys) → w.grownBy w' v.ownBlock → (v'.ownBlock = v.ownBlock ∨ v'.ownBlock = some w.heap.size) → wpList Try.prog ops Q rest (a.put o.dst v') w') :
    wpList Try.prog ops Q (o :: rest) a w := by
  refine wpList_plain hgd fun K hK => ?_
  obtain ⟨v', w', hr, h2, h3, h4⟩ := run_append_ints w o.type hI hx hl
  unfold Oper.wp execOp
  simp only [ho, resolve, invoke, builtin, Sem.run_bind, Sem.run_pure, Result.andThen_ok, List.map_toArray, List.map_cons, List.map_nil, hs, hy, hr]
  exact hK _ _ (h v' w' h2 h3 h4)

/-- One list of the document's answer: number, value, cells. -/
structure Entry where
  num : Nat
  val : Value
  cells : List Nat
instance : Inhabited Entry := ⟨⟨0, undef, []⟩⟩
def Entry.at_ (e : Entry) (j : Nat) : Value := if j = 0 then .int .i64 e.num else e.val

def look (a : List Entry) (n : Nat) : List Nat := match a.find? (fun e => e.num == n) with | some e => e.cells | none => []

structure RefAt (w : World) (b C L : Nat) (f : Nat → List Nat) (fp : List Nat) (a : List Entry) (v : Value) : Prop where
  blk : w.heap[b]? = some (.cells #[.int .i64 C, .int .i64 L, v] 52 (0, 0))
  tab : Tab w v 58 2 a.length (fun i j => (a.getD i default).at_ j)
  cells : ∀ e, e ∈ a → Ints w e.val (ofNats e.cells)
  nodup : (a.map Entry.num).Nodup
  lt : ∀ e, e ∈ a → e.num < L
  told : f = look a
  fpb : b ∈ fp
  fpv : ∀ g, v.ownBlock = some g → g ∈ fp
  fpe : ∀ e, e ∈ a → ∀ g, e.val.ownBlock = some g → g ∈ fp
  fplt : ∀ x, x ∈ fp → x < w.heap.size

def Ref (w : World) (b C L : Nat) (f : Nat → List Nat) (fp : List Nat) : Prop := ∃ a v, RefAt w b C L f fp a v

theorem RefAt.upd {w w' : World} {b C L : Nat} {f : Nat → List Nat} {fp : List Nat} {a : List Entry} {v : Value} {S S' : List Nat} (h : RefAt w b C L f fp a v) (hu : Upd w S w' S') (hd : ∀ x, x ∈ fp → x ∉ S) : RefAt w' b C L f fp a v :=
  ⟨hu.keeps h.blk (hd _ h.fpb), h.tab.upd hu (fun g e => hd _ (h.fpv g e)), fun e he => (h.cells e he).upd hu (fun g e' => hd _ (h.fpe e he g e')), h.nodup, h.lt, h.told, h.fpb, h.fpv, h.fpe, fun x hx => Nat.lt_of_lt_of_le (h.fplt x hx) hu.size⟩
theorem Ref.upd {w w' : World} {b C L : Nat} {f : Nat → List Nat} {fp : List Nat} {S S' : List Nat} (h : Ref w b C L f fp) (hu : Upd w S w' S') (hd : ∀ x, x ∈ fp → x ∉ S) : Ref w' b C L f fp := by
  obtain ⟨a, v, h⟩ := h
  exact ⟨a, v, h.upd hu hd⟩
theorem Ref.lt {w : World} {b C L : Nat} {f : Nat → List Nat} {fp : List Nat} (h : Ref w b C L f fp) : ∀ x, x ∈ fp → x < w.heap.size := by
  obtain ⟨a, v, h⟩ := h
  exact h.fplt

theorem look_at {a : List Entry} (hd : (a.map Entry.num).Nodup) {e : Entry} (he : e ∈ a) : look a e.num = e.cells := by
  induction a with
  | nil => cases he
  | cons x a ih =>
    unfold look
    rw [List.find?_cons]
    rw [List.map_cons, List.nodup_cons] at hd
    rcases List.mem_cons.1 he with rfl | he'
    · simp
    · have hne : (x.num == e.num) = false := by
        rw [beq_eq_false_iff_ne]
        intro hxe
        exact hd.1 (hxe ▸ List.mem_map.2 ⟨e, he', rfl⟩)
      rw [hne]
      exact ih hd.2 he'

theorem look_none {a : List Entry} {n : Nat} (h : ∀ e, e ∈ a → e.num ≠ n) : look a n = [] := by
  unfold look
  rw [List.find?_eq_none.2 (fun e he => by simpa using h e he)]

theorem RefAt.size {w : World} {b C L : Nat} {f : Nat → List Nat} {fp : List Nat} {a : List Entry} {v : Value} (h : RefAt w b C L f fp a v) : a.length ≤ L := by
  have := length_le_of_nodup h.nodup (b := L) (fun x hx => by obtain ⟨e, he, rfl⟩ := List.mem_map.1 hx; exact h.lt e he)
  simpa using this

/-- What a walk wants of element i. -/
theorem RefAt.at_ {w : World} {b C L : Nat} {f : Nat → List Nat} {fp : List Nat} {a : List Entry} {v : Value} (h : RefAt w b C L f fp a v) {i : Nat} {e : Entry} (he : a[i]? = some e) :
    ∃ g cap, v = .slice (some ⟨g, 0, none⟩) a.length cap ∧ g ∈ fp ∧ w.cell? ⟨g, i * 2, none⟩ = some (.int .i64 e.num) ∧ w.cell? ⟨g, i * 2 + 1, none⟩ = some e.val := by
  have hi := (List.getElem?_eq_some_iff.1 he).1
  obtain ⟨g, cap, hv, ho, _, hc, _⟩ := h.tab.block (by omega)
  have hg : a.getD i default = e := by rw [List.getD_eq_getElem?_getD, he]; rfl
  refine ⟨g, cap, hv, h.fpv g ho, ?_, ?_⟩
  · have := hc i 0 hi (by omega); rw [hg] at this; exact this
  · have := hc i 1 hi (by omega); rw [hg] at this; exact this

/-- The cells of a list, any number. -/
def cellsOf (f : Nat → List Nat) (n : Int) : List Nat := if 0 ≤ n then f n.toNat else []

end Go.Proofs.Ytgcemlilfdjjlaa
