/- desk.List at whatever numbers are open. -/
import Derived.Test.YtlnhacbdbhmgkaaGreatDoorNuC
import Derived.Test.YtlnhacbdbhmgkaaGreatDoorNuL
import Derived.Test.YtlnhacbdbhmgkaaGreatDoorDnL
namespace Go.Proofs.YtlnhacbdbhmgkaaGreatDoor
open Go.RowKit Go.Maps

theorem eInfo : ElemOk Tryz.prog 42 45 4 40 := .mk' (z := .agg #[.int .i64 0, .string { data := #[] }, .int .i64 0, .bool false]) Tryz.underlying42 (by kernel_rfl) rfl

/-- append onto a slice of one's own, as a step of a region that draws its order. -/
theorem append_tab_step {P : Program} {w : World} {t e : TypeId} {size bytes : Nat} (he : ElemOk P t e size bytes) {o : Oper} {a : Act} {K : Act → World → Prop} {Q : Exit → Act → World → Prop} (s x : Operand)
    (ho : o.op = .call { callee := .builtin .append, args := #[s, x], argTypes := #[t, t] }) {v : Value} {n : Nat} {cf : Nat → Nat → Value} (htab : Tab w v e size n cf) (hs : a.eval s = v)
    (news : List Value) {B c : Nat} (hx : a.eval x = .slice (some ⟨B, 0, none⟩) 1 c) (hB : w.heap[B]? = some (.cells news.toArray e (0, 0))) (hl : news.length = size) (h1 : news.all Value.oneCell' = true)
    (hbytes : (n + 1) * bytes ≤ 140737488355328) (h63 : n + 1 ≤ maxLen)
    (h : ∀ g cap w', Tab w' (.slice (some ⟨g, 0, none⟩) (n + 1) cap) e size (n + 1) (snoc cf n news) → w.grownBy w' v.ownBlock → (v.ownBlock = some g ∨ w.heap.size ≤ g) →
      K (a.put o.dst (.slice (some ⟨g, 0, none⟩) (n + 1) cap)) w') : Oper.wp P o a w K Q := by
  obtain ⟨i, z, ht, hi, hz, hsize, hby, hzs⟩ := he.ex
  have hnews : ∀ j u, news[j]? = some u → w.cell? ((⟨B, 0, none⟩ : Addr).add j) = some u := fun j u hu => by
    have hadd : (⟨B, 0, none⟩ : Addr).add j = ⟨B, j, none⟩ := by unfold Addr.add; split <;> simp_all
    rw [hadd, cell_of_row w B j _ e _ hB]
    simpa using hu
  obtain ⟨v', w', hr, htab', hg, hk, g, cap, rfl⟩ := run_append_tab (P := P) w t o.type e i z size bytes ht hi hz hsize hby hzs v n cf htab ⟨B, 0, none⟩ c news hl hnews (fun u hu => List.all_eq_true.1 h1 u hu) hbytes h63
  unfold Oper.wp execOp
  simp only [ho, resolve, invoke, builtin, Sem.run_bind, Sem.run_pure, Result.andThen_ok, List.map_toArray, List.map_cons, List.map_nil, hs, hx, hr]
  exact h g cap w' htab' hg (hk g rfl)

/-- The cells of the list's elements: the numbers in order, and what else is told of each. -/
def InfoCells (L : List Int) (k : Nat) (c : Nat → Nat → Value) : Prop :=
  ∀ i, i < k → (∃ x, L[i]? = some x ∧ c i 0 = .int .i64 x) ∧ (∃ s, c i 1 = .string s) ∧ (∃ m, c i 2 = .int .i64 m) ∧ ∃ b, c i 3 = .bool b

/-- The numbers that are open, in order. -/
def IdsOf (D : DataW Unit) (L : List Int) : Prop := L.length = Maps.size D ∧ (∀ x, x ∈ L ↔ hasI D x = true) ∧ L.Pairwise (· < ·)

theorem mem_wf {D : DataW Unit} {w : World} {M n hi : Nat} {t : Value} (h : OpensAt w M n hi t D) {x : Int} (hx : hasI D x = true) : (Lit.int .i64 x).wf = true := by
  refine intKeys_wf h.own Tryz.underlying3 x ?_
  obtain ⟨es, hD, hko⟩ := h.own.keysOf
  subst hD
  simp only [hasI, Maps.has_eq, List.any_eq_true] at hx
  obtain ⟨p, hp, hs⟩ := hx
  exact List.mem_map.2 ⟨p, hp, by rw [WideAt.sameKey_eq hs]; rfl⟩
theorem ids_of {D : DataW Unit} {w : World} {M n hi : Nat} {t : Value} (h : OpensAt w M n hi t D) {ss : List Int} (hp : ss.Perm (intKeys D)) : IdsOf D (ss.mergeSort (fun x y => decide (x ≤ y))) := by
  refine keys_sorted h.tidy (fun es hD p hpe => ?_) hp
  obtain ⟨es', hD', hko⟩ := h.own.keysOf
  rw [hD] at hD'
  injection hD' with e
  subst e
  obtain ⟨v, hv⟩ := hko p hpe
  obtain ⟨x, _, hx, _⟩ := Maps.keyOf_i64 Tryz.underlying3 hv
  exact ⟨x, hx⟩

def ListR (w : World) (D : DataW Unit) (e : Ending) (w' : World) : Prop :=
  ∃ v L c, e = .returned v ∧ IdsOf D L ∧ Tab w' v 45 4 L.length c ∧ InfoCells L L.length c ∧ Upd w [] w' []

theorem ids_cells {w : World} {base : Nat} {v : Value} {L : List Int} (h : w.ownsRow base 3 1 v L.length (L.map encZ)) : Tab w v 3 1 L.length (fun i _ => .int .i64 (L.getD i 0)) := by
  rcases h.2 with ⟨rfl, h0⟩ | ⟨g, cap, cur, rfl, _, hg, h1, h2, h3, h4⟩
  · exact .inl ⟨rfl, h0⟩
  · refine .inr ⟨g, cap, cur, rfl, hg, h1, h2, by omega, fun i j hi hj => ?_⟩
    obtain rfl : j = 0 := by omega
    have hx : (L.map encZ)[i]? = some (.int .i64 (L.getD i 0)) := by
      rw [List.getElem?_map, List.getElem?_eq_getElem hi, List.getD_eq_getElem?_getD, List.getElem?_eq_getElem hi]
      rfl
    rw [← h4, List.getElem?_take, if_pos (by omega)] at hx
    simpa using hx

set_option maxRecDepth 100000 in
set_option maxHeartbeats 3200000 in
theorem list_any {σ : AS} {n : Nat} (hg : ∃ c e f s, σ.get n = some (.cells c e f) ∧ c[11]? = some (.int .i64 s)) {w : World} {Dk M k lo hi hd : Nat} {most : Int} {t : Value} {D : DataW Unit} (hT : TreeAt σ n w lo hi t)
    (hhi : hi ≤ w.heap.size) (hD : DeskAt w Dk M k lo hd most t D) (hs : Maps.size D ≤ 1000) :
    Calls Tryz.prog 9 #[.pointer (some ⟨Dk, 0, none⟩)] w (ListR w D) := by
  have hdk := hD.desk
  have c2 : w.cell? ⟨Dk, 2, none⟩ = some (.map (some M)) := by unfold World.cell?; simp only [hdk]; rfl
  have c1 : w.cell? ⟨Dk, 1, none⟩ = some (.int .i64 0) := by unfold World.cell?; simp only [hdk]; rfl
  have hown := hD.opens.own
  have HD := Lib.hid hD
  have HT := Lib.hid hT
  have HF := Lib.hid (And.intro hhi (And.intro hs hg))
  have HOwn := Lib.hid hown
  clear hdk hD hT hhi hg hown
  go_enter Tryz.func9, Tryz.ntmps9
  go_wp2_with (go_at_call 24; refine (keys_any M w).mono ?_; rintro e w1 ⟨rfl, hw1⟩; have hU1 : Upd w [] w1 [] := hw1 ▸ (Upd.refl w []).alloc _; have hB1 : w1.heap[w.heap.size]? = some (.cells #[.map (some M)] 47 (0, 0)) := hw1 ▸ heap_alloc_new w _; have HOwn1 := Lib.hid ((HD.out.opens.agree (hU1.block M HOwn.out.lt (fun h => by cases h)) (fun b _ hlt => hU1.block b hlt (fun h => by cases h))).own); clear hw1)
  go_at_call 23
  refine (sorted_keys M w.heap.size k D w1 HOwn1.out hB1 (by have := HF.out.2.1; simp only [maxLen]; omega) (by have := HF.out.2.1; omega)).mono ?_
  rintro e w2 ⟨v2, ss, rfl, hperm, hrow, -, hbel⟩
  have hU2 : Upd w [] w2 [] := hU1.trans (Upd.of_below hbel)
  obtain ⟨L, hL⟩ : ∃ L, ss.mergeSort (fun x y => decide (x ≤ y)) = L := ⟨_, rfl⟩
  have hids : IdsOf D L := hL ▸ ids_of HD.out.opens hperm
  have hlenL : ss.length = L.length := by rw [← hL, List.length_mergeSort]
  rw [hL, hlenL] at hrow
  have htab := ids_cells hrow
  have HIds := Lib.hid hids
  have HTab := Lib.hid htab
  have hLs : L.length ≤ 1000 := by rw [hids.1]; exact HF.out.2.1
  clear hrow hL hlenL hbel hperm hids htab
  dsimp only
  have e1 : w2.cell? ⟨Dk, 1, none⟩ = some (.int .i64 0) := hU2.cell c1 (fun h => by cases h)
  have e2 : w2.cell? ⟨Dk, 2, none⟩ = some (.map (some M)) := hU2.cell c2 (fun h => by cases h)
  have HU2 := Lib.hid hU2
  clear hU2 c1 c2 hB1 hU1
  rcases HTab.out with ⟨rfl, h0⟩ | ⟨gi, capi, cur, rfl, hgb, hcap, hcm, hcs, hcells⟩
  · obtain rfl : L = [] := List.length_eq_zero_iff.1 h0
    go_wp2
    refine wp_loop_rounds 1 ?_
    rw [rounds_succ]
    go_wp2
    go_ret
    exact ⟨_, [], fun _ _ => undef, rfl, HIds.out, Tab.nil _ _ _ _, fun i hi => (by cases hi), HU2.out⟩
  · have hid0 : ∀ i x, L[i]? = some x → w2.cell? ⟨gi, i, none⟩ = some (.int .i64 x) := fun i x hx => by
      have hi := (List.getElem?_eq_some_iff.1 hx).1
      have := hcells i 0 hi (by decide)
      dsimp only at this
      rw [List.getD_eq_getElem?_getD, hx] at this
      unfold World.cell?
      simp only [hgb]
      simpa using this
    have hgl := (Array.getElem?_eq_some_iff.1 hgb).1
    have HI0 := Lib.hid hid0
    clear hgb hcap hcm hcs hcells hid0
    go_wp2
    go_loopw [3, 14] (fun o i wr => ∃ (q : Nat) (c : Nat → Nat → Value), q ≤ L.length ∧ i = .int .i64 q ∧ Tab wr o 45 4 q c ∧ InfoCells L q c ∧ Upd w2 [] wr [] ∧ (∀ g, o.ownBlock = some g → w2.heap.size ≤ g)) (fun _ i _ => L.length - natOfV i)
    case atStart => exact ⟨0, fun _ _ => undef, Nat.zero_le _, rfl, Tab.nil _ _ _ _, fun i hi => (by cases hi), Upd.refl _ _, fun g h => by cases h⟩
    case round =>
      obtain ⟨q, c, hq, rfl, htabr, hinfo, hUr, hownr⟩ := hrel
      have HR := Lib.hid (And.intro htabr (And.intro hinfo (And.intro hUr hownr)))
      clear htabr hinfo hUr hownr
      by_cases hql : q < L.length
      · obtain ⟨x, hx⟩ : ∃ x, L[q]? = some x := ⟨_, List.getElem?_eq_getElem hql⟩
        have hUw : Upd w [] wr [] := HU2.out.trans HR.out.2.2.1
        have hOpr : OpensAt wr M k hd t D := HD.out.opens.agree (hUw.block M HOwn.out.lt (fun h => by cases h)) fun b _ hlt => hUw.block b hlt (fun h => by cases h)
        have hhx : hasI D x = true := (HIds.out.2.1 x).1 (List.mem_of_getElem? hx)
        have hwf := mem_wf hOpr hhx
        have f0 : wr.cell? ⟨gi, q, none⟩ = some (.int .i64 x) := HR.out.2.2.1.cell (HI0.out q x hx) (fun h => by cases h)
        have f1 : wr.cell? ⟨Dk, 1, none⟩ = some (.int .i64 0) := HR.out.2.2.1.cell e1 (fun h => by cases h)
        have f2 : wr.cell? ⟨Dk, 2, none⟩ = some (.map (some M)) := HR.out.2.2.1.cell e2 (fun h => by cases h)
        rcases hOpr.look x hwf with ⟨hno, -⟩ | ⟨-, O, hrun, -, C, sv, st, kk, hOlo, hOb, hCur⟩
        · rw [hno] at hhx; cases hhx
        · have HX := Lib.hid hx
          have HO := Lib.hid (And.intro hOb hCur)
          have HTr := Lib.hid (HT.out.upd hUw (fun b hb => by cases hb))
          have o0 : wr.cell? ⟨O, 0, none⟩ = some (.pointer (some ⟨C, 0, none⟩)) := by unfold World.cell?; simp only [hOb]; rfl
          have o1 : wr.cell? ⟨O, 1, none⟩ = some (.string sv) := by unfold World.cell?; simp only [hOb]; rfl
          have HUw := Lib.hid hUw
          clear hx hUw hOpr hhx hwf hOlo hOb hCur
          go_wp2
          have HX2 := Lib.hid (show q + 1 ≤ 1001 by omega)
          refine wp_region_x 17 (fun w' => w'.cell? ⟨O, 0, none⟩ = some (.pointer (some ⟨C, 0, none⟩)) ∧ w'.cell? ⟨O, 1, none⟩ = some (.string sv)) (by kernel_rfl) ⟨by go_simp, by go_simp⟩ (fun hHeld => ?_)
          (refine wpAnyX_take (i := 0) (some 24) (v := ?_) rfl rfl (by kernel_rfl) (by kernel_rfl) (by kernel_rfl) (by kernel_rfl) (fun _ _ _ h => h) (Or.inl ⟨by rfl, ?_⟩) (by assumption) ?_; rotate_left; · (intro w hSw; (try dsimp only at hSw); go_simp; try with_reducible rfl)); simp only [Act.put, List.setIfInBounds_toArray, List.set_cons_zero, List.set_cons_succ]
          (refine wpAnyX_take (i := 1) (some 25) (v := ?_) rfl rfl (by kernel_rfl) (by kernel_rfl) (by kernel_rfl) (by kernel_rfl) (fun _ _ _ h => h) (Or.inl ⟨by rfl, ?_⟩) (by assumption) ?_; rotate_left; · (intro w hSw; (try dsimp only at hSw); go_simp; try with_reducible rfl)); simp only [Act.put, List.setIfInBounds_toArray, List.set_cons_zero, List.set_cons_succ]
          (refine wpAnyX_take (i := 2) (some 26) (v := ?_) rfl rfl (by kernel_rfl) (by kernel_rfl) (by kernel_rfl) (by kernel_rfl) (fun _ _ _ h => h) (Or.inl ⟨by rfl, ?_⟩) (by assumption) ?_; rotate_left; · (intro w hSw; (try dsimp only at hSw); go_simp; try with_reducible rfl)); simp only [Act.put, List.setIfInBounds_toArray, List.set_cons_zero, List.set_cons_succ]
          (refine wpAnyX_take (i := 3) (some 27) (v := ?_) rfl rfl (by kernel_rfl) (by kernel_rfl) (by kernel_rfl) (by kernel_rfl) (fun _ _ _ h => h) (Or.inl ⟨by rfl, ?_⟩) (by assumption) ?_; rotate_left; · (intro w hSw; (try dsimp only at hSw); go_simp; try with_reducible rfl)); simp only [Act.put, List.setIfInBounds_toArray, List.set_cons_zero, List.set_cons_succ]
          (refine wpAnyX_take (i := 4) (some 28) (v := ?_) rfl rfl (by kernel_rfl) (by kernel_rfl) (by kernel_rfl) (by kernel_rfl) (fun _ _ _ h => h) (Or.inl ⟨by rfl, ?_⟩) (by assumption) ?_; rotate_left; · (intro w hSw; (try dsimp only at hSw); go_simp; try with_reducible rfl)); simp only [Act.put, List.setIfInBounds_toArray, List.set_cons_zero, List.set_cons_succ]
          (refine wpAnyX_take (i := 5) (some 29) (v := ?_) rfl rfl (by kernel_rfl) (by kernel_rfl) (by kernel_rfl) (by kernel_rfl) (fun _ _ _ h => h) (Or.inl ⟨by rfl, ?_⟩) (by assumption) ?_; rotate_left; · (intro w hSw; (try dsimp only at hSw); go_simp; try with_reducible rfl)); simp only [Act.put, List.setIfInBounds_toArray, List.set_cons_zero, List.set_cons_succ]
          (refine wpAnyX_take (i := 6) (some 30) (v := ?_) rfl rfl (by kernel_rfl) (by kernel_rfl) (by kernel_rfl) (by kernel_rfl) (fun _ _ _ h => h) (Or.inl ⟨by rfl, ?_⟩) (by assumption) ?_; rotate_left; · (intro w hSw; (try dsimp only at hSw); go_simp; try with_reducible rfl)); simp only [Act.put, List.setIfInBounds_toArray, List.set_cons_zero, List.set_cons_succ]
          (refine wpAnyX_take (i := 7) (some 31) (v := ?_) rfl rfl (by kernel_rfl) (by kernel_rfl) (by kernel_rfl) (by kernel_rfl) (fun _ _ _ h => h) (Or.inl ⟨by rfl, ?_⟩) (by assumption) ?_; rotate_left; · (intro w hSw; (try dsimp only at hSw); go_simp; try with_reducible rfl)); simp only [Act.put, List.setIfInBounds_toArray, List.set_cons_zero, List.set_cons_succ]
          (refine wpAnyX_take (i := 8) (some 32) (v := ?_) rfl rfl (by kernel_rfl) (by kernel_rfl) (by kernel_rfl) (by kernel_rfl) (fun _ _ _ h => h) (Or.inl ⟨by rfl, ?_⟩) (by assumption) ?_; rotate_left; · (intro w hSw; (try dsimp only at hSw); go_simp; try with_reducible rfl)); simp only [Act.put, List.setIfInBounds_toArray, List.set_cons_zero, List.set_cons_succ]
          (refine wpAnyX_take (i := 9) (some 33) (v := ?_) rfl rfl (by kernel_rfl) (by kernel_rfl) (by kernel_rfl) (by kernel_rfl) (fun _ _ _ h => h) (Or.inl ⟨by rfl, ?_⟩) (by assumption) ?_; rotate_left; · (intro w hSw; (try dsimp only at hSw); go_simp; try with_reducible rfl)); simp only [Act.put, List.setIfInBounds_toArray, List.set_cons_zero, List.set_cons_succ]
          (refine wpAnyX_take (i := 11) (some 35) (v := ?_) rfl rfl (by kernel_rfl) (by kernel_rfl) (by kernel_rfl) (by kernel_rfl) (fun _ _ _ h => h) (Or.inl ⟨by rfl, ?_⟩) (by assumption) ?_; rotate_left; · (intro w hSw; (try dsimp only at hSw); go_simp; try with_reducible rfl)); simp only [Act.put, List.setIfInBounds_toArray, List.set_cons_zero, List.set_cons_succ]
          (refine wpAnyX_take (i := 12) (some 36) (v := ?_) rfl rfl (by kernel_rfl) (by kernel_rfl) (by kernel_rfl) (by kernel_rfl) (fun _ _ _ h => h) (Or.inl ⟨by rfl, ?_⟩) (by assumption) ?_; rotate_left; · (intro w hSw; (try dsimp only at hSw); go_simp; try with_reducible rfl)); simp only [Act.put, List.setIfInBounds_toArray, List.set_cons_zero, List.set_cons_succ]
          refine wpAnyX_one (i := 10) (by kernel_rfl) rfl rfl (fun K hK => ?_); (try simp only [List.getElem_toArray, List.getElem_cons_succ, List.getElem_cons_zero])
          go_simp
          obtain ⟨tn, htn⟩ := HO.out.2.told
          go_at_call 25
          refine (told_any (w := wr.drew) htn).mono ?_
          rintro e w3 ⟨rfl, rfl⟩
          dsimp only
          refine hK.out _ _ (fun _ => hHeld) ?_; clear hK K; (try simp only [Act.put, List.setIfInBounds_toArray, List.set_cons_zero, List.set_cons_succ])
          refine wpAnyX_one (i := 13) (by kernel_rfl) rfl rfl (fun K hK => ?_); (try simp only [List.getElem_toArray, List.getElem_cons_succ, List.getElem_cons_zero])
          go_simp
          go_at_call 26
          refine (stale_any HF.out.2.2 (w := wr.drew) (show TreeAt σ n wr.drew lo hi t from HTr.out.agree fun _ _ _ => rfl) f1 HO.out.1).mono ?_
          rintro e w4 ⟨⟨bs, rfl⟩, m4, rfl⟩
          dsimp only
          refine hK.out _ _ (fun _ => hHeld) ?_; clear hK K; (try simp only [Act.put, List.setIfInBounds_toArray, List.set_cons_zero, List.set_cons_succ])
          (refine wpAnyX_take (i := 14) (some 38) (v := ?_) rfl rfl (by kernel_rfl) (by kernel_rfl) (by kernel_rfl) (by kernel_rfl) (fun _ _ _ h => h) (Or.inl ⟨by rfl, ?_⟩) (by assumption) ?_; rotate_left; · (intro w hSw; (try dsimp only at hSw); go_simp; try with_reducible rfl)); simp only [Act.put, List.setIfInBounds_toArray, List.set_cons_zero, List.set_cons_succ]
          refine wpAnyX_one (i := 15) (by kernel_rfl) rfl rfl (fun K hK => ?_); (try simp only [List.getElem_toArray, List.getElem_cons_succ, List.getElem_cons_zero])
          go_simp
          have hU5' : Upd wr [] ((wr.drewN (1 + m4)).alloc (.cells #[.int .i64 x, .string sv, .int .i64 tn, .bool bs] 45)) [] := ((Upd.refl wr []).drewN _).alloc _
          have hO5' : ((wr.drewN (1 + m4)).alloc (.cells #[.int .i64 x, .string sv, .int .i64 tn, .bool bs] 45)).heap[wr.heap.size]? = some (.cells #[.int .i64 x, .string sv, .int .i64 tn, .bool bs] 45 (0, 0)) := heap_alloc_new (wr.drewN (1 + m4)) _
          have hHeld2 : ((wr.drewN (1 + m4)).alloc (.cells #[.int .i64 x, .string sv, .int .i64 tn, .bool bs] 45)).cell? ⟨O, 0, none⟩ = some (.pointer (some ⟨C, 0, none⟩)) ∧ ((wr.drewN (1 + m4)).alloc (.cells #[.int .i64 x, .string sv, .int .i64 tn, .bool bs] 45)).cell? ⟨O, 1, none⟩ = some (.string sv) := ⟨hU5'.cell o0 (fun h => by cases h), hU5'.cell o1 (fun h => by cases h)⟩
          replace hHeld := hHeld2
          refine hK.out _ _ (fun _ => hHeld) ?_; clear hK K; (try simp only [Act.put, List.setIfInBounds_toArray, List.set_cons_zero, List.set_cons_succ])
          refine wpAnyX_one (i := 16) (by kernel_rfl) rfl rfl (fun K hK => ?_); (try simp only [List.getElem_toArray, List.getElem_cons_succ, List.getElem_cons_zero])
          obtain ⟨w5, hw5⟩ : ∃ w5, (wr.drewN (1 + m4)).alloc (.cells #[.int .i64 x, .string sv, .int .i64 tn, .bool bs] 45) = w5 := ⟨_, rfl⟩
          rw [hw5] at hU5' hO5' hHeld ⊢
          refine append_tab_step eInfo _ _ rfl (HR.out.1.upd hU5' (fun g _ => by simp)) rfl [.int .i64 x, .string sv, .int .i64 tn, .bool bs] (B := wr.heap.size) (c := 1) rfl hO5' rfl rfl (by have := HX2.out; omega) (by have := HX2.out; simp only [maxLen]; omega) (fun g cap w6 htab6 hgrown6 hown6 => ?_)
          have hU6 : Upd w2 [] w6 [] := (HR.out.2.2.1.trans hU5').grown hgrown6 (fun g hg => .inr (HR.out.2.2.2 g hg))
          have hown6' : w2.heap.size ≤ g := hown6.elim (fun h => HR.out.2.2.2 g h) (fun h => Nat.le_trans (HR.out.2.2.1.trans hU5').size h)
          have hHeld6 : w6.cell? ⟨O, 0, none⟩ = some (.pointer (some ⟨C, 0, none⟩)) ∧ w6.cell? ⟨O, 1, none⟩ = some (.string sv) := by
            have hne := HR.out.1.ne HO.out.1 (by decide)
            have hUo : Upd wr [] w5 [] := hU5'
            have hU : Upd w5 (Value.ownBlock u3).toList w6 (Value.ownBlock u3).toList := (Upd.refl w5 _).grown hgrown6 (fun g hg => .inl (by rw [hg]; simp))
            have hn : O ∉ (Value.ownBlock u3).toList := fun hm => hne (by simpa using hm)
            exact ⟨hU.cell (a := ⟨O, 0, none⟩) hHeld.1 hn, hU.cell (a := ⟨O, 1, none⟩) hHeld.2 hn⟩
          replace hHeld := hHeld6
          refine hK.out _ _ (fun _ => hHeld) ?_; clear hK K; (try simp only [Act.put, List.setIfInBounds_toArray, List.set_cons_zero, List.set_cons_succ])
          refine wpAnyX_one (i := 17) (by kernel_rfl) rfl rfl (fun K hK => ?_); (try simp only [List.getElem_toArray, List.getElem_cons_succ, List.getElem_cons_zero])
          go_simp
          refine hK.out _ _ (fun h => absurd rfl h) ?_; clear hK K; refine wpAnyX_done (by kernel_rfl) ?_ _; (try simp only [Act.put, List.setIfInBounds_toArray, List.set_cons_zero, List.set_cons_succ])
          have HE := Lib.hid (And.intro htab6 (And.intro hU6 hown6'))
          clear htab6 hU6 hown6' hHeld6 hHeld hgrown6 hown6 hO5' hU5' htn
          go_wp2
          go_roundw
          case rel =>
            refine ⟨q + 1, _, by omega, congrArg (Value.int .i64) (by omega), HE.out.1, fun i hi => ?_, HE.out.2.1, fun g hg => ?_⟩
            · by_cases e : i = q
              · subst e
                refine ⟨⟨x, HX.out, by simp [snoc]⟩, ⟨sv, by simp [snoc]⟩, ⟨tn, by simp [snoc]⟩, ⟨bs, by simp [snoc]⟩⟩
              · have hi' : i < q := by omega
                simpa only [snoc, if_neg e] using HR.out.2.1 i hi'
            · simp [Value.ownBlock] at hg
              subst hg
              exact HE.out.2.2
          case measure =>
            simp only [natOfV]
            omega
      · obtain rfl : q = L.length := by omega
        go_wp2
        go_ret
        exact ⟨_, L, c, rfl, HIds.out, HR.out.1, HR.out.2.1, HU2.out.trans HR.out.2.2.1⟩

end Go.Proofs.YtlnhacbdbhmgkaaGreatDoor
