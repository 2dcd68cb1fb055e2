/- ChainTwo returns true for every input: the walk. -/
import Derived.Test.YtgcemlilfdjjlaaPlays
namespace Go.Proofs.Ytgcemlilfdjjlaa
open Go.RowKit

attribute [local go_sem] Oper.semAt_some

/-- A pair beside which another turns. -/
theorem Pair.beside {w w' : World} {b d C L : Nat} {g : Nat → List Nat} {gp gq S S' : List Nat} (hQ : Pair w b d C L g gp gq) (hd : ∀ x, x ∈ S → x ∉ gp ++ gq) (hU : Upd w S w' S') :
    Pair w' b d C L g gp gq ∧ (∀ x, x ∈ S' → x ∉ gp ++ gq) := by
  refine ⟨hQ.upd hU (fun x hx hm => hd x hm (List.mem_append.2 (.inl hx))) (fun x hx hm => hd x hm (List.mem_append.2 (.inr hx))), fun x hx hm => ?_⟩
  rcases hU.fresh x hx with h' | h'
  · exact hd x h' hm
  · rcases List.mem_append.1 hm with hm | hm
    · have := hQ.chain.lt x hm; omega
    · have := hQ.ref.lt x hm; omega

/-- Two pairs apart, since w0. -/
structure Both2 (w0 w : World) (b d b' d' C L : Nat) (f : Nat → List Nat) (fp fq : List Nat) (g : Nat → List Nat) (gp gq : List Nat) : Prop where
  one : Pair w b d C L f fp fq
  two : Pair w b' d' (C + 1) (L + 1) g gp gq
  apart : ∀ x, x ∈ fp ++ fq → x ∉ gp ++ gq
  upd : Upd w0 [] w ((fp ++ fq) ++ (gp ++ gq))

section
variable {w0 w w' : World} {b d b' d' C L : Nat} {f f' : Nat → List Nat} {fp fq fp' fq' : List Nat} {g : Nat → List Nat} {gp gq : List Nat}

theorem Both2.alloc (h : Both2 w0 w b d b' d' C L f fp fq g gp gq) (O : Obj) : Both2 w0 (w.alloc O) b d b' d' C L f fp fq g gp gq :=
  ⟨h.one.upd ((Upd.refl w []).alloc O) (fun _ _ h => by cases h) (fun _ _ h => by cases h), h.two.upd ((Upd.refl w []).alloc O) (fun _ _ h => by cases h) (fun _ _ h => by cases h), h.apart, h.upd.alloc O⟩

theorem Both2.first (h : Both2 w0 w b d b' d' C L f fp fq g gp gq) (hP : Pair w' b d C L f' fp' fq') (hU : Upd w (fp ++ fq) w' (fp' ++ fq')) : Both2 w0 w' b d b' d' C L f' fp' fq' g gp gq := by
  obtain ⟨h2, hd⟩ := h.two.beside h.apart hU
  exact ⟨hP, h2, hd, h.upd.trans (hU.beside (gp ++ gq))⟩

theorem Both2.second (h : Both2 w0 w b d b' d' C L g gp gq f fp fq) (hP : Pair w' b' d' (C + 1) (L + 1) f' fp' fq') (hU : Upd w (fp ++ fq) w' (fp' ++ fq')) : Both2 w0 w' b d b' d' C L g gp gq f' fp' fq' := by
  obtain ⟨h2, hd⟩ := h.one.beside (fun x hx hm => h.apart x hm hx) hU
  refine ⟨h2, hP, fun x hx hm => hd x hm hx, (h.upd.trans (S2 := (fp' ++ fq') ++ (gp ++ gq)) ?_).to (fun x hx => ?_)⟩
  · refine (hU.beside (gp ++ gq)).weaken (fun x hx => ?_)
    rcases List.mem_append.1 hx with hx | hx
    · exact List.mem_append.2 (.inr hx)
    · exact List.mem_append.2 (.inl hx)
  · have : Upd w0 [] w' ((fp' ++ fq') ++ (gp ++ gq)) := h.upd.trans ((hU.beside (gp ++ gq)).weaken (fun x hx => by
      rcases List.mem_append.1 hx with hx | hx
      · exact List.mem_append.2 (.inr hx)
      · exact List.mem_append.2 (.inl hx)))
    refine this.fresh x ?_
    rcases List.mem_append.1 hx with hx | hx
    · exact List.mem_append.2 (.inr hx)
    · exact List.mem_append.2 (.inl hx)

theorem Both2.size (h : Both2 w0 w b d b' d' C L f fp fq g gp gq) : w.heap.size ∉ fp ++ fq ∧ w.heap.size ∉ gp ++ gq := by
  refine ⟨fun hm => ?_, fun hm => ?_⟩
  · rcases List.mem_append.1 hm with hm | hm
    · exact Nat.lt_irrefl _ (h.one.chain.lt _ hm)
    · exact Nat.lt_irrefl _ (h.one.ref.lt _ hm)
  · rcases List.mem_append.1 hm with hm | hm
    · exact Nat.lt_irrefl _ (h.two.chain.lt _ hm)
    · exact Nat.lt_irrefl _ (h.two.ref.lt _ hm)

end

/-- The three cells of the call, in the box at B. -/
def Boxed (w : World) (B : Nat) (o : OpRec) : Prop := w.cell? ⟨B, 0, none⟩ = some (.int .i64 o.kind) ∧ w.cell? ⟨B, 1, none⟩ = some (.int .i64 o.a) ∧ w.cell? ⟨B, 2, none⟩ = some (.int .i64 o.b)
theorem Boxed.upd {w w' : World} {B : Nat} {o : OpRec} {S S' : List Nat} (h : Boxed w B o) (hu : Upd w S w' S') (hB : B ∉ S) : Boxed w' B o :=
  ⟨hu.cell h.1 hB, hu.cell h.2.1 hB, hu.cell h.2.2 hB⟩

/-- What holds between two steps of a round. -/
def St (w0 w : World) (b d b' d' C L B : Nat) (o : OpRec) : Prop :=
  ∃ f fp fq g gp gq, Both2 w0 w b d b' d' C L f fp fq g gp gq ∧ Boxed w B o ∧ B ∉ fp ++ fq ∧ B ∉ gp ++ gq ∧ B < w.heap.size
def StIs (w0 : World) (b d b' d' C L B : Nat) (o : OpRec) (e : Ending) (w' : World) : Prop := e = .returned (.bool true) ∧ St w0 w' b d b' d' C L B o

section
variable {w0 w : World} {b d b' d' C L B : Nat} {o : OpRec}
theorem St.c1 (h : St w0 w b d b' d' C L B o) (hC : C + 1 ≤ 1048577) (hL : L + 1 ≤ 1048577) :
    Calls Try.prog 22 #[.pointer (some ⟨b, 0, none⟩), .pointer (some ⟨d, 0, none⟩), .agg #[.int .i64 o.kind, .int .i64 o.a, .int .i64 o.b]] w (StIs w0 b d b' d' C L B o) := by
  obtain ⟨f, fp, fq, g, gp, gq, h2, hb, n1, n2, hB⟩ := h
  refine (changes_any o.kind o.a o.b w h2.one (by omega) (by omega)).mono fun e w' ⟨f', fp', fq', he, hP, hU⟩ => ?_
  exact ⟨he, f', fp', fq', g, gp, gq, h2.first hP hU, hb.upd hU n1, hU.notIn hB n1, n2, Nat.lt_of_lt_of_le hB hU.size⟩
theorem St.c2 (h : St w0 w b d b' d' C L B o) (hC : C + 1 ≤ 1048577) (hL : L + 1 ≤ 1048577) :
    Calls Try.prog 22 #[.pointer (some ⟨b', 0, none⟩), .pointer (some ⟨d', 0, none⟩), .agg #[.int .i64 o.kind, .int .i64 o.a, .int .i64 o.b]] w (StIs w0 b d b' d' C L B o) := by
  obtain ⟨f, fp, fq, g, gp, gq, h2, hb, n1, n2, hB⟩ := h
  refine (changes_any o.kind o.a o.b w h2.two hC hL).mono fun e w' ⟨f', fp', fq', he, hP, hU⟩ => ?_
  exact ⟨he, f, fp, fq, f', fp', fq', h2.second hP hU, hb.upd hU n2, n1, hU.notIn hB n2, Nat.lt_of_lt_of_le hB hU.size⟩
theorem St.a1 (h : St w0 w b d b' d' C L B o) (hC : C + 1 ≤ 1048577) (hL : L + 1 ≤ 1048577) :
    Calls Try.prog 23 #[.pointer (some ⟨b, 0, none⟩), .pointer (some ⟨d, 0, none⟩), .agg #[.int .i64 o.kind, .int .i64 o.a, .int .i64 o.b]] w (StIs w0 b d b' d' C L B o) := by
  obtain ⟨f, fp, fq, g, gp, gq, h2, hb, n1, n2, hB⟩ := h
  refine (asks_any o.kind o.a o.b w h2.one (by omega) (by omega)).mono fun e w' ⟨fp', he, hP, hU⟩ => ?_
  exact ⟨he, f, fp', fq, g, gp, gq, h2.first hP hU, hb.upd hU n1, hU.notIn hB n1, n2, Nat.lt_of_lt_of_le hB hU.size⟩
theorem St.a2 (h : St w0 w b d b' d' C L B o) (hC : C + 1 ≤ 1048577) (hL : L + 1 ≤ 1048577) :
    Calls Try.prog 23 #[.pointer (some ⟨b', 0, none⟩), .pointer (some ⟨d', 0, none⟩), .agg #[.int .i64 o.kind, .int .i64 o.a, .int .i64 o.b]] w (StIs w0 b d b' d' C L B o) := by
  obtain ⟨f, fp, fq, g, gp, gq, h2, hb, n1, n2, hB⟩ := h
  refine (asks_any o.kind o.a o.b w h2.two hC hL).mono fun e w' ⟨fp', he, hP, hU⟩ => ?_
  exact ⟨he, f, fp, fq, g, fp', gq, h2.second hP hU, hb.upd hU n2, n1, hU.notIn hB n2, Nat.lt_of_lt_of_le hB hU.size⟩
theorem St.cells (h : St w0 w b d b' d' C L B o) : Boxed w B o := by
  obtain ⟨_, _, _, _, _, _, _, h, _⟩ := h
  exact h
end

set_option maxRecDepth 100000 in
set_option maxHeartbeats 4000000 in
theorem two_any (c l : Int) (v : Value) (zs : List OpRec) (w : World) (hin : InOps w v zs) : Calls Try.prog 8 #[.int .i64 c, .int .i64 l, v] w (Quiet w (.bool true)) := by
  obtain ⟨av, cv, rfl, hmax⟩ := hin.len
  unfold maxLen at hmax
  by_cases hg : 1 ≤ c ∧ c ≤ 1048576 ∧ 1 ≤ l ∧ l ≤ 1048576
  · by_cases hc : 524288 < c
    · have d1 : decide (524288 < c) = true := by simpa using hc
      have HG := Lib.hid hg
      clear hg hc
      go_enter Try.func8, Try.ntmps8
      go_wp2_with (first
        | (go_at_call 12; refine (good_yes _ _ w HG.out).mono ?_; rintro e w' ⟨rfl, rfl⟩)
        | (go_at_call 11; refine (awake_any w).mono ?_; rintro e w9 ⟨rfl, hU9⟩))
      go_ret
      exact ⟨rfl, hU9⟩
    by_cases hl : 524288 < l
    · have d1 : decide (524288 < c) = false := by simpa using hc
      have d2 : decide (524288 < l) = true := by simpa using hl
      have HG := Lib.hid hg
      clear hg hc hl
      go_enter Try.func8, Try.ntmps8
      go_wp2_with (first
        | (go_at_call 12; refine (good_yes _ _ w HG.out).mono ?_; rintro e w' ⟨rfl, rfl⟩)
        | (go_at_call 11; refine (awake_any w).mono ?_; rintro e w9 ⟨rfl, hU9⟩))
      go_ret
      exact ⟨rfl, hU9⟩
    obtain ⟨cn, rfl⟩ := Int.eq_ofNat_of_zero_le (show 0 ≤ c by omega)
    obtain ⟨ln, rfl⟩ := Int.eq_ofNat_of_zero_le (show 0 ≤ l by omega)
    have hC : cn + 1 ≤ 1048577 := by omega
    have hL : ln + 1 ≤ 1048577 := by omega
    have hC1 : cn ≤ 524288 := by omega
    have hL1 : ln ≤ 524288 := by omega
    have d1 : decide (524288 < (cn : Int)) = false := by simp; omega
    have d2 : decide (524288 < (ln : Int)) = false := by simp; omega
    have HG := Lib.hid hg
    have hg2 : 1 ≤ (cn : Int) + 1 ∧ (cn : Int) + 1 ≤ 1048576 ∧ 1 ≤ (ln : Int) + 1 ∧ (ln : Int) + 1 ≤ 1048576 := by omega
    have HG2 := Lib.hid hg2
    clear hg2
    clear hg hc hl
    go_enter Try.func8, Try.ntmps8
    go_wp2_with fail
    refine (good_yes _ _ w HG.out).mono ?_
    rintro e w' ⟨rfl, rfl⟩
    go_wp2_with fail
    refine (new_int cn ln w HG.out).mono ?_
    rintro e w1 ⟨b, rfl, hb, hX1, hU1⟩
    rw [Int.toNat_natCast, Int.toNat_natCast] at hX1
    go_wp2_with fail
    refine (new_int _ _ w1 HG2.out).mono ?_
    rintro e w2 ⟨b', rfl, hb', hX2, hU2⟩
    rw [show ((cn : Int) + 1).toNat = cn + 1 from by omega, show ((ln : Int) + 1).toNat = ln + 1 from by omega] at hX2
    have hbl := hX1.lt b (by simp)
    have hbl2 := hX2.lt b' (by simp)
    have hs2 := hU2.size
    have hs1 := hU1.size
    have hB0 : Both2 w ((w2.alloc (.cells #[.int .i64 cn, .int .i64 ln, .slice none 0 0] 52)).alloc (.cells #[.int .i64 ((cn : Int) + 1), .int .i64 ((ln : Int) + 1), .slice none 0 0] 52)) b w2.heap.size b' (w2.heap.size + 1) cn ln (fun _ => []) [b] [w2.heap.size] (fun _ => []) [b'] [w2.heap.size + 1] := by
      have hA := Upd.boxes (w := w2) (.cells #[.int .i64 cn, .int .i64 ln, .slice none 0 0] 52) (.cells #[.int .i64 ((cn : Int) + 1), .int .i64 ((ln : Int) + 1), .slice none 0 0] 52) []
      have hR2 := Ref.new (w2.alloc (.cells #[.int .i64 cn, .int .i64 ln, .slice none 0 0] 52)) (cn + 1) (ln + 1)
      rw [show (w2.alloc (.cells #[.int .i64 cn, .int .i64 ln, .slice none 0 0] 52)).heap.size = w2.heap.size + 1 from by simp] at hR2
      refine ⟨⟨(hX1.upd hU2 (fun _ _ h => by cases h)).upd hA (fun _ _ h => by cases h), (Ref.new w2 cn ln).upd ((Upd.refl _ []).alloc _) (fun _ _ h => by cases h), fun x hx hm => by simp at hx hm; omega⟩, ⟨hX2.upd hA (fun _ _ h => by cases h), hR2, fun x hx hm => by simp at hx hm; omega⟩, fun x hx hm => by simp at hx hm; omega, ?_⟩
      refine ((hU1.to (T := []) (fun _ h => by cases h)).trans ((hU2.to (T := []) (fun _ h => by cases h)).trans hA)).to (fun x hx => ?_)
      simp at hx
      exact .inr (by omega)
    have HB0 := Lib.hid hB0
    clear hB0 hX1 hX2 hU1 hU2 hb hb' hbl hbl2 hs1 hs2
    go_wp2_with fail
    have hB0 := HB0.out
    clear HB0
    generalize (w2.alloc (.cells #[.int .i64 cn, .int .i64 ln, .slice none 0 0] 52)).alloc (.cells #[.int .i64 ((cn : Int) + 1), .int .i64 ((ln : Int) + 1), .slice none 0 0] 52) = w3 at hB0 ⊢
    obtain ⟨d, hd⟩ : ∃ d, d = w2.heap.size := ⟨_, rfl⟩
    rw [← hd] at hB0 ⊢
    obtain ⟨d', hd'⟩ : ∃ d', d' = d + 1 := ⟨_, rfl⟩
    rw [← hd'] at hB0 ⊢
    clear hd hd'
    go_loopw [13, 14, 68] (fun _ _ i wr => ∃ (k : Nat) (f : Nat → List Nat) (fp fq : List Nat) (g : Nat → List Nat) (gp gq : List Nat), k ≤ zs.length ∧ i = .int .i64 k ∧ Both2 w wr b d b' d' cn ln f fp fq g gp gq) (fun _ _ i _ => zs.length - (intOf i).toNat)
    case atStart => exact ⟨0, _, _, _, _, _, _, Nat.zero_le _, rfl, hB0⟩
    case round =>
      clear hB0
      obtain ⟨k, f, fp, fq, g, gp, gq, hk, rfl, hP⟩ := hrel
      by_cases hlt : k < zs.length
      · obtain ⟨o, ho⟩ : ∃ o, zs[k]? = some o := ⟨_, List.getElem?_eq_getElem hlt⟩
        obtain ⟨a, cap, hv, hc0, hc1, hc2⟩ := (hin.upd hP.upd).at_ ho
        injection hv with h1 h2 h3
        subst h1 h3
        have hS : St w (wr.alloc (.cells #[.int .i64 o.kind, .int .i64 o.a, .int .i64 o.b] 54)) b d b' d' cn ln wr.heap.size o :=
          ⟨f, fp, fq, g, gp, gq, hP.alloc _, op_cells wr o.kind o.a o.b, hP.size.1, hP.size.2, by simp⟩
        have HS := Lib.hid hS
        clear h2 ho hS hP
        by_cases h2 : (k : Int) % 2 = 0
        · have p2 : ((k : Int) % 2 == 0) = true := by rw [beq_iff_eq]; exact h2
          by_cases h3 : (k : Int) % 3 = 0
          · have p3 : ((k : Int) % 3 == 0) = true := by rw [beq_iff_eq]; exact h3
            clear h2
            go_wp2_with fail
            refine (St.c1 HS.out hC hL).mono ?_
            rintro e wx0 ⟨rfl, hSx0⟩
            obtain ⟨sx00, sx01, sx02⟩ := hSx0.cells
            have Hx0 := Lib.hid hSx0
            clear hSx0
            go_wp2_with fail
            refine (St.a1 Hx0.out hC hL).mono ?_
            rintro e wx1 ⟨rfl, hSx1⟩
            obtain ⟨sx10, sx11, sx12⟩ := hSx1.cells
            have Hx1 := Lib.hid hSx1
            clear hSx1
            go_wp2_with fail
            refine (St.a2 Hx1.out hC hL).mono ?_
            rintro e wx2 ⟨rfl, hSx2⟩
            obtain ⟨sx20, sx21, sx22⟩ := hSx2.cells
            have Hx2 := Lib.hid hSx2
            clear hSx2
            go_wp2_with fail
            go_roundw
            case rel =>
              obtain ⟨f, fp, fq, g, gp, gq, h2, _⟩ := Hx2.out
              exact ⟨k + 1, f, fp, fq, g, gp, gq, by omega, by go_num, h2⟩
            case measure => simp [intOf]; omega
          · have p3 : ((k : Int) % 3 == 0) = false := by rw [beq_eq_false_iff_ne]; exact h3
            clear h2
            go_wp2_with fail
            refine (St.c1 HS.out hC hL).mono ?_
            rintro e wx0 ⟨rfl, hSx0⟩
            obtain ⟨sx00, sx01, sx02⟩ := hSx0.cells
            have Hx0 := Lib.hid hSx0
            clear hSx0
            go_wp2_with fail
            refine (St.c2 Hx0.out hC hL).mono ?_
            rintro e wx1 ⟨rfl, hSx1⟩
            obtain ⟨sx10, sx11, sx12⟩ := hSx1.cells
            have Hx1 := Lib.hid hSx1
            clear hSx1
            go_wp2_with fail
            refine (St.a1 Hx1.out hC hL).mono ?_
            rintro e wx2 ⟨rfl, hSx2⟩
            obtain ⟨sx20, sx21, sx22⟩ := hSx2.cells
            have Hx2 := Lib.hid hSx2
            clear hSx2
            go_wp2_with fail
            refine (St.a2 Hx2.out hC hL).mono ?_
            rintro e wx3 ⟨rfl, hSx3⟩
            obtain ⟨sx30, sx31, sx32⟩ := hSx3.cells
            have Hx3 := Lib.hid hSx3
            clear hSx3
            go_wp2_with fail
            go_roundw
            case rel =>
              obtain ⟨f, fp, fq, g, gp, gq, h2, _⟩ := Hx3.out
              exact ⟨k + 1, f, fp, fq, g, gp, gq, by omega, by go_num, h2⟩
            case measure => simp [intOf]; omega
        · have p2 : ((k : Int) % 2 == 0) = false := by rw [beq_eq_false_iff_ne]; exact h2
          by_cases h3 : (k : Int) % 3 = 0
          · have p3 : ((k : Int) % 3 == 0) = true := by rw [beq_iff_eq]; exact h3
            clear h2
            go_wp2_with fail
            refine (St.a1 HS.out hC hL).mono ?_
            rintro e wx0 ⟨rfl, hSx0⟩
            obtain ⟨sx00, sx01, sx02⟩ := hSx0.cells
            have Hx0 := Lib.hid hSx0
            clear hSx0
            go_wp2_with fail
            refine (St.a2 Hx0.out hC hL).mono ?_
            rintro e wx1 ⟨rfl, hSx1⟩
            obtain ⟨sx10, sx11, sx12⟩ := hSx1.cells
            have Hx1 := Lib.hid hSx1
            clear hSx1
            go_wp2_with fail
            go_roundw
            case rel =>
              obtain ⟨f, fp, fq, g, gp, gq, h2, _⟩ := Hx1.out
              exact ⟨k + 1, f, fp, fq, g, gp, gq, by omega, by go_num, h2⟩
            case measure => simp [intOf]; omega
          · have p3 : ((k : Int) % 3 == 0) = false := by rw [beq_eq_false_iff_ne]; exact h3
            clear h2
            go_wp2_with fail
            refine (St.c2 HS.out hC hL).mono ?_
            rintro e wx0 ⟨rfl, hSx0⟩
            obtain ⟨sx00, sx01, sx02⟩ := hSx0.cells
            have Hx0 := Lib.hid hSx0
            clear hSx0
            go_wp2_with fail
            refine (St.a1 Hx0.out hC hL).mono ?_
            rintro e wx1 ⟨rfl, hSx1⟩
            obtain ⟨sx10, sx11, sx12⟩ := hSx1.cells
            have Hx1 := Lib.hid hSx1
            clear hSx1
            go_wp2_with fail
            refine (St.a2 Hx1.out hC hL).mono ?_
            rintro e wx2 ⟨rfl, hSx2⟩
            obtain ⟨sx20, sx21, sx22⟩ := hSx2.cells
            have Hx2 := Lib.hid hSx2
            clear hSx2
            go_wp2_with fail
            go_roundw
            case rel =>
              obtain ⟨f, fp, fq, g, gp, gq, h2, _⟩ := Hx2.out
              exact ⟨k + 1, f, fp, fq, g, gp, gq, by omega, by go_num, h2⟩
            case measure => simp [intOf]; omega
      · have HX := Lib.hid hP.upd
        clear hP
        go_wp2_with (go_at_call 11; refine (awake_any _).mono ?_; rintro e w9 ⟨rfl, hU9⟩)
        go_ret
        exact ⟨rfl, (HX.out.trans (hU9.weaken (T := (fp ++ fq) ++ (gp ++ gq)) (fun _ h => by cases h))).to (by simp)⟩
  · have HG := Lib.hid hg
    clear hg
    go_enter Try.func8, Try.ntmps8
    go_wp2_with (first
      | (go_at_call 12; refine (good_no _ _ w HG.out).mono ?_; rintro e w' ⟨rfl, rfl⟩)
      | (go_at_call 11; refine (awake_any w).mono ?_; rintro e w9 ⟨rfl, hU9⟩))
    go_ret
    exact ⟨rfl, hU9⟩

end Go.Proofs.Ytgcemlilfdjjlaa
