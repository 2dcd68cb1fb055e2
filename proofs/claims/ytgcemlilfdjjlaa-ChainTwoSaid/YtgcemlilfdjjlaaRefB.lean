/- The document's answer: noList, noCell, Of, Find. -/
import Derived.Test.YtgcemlilfdjjlaaRefA
namespace Go.Proofs.Ytgcemlilfdjjlaa
open Go.RowKit

attribute [local go_sem] Oper.semAt_some

section
variable {w : World} {b C L : Nat} {f : Nat → List Nat} {fp : List Nat}

def YesNo (w : World) (p : Prop) (e : Ending) (w' : World) : Prop := ∃ t, e = .returned (.bool t) ∧ w = w' ∧ (t = true ↔ p)

theorem nolist_any (n : Int) (w : World) (h : Ref w b C L f fp) :
    Calls Try.prog 41 #[.pointer (some ⟨b, 0, none⟩), .int .i64 n] w (YesNo w (Out n L)) := by
  obtain ⟨a, v, h⟩ := h
  have c1 := cell_at h.blk (j := 1) rfl
  clear h
  by_cases h0 : n < 0
  · have d0 : decide (n < 0) = true := by simpa using h0
    go_enter Try.func41, Try.ntmps41
    go_wp2
    go_ret
    exact ⟨_, rfl, rfl, by simp [Out, h0]⟩
  · have d0 : decide (n < 0) = false := by simpa using h0
    go_enter Try.func41, Try.ntmps41
    go_wp2
    go_ret
    exact ⟨_, rfl, rfl, by simp [Out]; omega⟩

theorem nocell_any (n : Int) (w : World) (h : Ref w b C L f fp) :
    Calls Try.prog 42 #[.pointer (some ⟨b, 0, none⟩), .int .i64 n] w (YesNo w (Out n C)) := by
  obtain ⟨a, v, h⟩ := h
  have c1 := cell_at h.blk (j := 0) rfl
  clear h
  by_cases h0 : n < 0
  · have d0 : decide (n < 0) = true := by simpa using h0
    go_enter Try.func42, Try.ntmps42
    go_wp2
    go_ret
    exact ⟨_, rfl, rfl, by simp [Out, h0]⟩
  · have d0 : decide (n < 0) = false := by simpa using h0
    go_enter Try.func42, Try.ntmps42
    go_wp2
    go_ret
    exact ⟨_, rfl, rfl, by simp [Out]; omega⟩

set_option maxHeartbeats 1000000 in
theorem of_any (n : Int) (w : World) (h : Ref w b C L f fp) (hC : L ≤ 1048577) :
    Calls Try.prog 40 #[.pointer (some ⟨b, 0, none⟩), .int .i64 n] w (fun e w' => ∃ x, e = .returned x ∧ w = w' ∧ Ints w x (ofNats (cellsOf f n)) ∧ (∀ g, x.ownBlock = some g → g ∈ fp)) := by
  obtain ⟨a, v, h⟩ := h
  have c2 := cell_at h.blk (j := 2) rfl
  have hsz := h.size
  obtain ⟨av, cv, hv, hmax⟩ := h.tab.len
  subst hv
  have H := Lib.hid h
  clear h
  unfold maxLen at hmax
  go_enter Try.func40, Try.ntmps40
  go_wp2
  go_loopw [5] (fun i wr => wr = w ∧ ∃ k : Nat, k ≤ a.length ∧ i = .int .i64 k ∧ ∀ j e, j < k → a[j]? = some e → (e.num : Int) ≠ n) (fun i _ => a.length - (intOf i).toNat)
  case atStart => exact ⟨rfl, 0, Nat.zero_le _, rfl, fun j e hj => by omega⟩
  case round =>
    obtain ⟨rfl, k, hk, rfl, hno⟩ := hrel
    by_cases hlt : k < a.length
    · obtain ⟨e, he⟩ : ∃ e, a[k]? = some e := ⟨_, List.getElem?_eq_getElem hlt⟩
      obtain ⟨g, cap, hv, hg, e0, e1⟩ := H.out.at_ he
      injection hv with h1 h2 h3
      subst h1 h3
      clear h2
      have HE := Lib.hid he
      clear he
      by_cases hn : (e.num : Int) = n
      · have hb : ((e.num : Int) == n) = true := by rw [beq_iff_eq]; exact hn
        have HN := Lib.hid hn
        clear hn
        go_wp2
        go_ret
        have hm := List.mem_of_getElem? HE.out
        have hl := look_at H.out.nodup hm
        refine ⟨_, rfl, rfl, ?_, H.out.fpe e hm⟩
        have h1 := H.out.cells e hm
        have : cellsOf f n = e.cells := by
          unfold cellsOf
          rw [← HN.out, if_pos (by omega), H.out.told, Int.toNat_natCast, hl]
        rw [this]
        exact h1
      · have hb : ((e.num : Int) == n) = false := by rw [beq_eq_false_iff_ne]; exact hn
        have HN := Lib.hid hn
        clear hn
        go_wp2
        go_roundw
        case rel =>
          refine ⟨trivial, k + 1, by omega, by go_num, fun j e' hj he' => ?_⟩
          by_cases hjk : j = k
          · subst hjk
            rw [HE.out] at he'
            injection he' with he'
            subst he'
            exact HN.out
          · exact hno j e' (by omega) he'
        case measure => simp [intOf]; omega
    · have hke : k = a.length := by omega
      have HNO := Lib.hid hno
      clear hno
      go_wp2
      go_ret
      refine ⟨_, rfl, rfl, ?_, fun g e => by cases e⟩
      have : cellsOf f n = [] := by
        unfold cellsOf
        split
        · rename_i h0
          rw [H.out.told]
          refine look_none fun e he hn => ?_
          obtain ⟨j, hj, rfl⟩ := List.getElem_of_mem he
          exact HNO.out j _ (by omega) (List.getElem?_eq_getElem hj) (by omega)
        · rfl
      rw [this]
      exact Ints.nil _

/-- The list and the place of a cell. -/
def FindR (f : Nat → List Nat) (c x y : Int) : Prop :=
  ((∀ n, ∀ d, d ∈ f n → (d : Int) ≠ c) ∧ x = -1 ∧ y = -1) ∨ (0 ≤ c ∧ ∃ n A B, f n = A ++ c.toNat :: B ∧ x = (n : Nat) ∧ y = A.length)

def FindIs (w : World) (f : Nat → List Nat) (c : Int) (e : Ending) (w' : World) : Prop := ∃ x y, e = .returned (.tuple #[.int .i64 x, .int .i64 y]) ∧ w = w' ∧ FindR f c x y

set_option maxHeartbeats 2000000 in
theorem find_any (c : Int) (w : World) (h : Ref w b C L f fp) (hC : L ≤ 1048577) :
    Calls Try.prog 43 #[.pointer (some ⟨b, 0, none⟩), .int .i64 c] w (FindIs w f c) := by
  obtain ⟨a, v, h⟩ := h
  have c2 := cell_at h.blk (j := 2) rfl
  have hsz := h.size
  obtain ⟨av, cv, hv, hmax⟩ := h.tab.len
  subst hv
  have H := Lib.hid h
  clear h
  unfold maxLen at hmax
  go_enter Try.func43, Try.ntmps43
  go_wp2
  go_loopw [6, 7] (fun i _ wr => wr = w ∧ ∃ k : Nat, k ≤ a.length ∧ i = .int .i64 k ∧ ∀ j e, j < k → a[j]? = some e → ∀ d, d ∈ e.cells → (d : Int) ≠ c) (fun i _ _ => a.length - (intOf i).toNat)
  case atStart => exact ⟨rfl, 0, Nat.zero_le _, rfl, fun j e hj => by omega⟩
  case round =>
    obtain ⟨rfl, k, hk, rfl, hno⟩ := hrel
    have HNO := Lib.hid hno
    clear hno
    by_cases hlt : k < a.length
    · obtain ⟨e, he⟩ : ∃ e, a[k]? = some e := ⟨_, List.getElem?_eq_getElem hlt⟩
      obtain ⟨g, cap, hv, hg, e0, e1⟩ := H.out.at_ he
      injection hv with h1 h2 h3
      subst h1 h3
      clear h2
      have hm := List.mem_of_getElem? he
      have hI := H.out.cells e hm
      obtain ⟨ae, ce, hve, hmaxe⟩ := hI.len
      rw [ofNats_length] at hve hmaxe
      unfold maxLen at hmaxe
      rw [hve] at e1
      obtain ⟨q, hq⟩ : ∃ q, e.cells.length = q := ⟨_, rfl⟩
      rw [hq] at hve e1 hmaxe
      have HQ := Lib.hid hq
      have HV := Lib.hid hve
      have HE := Lib.hid he
      have HM := Lib.hid hm
      have HI := Lib.hid hI
      clear he hm hI hve hq
      go_wp2
      obtain ⟨wo, rfl⟩ : ∃ wo : World, wo = wr := ⟨_, rfl⟩
      go_loopw [7] (fun i wr => wr = wo ∧ ∃ j : Nat, j ≤ q ∧ i = .int .i64 j ∧ ∀ l d, l < j → e.cells[l]? = some d → (d : Int) ≠ c) (fun i _ => q - (intOf i).toNat)
      case atStart => exact ⟨rfl, 0, Nat.zero_le _, rfl, fun j e hj => by omega⟩
      case round =>
        obtain ⟨rfl, j, hj, rfl, hno2⟩ := hrel
        have HNO2 := Lib.hid hno2
        clear hno2
        by_cases hjl : j < q
        · obtain ⟨d, hd⟩ : ∃ d, e.cells[j]? = some d := ⟨_, List.getElem?_eq_getElem (by rw [HQ.out]; exact hjl)⟩
          obtain ⟨g2, cap2, hg2, _, hc2⟩ := HI.out.at_ (i := j) (x := (d : Int)) (by simp [ofNats, hd])
          rw [HV.out] at hg2
          injection hg2 with h1 h2 h3
          subst h1 h3
          have HD := Lib.hid hd
          clear h2 hd
          by_cases hn : (d : Int) = c
          · have hb : ((d : Int) == c) = true := by rw [beq_iff_eq]; exact hn
            have HN := Lib.hid hn
            clear hn
            go_wp2
            go_ret2
            refine ⟨_, _, rfl, rfl, .inr ⟨by have := HN.out; omega, e.num, e.cells.take j, e.cells.drop (j + 1), ?_, rfl, ?_⟩⟩
            · rw [H.out.told, look_at H.out.nodup HM.out, ← HN.out, Int.toNat_natCast]
              have hjc : j < e.cells.length := (List.getElem?_eq_some_iff.1 HD.out).1
              have hdj : e.cells[j] = d := (List.getElem?_eq_some_iff.1 HD.out).2
              rw [← hdj, ← List.drop_eq_getElem_cons hjc, List.take_append_drop]
            · rw [List.length_take, HQ.out]
              congr 1
              omega
          · have hb : ((d : Int) == c) = false := by rw [beq_eq_false_iff_ne]; exact hn
            have HN := Lib.hid hn
            clear hn
            go_wp2
            go_roundw
            case rel =>
              refine ⟨trivial, j + 1, by omega, by go_num, fun l d' hl hd' => ?_⟩
              by_cases hlj : l = j
              · subst hlj
                rw [HD.out] at hd'
                injection hd' with hd'
                subst hd'
                exact HN.out
              · exact HNO2.out l d' (by omega) hd'
            case measure => simp [intOf]; omega
        · go_wp2
          go_roundw
          case rel =>
            refine ⟨trivial, k + 1, by omega, by go_num, fun l e' hl he' d hd => ?_⟩
            by_cases hlk : l = k
            · subst hlk
              rw [HE.out] at he'
              injection he' with he'
              subst he'
              obtain ⟨m, hm, rfl⟩ := List.getElem_of_mem hd
              exact HNO2.out m _ (by have := HQ.out; omega) (List.getElem?_eq_getElem hm)
            · exact HNO.out l e' (by omega) he' d hd
          case measure => simp [intOf]; omega
    · have hke : k = a.length := by omega
      go_wp2
      go_ret2
      refine ⟨_, _, rfl, rfl, .inl ⟨fun n d hd => ?_, rfl, rfl⟩⟩
      rw [H.out.told] at hd
      unfold look at hd
      cases hf : a.find? (fun e => e.num == n) with
      | none => rw [hf] at hd; cases hd
      | some e =>
        rw [hf] at hd
        obtain ⟨j, hj, rfl⟩ := List.getElem_of_mem (List.mem_of_find?_eq_some hf)
        exact HNO.out j _ (by omega) (List.getElem?_eq_getElem hj) d hd

end

end Go.Proofs.Ytgcemlilfdjjlaa
