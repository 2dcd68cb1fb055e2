/- The document's answer: set, put. -/
import Derived.Test.YtgcemlilfdjjlaaRefB
namespace Go.Proofs.Ytgcemlilfdjjlaa
open Go.RowKit

attribute [local go_sem] Oper.semAt_some

theorem infoOne : (Try.prog.info? 58).map (fun i => (i.zero, i.size, i.bytes)) = some (some (.agg #[.int .i64 0, .slice none 0 0]), 2, 32) := by kernel_rfl

section
variable {w w' : World} {b C L : Nat} {f : Nat → List Nat} {fp : List Nat} {a : List Entry} {v : Value}

theorem look_of {a : List Entry} (hd : (a.map Entry.num).Nodup) {e : Entry} {n : Nat} (he : e ∈ a) (hn : e.num = n) : look a n = e.cells := by
  subst hn; exact look_at hd he

theorem mem_set_other {a : List Entry} {k : Nat} {e x : Entry} (h : x ∈ a) (hk : a[k]? = some e) (hne : x ≠ e) (y : Entry) : x ∈ a.set k y := by
  obtain ⟨i, hi, rfl⟩ := List.getElem_of_mem h
  have hik : i ≠ k := by
    intro e'
    subst e'
    rw [List.getElem?_eq_getElem hi] at hk
    injection hk with hk
    exact hne hk
  refine List.mem_iff_getElem.2 ⟨i, by simpa using hi, ?_⟩
  rw [List.getElem_set_ne (Ne.symm hik)]

theorem map_set_same {a : List Entry} {k : Nat} {e y : Entry} (hk : a[k]? = some e) (hy : y.num = e.num) : (a.set k y).map Entry.num = a.map Entry.num := by
  rw [List.map_set]
  apply List.ext_getElem?
  intro i
  rw [List.getElem?_set]
  split
  · rename_i hi
    subst hi
    have hlt := (List.getElem?_eq_some_iff.1 hk).1
    rw [if_pos (by simpa using hlt), List.getElem?_map, hk, hy]
    rfl
  · rfl

theorem look_set {k : Nat} {e : Entry} (hd : (a.map Entry.num).Nodup) (hk : a[k]? = some e) (x : Value) (xs : List Nat) : look (a.set k ⟨e.num, x, xs⟩) = put (look a) e.num xs := by
  have hlt := (List.getElem?_eq_some_iff.1 hk).1
  have hd' : ((a.set k ⟨e.num, x, xs⟩).map Entry.num).Nodup := by rw [map_set_same (y := ⟨e.num, x, xs⟩) hk rfl]; exact hd
  funext n
  by_cases hn : n = e.num
  · subst hn
    rw [put_same, look_of hd' (e := ⟨e.num, x, xs⟩) (List.mem_set hlt _) rfl]
  · rw [put_other hn]
    by_cases hx : ∃ e', e' ∈ a ∧ e'.num = n
    · obtain ⟨e', he', hn'⟩ := hx
      rw [look_of hd he' hn', look_of hd' (mem_set_other he' hk (fun h => hn (by rw [← hn', h])) _) hn']
    · have hx' : ∀ e', e' ∈ a → e'.num ≠ n := fun e' he' hn' => hx ⟨e', he', hn'⟩
      rw [look_none hx', look_none fun e' he' => ?_]
      rcases List.mem_or_eq_of_mem_set he' with h | h
      · exact hx' e' h
      · subst h; exact Ne.symm hn

theorem look_snoc {n : Nat} (hn : ∀ e, e ∈ a → e.num ≠ n) (x : Value) (xs : List Nat) : look (a ++ [⟨n, x, xs⟩]) = put (look a) n xs := by
  funext k
  unfold look
  rw [List.find?_append]
  by_cases hk : k = n
  · subst hk
    rw [put_same, List.find?_eq_none.2 (fun e he => by simpa using hn e he)]
    simp
  · rw [put_other hk]
    cases hf : a.find? (fun e => e.num == k) with
    | some e => rfl
    | none =>
      have : ((⟨n, x, xs⟩ : Entry).num == k) = false := by rw [beq_eq_false_iff_ne]; exact Ne.symm hk
      simp [this]

theorem Ints.ne_type {w : World} {x : Value} {xs : List Int} (h : Ints w x xs) {g t : Nat} {cs : Array Value} (hg : w.heap[g]? = some (.cells cs t (0, 0))) (ht : 3 ≠ t) : x.ownBlock ≠ some g := Tab.ne h hg ht

theorem RefAt.store {g cap k : Nat} {e : Entry} {x : Value} {xs : List Nat} (h : RefAt w b C L f fp a (.slice (some ⟨g, 0, none⟩) a.length cap)) (he : a[k]? = some e) (hx : Ints w x (ofNats xs)) :
    RefAt (w.setCell ⟨g, k * 2 + 1, none⟩ x) b C L (put f e.num xs) (x.ownBlock.toList ++ fp) (a.set k ⟨e.num, x, xs⟩) (.slice (some ⟨g, 0, none⟩) a.length cap) ∧ Upd w fp (w.setCell ⟨g, k * 2 + 1, none⟩ x) fp := by
  have hlt := (List.getElem?_eq_some_iff.1 he).1
  have hm := List.mem_of_getElem? he
  obtain ⟨_, _, hv, _, _, _, _, cur, hg⟩ := h.tab.block (by omega)
  injection hv with e1 e2 e3
  injection e1 with e1
  injection e1 with e1
  subst e1 e3
  have hgp : g ∈ fp := h.fpv g rfl
  have hbg : b ≠ g := fun e => by
    have h1 := h.blk
    rw [e, hg] at h1
    injection h1 with h1
    injection h1 with _ h1
    exact absurd h1 (by decide)
  have hint : ∀ {y ys}, Ints w y ys → Ints (w.setCell ⟨g, k * 2 + 1, none⟩ x) y ys := fun hy => Tab.keeps hy (fun g' e' => heap_setCell_other _ _ _ _ (fun e'' => hy.ne_type hg (by decide) (by rw [e', e''])))
  refine ⟨⟨?_, ?_, ?_, ?_, ?_, ?_, ?_, ?_, ?_, ?_⟩, (Upd.refl w fp).setCell (a := ⟨g, k * 2 + 1, none⟩) (.inl hgp) _⟩
  · rw [heap_setCell_other _ _ _ _ hbg]; exact h.blk
  · rw [List.length_set]
    refine (h.tab.set rfl k 1 (by omega) x).congr fun i j hi hj => ?_
    simp only [List.getD_eq_getElem?_getD, List.getElem?_set]
    by_cases hik : k = i
    · subst hik
      rw [if_pos rfl, if_pos hlt, he]
      match j, hj with
      | 0, _ => simp [Entry.at_]
      | 1, _ => simp [Entry.at_]
    · rw [if_neg hik, if_neg (fun h => hik h.1.symm)]
  · intro e' he'
    rcases List.mem_or_eq_of_mem_set he' with h' | h'
    · exact hint (h.cells e' h')
    · subst h'; exact hint hx
  · rw [map_set_same (y := ⟨e.num, x, xs⟩) he rfl]; exact h.nodup
  · intro e' he'
    rcases List.mem_or_eq_of_mem_set he' with h' | h'
    · exact h.lt e' h'
    · subst h'; exact h.lt e hm
  · rw [h.told, look_set h.nodup he]
  · exact List.mem_append.2 (.inr h.fpb)
  · exact fun g' e' => List.mem_append.2 (.inr (h.fpv g' e'))
  · intro e' he' g' hg'
    rcases List.mem_or_eq_of_mem_set he' with h' | h'
    · exact List.mem_append.2 (.inr (h.fpe e' h' g' hg'))
    · subst h'; exact List.mem_append.2 (.inl (by simpa using hg'))
  · intro y hy
    rcases List.mem_append.1 hy with hy | hy
    · have := hx.lt y (by simpa using hy); simpa using this
    · have := h.fplt y hy; simpa using this

theorem RefAt.more {w1 : World} {n : Nat} {v' x : Value} {xs : List Nat} (h : RefAt w b C L f fp a v) (hn : ∀ e, e ∈ a → e.num ≠ n) (hlt : n < L) (hx : Ints w x (ofNats xs))
    (ht : Tab w1 v' 58 2 (a.length + 1) (snoc (fun i j => (a.getD i default).at_ j) a.length [.int .i64 n, x])) (hg : w.grownBy w1 v.ownBlock) (hk : ∀ k, v'.ownBlock = some k → v.ownBlock = some k ∨ w.heap.size ≤ k) :
    RefAt (w1.setCell ⟨b, 2, none⟩ v') b C L (put f n xs) (x.ownBlock.toList ++ (v'.ownBlock.toList ++ fp)) (a ++ [⟨n, x, xs⟩]) v' ∧ Upd w fp (w1.setCell ⟨b, 2, none⟩ v') (v'.ownBlock.toList ++ fp) := by
  have hu : Upd w fp w1 (v'.ownBlock.toList ++ fp) := ((Upd.refl w fp).grown hg (fun k e => .inl (h.fpv k e))).to (fun k hk' => by
    rcases List.mem_append.1 hk' with hk' | hk'
    · rcases hk k (by simpa using hk') with h' | h'
      · exact .inl (h.fpv k h')
      · exact .inr h'
    · exact .inl hk')
  have hvb : v.ownBlock ≠ some b := h.tab.ne h.blk (by decide)
  have hb : w1.heap[b]? = some (.cells #[.int .i64 C, .int .i64 L, v] 52 (0, 0)) := (hg.block b (lt_of_block h.blk) (fun e => hvb e.symm)).trans h.blk
  have hint : ∀ {y ys}, Ints w y ys → Ints (w1.setCell ⟨b, 2, none⟩ v') y ys := fun {y ys} hy => by
    have hy1 : Ints w1 y ys := Tab.keeps hy (fun g' e' => hg.block g' (hy.lt g' e') (fun e'' => Tab.ne' hy h.tab (by decide) g' e' e''.symm))
    exact Tab.keeps hy1 (fun g' e' => heap_setCell_other _ _ _ _ (fun e'' => hy1.ne_type hb (by decide) (by rw [e', e''])))
  refine ⟨⟨?_, ?_, ?_, ?_, ?_, ?_, ?_, ?_, ?_, ?_⟩, hu.setCell (a := ⟨b, 2, none⟩) (.inl h.fpb) _⟩
  · rw [heap_setCell_at _ hb]; rfl
  · rw [List.length_append, List.length_singleton]
    refine (ht.congr fun i j hi hj => ?_).keeps (fun g e => heap_setCell_other _ _ _ _ (fun e' => ht.ne hb (by decide) (by rw [e, e'])))
    unfold snoc
    by_cases hi' : i = a.length
    · subst hi'
      rw [if_pos rfl]
      simp only [List.getD_eq_getElem?_getD, List.getElem?_append_right (Nat.le_refl _), Nat.sub_self]
      match j, hj with
      | 0, _ => rfl
      | 1, _ => rfl
    · rw [if_neg hi']
      simp only [List.getD_eq_getElem?_getD]
      rw [List.getElem?_append_left (by omega)]
  · intro e' he'
    rcases List.mem_append.1 he' with h' | h'
    · exact hint (h.cells e' h')
    · obtain rfl := List.mem_singleton.1 h'; exact hint hx
  · rw [List.map_append, List.nodup_append]
    refine ⟨h.nodup, by simp, fun p hp q hq => ?_⟩
    obtain ⟨e, he, rfl⟩ := List.mem_map.1 hp
    simp at hq
    subst hq
    exact hn e he
  · intro e' he'
    rcases List.mem_append.1 he' with h' | h'
    · exact h.lt e' h'
    · obtain rfl := List.mem_singleton.1 h'; exact hlt
  · rw [h.told, look_snoc hn]
  · simp [h.fpb]
  · intro g e; simp [e]
  · intro e' he' g' hg'
    rcases List.mem_append.1 he' with h' | h'
    · have := h.fpe e' h' g' hg'; simp [this]
    · obtain rfl := List.mem_singleton.1 h'; simp at hg'; simp [hg']
  · intro y hy
    have hs := hg.size
    have hs2 : (w1.setCell ⟨b, 2, none⟩ v').heap.size = w1.heap.size := by simp
    rw [hs2]
    rcases List.mem_append.1 hy with hy | hy
    · have := hx.lt y (by simpa using hy); omega
    · rcases List.mem_append.1 hy with hy | hy
      · exact ht.lt y (by simpa using hy)
      · have := h.fplt y hy; omega

end

def SetIs (w : World) (b C L : Nat) (f : Nat → List Nat) (fp : List Nat) (x : Value) (e : Ending) (w' : World) : Prop :=
  ∃ fp', e = .returned (.tuple #[]) ∧ Upd w fp w' fp' ∧ Ref w' b C L f (x.ownBlock.toList ++ fp')

set_option maxHeartbeats 2000000 in
theorem set_any {b C L : Nat} {f : Nat → List Nat} {fp : List Nat} (n : Nat) (x : Value) (xs : List Nat) (w : World) (h : Ref w b C L f fp) (hC : L ≤ 1048577) (hn : n < L) (hx : Ints w x (ofNats xs)) :
    Calls Try.prog 45 #[.pointer (some ⟨b, 0, none⟩), .int .i64 n, x] w (SetIs w b C L (put f n xs) fp x) := by
  obtain ⟨a, v, h⟩ := h
  have c2 := cell_at h.blk (j := 2) rfl
  have f2 := free_at h.blk 2
  have hsz := h.size
  obtain ⟨av, cv, hv, hmax⟩ := h.tab.len
  subst hv
  obtain ⟨ax, cx, rfl, _⟩ := hx.len
  have H := Lib.hid h
  have HX := Lib.hid hx
  clear h hx
  unfold maxLen at hmax
  obtain ⟨i0, hi, hz0, hz1, hz2⟩ := info_parts infoOne
  go_enter Try.func45, Try.ntmps45
  go_wp2
  go_loopw [6] (fun i wr => wr = w ∧ ∃ k : Nat, k ≤ a.length ∧ i = .int .i64 k ∧ ∀ j e, j < k → a[j]? = some e → e.num ≠ n) (fun i _ => a.length - (intOf i).toNat)
  case atStart => exact ⟨rfl, 0, Nat.zero_le _, rfl, fun j e hj => by omega⟩
  case round =>
    obtain ⟨rfl, k, hk, rfl, hno⟩ := hrel
    have HNO := Lib.hid hno
    clear hno
    by_cases hlt : k < a.length
    · obtain ⟨e, he⟩ : ∃ e, a[k]? = some e := ⟨_, List.getElem?_eq_getElem hlt⟩
      obtain ⟨g, cap, hv, hg, e0, e1⟩ := H.out.at_ he
      have hgf : ∀ j, wr.frozen? ⟨g, j, none⟩ = false := fun j => H.out.tab.free (g := g) (by rw [hv]; rfl) j
      injection hv with h1 h2 h3
      subst h1 h3
      clear h2
      have HE := Lib.hid he
      clear he
      by_cases hn' : e.num = n
      · have hb : ((e.num : Int) == (n : Int)) = true := by rw [beq_iff_eq]; omega
        have HN := Lib.hid hn'
        clear hn'
        go_wp2
        try simp only [Exit.inBlock, Exit.then]
        refine bodyPost_ret (results_none rfl _ _ _) rfl ?_
        obtain ⟨hR, hU⟩ := H.out.store HE.out HX.out
        rw [HN.out] at hR
        exact ⟨fp, rfl, hU, _, _, hR⟩
      · have hb : ((e.num : Int) == (n : Int)) = false := by rw [beq_eq_false_iff_ne]; omega
        have HN := Lib.hid hn'
        clear hn'
        go_wp2
        go_roundw
        case rel =>
          refine ⟨trivial, k + 1, by omega, by go_num, fun j e' hj he' => ?_⟩
          by_cases hjk : j = k
          · subst hjk
            rw [HE.out] at he'
            injection he' with he'
            subst he'
            exact HN.out
          · exact HNO.out j e' (by omega) he'
        case measure => simp [intOf]; omega
    · have hke : k = a.length := by omega
      have hb1 : (a.length + 1) * 32 ≤ 140737488355328 := by omega
      have hb2 : a.length + 1 ≤ maxLen := by simp only [maxLen]; omega
      have hbv : some b ≠ (Value.slice av a.length cv).ownBlock := fun e => H.out.tab.ne H.out.blk (by decide) e.symm
      go_wp2_with (at_builtin; go_loud (refine wpList_append_new wr rfl _ _ 50 rfl 58 i0 (.agg #[.int .i64 0, .slice none 0 0]) 2 32 Try.underlying50 hi hz0 hz1 hz2 rfl _ a.length _ H.out.tab (by rfl) [.int .i64 n, .slice ax (ofNats xs).length cx] (by rfl) rfl rfl hb1 hb2 ?_; rintro v' w1 ht hg hk ⟨g', cap', rfl⟩; have h31 := hg.cell c2 hbv; have hf31 := (World.frozen?_of_block (hg.block b (lt_of_block H.out.blk) hbv)).trans f2))
      go_end0
      obtain ⟨hR, hU⟩ := H.out.more (n := n) (xs := xs) (fun e he => by obtain ⟨j, hj, rfl⟩ := List.getElem_of_mem he; exact HNO.out j _ (by omega) (List.getElem?_eq_getElem hj)) hn HX.out ht hg hk
      exact ⟨_, rfl, hU, _, _, hR⟩

end Go.Proofs.Ytgcemlilfdjjlaa
