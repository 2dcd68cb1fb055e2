/- The document's answer: put. -/
import Derived.Test.YtgcemlilfdjjlaaRefC
namespace Go.Proofs.Ytgcemlilfdjjlaa
open Go.RowKit

attribute [local go_sem] Oper.semAt_some

theorem ofNats_take (l : List Nat) (j : Nat) : ofNats (l.take j) = (ofNats l).take j := by simp [ofNats]
theorem ofNats_drop (l : List Nat) (j : Nat) : ofNats (l.drop j) = (ofNats l).drop j := by simp [ofNats]

/-- A slice that the call has made since w0, and all that it has done. -/
structure Own (w0 w : World) (v : Value) (xs : List Int) : Prop where
  ints : Ints w v xs
  upd : Upd w0 [] w []
  new : ∀ g, v.ownBlock = some g → w0.heap.size ≤ g

theorem Own.append {w0 w w' : World} {v v' : Value} {xs ys : List Int} (h : Own w0 w v xs) (hI : Ints w' v' ys) (hg : w.grownBy w' v.ownBlock) (hk : ∀ k, v'.ownBlock = some k → v.ownBlock = some k ∨ w.heap.size ≤ k) : Own w0 w' v' ys :=
  ⟨hI, h.upd.grown hg (fun k e => .inr (h.new k e)), fun g e => by
    rcases hk g e with h' | h'
    · exact h.new g h'
    · exact Nat.le_trans h.upd.size h'⟩

theorem Ints.len' {w : World} {v : Value} {xs : List Int} (h : Ints w v xs) : ∃ a k c, v = .slice a k c ∧ k = xs.length := by
  obtain ⟨a, c, hv, _⟩ := h.len
  exact ⟨a, _, c, hv, rfl⟩

theorem own_or {w : World} {v v' : Value} (h : v'.ownBlock = v.ownBlock ∨ v'.ownBlock = some w.heap.size) : ∀ k, v'.ownBlock = some k → v.ownBlock = some k ∨ w.heap.size ≤ k := by
  intro k e
  rcases h with h | h
  · exact .inl (h ▸ e)
  · rw [h] at e; injection e with e; exact .inr (by omega)

def PutIs (w : World) (b C L : Nat) (f : Nat → List Nat) (fp : List Nat) (e : Ending) (w' : World) : Prop :=
  ∃ fp', e = .returned (.tuple #[]) ∧ Ref w' b C L f fp' ∧ Upd w fp w' fp'

theorem SetIs.put {w0 w w' : World} {b C L : Nat} {f : Nat → List Nat} {fp : List Nat} {x : Value} {e : Ending} {xs : List Int} (h : SetIs w b C L f fp x e w') (ho : Own w0 w x xs) : PutIs w0 b C L f fp e w' := by
  obtain ⟨fp', he, hU, hR⟩ := h
  refine ⟨_, he, hR, (((ho.upd.weaken (T := fp) (fun _ h => by cases h)).to (T := fp) (fun _ h => .inl h)).trans hU).to (fun k hk => ?_)⟩
  rcases List.mem_append.1 hk with hk | hk
  · exact .inr (ho.new k (by simpa using hk))
  · rcases hU.fresh k hk with h' | h'
    · exact .inl h'
    · exact .inr (Nat.le_trans ho.upd.size h')

set_option maxHeartbeats 2000000 in
theorem put_any {b C L : Nat} {f : Nat → List Nat} {fp : List Nat} (n j c : Nat) (w : World) (h : Ref w b C L f fp) (hL : L ≤ 1048577) (hn : n < L) (hj : j ≤ (f n).length) (hlen : (f n).length ≤ 1048577) :
    Calls Try.prog 44 #[.pointer (some ⟨b, 0, none⟩), .int .i64 n, .int .i64 j, .int .i64 c] w (PutIs w b C L (put f n ((f n).take j ++ c :: (f n).drop j)) fp) := by
  obtain ⟨i0, hi, hz0, hz1, hz2⟩ := info_parts infoInt
  have hcn : cellsOf f n = f n := by unfold cellsOf; rw [if_pos (by omega), Int.toNat_natCast]
  have HH := Lib.hid (And.intro h (And.intro hL (And.intro hn hj)))
  have HCN := Lib.hid hcn
  obtain ⟨q, hq⟩ : ∃ q, (f n).length = q := ⟨_, rfl⟩
  rw [hq] at hlen hj
  have HQ := Lib.hid hq
  clear h hL hn hcn hq
  have b2 : i0.bytes * (q + 1) ≤ 281474976710656 := by rw [hz2]; omega
  have b3 : q + 1 ≤ maxLen := by simp only [maxLen]; omega
  go_enter Try.func44, Try.ntmps44
  go_wp2_with (first
    | (go_at_call 40; refine (of_any n w HH.out.1 HH.out.2.1).mono ?_; rintro e w1 ⟨x, rfl, rfl, hI, hxf⟩; rw [HCN.out] at hI; obtain ⟨ax, cx, rfl, _⟩ := hI.len; rw [ofNats_length, HQ.out]; rw [ofNats_length, HQ.out] at hI hxf; obtain ⟨y1, hy1, hs1⟩ := cut_to hI j (by rw [ofNats_length, HQ.out]; exact hj); obtain ⟨y2, hy2, hs2⟩ := cut_from hI j (by rw [ofNats_length, HQ.out]; exact hj); have HS := Lib.hid (And.intro hI (And.intro hs1 hs2)); clear hI hs1 hs2 hxf)
    | (at_make; (refine wpList_make_own _ rfl _ _ 38 rfl w.heap.size 3 i0 (.int .i64 0) 1 Try.underlying38 hi hz0 hz1 .i64 .i64 _ (q + 1) (by rfl) (by rfl) (by omega) b2 b3 (Nat.le_refl _) ?_; intro w2 hown hgrow; have hO1 : Own w w2 _ [] := ⟨Ints.of_make hown, (Upd.refl w []).grown hgrow (fun k e => by cases e), fun g e => Nat.le_of_eq (by simpa [Value.ownBlock] using e)⟩; have HO1 := Lib.hid hO1; clear hown hgrow hO1))
    | (at_builtin; (refine wpList_append_ints _ rfl _ _ rfl (by rfl) (by rfl) HO3.out.ints ((HS.out.2.2).upd HO3.out.upd) (by have := HQ.out; simp [ofNats_length]; omega) ?_; intro v4 w5 hI4 hg4 hk4; obtain ⟨a4, k4, c4, rfl, hkk4⟩ := hI4.len'; have HK4 := Lib.hid hkk4; clear hkk4; have hO4 := HO3.out.append hI4 hg4 (own_or hk4); have HO4 := Lib.hid hO4; clear hI4 hg4 hk4 hO4))
    | (at_builtin; (refine wpList_append_new w3 rfl _ _ 38 rfl 3 i0 (.int .i64 0) 1 8 Try.underlying38 hi hz0 hz1 hz2 rfl _ _ _ HO2.out.ints (by rfl) [.int .i64 c] (by rfl) rfl rfl (by have := HQ.out; simp [ofNats_length]; omega) (by have := HQ.out; simp only [maxLen]; simp [ofNats_length]; omega) ?_; rintro v3 w4 ht3 hg3 hk3 -; have hI3 := Ints.snoc ht3; obtain ⟨a3, k3, c3, rfl, hkk3⟩ := hI3.len'; have HK3 := Lib.hid hkk3; clear hkk3; have hO3 := HO2.out.append hI3 hg3 hk3; have HO3 := Lib.hid hO3; clear ht3 hI3 hg3 hk3 hO3))
    | (at_builtin; (refine wpList_append_ints _ rfl _ _ rfl (by rfl) (by rfl) HO1.out.ints ((HS.out.2.1).upd HO1.out.upd) (by have := HQ.out; simp [ofNats_length]; omega) ?_; intro v2 w3 hI2 hg2 hk2; obtain ⟨a2, k2, c2, rfl, hkk2⟩ := hI2.len'; have HK2 := Lib.hid hkk2; clear hkk2; have hO2 := HO1.out.append hI2 hg2 (own_or hk2); have HO2 := Lib.hid hO2; clear hI2 hg2 hk2 hO2))
    | (go_at_call 45; refine (set_any n _ ((f n).take j ++ c :: (f n).drop j) w5 (HH.out.1.upd HO4.out.upd (fun _ _ h => by cases h)) HH.out.2.1 HH.out.2.2.1 (by have := HO4.out.ints; simpa [ofNats] using this)).mono ?_; intro e w6 hS; have hP := hS.put HO4.out; obtain ⟨fp', rfl, hR, hU⟩ := hP; have HR := Lib.hid (And.intro hR hU); clear hS hR hU))
  go_end0
  exact ⟨fp', rfl, HR.out.1, HR.out.2⟩

end Go.Proofs.Ytgcemlilfdjjlaa
