/- desk.List at whatever numbers are open: its parts. -/
import Derived.Test.YtlnhacbdbhmgkaaGreatDoorNuB
namespace Go.Proofs.YtlnhacbdbhmgkaaGreatDoor
open Go.RowKit Go.Maps

theorem told_any {w : World} {C : Nat} {n : Int} (h : w.cell? ⟨C, 8, none⟩ = some (.int .i64 n)) : Calls Tryz.prog 25 #[.pointer (some ⟨C, 0, none⟩)] w fun e w' => e = .returned (.int .i64 n) ∧ w = w' := by
  go_enter Tryz.func25, Tryz.ntmps25
  go_wp2
  go_ret
  exact ⟨rfl, rfl⟩

theorem state_at {σ : AS} {n : Nat} {w : World} {lo hi : Nat} {t : Value} (hT : TreeAt σ n w lo hi t) {c : Array Value} {e : TypeId} {f : Nat × Nat} {s : Int} (hc : σ.get n = some (.cells c e f)) (hs : c[11]? = some (.int .i64 s)) :
    Calls Tryz.prog 21 #[t] w fun e w' => e = .returned (.int .i64 s) ∧ ∃ m, w' = w.drewN m := by
  obtain ⟨ρ, h1, h2, h3, l, hl, rfl⟩ := hT
  obtain ⟨c', e', f', hc', hk⟩ := h1.seen hc hl
  obtain ⟨v', hv', hR⟩ := hk 11 _ hs
  cases hR
  have c5 : w.cell? ⟨l.b, 11, none⟩ = some (.int .i64 s) := by
    unfold World.cell?
    simp only [hc']
    simpa using hv'
  go_enter Tryz.func21, Tryz.ntmps21
  go_wp2
  go_ret
  exact ⟨rfl, 0, rfl⟩

set_option maxHeartbeats 1600000 in
theorem stale_any {σ : AS} {n : Nat} (hg : ∃ c e f s, σ.get n = some (.cells c e f) ∧ c[11]? = some (.int .i64 s)) {w : World} {Dk C O lo hi : Nat} {v : ByteArray} {s k : Int} {t : Value} (hT : TreeAt σ n w lo hi t)
    (c1 : w.cell? ⟨Dk, 1, none⟩ = some (.int .i64 0)) (hO : w.heap[O]? = some (.cells #[.pointer (some ⟨C, 0, none⟩), .string v, t, .int .i64 s, .int .i64 k] 94 (0, 0))) :
    Calls Tryz.prog 26 #[.pointer (some ⟨Dk, 0, none⟩), .pointer (some ⟨O, 0, none⟩)] w fun e w' => (∃ b, e = .returned (.bool b)) ∧ ∃ m, w' = w.drewN m := by
  obtain ⟨tb, rfl⟩ : ∃ tb, t = .pointer (some ⟨tb, 0, none⟩) := by obtain ⟨_, _, _, _, l, _, h⟩ := hT; exact ⟨_, h⟩
  have o2 : w.cell? ⟨O, 2, none⟩ = some (.pointer (some ⟨tb, 0, none⟩)) := by unfold World.cell?; simp only [hO]; rfl
  have o3 : w.cell? ⟨O, 3, none⟩ = some (.int .i64 s) := by unfold World.cell?; simp only [hO]; rfl
  have o4 : w.cell? ⟨O, 4, none⟩ = some (.int .i64 k) := by unfold World.cell?; simp only [hO]; rfl
  obtain ⟨gc, ge, gf, gs, hgc, hgs⟩ := hg
  have HT := Lib.hid hT
  have HG := Lib.hid (And.intro hgc hgs)
  clear hO hT hgc hgs
  go_enter Tryz.func26, Tryz.ntmps26
  go_wp2
  by_cases hk : k = 0
  · subst hk
    go_quiet ((go_at_call 21; refine Calls.quiet_of (state_at (HT.out.upd ((Upd.refl w []).drewN _) (fun b hb => by cases hb)) HG.out.1 HG.out.2)))
    go_wp2
    go_ret
    exact ⟨⟨_, rfl⟩, _, rfl⟩
  · have hd : decide (k = 0) = false := by simpa using hk
    go_quiet (fail)
    go_wp2
    go_ret
    exact ⟨⟨_, rfl⟩, _, rfl⟩

end Go.Proofs.YtlnhacbdbhmgkaaGreatDoor
