/- A run by calculation, at a memory of the calculation's own, and what it says of the run at any world that holds the like: 'Sim'. The relation of values, of objects, of memories; the primitives. -/
import Derived.Orders
import Derived.KernelRfl
import Derived.Wp
namespace Go.Proofs.YtlnhacbdbhmgkaaGreatDoor

/-- Where a block of the calculation lies: the block, how many cells it has, the size of an element. -/
structure Lies where
  b : Nat
  lim : Nat
  esz : Nat

abbrev Ren := Nat → Option Lies
def Ren.le (ρ ρ' : Ren) : Prop := ∀ r l, ρ r = some l → ρ' r = some l
theorem Ren.le.refl (ρ : Ren) : ρ.le ρ := fun _ _ h => h
theorem Ren.le.trans {ρ ρ1 ρ2 : Ren} (h : ρ.le ρ1) (k : ρ1.le ρ2) : ρ.le ρ2 := fun r l x => k r l (h r l x)

/-- A capacity from here on stands for one that is not known. -/
def BIG : Nat := 1152921504606846976

inductive FnR (ρ : Ren) : Fn → Fn → Prop
  | func (f) : FnR ρ (.func f) (.func f)
  | method (n) : FnR ρ (.method n) (.method n)
  | methodOf (t n) : FnR ρ (.methodOf t n) (.methodOf t n)
  | via (t p f b) : FnR ρ (.via t p f b) (.via t p f b)
  | yield {r : Nat} {l : Lies} (h : ρ r = some l) : FnR ρ (.yield r) (.yield l.b)

mutual
inductive VRel (ρ : Ren) : Value → Value → Prop
  | bool (b) : VRel ρ (.bool b) (.bool b)
  | int (k n) : VRel ρ (.int k n) (.int k n)
  | float (k n) : VRel ρ (.float k n) (.float k n)
  | complex (k n m) : VRel ρ (.complex k n m) (.complex k n m)
  | string (s) : VRel ρ (.string s) (.string s)
  | ptrNil : VRel ρ (.pointer none) (.pointer none)
  | ptr {r o s} {l : Lies} (h : ρ r = some l) : VRel ρ (.pointer (some ⟨r, o, s⟩)) (.pointer (some ⟨l.b, o, s⟩))
  | sliceNil (n c) (hc : c < BIG) : VRel ρ (.slice none n c) (.slice none n c)
  | sliceX {r o s} {l : Lies} (n c) (h : ρ r = some l) (hc : c < BIG) : VRel ρ (.slice (some ⟨r, o, s⟩) n c) (.slice (some ⟨l.b, o, s⟩) n c)
  | sliceF {r o o' n c c'} {l : Lies} (h : ρ r = some l) (hc : BIG ≤ c) (hn : n ≤ c') (hl : o' + c' * l.esz ≤ l.lim) (ho : o' = o ∨ n = 0 ∧ c' = 0) :
      VRel ρ (.slice (some ⟨r, o, none⟩) n c) (.slice (some ⟨l.b, o', none⟩) n c')
  | mapNil : VRel ρ (.map none) (.map none)
  | map {r} {l : Lies} (h : ρ r = some l) : VRel ρ (.map (some r)) (.map (some l.b))
  | chanNil : VRel ρ (.chan none) (.chan none)
  | func {f f' : Fn} {a a' c c' : Array Value} (hf : FnR ρ f f') (ha : VsRel ρ a.toList a'.toList) (hc : VsRel ρ c.toList c'.toList) : VRel ρ (.func f a c) (.func f' a' c')
  | nilFunc : VRel ρ .nilFunc .nilFunc
  | iface (t) {v v'} (h : VRel ρ v v') : VRel ρ (.iface t v) (.iface t v')
  | nilIface : VRel ρ .nilIface .nilIface
  | agg {c c' : Array Value} (h : VsRel ρ c.toList c'.toList) : VRel ρ (.agg c) (.agg c')
  | tuple {c c' : Array Value} (h : VsRel ρ c.toList c'.toList) : VRel ρ (.tuple c) (.tuple c')
inductive VsRel (ρ : Ren) : List Value → List Value → Prop
  | nil : VsRel ρ [] []
  | cons {v v' vs vs'} (h : VRel ρ v v') (hs : VsRel ρ vs vs') : VsRel ρ (v :: vs) (v' :: vs')
end

theorem FnR.mono {ρ ρ' : Ren} (hle : ρ.le ρ') {f f' : Fn} (h : FnR ρ f f') : FnR ρ' f f' := by
  cases h with
  | yield h => exact .yield (hle _ _ h)
  | _ => constructor

mutual
theorem VRel.mono {ρ ρ' : Ren} (hle : ρ.le ρ') : ∀ {v v' : Value}, VRel ρ v v' → VRel ρ' v v'
  | _, _, .bool b => .bool b
  | _, _, .int k n => .int k n
  | _, _, .float k n => .float k n
  | _, _, .complex k n m => .complex k n m
  | _, _, .string s => .string s
  | _, _, .ptrNil => .ptrNil
  | _, _, .ptr h => .ptr (hle _ _ h)
  | _, _, .sliceNil n c hc => .sliceNil n c hc
  | _, _, .sliceX n c h hc => .sliceX n c (hle _ _ h) hc
  | _, _, .sliceF h hc hn hl ho => .sliceF (hle _ _ h) hc hn hl ho
  | _, _, .mapNil => .mapNil
  | _, _, .map h => .map (hle _ _ h)
  | _, _, .chanNil => .chanNil
  | _, _, .func hf ha hc => .func (hf.mono hle) (VsRel.mono hle ha) (VsRel.mono hle hc)
  | _, _, .nilFunc => .nilFunc
  | _, _, .iface t h => .iface t (VRel.mono hle h)
  | _, _, .nilIface => .nilIface
  | _, _, .agg h => .agg (VsRel.mono hle h)
  | _, _, .tuple h => .tuple (VsRel.mono hle h)
theorem VsRel.mono {ρ ρ' : Ren} (hle : ρ.le ρ') : ∀ {v v' : List Value}, VsRel ρ v v' → VsRel ρ' v v'
  | _, _, .nil => .nil
  | _, _, .cons h hs => .cons (VRel.mono hle h) (VsRel.mono hle hs)
end

theorem VsRel.length {ρ : Ren} : ∀ {v v' : List Value}, VsRel ρ v v' → v'.length = v.length
  | _, _, .nil => rfl
  | _, _, .cons _ hs => by simp [hs.length]
theorem VsRel.get {ρ : Ren} : ∀ {vs vs' : List Value}, VsRel ρ vs vs' → ∀ {i : Nat} {v : Value}, vs[i]? = some v → ∃ v', vs'[i]? = some v' ∧ VRel ρ v v'
  | _, _, .nil, _, _, h => by simp at h
  | _, _, .cons h hs, 0, _, hv => by simp at hv; subst hv; exact ⟨_, rfl, h⟩
  | _, _, .cons h hs, i + 1, _, hv => by simpa using hs.get (by simpa using hv)
theorem VsRel.getNone {ρ : Ren} {vs vs' : List Value} (h : VsRel ρ vs vs') {i : Nat} (hv : vs[i]? = none) : vs'[i]? = none := by
  rw [List.getElem?_eq_none_iff] at *; rw [h.length]; exact hv
theorem VsRel.append {ρ : Ren} : ∀ {a a' b b' : List Value}, VsRel ρ a a' → VsRel ρ b b' → VsRel ρ (a ++ b) (a' ++ b')
  | _, _, _, _, .nil, k => k
  | _, _, _, _, .cons h hs, k => .cons h (hs.append k)
theorem VsRel.take {ρ : Ren} : ∀ {a a' : List Value}, VsRel ρ a a' → ∀ n, VsRel ρ (a.take n) (a'.take n)
  | _, _, .nil, n => by simp; exact .nil
  | _, _, .cons h hs, 0 => by simp; exact .nil
  | _, _, .cons h hs, n + 1 => by simp; exact .cons h (hs.take n)
theorem VsRel.drop {ρ : Ren} : ∀ {a a' : List Value}, VsRel ρ a a' → ∀ n, VsRel ρ (a.drop n) (a'.drop n)
  | _, _, .nil, n => by simp; exact .nil
  | _, _, .cons h hs, 0 => by simp; exact .cons h hs
  | _, _, .cons h hs, n + 1 => by simp; exact hs.drop n
theorem VsRel.set {ρ : Ren} : ∀ {a a' : List Value}, VsRel ρ a a' → ∀ (n : Nat) {v v' : Value}, VRel ρ v v' → VsRel ρ (a.set n v) (a'.set n v')
  | _, _, .nil, n, _, _, _ => by simp; exact .nil
  | _, _, .cons h hs, 0, _, _, hv => by simp; exact .cons hv hs
  | _, _, .cons h hs, n + 1, _, _, hv => by simp; exact .cons h (hs.set n hv)
theorem VsRel.replicate {ρ : Ren} {v v' : Value} (h : VRel ρ v v') : ∀ n, VsRel ρ (List.replicate n v) (List.replicate n v')
  | 0 => .nil
  | n + 1 => .cons h (VsRel.replicate h n)
theorem VsRel.mapR {ρ : Ren} {α : Type} {f f' : α → Value} (h : ∀ x, VRel ρ (f x) (f' x)) : ∀ l : List α, VsRel ρ (l.map f) (l.map f')
  | [] => .nil
  | x :: l => .cons (h x) (VsRel.mapR h l)

def AsRel (ρ : Ren) (a a' : Array Value) : Prop := VsRel ρ a.toList a'.toList
theorem AsRel.size {ρ : Ren} {a a' : Array Value} (h : AsRel ρ a a') : a'.size = a.size := by simpa using VsRel.length h
theorem AsRel.get {ρ : Ren} {a a' : Array Value} (h : AsRel ρ a a') {i : Nat} {v : Value} (hv : a[i]? = some v) : ∃ v', a'[i]? = some v' ∧ VRel ρ v v' := by
  have := VsRel.get h (i := i) (v := v) (by simpa using hv)
  simpa using this
theorem AsRel.getNone {ρ : Ren} {a a' : Array Value} (h : AsRel ρ a a') {i : Nat} (hv : a[i]? = none) : a'[i]? = none := by
  simp at *; rw [h.size]; exact hv
theorem AsRel.mono {ρ ρ' : Ren} (hle : ρ.le ρ') {a a' : Array Value} (h : AsRel ρ a a') : AsRel ρ' a a' := VsRel.mono hle h
theorem AsRel.push {ρ : Ren} {a a' : Array Value} (h : AsRel ρ a a') {v v' : Value} (hv : VRel ρ v v') : AsRel ρ (a.push v) (a'.push v') := by
  unfold AsRel at *; simp only [Array.toList_push]; exact VsRel.append h (.cons hv .nil)
theorem AsRel.append {ρ : Ren} {a a' b b' : Array Value} (h : AsRel ρ a a') (k : AsRel ρ b b') : AsRel ρ (a ++ b) (a' ++ b') := by
  unfold AsRel at *; simp only [Array.toList_append]; exact VsRel.append h k
theorem AsRel.extract {ρ : Ren} {a a' : Array Value} (h : AsRel ρ a a') (i j : Nat) : AsRel ρ (a.extract i j) (a'.extract i j) := by
  unfold AsRel at *; simp only [Array.toList_extract, List.extract_eq_take_drop]; exact (VsRel.drop h i).take _
theorem AsRel.set {ρ : Ren} {a a' : Array Value} (h : AsRel ρ a a') (i : Nat) {v v' : Value} (hv : VRel ρ v v') : AsRel ρ (a.setIfInBounds i v) (a'.setIfInBounds i v') := by
  unfold AsRel at *; simp only [Array.toList_setIfInBounds]; exact VsRel.set h i hv
theorem AsRel.map {ρ : Ren} {α : Type} {f f' : α → Value} (h : ∀ x, VRel ρ (f x) (f' x)) (l : Array α) : AsRel ρ (l.map f) (l.map f') := by
  unfold AsRel; simp only [Array.toList_map]; exact VsRel.mapR h _
theorem AsRel.nil (ρ : Ren) : AsRel ρ #[] #[] := VsRel.nil
theorem AsRel.mk {ρ : Ren} {a a' : List Value} (h : VsRel ρ a a') : AsRel ρ a.toArray a'.toArray := by unfold AsRel; simpa using h

/-- The cells of a value. -/
theorem VRel.cells {ρ : Ren} {v v' : Value} (h : VRel ρ v v') : AsRel ρ v.cells v'.cells := by
  cases h <;> first | exact .cons (by constructor <;> assumption) .nil | (unfold Value.cells; assumption)
theorem VRel.oneCell {ρ : Ren} {v v' : Value} (h : VRel ρ v v') : v'.oneCell = v.oneCell := by
  cases h <;> rfl

/-- A value that bears no place. -/
inductive Bare : Value → Prop
  | mk {v} (h : ∀ ρ, VRel ρ v v) : Bare v

end Go.Proofs.YtlnhacbdbhmgkaaGreatDoor
