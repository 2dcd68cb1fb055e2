/- The shelf's contracts laid at this program: slices.Sorted(maps.Keys(m)) of a map of open cursors. The layings are the shelf's own command's print. -/
import Derived.Test.YtlnhacbdbhmgkaaGreatDoorNuA
import Derived.Shelf.SlIterI.Nil
import Derived.Shelf.SortM.Plain
import Derived.Shelf.SortM.SortNone
namespace Go.Proofs.YtlnhacbdbhmgkaaGreatDoor
open Go.RowKit Go.Maps Go.Sort Go.Shelf

def layKeys_ren : Go.Shelf.Ren := ⟨fun | 7 => 24 | 10 => 61 | n => n, fun | 23 => 47 | 26 => 3 | 3 => 89 | 28 => 98 | 0 => 0 | 27 => 97 | 33 => 178 | 4 => 4 | n => n, fun | n => n⟩
theorem layKeys : Go.Proofs.SlLaysZI.n7 Tryz.prog layKeys_ren where
  mixed := by kernel_rfl
  f7 := ⟨ "maps.Keys[map[int]*osier/desk.open,int,*osier/desk.open]", by decide, Tryz.func24.trans (congrArg some (by kernel_rfl))⟩
  f10 := ⟨ "maps.Keys[map[int]*osier/desk.open,int,*osier/desk.open]$1", by decide, Tryz.func61.trans (congrArg some (by kernel_rfl))⟩
  t0 := Tryz.underlying0
  a0 := Tryz.isAgg0
  z0 := Tryz.sizeOf0
  v0 := Tryz.zeroValue0
  t4 := Tryz.underlying4
  a4 := Tryz.isAgg4
  z4 := Tryz.sizeOf4
  v4 := Tryz.zeroValue4
  t23 := Tryz.underlying47
  a23 := Tryz.isAgg47
  z23 := Tryz.sizeOf47
  v23 := Tryz.zeroValue47
  t26 := Tryz.underlying3
  a26 := Tryz.isAgg3
  z26 := Tryz.sizeOf3
  v26 := Tryz.zeroValue3
  t27 := Tryz.underlying97
  a27 := Tryz.isAgg97
  z27 := Tryz.sizeOf97
  v27 := Tryz.zeroValue97
  t28 := Tryz.underlying98
  a28 := Tryz.isAgg98
  z28 := Tryz.sizeOf98
  v28 := Tryz.zeroValue98
  t33 := Tryz.underlying178
  a33 := Tryz.isAgg178
  z33 := Tryz.sizeOf178
  v33 := Tryz.zeroValue178
def laySorted_ren : Go.Shelf.Ren := ⟨fun | 6 => 23 | 8 => 59 | 9 => 60 | 11 => 88 | 13 => 90 | 12 => 89 | 23 => 131 | 24 => 132 | 14 => 122 | 15 => 123 | 16 => 124 | 17 => 125 | 18 => 126 | 19 => 127 | 20 => 128 | 21 => 129 | 22 => 130 | 25 => 151 | 26 => 152 | 27 => 153 | 28 => 154 | 29 => 155 | 30 => 156 | 31 => 174 | n => n, fun | 26 => 3 | 28 => 98 | 24 => 22 | 0 => 0 | 3 => 3 | 37 => 221 | 48 => 119 | 50 => 266 | 4 => 4 | 40 => 259 | 39 => 258 | 45 => 263 | 5 => 5 | 9 => 9 | 51 => 296 | 55 => 300 | 57 => 314 | 58 => 315 | 33 => 178 | n => n, fun | n => n⟩
theorem laySorted : Go.Proofs.SlLaysZI.n6 Tryz.prog laySorted_ren where
  mixed := by kernel_rfl
  f6 := ⟨ "slices.Sorted[int]", by decide, Tryz.func23.trans (congrArg some (by kernel_rfl))⟩
  f8 := ⟨ "slices.Collect[int]", by decide, Tryz.func59.trans (congrArg some (by kernel_rfl))⟩
  f11 := ⟨ "slices.AppendSeq[[]int,int]", by decide, Tryz.func88.trans (congrArg some (by kernel_rfl))⟩
  t0 := Tryz.underlying0
  a0 := Tryz.isAgg0
  z0 := Tryz.sizeOf0
  v0 := Tryz.zeroValue0
  t24 := Tryz.underlying22
  a24 := Tryz.isAgg22
  z24 := Tryz.sizeOf22
  v24 := Tryz.zeroValue22
  t26 := Tryz.underlying3
  a26 := Tryz.isAgg3
  z26 := Tryz.sizeOf3
  v26 := Tryz.zeroValue3
  t28 := Tryz.underlying98
  a28 := Tryz.isAgg98
  z28 := Tryz.sizeOf98
  v28 := Tryz.zeroValue98
  i26 := by kernel_rfl
def laySort_ren : Go.Shelf.Ren := ⟨fun | 5 => 60 | 8 => 90 | 7 => 89 | 19 => 131 | 20 => 132 | 10 => 122 | 11 => 123 | 12 => 124 | 13 => 125 | 14 => 126 | 15 => 127 | 16 => 128 | 17 => 129 | 18 => 130 | 30 => 151 | 31 => 152 | 32 => 153 | 33 => 154 | 34 => 155 | 35 => 156 | 40 => 174 | n => n, fun | 23 => 22 | 25 => 3 | 3 => 3 | 32 => 221 | 22 => 22 | 0 => 0 | 44 => 119 | 46 => 266 | 4 => 4 | 36 => 259 | 35 => 258 | 41 => 263 | 5 => 5 | 9 => 9 | 53 => 296 | 57 => 300 | 63 => 314 | 64 => 315 | n => n, fun | n => n⟩
theorem laySort : Go.Proofs.SlLaysM.n5 Tryz.prog laySort_ren where
  mixed := by kernel_rfl
  f5 := ⟨ "slices.Sort[[]int,int]", by decide, Tryz.func60.trans (congrArg some (by kernel_rfl))⟩
  f7 := ⟨ "slices.pdqsortOrdered[int]", by decide, Tryz.func89.trans (congrArg some (by kernel_rfl))⟩
  f8 := Tryz.func90.trans (congrArg some (by kernel_rfl))
  f10 := ⟨ "slices.insertionSortOrdered[int]", by decide, Tryz.func122.trans (congrArg some (by kernel_rfl))⟩
  f11 := ⟨ "slices.heapSortOrdered[int]", by decide, Tryz.func123.trans (congrArg some (by kernel_rfl))⟩
  f12 := ⟨ "slices.breakPatternsOrdered[int]", by decide, Tryz.func124.trans (congrArg some (by kernel_rfl))⟩
  f13 := ⟨ "slices.choosePivotOrdered[int]", by decide, Tryz.func125.trans (congrArg some (by kernel_rfl))⟩
  f14 := ⟨ "slices.reverseRangeOrdered[int]", by decide, Tryz.func126.trans (congrArg some (by kernel_rfl))⟩
  f15 := ⟨ "slices.partialInsertionSortOrdered[int]", by decide, Tryz.func127.trans (congrArg some (by kernel_rfl))⟩
  f16 := ⟨ "cmp.Less[int]", by decide, Tryz.func128.trans (congrArg some (by kernel_rfl))⟩
  f17 := ⟨ "slices.partitionEqualOrdered[int]", by decide, Tryz.func129.trans (congrArg some (by kernel_rfl))⟩
  f18 := ⟨ "slices.partitionOrdered[int]", by decide, Tryz.func130.trans (congrArg some (by kernel_rfl))⟩
  f19 := Tryz.func131.trans (congrArg some (by kernel_rfl))
  f20 := Tryz.func132.trans (congrArg some (by kernel_rfl))
  f30 := ⟨ "slices.siftDownOrdered[int]", by decide, Tryz.func151.trans (congrArg some (by kernel_rfl))⟩
  f31 := Tryz.func152.trans (congrArg some (by kernel_rfl))
  f32 := Tryz.func153.trans (congrArg some (by kernel_rfl))
  f33 := ⟨ "slices.medianAdjacentOrdered[int]", by decide, Tryz.func154.trans (congrArg some (by kernel_rfl))⟩
  f34 := ⟨ "slices.medianOrdered[int]", by decide, Tryz.func155.trans (congrArg some (by kernel_rfl))⟩
  f35 := ⟨ "cmp.isNaN[int]", by decide, Tryz.func156.trans (congrArg some (by kernel_rfl))⟩
  f40 := ⟨ "slices.order2Ordered[int]", by decide, Tryz.func174.trans (congrArg some (by kernel_rfl))⟩
  t0 := Tryz.underlying0
  a0 := Tryz.isAgg0
  z0 := Tryz.sizeOf0
  v0 := Tryz.zeroValue0
  t3 := Tryz.underlying3
  a3 := Tryz.isAgg3
  z3 := Tryz.sizeOf3
  v3 := Tryz.zeroValue3
  t4 := Tryz.underlying4
  a4 := Tryz.isAgg4
  z4 := Tryz.sizeOf4
  v4 := Tryz.zeroValue4
  t5 := Tryz.underlying5
  a5 := Tryz.isAgg5
  z5 := Tryz.sizeOf5
  v5 := Tryz.zeroValue5
  t9 := Tryz.underlying9
  a9 := Tryz.isAgg9
  z9 := Tryz.sizeOf9
  v9 := Tryz.zeroValue9
  t22 := Tryz.underlying22
  a22 := Tryz.isAgg22
  z22 := Tryz.sizeOf22
  v22 := Tryz.zeroValue22
  t23 := Tryz.underlying22
  a23 := Tryz.isAgg22
  z23 := Tryz.sizeOf22
  v23 := Tryz.zeroValue22
  t25 := Tryz.underlying3
  a25 := Tryz.isAgg3
  z25 := Tryz.sizeOf3
  v25 := Tryz.zeroValue3
  t32 := Tryz.underlying221
  a32 := Tryz.isAgg221
  z32 := Tryz.sizeOf221
  v32 := Tryz.zeroValue221
  t35 := Tryz.underlying258
  a35 := Tryz.isAgg258
  z35 := Tryz.sizeOf258
  v35 := Tryz.zeroValue258
  t36 := Tryz.underlying259
  a36 := Tryz.isAgg259
  z36 := Tryz.sizeOf259
  v36 := Tryz.zeroValue259
  t41 := Tryz.underlying263
  a41 := Tryz.isAgg263
  z41 := Tryz.sizeOf263
  v41 := Tryz.zeroValue263
  t44 := Tryz.underlying119
  a44 := Tryz.isAgg119
  z44 := Tryz.sizeOf119
  v44 := Tryz.zeroValue119
  t46 := Tryz.underlying266
  a46 := Tryz.isAgg266
  z46 := Tryz.sizeOf266
  v46 := Tryz.zeroValue266
  t53 := Tryz.underlying296
  a53 := Tryz.isAgg296
  z53 := Tryz.sizeOf296
  v53 := Tryz.zeroValue296
  t57 := Tryz.underlying300
  a57 := Tryz.isAgg300
  z57 := Tryz.sizeOf300
  v57 := Tryz.zeroValue300
  t63 := Tryz.underlying314
  a63 := Tryz.isAgg314
  z63 := Tryz.sizeOf314
  v63 := Tryz.zeroValue314
  t64 := Tryz.underlying315
  a64 := Tryz.isAgg315
  z64 := Tryz.sizeOf315
  v64 := Tryz.zeroValue315

theorem laySorts (m : Nat) : AnyZI.SortsIn Tryz.prog laySorted_ren Fence.wide m :=
  ⟨fun blk off cap ss W hH hblk hsz => callsIn_wide.2 (AnyM.slices_Sort_int laySort blk off cap ss W hH hblk hsz),
   fun p cap W => callsIn_wide.2 (AnyM.slices_Sort_int_none laySort p cap W)⟩

set_option maxRecDepth 100000 in
set_option maxHeartbeats 1000000 in
/-- The keys of a map, in order. -/
theorem sorted_keys (M B n : Nat) (D : DataW Unit) (w : World) (hown : w.ownsMap Tryz.prog 3 refEl M n D) (hB : w.heap[B]? = some (.cells #[.map (some M)] 47 (0, 0))) (hmax : Maps.size D ≤ maxLen) (hbytes : Maps.size D * 8 ≤ 140737488355328) :
    Calls Tryz.prog 23 #[.func (.func 61) #[] #[.pointer (some ⟨B, 0, none⟩)]] w fun e w' => ∃ (v : Value) (ss : List Int), e = .returned v ∧ ss.Perm (intKeys D) ∧
      w'.ownsRow w.heap.size 3 1 v ss.length ((ss.mergeSort (fun x y => decide (x ≤ y))).map encZ) ∧ (v = .slice none 0 0 ↔ ss = []) ∧ Below w.heap.size w w' := by
  have hBl : B < w.heap.size := (Array.getElem?_eq_some_iff.1 hB).1
  have hm : w.cell? ⟨B, 0, none⟩ = some (.map (some M)) := by unfold World.cell?; simp only [hB]; rfl
  have hseq : SeqGives Fence.wide 2 Tryz.prog 61 #[.pointer (some ⟨B, 0, none⟩)] encZ (fun ss => ss.Perm (intKeys D)) (Maps.size D) w :=
    AnyZI.keys_gives (ρ := layKeys_ren) { layKeys with } Fence.wide _ trivial rfl (by omega) B M n D _ hBl hm hown
  have cS := AnyZI.sorted_in laySorted Fence.wide 5 trivial trivial trivial trivial rfl (by omega) (laySorts _) (enters_of Tryz.func60 (by kernel_rfl) rfl) 61 #[.pointer (some ⟨B, 0, none⟩)] trivial (enters_of Tryz.func61 (by kernel_rfl) rfl) _ _ hmax hbytes _ hseq
  change CallsIn _ _ Tryz.prog 23 _ _ _ at cS
  exact (callsIn_wide (n := 5)).1 cS

end Go.Proofs.YtlnhacbdbhmgkaaGreatDoor
