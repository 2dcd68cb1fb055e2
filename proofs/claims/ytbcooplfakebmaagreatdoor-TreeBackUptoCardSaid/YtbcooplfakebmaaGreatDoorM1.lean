/- Part of the proof that the tied card of a law of the tree holds; no condition is added. -/
import Derived.WalkKit
import Derived.WalkSpells
import Derived.WalkLawsBesides
import Derived.OneCell
import Derived.Deep.Draws
import Derived.KernelRfl
import Derived.Lib.Hide
import Derived.Test.YtbcooplfakebmaaGreatDoorRows
import Init
import Derived.BigQuiet
import Derived.IntWalk
import Derived.Laws.MakeOwn
import Derived.Laws.CopyRow
import Derived.Deep.AppendSrc
import Derived.OrdersHeld
import Derived.Deep.RegionHeld3
import Derived.Deep.DeepCutAuto
import Derived.Deep.LoopGhost
import Derived.Maps.OwnSet
import Derived.Maps.Views
import Derived.StillTailTactics
import Derived.Laws.Bits64
import Derived.Laws.Bits64b
import Derived.Laws.BytesArg
import Derived.Shelf.Abstract
import Derived.Laws.BitsAllLaws
import Derived.BigRegion
import Derived.Deep.QuietTactic
import Derived.Handy
import Derived.Lib.SliceRun
import Derived.RangeFuncNested
import Derived.RangeFuncBound
import Derived.RangeFuncCalls
import Derived.RangeFuncLeaves
import Derived.Shelf.RegionOpen
import Derived.OwnWalkIn
import Derived.TacticsInMore
import Derived.LoopNIn
import Derived.LoopIn
import Derived.OrdersIn
import Derived.Lib.Bytealg
import Derived.ProofKit
import Derived.Deep.Slices
import Derived.ChangeSame
import Derived.Test.YtbcooplfakebmaaGreatDoorTie
import Derived.Test.YtbcooplfakebmaaGreatDoorCards
import Derived.OpenShut
import Derived.Deep.DeepHandedRow
import Derived.Lib.LaidTab
namespace Go.Proofs.YtbcooplfakebmaaGreatDoor
set_option maxHeartbeats 4000000
set_option maxRecDepth 100000
set_option linter.all false
open Go.RowKit Go.Maps Go.Proofs.Tryz Tryz
open _root_.Array renaming size→hJ
open _root_.Bool renaming false→po,true→oj
open _root_.Go.Ending renaming returned→i5
open _root_.Go.IntKind renaming i64→i7,u32→kd,u8→lr
open _root_.Go.Obj renaming cells→h8
open _root_.Go.Value renaming bool→j4,int→i6,ownBlock→gz,pointer→h9,slice→hY,string→j3,tuple→i8
open _root_.Go.World renaming alloc→e8,cell?→e7,setCell→ey
open _root_.Inhabited renaming default→qc
open _root_.List renaming getD→ep,length→O
open _root_.Option renaming none→K,some→H
theorem _root_.Eq.dd{α:Sort _}{a b c:α}(h:a=b)(k:b=c):a=c:=h.trans k
open Go renaming World→aA,Value→aF,Calls→aH,TypeId→ap,maxLen→bw,Ending→cg,Addr→cj,Program→cu
open Go.RowKit renaming Hid→dT
variable{c c' k':Nat}
theorem Z{p:Prop}(h:p):RowKit.Hid p:=h
theorem _root_.Go.RowKit.Hid.o{p:Prop}(h:RowKit.Hid p):p:=h
theorem E{α:Sort _}(e:α):∃x,e=x:=⟨e,rfl⟩
theorem Y{p:Prop}(h:p:=by omega):p:=h
theorem X{p:Prop}(h:p:=by simp):p:=h
theorem D{p:Prop}(h:p:=by decide):p:=h
theorem Yr{p:Prop}(h:p:=by rfl):p:=h
theorem eI{A P:Prop}(a:A)(h:A->P:=by intro a;simpa using a):P:=h a
theorem dB{P:Prop}(h:P:=by kernel_rfl):P:=h
theorem eO{P:Prop}(h:P:=by go_num):P:=h
theorem GJ{P:Prop}(h:P:=by grind):P:=h
theorem dX{a b:Prop}(h:a)(k:b):a/\b:=⟨h,k⟩
@[reducible,go_sem]def J(n:Int):aF:=i6 i7 n
@[reducible,go_sem]def cH:aF:=hY K 0 0
@[reducible]def eL:Nat->Prop:=λ_=>False
theorem CT{a b:Option cj}{k:Nat}(h:(hY a k c)=hY b k' c'):a=b:=by injection h
abbrev iB:=@List.getD_eq_getElem?_getD
abbrev kX:=@List.getElem?_eq_getElem
abbrev jO:=@decide_eq_false
abbrev kI:=@decide_eq_true
abbrev fV:=@Nat.le_refl
abbrev RN:=@Nat.zero_le
abbrev jN:=@Nat.le_trans
abbrev wM:=@Nat.lt_of_lt_of_le
abbrev sN:=@List.length_map
abbrev F5:=@List.length_append
abbrev pK:=@Nat.add_zero
abbrev RM:=@List.setIfInBounds_toArray
abbrev wZ:=@Nat.mul_one
abbrev AU:=@List.mem_cons
abbrev G9:=@beq_eq_false_iff_ne
abbrev RL:=@List.mem_cons_of_mem
abbrev R9:=@List.take_length
abbrev UV:=@Bool.false_eq_true
abbrev EY:=@List.mem_append
abbrev Cr:=@Nat.pow_le_pow_right
abbrev TA:=@IntWalk.i64_in
abbrev NQ:=@Option.getD_some
abbrev yD:=@List.mem_range
abbrev T9:=@List.length_cons
abbrev VQ:=@List.length_take
abbrev Xd:=@List.length_singleton
abbrev Fb:=@Nat.eq_of_testBit_eq
abbrev RK:=@decide_eq_true_eq
abbrev R8:=@List.map_append
abbrev zbE:=@List.getElem?_append_left
abbrev Bv:=@List.nil_append
abbrev BB:=@List.mem_map
abbrev Bu:=@Bool.eq_iff_iff
abbrev VP:=@List.length_set
abbrev Xc:=@Nat.lt_of_lt_of_eq
abbrev Oh:=@Nat.mul_le_mul_right
abbrev Pn:=@List.getElem_of_mem
abbrev zbM:=@List.drop_eq_getElem_cons
abbrev zbN:=@Nat.testBit_lt_two_pow
abbrev UU:=@List.map_cons
abbrev Og:=@Nat.lt_of_le_of_lt
abbrev Ym:=@List.length_replicate
abbrev Pm:=@List.getElem?_map
abbrev kt:=@List.getElem_mem
abbrev zbT:=@Classical.byContradiction
abbrev Pk:=@List.length_eq_zero_iff
abbrev Yl:=@List.range_succ
abbrev T8:=@List.mem_filter
abbrev zbX:=@Int.toNat_natCast
abbrev Iy:=@List.nodup_append
abbrev zbZ:=@List.cons_append
abbrev Yk:=@Nat.not_lt_zero
abbrev bD:=@if_neg
abbrev bR:=@if_pos
abbrev dS:=@absurd
abbrev JY:=@beq_iff_eq
abbrev wJ:=@congrArg
abbrev uN:=@if_true
abbrev zF:=@if_false
abbrev RJ:=@List.set_cons_zero
abbrev UT:=@List.set_cons_succ
abbrev Yj:=@List.mem_singleton
abbrev Fa:=@List.nodup_cons
abbrev Xb:=@Bool.and_eq_true
abbrev Pj:=@List.getElem_cons_zero
abbrev Pi:=@List.getElem_cons_succ
abbrev kr:=@List.foldl_append
abbrev zcV:=@List.append_assoc
abbrev ri:=@List.mem_of_getLast?
abbrev rh:=@List.mem_of_getElem?
abbrev Bt:=@Bool.true_and
abbrev kq:=@List.any_eq_true
abbrev Xa:=@List.all_eq_true
abbrev WB:=@Nat.lt_or_ge
abbrev rg:=@List.mem_cons_self
abbrev kn:=@List.append_nil
abbrev zdE:=@List.filter_eq_nil_iff
abbrev zdF:=@List.filter_append
abbrev zdG:=@List.length_filter_le
abbrev zdH:=@List.take_of_length_le
theorem pW{p:Nat->Prop}:∀x,eL x->p x:=λ_ h=>h.elim
theorem zE{α:Sort _}{β:α->Sort _}{p:∀x,β x->Prop}:∀x y,p x y->p x y:=λ_ _ h=>h
theorem nA{A P:Prop}(a:A)(h:A->P:=by intro a;omega):P:=h a
theorem rV{A B P:Prop}(a:A)(b:B)(h:A->B->P:=by intro a b;omega):P:=h a b
theorem j7{A P:Prop}(a:A)(h:A->P:=by intro a;rw[a];omega):P:=h a
theorem F4{P:Prop}(h:P:=by unfold bw;omega):P:=h
@[reducible,go_sem]def zzR(v:aF):cg:=i5 v
@[reducible,go_sem]def zzs(s:ByteArray):aF:=j3 s
instance zzW:CoeOut aA Nat:=⟨λw=>hJ w.heap⟩
variable{a0 a1 a2 a3 a4 a5 a6 a7:cj}{cs:Array aF}{Q':cg->aA->Prop}{S S' S1 S2:List Nat}{b g i j n:Nat}{P:cu}{v v0 v1 v2 v3 v4 v5 v6 v7 x0 x1 x2 x3 x4 x5 x6 x7:aF}{w w' w'' w1 w2:aA}
structure U(w:aA)(S:List Nat)(w':aA)(S':List Nat):Prop where
 os:w'.os=w.os
 tape:w'.tape=w.tape
 output:w'.output=w.output
 size:hJ w.heap<=hJ w'.heap
 block:∀k,k<hJ w.heap->k∉S->w'.heap[k]? =w.heap[k]?
 fresh:∀k,k∈S'->k∈S\/hJ w.heap<=k
theorem aCL{k:Nat}{p:Prop}(h:p\/n<=k)(a:¬p)(c:k<n):False:=h.elim a (λb=>by omega)
theorem U.refl(w:aA)(S:List Nat):U w S w S:=⟨rfl,rfl,rfl,Nat.le_refl _,λ_ _ _=>rfl,λ_ h=> .inl h⟩
theorem U.dd(h:U w S w1 S1)(k:U w1 S1 w2 S2):U w S w2 S2 where
 os:=k.os.dd h.os
 tape:=k.tape.dd h.tape
 output:=k.output.dd h.output
 size:=Nat.le_trans h.size k.size
 block:=λi a c=>(k.block i (Nat.lt_of_lt_of_le a h.size) (λd=>aCL (h.fresh i d) c a)).dd (h.block i a c)
 fresh:=λi a=>by
  rcases k.fresh i a with b|b
  .exact h.fresh i b
  .exact .inr (Nat.le_trans h.size b)
theorem U.aN{T:List Nat}(h:U w S w' S')(hs:∀k,k∈S->k∈T):U w T w' S':=
 ⟨h.os,h.tape,h.output,h.size,λk a c=>h.block k a (λb=>c (hs k b)),λk a=>(h.fresh k a).imp (hs k) id⟩
theorem U.to{T:List Nat}(h:U w S w' S')(hs:∀k,k∈T->k∈S\/hJ w.heap<=k):U w S w' T:=
 ⟨h.os,h.tape,h.output,h.size,h.block,hs⟩
theorem U.jL(h:U w S w' S')(T:List Nat):U w (S++T) w' (S'++T):=
 ⟨h.os,h.tape,h.output,h.size,λk a d=>h.block k a (λc=>d (List.mem_append.2 (.inl c))),
  λk a=>by
  rcases List.mem_append.1 a with b|b
  .exact(h.fresh k b).imp (λx=>List.mem_append.2 (.inl x)) id
  grind⟩
theorem U.drew(h:U w S w' S'):U w S w'.drew S':=⟨h.os,h.tape,h.output,h.size,h.block,h.fresh⟩
theorem U.drewN(h:U w S w' S')(n:Nat):U w S (w'.drewN n) S':=⟨h.os,h.tape,h.output,h.size,h.block,h.fresh⟩
theorem U.alloc(h:U w S w' S')(o:Obj):U w S (w'.alloc o) S':=
 ⟨h.os,h.tape,h.output,Nat.le_trans h.size (by simp),λk a b=>(Below.heap_alloc w' o k (Nat.lt_of_lt_of_le a h.size)).dd (h.block k a b),h.fresh⟩
theorem U.setCell(h:U w S w' S'){a:cj}(ha:a.block∈S\/hJ w.heap<=a.block)(v:aF):U w S (ey w' a v) S':=
 ⟨h.os,h.tape,h.output,Nat.le_trans h.size (by simp),λk b c=>(heap_setCell_other w' a k v (λe=>by grind)).dd (h.block k b c),h.fresh⟩
theorem U.setRow(h:U w S w' S')(c:g∈S\/hJ w.heap<=g)(cs:Array aF):U w S (w'.setRow g cs) S':=
 ⟨h.os,h.tape,h.output,Nat.le_trans h.size (by simp),λk a b=>(setRow_other w' g k cs (λe=>by grind)).dd (h.block k a b),h.fresh⟩
theorem U.grown(h:U w S w' S'){row:Option Nat}(a:w'.grownBy w'' row)(d:∀k,row=H k->k∈S\/hJ w.heap<=k):U w S w'' S':=
 ⟨a.os.dd h.os,a.tape.dd h.tape,a.output.dd h.output,Nat.le_trans h.size a.size,
  λk b c=>(a.block k (Nat.lt_of_lt_of_le b h.size) (λe=>aCL (d k e.symm) c b)).dd (h.block k b c),h.fresh⟩
theorem U.below(h:U w [] w' S'):Below w.heap.size w w':=⟨h.os,h.tape,h.output,h.size,λk a=>h.block k a (by simp)⟩
theorem U.aC(h:U w S w' S'){k:Nat}{o:Obj}(a:w.heap[k]? =H o)(b:k∉S):w'.heap[k]? =H o:=
 (h.block k (lt_of_block a) b).dd a
theorem U.cell(h:U w S w' S'){a:cj}(b:e7 w a=H v)(c:a.block∉S):e7 w' a=H v:=
 (World.cell?_of_block (h.block a.block (block_lt_of_cell b) c)).dd b
theorem U.XU(h:U w S w' S'){k:Nat}(a:k<hJ w.heap)(c:k∉S):k∉S':=
 λb=>aCL (h.fresh k b) c a
theorem aL{t:ap}(a:w.heap[g]? =H (h8 cs t (0,0)))(hv:cs[j]? =H v):e7 w ⟨g,j,K⟩=H v:=
 (cell_of_row w g j cs t _ a).dd hv
theorem aM{t:ap}(a:w.heap[g]? =H (h8 cs t (0,0)))(j:Nat):w.frozen? ⟨g,j,K⟩=po:=
 frozen_of_row w g j cs t a
theorem aE{t:ap}(v:aF)(a:w.heap[g]? =H (h8 cs t (0,0))):
  (ey w ⟨g,i,K⟩ v).heap[g]? =H (h8 (cs.setIfInBounds i v) t (0,0)):=by
 rw[heap_setCell_same w g i cs t v a]
theorem Zc{t:ap}(a:w.heap[g]? =H (h8 cs t (0,0)))(j:Nat)(hv:cs[j]? =H v:=by rfl):e7 w ⟨g,j,K⟩=H v:=aL a hv
theorem Z2{t:ap}(h:w.heap[g]? =H (h8 cs t (0,0)))(b:cs[0]? =H v0:=by rfl)(a:cs[1]? =H v1:=by rfl):e7 w ⟨g,0,K⟩=H v0/\e7 w ⟨g,1,K⟩=H v1:=⟨aL h b,aL h a⟩
theorem Z3{t:ap}(h:w.heap[g]? =H (h8 cs t (0,0)))(a:cs[0]? =H v0:=by rfl)(b:cs[1]? =H v1:=by rfl)(c:cs[2]? =H v2:=by rfl):e7 w ⟨g,0,K⟩=H v0/\e7 w ⟨g,1,K⟩=H v1/\e7 w ⟨g,2,K⟩=H v2:=⟨aL h a,aL h b,aL h c⟩
theorem Z4{t:ap}(h:w.heap[g]? =H (h8 cs t (0,0)))(d:cs[0]? =H v0:=by rfl)(c:cs[1]? =H v1:=by rfl)(b:cs[2]? =H v2:=by rfl)(a:cs[3]? =H v3:=by rfl):e7 w ⟨g,0,K⟩=H v0/\e7 w ⟨g,1,K⟩=H v1/\e7 w ⟨g,2,K⟩=H v2/\e7 w ⟨g,3,K⟩=H v3:=⟨aL h d,aL h c,aL h b,aL h a⟩
theorem Z5{t:ap}(h:w.heap[g]? =H (h8 cs t (0,0)))(b:cs[0]? =H v0:=by rfl)(d:cs[1]? =H v1:=by rfl)(e:cs[2]? =H v2:=by rfl)(c:cs[3]? =H v3:=by rfl)(a:cs[4]? =H v4:=by rfl):e7 w ⟨g,0,K⟩=H v0/\e7 w ⟨g,1,K⟩=H v1/\e7 w ⟨g,2,K⟩=H v2/\e7 w ⟨g,3,K⟩=H v3/\e7 w ⟨g,4,K⟩=H v4:=⟨aL h b,aL h d,aL h e,aL h c,aL h a⟩
theorem Z6{t:ap}(h:w.heap[g]? =H (h8 cs t (0,0)))(c:cs[0]? =H v0:=by rfl)(e:cs[1]? =H v1:=by rfl)(i:cs[2]? =H v2:=by rfl)(d:cs[3]? =H v3:=by rfl)(b:cs[4]? =H v4:=by rfl)(a:cs[5]? =H v5:=by rfl):e7 w ⟨g,0,K⟩=H v0/\e7 w ⟨g,1,K⟩=H v1/\e7 w ⟨g,2,K⟩=H v2/\e7 w ⟨g,3,K⟩=H v3/\e7 w ⟨g,4,K⟩=H v4/\e7 w ⟨g,5,K⟩=H v5:=⟨aL h c,aL h e,aL h i,aL h d,aL h b,aL h a⟩
theorem Z7{t:ap}(h:w.heap[g]? =H (h8 cs t (0,0)))(d:cs[0]? =H v0:=by rfl)(i:cs[1]? =H v1:=by rfl)(j:cs[2]? =H v2:=by rfl)(e:cs[3]? =H v3:=by rfl)(c:cs[4]? =H v4:=by rfl)(a:cs[5]? =H v5:=by rfl)(b:cs[6]? =H v6:=by rfl):e7 w ⟨g,0,K⟩=H v0/\e7 w ⟨g,1,K⟩=H v1/\e7 w ⟨g,2,K⟩=H v2/\e7 w ⟨g,3,K⟩=H v3/\e7 w ⟨g,4,K⟩=H v4/\e7 w ⟨g,5,K⟩=H v5/\e7 w ⟨g,6,K⟩=H v6:=⟨aL h d,aL h i,aL h j,aL h e,aL h c,aL h a,aL h b⟩
theorem Z8{t:ap}(h:w.heap[g]? =H (h8 cs t (0,0)))(c:cs[0]? =H v0:=by rfl)(e:cs[1]? =H v1:=by rfl)(i:cs[2]? =H v2:=by rfl)(d:cs[3]? =H v3:=by rfl)(b:cs[4]? =H v4:=by rfl)(a:cs[5]? =H v5:=by rfl)(j:cs[6]? =H v6:=by rfl)(l:cs[7]? =H v7:=by rfl):e7 w ⟨g,0,K⟩=H v0/\e7 w ⟨g,1,K⟩=H v1/\e7 w ⟨g,2,K⟩=H v2/\e7 w ⟨g,3,K⟩=H v3/\e7 w ⟨g,4,K⟩=H v4/\e7 w ⟨g,5,K⟩=H v5/\e7 w ⟨g,6,K⟩=H v6/\e7 w ⟨g,7,K⟩=H v7:=⟨aL h c,aL h e,aL h i,aL h d,aL h b,aL h a,aL h j,aL h l⟩
theorem Za{o:Obj}(h:w.alloc o=w1):U w [] w1 []:=h▸(U.refl w []).alloc o
theorem Zb{o:Obj}(h:w.alloc o=w1):w1.heap[hJ w.heap]? =H o:=by rw[<-h];exact heap_alloc_new w o
theorem Ze{o:Obj}(h:w.alloc o=w1)(a:hJ w.heap=b):w1.heap[b]? =H o:=by rw[<-h,<-a];exact heap_alloc_new w o
@[reducible,go_sem] def Ad (b o:Nat):cj:=⟨b,o,K⟩
@[reducible,go_sem] def It (n:Nat):aF:=i6 i7 (n:Int)
@[reducible,go_sem] def Pt (b:Nat):aF:=h9 (H ⟨b,0,K⟩)
theorem pX(w:aA)(b j:Nat)(v:aF):U w [b] (ey w (Ad b j) v) [b]:=(U.refl w [b]).setCell (a:=Ad b j) (.inl (by simp)) v
theorem Po(h:w.drewN n=w1):U w [] w1 []:=h▸(U.refl w []).drewN n
theorem BC(h:w.drew=w1):U w [] w1 []:=h▸(U.refl w []).drew
abbrev cV:=@lt_of_block
abbrev lK:=@heap_alloc_new
abbrev mD:=@bodyPost_ret
abbrev WC:=@block_lt_of_cell
abbrev Iw:=@heap_setCell_other
theorem _root_.Go.Calls.cF{f:FuncId}{a:Array aF}{bBP:cg->aA->Prop}(h:aH P f a w bBP)(k:∀e w',bBP e w'->Q' e w'):aH P f a w Q':=h.mono k
theorem _root_.Go.Calls.cL{f:FuncId}{a:Array aF}{v:cg}{R:aA->Prop}(h:aH P f a w λe w'=>e=v/\R w')(k:∀w',R w'->Q' v w'):aH P f a w Q':=h.mono λ_ w' x=>x.1▸k w' x.2
@[reducible,go_sem]def eB(b o n c:Nat):aF:=hY (H (Ad b o)) n c
@[reducible]def rW(w:aA)(b:Nat)(cs:Array aF)(t:ap):Prop:=w.heap[b]? =H (h8 cs t (0,0))
@[reducible]def tR(f:Nat)(a:Array aF)(w:aA)(bBP:cg->aA->Prop):Prop:=aH prog f a w bBP
theorem U.Of(h:U w S w' S')(k:e7 w a0=H x0/\e7 w a1=H x1)(b:a0.block∉S:=by simp)(a:a1.block∉S:=by simp):e7 w' a0=H x0/\e7 w' a1=H x1:=⟨h.cell k.1 b,h.cell k.2 a⟩
theorem U.zc2(h:U w S w' S')(b:e7 w a0=H x0)(a:e7 w a1=H x1)(d:a0.block∉S:=by simp)(c:a1.block∉S:=by simp):e7 w' a0=H x0/\e7 w' a1=H x1:=⟨h.cell b d,h.cell a c⟩
theorem U.zh3(h:U w S w' S')(k:e7 w a0=H x0/\e7 w a1=H x1/\e7 w a2=H x2)(a:a0.block∉S:=by simp)(b:a1.block∉S:=by simp)(c:a2.block∉S:=by simp):e7 w' a0=H x0/\e7 w' a1=H x1/\e7 w' a2=H x2:=⟨h.cell k.1 a,h.cell k.2.1 b,h.cell k.2.2 c⟩
theorem U.R7(h:U w S w' S')(c:e7 w a0=H x0)(b:e7 w a1=H x1)(k2:e7 w a2=H x2)(a:a0.block∉S:=by simp)(d:a1.block∉S:=by simp)(e:a2.block∉S:=by simp):e7 w' a0=H x0/\e7 w' a1=H x1/\e7 w' a2=H x2:=⟨h.cell c a,h.cell b d,h.cell k2 e⟩
theorem U.zh4(h:U w S w' S')(k:e7 w a0=H x0/\e7 w a1=H x1/\e7 w a2=H x2/\e7 w a3=H x3)(d:a0.block∉S:=by simp)(c:a1.block∉S:=by simp)(b:a2.block∉S:=by simp)(a:a3.block∉S:=by simp):e7 w' a0=H x0/\e7 w' a1=H x1/\e7 w' a2=H x2/\e7 w' a3=H x3:=⟨h.cell k.1 d,h.cell k.2.1 c,h.cell k.2.2.1 b,h.cell k.2.2.2 a⟩
theorem U.zc4(h:U w S w' S')(e:e7 w a0=H x0)(b:e7 w a1=H x1)(k2:e7 w a2=H x2)(c:e7 w a3=H x3)(a:a0.block∉S:=by simp)(g:a1.block∉S:=by simp)(i:a2.block∉S:=by simp)(d:a3.block∉S:=by simp):e7 w' a0=H x0/\e7 w' a1=H x1/\e7 w' a2=H x2/\e7 w' a3=H x3:=⟨h.cell e a,h.cell b g,h.cell k2 i,h.cell c d⟩
theorem U.zh5(h:U w S w' S')(k:e7 w a0=H x0/\e7 w a1=H x1/\e7 w a2=H x2/\e7 w a3=H x3/\e7 w a4=H x4)(b:a0.block∉S:=by simp)(d:a1.block∉S:=by simp)(e:a2.block∉S:=by simp)(c:a3.block∉S:=by simp)(a:a4.block∉S:=by simp):e7 w' a0=H x0/\e7 w' a1=H x1/\e7 w' a2=H x2/\e7 w' a3=H x3/\e7 w' a4=H x4:=⟨h.cell k.1 b,h.cell k.2.1 d,h.cell k.2.2.1 e,h.cell k.2.2.2.1 c,h.cell k.2.2.2.2 a⟩
theorem U.zc5(h:U w S w' S')(e:e7 w a0=H x0)(l:e7 w a1=H x1)(k2:e7 w a2=H x2)(c:e7 w a3=H x3)(j:e7 w a4=H x4)(b:a0.block∉S:=by simp)(g:a1.block∉S:=by simp)(i:a2.block∉S:=by simp)(d:a3.block∉S:=by simp)(a:a4.block∉S:=by simp):e7 w' a0=H x0/\e7 w' a1=H x1/\e7 w' a2=H x2/\e7 w' a3=H x3/\e7 w' a4=H x4:=⟨h.cell e b,h.cell l g,h.cell k2 i,h.cell c d,h.cell j a⟩
theorem U.zh6(h:U w S w' S')(k:e7 w a0=H x0/\e7 w a1=H x1/\e7 w a2=H x2/\e7 w a3=H x3/\e7 w a4=H x4/\e7 w a5=H x5)(c:a0.block∉S:=by simp)(e:a1.block∉S:=by simp)(g:a2.block∉S:=by simp)(d:a3.block∉S:=by simp)(b:a4.block∉S:=by simp)(a:a5.block∉S:=by simp):e7 w' a0=H x0/\e7 w' a1=H x1/\e7 w' a2=H x2/\e7 w' a3=H x3/\e7 w' a4=H x4/\e7 w' a5=H x5:=⟨h.cell k.1 c,h.cell k.2.1 e,h.cell k.2.2.1 g,h.cell k.2.2.2.1 d,h.cell k.2.2.2.2.1 b,h.cell k.2.2.2.2.2 a⟩
theorem U.zc6(h:U w S w' S')(i:e7 w a0=H x0)(n:e7 w a1=H x1)(k2:e7 w a2=H x2)(e:e7 w a3=H x3)(a:e7 w a4=H x4)(m:e7 w a5=H x5)(d:a0.block∉S:=by simp)(j:a1.block∉S:=by simp)(l:a2.block∉S:=by simp)(g:a3.block∉S:=by simp)(c:a4.block∉S:=by simp)(b:a5.block∉S:=by simp):e7 w' a0=H x0/\e7 w' a1=H x1/\e7 w' a2=H x2/\e7 w' a3=H x3/\e7 w' a4=H x4/\e7 w' a5=H x5:=⟨h.cell i d,h.cell n j,h.cell k2 l,h.cell e g,h.cell a c,h.cell m b⟩
theorem U.zh7(h:U w S w' S')(k:e7 w a0=H x0/\e7 w a1=H x1/\e7 w a2=H x2/\e7 w a3=H x3/\e7 w a4=H x4/\e7 w a5=H x5/\e7 w a6=H x6)(d:a0.block∉S:=by simp)(g:a1.block∉S:=by simp)(i:a2.block∉S:=by simp)(e:a3.block∉S:=by simp)(c:a4.block∉S:=by simp)(a:a5.block∉S:=by simp)(b:a6.block∉S:=by simp):e7 w' a0=H x0/\e7 w' a1=H x1/\e7 w' a2=H x2/\e7 w' a3=H x3/\e7 w' a4=H x4/\e7 w' a5=H x5/\e7 w' a6=H x6:=⟨h.cell k.1 d,h.cell k.2.1 g,h.cell k.2.2.1 i,h.cell k.2.2.2.1 e,h.cell k.2.2.2.2.1 c,h.cell k.2.2.2.2.2.1 a,h.cell k.2.2.2.2.2.2 b⟩
theorem U.zc7(h:U w S w' S')(j:e7 w a0=H x0)(q:e7 w a1=H x1)(k2:e7 w a2=H x2)(g:e7 w a3=H x3)(a:e7 w a4=H x4)(p:e7 w a5=H x5)(e:e7 w a6=H x6)(d:a0.block∉S:=by simp)(l:a1.block∉S:=by simp)(m:a2.block∉S:=by simp)(i:a3.block∉S:=by simp)(c:a4.block∉S:=by simp)(b:a5.block∉S:=by simp)(n:a6.block∉S:=by simp):e7 w' a0=H x0/\e7 w' a1=H x1/\e7 w' a2=H x2/\e7 w' a3=H x3/\e7 w' a4=H x4/\e7 w' a5=H x5/\e7 w' a6=H x6:=⟨h.cell j d,h.cell q l,h.cell k2 m,h.cell g i,h.cell a c,h.cell p b,h.cell e n⟩
theorem U.zh8(h:U w S w' S')(k:e7 w a0=H x0/\e7 w a1=H x1/\e7 w a2=H x2/\e7 w a3=H x3/\e7 w a4=H x4/\e7 w a5=H x5/\e7 w a6=H x6/\e7 w a7=H x7)(c:a0.block∉S:=by simp)(e:a1.block∉S:=by simp)(g:a2.block∉S:=by simp)(d:a3.block∉S:=by simp)(b:a4.block∉S:=by simp)(a:a5.block∉S:=by simp)(i:a6.block∉S:=by simp)(j:a7.block∉S:=by simp):e7 w' a0=H x0/\e7 w' a1=H x1/\e7 w' a2=H x2/\e7 w' a3=H x3/\e7 w' a4=H x4/\e7 w' a5=H x5/\e7 w' a6=H x6/\e7 w' a7=H x7:=⟨h.cell k.1 c,h.cell k.2.1 e,h.cell k.2.2.1 g,h.cell k.2.2.2.1 d,h.cell k.2.2.2.2.1 b,h.cell k.2.2.2.2.2.1 a,h.cell k.2.2.2.2.2.2.1 i,h.cell k.2.2.2.2.2.2.2 j⟩
theorem U.zc8(h:U w S w' S')(l:e7 w a0=H x0)(u:e7 w a1=H x1)(k2:e7 w a2=H x2)(i:e7 w a3=H x3)(a:e7 w a4=H x4)(r:e7 w a5=H x5)(g:e7 w a6=H x6)(c:e7 w a7=H x7)(e:a0.block∉S:=by simp)(m:a1.block∉S:=by simp)(n:a2.block∉S:=by simp)(j:a3.block∉S:=by simp)(d:a4.block∉S:=by simp)(b:a5.block∉S:=by simp)(p:a6.block∉S:=by simp)(q:a7.block∉S:=by simp):e7 w' a0=H x0/\e7 w' a1=H x1/\e7 w' a2=H x2/\e7 w' a3=H x3/\e7 w' a4=H x4/\e7 w' a5=H x5/\e7 w' a6=H x6/\e7 w' a7=H x7:=⟨h.cell l e,h.cell u m,h.cell k2 n,h.cell i j,h.cell a d,h.cell r b,h.cell g p,h.cell c q⟩
variable{a:Act}{ops:Array Oper}{cur:Array aF}{bBP:Exit->Act->aA->Prop}{news:List aF}{cap n2 sz2:Nat}
section
def eJ(w:aA)(v:aF)(e:ap)(sz n:Nat)(c:Nat->Nat->aF):Prop:=
 (v=hY K 0 0/\n=0)\/
 ∃g cap cur,v=hY (H ⟨g,0,K⟩) n cap/\w.heap[g]? =H (h8 cur e (0,0))/\n<=cap/\cap<=bw/\cur.size=cap*sz/\
  ∀i j,i<n->j<sz->cur[i*sz+j]? =H (c i j)
section
variable{w w':aA}{v:aF}{e:ap}{sz n:Nat}{c c':Nat->Nat->aF}
theorem eJ.nil(w:aA)(e sz:Nat)(c:Nat->Nat->aF):eJ w (hY K 0 0) e sz 0 c:= .inl ⟨rfl,rfl⟩
theorem eJ.congr(h:eJ w v e sz n c)(l:∀i j,i<n->j<sz->c i j=c' i j):eJ w v e sz n c':=by
 rcases h with h|⟨g,cap,cur,hv,p,q,m,hs,d⟩
 .exact .inl h
 .exact .inr ⟨g,cap,cur,hv,p,q,m,hs,λi j b a=>by rw[d i j b a,l i j b a]⟩
theorem eJ.len(h:eJ w v e sz n c):∃a cap,v=hY a n cap/\n<=bw:=by
 rcases h with⟨rfl,rfl⟩|⟨g,cap,cur,hv,i,b,d,_⟩
 .grind
 grind
theorem eJ.block(h:eJ w v e sz n c)(m:0<n):∃g cap,v=hY (H ⟨g,0,K⟩) n cap/\gz v=H g/\g<hJ w.heap/\
  (∀i j,i<n->j<sz->e7 w ⟨g,i*sz+j,K⟩=H (c i j))/\(∀k,w.frozen? ⟨g,k,K⟩=po)/\(∃cur,w.heap[g]? =H (h8 cur e (0,0))):=by
 rcases h with⟨rfl,rfl⟩|⟨g,cap,cur,hv,a,p,q,hs,l⟩
 .omega
 .exact⟨g,cap,hv,by rw[hv];rfl,cV a,λi j d b=>aL a (l i j d b),λk=>aM a k,cur,a⟩
theorem eJ.free(h:eJ w v e sz n c)(b:gz v=H g)(k:Nat):w.frozen? ⟨g,k,K⟩=po:=by
 rcases h with⟨rfl,rfl⟩|⟨g',cap,cur,rfl,a,_⟩
 .grind [gz]
 grind [gz,aM]
theorem eJ.aC(h:eJ w v e sz n c)(a:∀g,gz v=H g->w'.heap[g]? =w.heap[g]?):eJ w' v e sz n c:=by
 rcases h with h|⟨g,cap,cur,rfl,b,rest⟩
 .exact .inl h
 .exact .inr ⟨g,cap,cur,rfl,(a g rfl).dd b,rest⟩
theorem eJ.eF(h:eJ w v e sz n c)(a:U w S w' S')(b:∀g,gz v=H g->g∉S):eJ w' v e sz n c:=by
 rcases h with h|⟨g,cap,cur,rfl,d,rest⟩
 .exact .inl h
 .exact .inr ⟨g,cap,cur,rfl,a.aC d (b g rfl),rest⟩
theorem eJ.lt(h:eJ w v e sz n c):∀g,gz v=H g->g<hJ w.heap:=by
 rcases h with⟨rfl,_⟩|⟨g,cap,cur,rfl,a,rest⟩
 .grind [gz]
 grind [gz]
theorem eJ.ne(h:eJ w v e sz n c){t:Nat}(a:w.heap[b]? =H (h8 cs t (0,0)))(d:e≠t):gz v≠H b:=by
 rcases h with⟨rfl,_⟩|⟨g,cap,cur,rfl,i,rest⟩
 .simp[gz]
 grind [gz]
theorem eJ.J7(h:eJ w v e sz n c){e2:Nat}{c2:Nat->Nat->aF}(d:eJ w v2 e2 sz2 n2 c2)(a:e≠e2):∀g,gz v=H g->gz v2≠H g:=by
 intro g i;rcases h with⟨rfl,_⟩|⟨g',cap,cur,rfl,b,rest⟩
 .grind [gz]
 .have:g'=g:=by grind [gz]
  subst this;exact d.ne b (λe=>a e.symm)
theorem eJ.set(h:eJ w v e sz n c)(hv:v=hY (H ⟨g,0,K⟩) n cap)(i j:Nat)(p:j<sz)(u:aF):
  eJ (ey w ⟨g,i*sz+j,K⟩ u) v e sz n (λb a=>if b=i/\a=j then u else c b a):=by
 rcases h with⟨rfl,_⟩|⟨g',cap',cur,rfl,l,m,d,hs,x⟩
 .simp at hv
 .obtain⟨rfl,rfl⟩:g'=g/\cap'=cap:=eI hv;refine .inr ⟨g',cap',_,rfl,aE u l,m,d,by simpa using hs,λb a q r=> ?_⟩;grind [Nat.mul_comm,Nat.mul_add_div,Nat.div_eq_of_lt]
def wN(c:Nat->Nat->aF)(n:Nat)(news:List aF):Nat->Nat->aF:=λi j=>if i=n then ep news j undef else c i j
theorem eJ.Kd(l:w'.heap[g]? =H (h8 cur e (0,0)))(b:n+1<=cap)(d:cap<=bw)(hs:cur.size=cap*sz)(hl:O news=sz)(a:∀i j,i<n->j<sz->cur[i*sz+j]? =H (c i j))(q:∀j,j<sz->cur[n*sz+j]? =news[j]?):
  eJ w' (hY (H ⟨g,0,K⟩) (n+1) cap) e sz (n+1) (wN c n news):=by
 refine .inr ⟨g,cap,cur,rfl,l,b,d,hs,λi j p m=> ?_⟩;grind [wN]
end
def nt(w:aA)(a:cj):Nat:=match e7 w a with|some (hY _ k _)=>k|_=>0
theorem Q1{w:aA}{a:cj}{p:Option cj}{k c:Nat}(h:e7 w a=H (hY p k c)):nt w a=k:=by simp[nt,h]
section
variable{P:cu}(w:aA)
theorem K9(t ty e:ap)(i:TypeInfo)(z:aF)(size bytes:Nat)(y:P.underlying t=H (.slice e))(r:P.info? e=H i)(f:i.zero=H z)(S:i.size=size)(Xt:i.bytes=bytes)(h:z.cells.size=size)(v:aF)(n:Nat)(qL:Nat->Nat->aF)(R:eJ w v e size n qL)(a:cj)(c:Nat)(news:List aF)(hl:O news=size)(B:∀j u,news[j]? =H u->e7 w (a.add j)=H u)(h1:∀u∈news,u.oneCell'=oj)(Q:(n+1)*bytes<=140737488355328)(T:n+1<=bw):
  ∃v' w',(Builtin.append_ #[t,t] ty #[v,hY (H a) 1 c]).run P w= .ok v' w'/\eJ w' v' e size (n+1) (wN qL n news)/\w.grownBy w' (gz v)/\
   (∀k,gz v'=H k->gz v=H k\/hJ w.heap<=k)/\∃g cap,v'=hY (H ⟨g,0,K⟩) (n+1) cap:=by
 subst S;subst Xt;have aDD:n+1<=9223372036854775807:=by grind [bw]
 rcases R with⟨rfl,rfl⟩|⟨g,cap,cur,rfl,L,dk,C,xO,N⟩
 .have p:=run_append_nil (P:=P) w t ty e i z y r f a 1 c news Y B Y Y Y;refine⟨_,_,p,?_,⟨rfl,rfl,rfl,X,λk b _=>Below.heap_alloc w.drew _ k b⟩,λk b=> ?_,_,_,rfl⟩
  .have x:=grownCap_ge w 1 0 e;refine eJ.Kd (lK w.drew _) Y (grownCap_le_maxLen w 1 0 e Y) ?_ hl (λi j r=>Y) (λj m=> ?_)
   .simp only[Array.size_append,List.size_toArray,size_zeroCells,h,hl];rw[Nat.sub_mul,Nat.one_mul];have:=Oh i.size x;omega
   grind
  grind [gz]
 .by_cases G:n+1<=cap
  .have W:n*i.size+O news<=cur.size:=by rw[hl,xO,<-Nat.succ_mul];exact Oh _ G
   refine⟨_,_,run_append_room (P:=P) w t ty e i y r g n cap cur L a 1 c news Y B h1 G W,?_,⟨rfl,rfl,rfl,X,λk _ b=>setRow_other w g k _ (λe=>b (by simp[gz,e]))⟩,λk b=> .inl b,_,_,rfl⟩;refine eJ.Kd (setRow_heap w g cur _ e _ L) G C ?_ hl (λl j F m=> ?_) (λj m=> ?_)
   .grind
   .have A:l*i.size+j<n*i.size:=by
     calc l*i.size+j<(l+1)*i.size:=by grind
      _<=n*i.size:=Oh _ Y
    rw[<-N l j F m,List.getElem?_toArray,List.append_assoc,List.getElem?_append_left GJ,List.getElem?_take,if_pos A,Array.getElem?_toList]
   grind
  .have d:∀j u,(cur.toList.take (n*i.size))[j]? =H u->e7 w (((Ad g 0):cj).add j)=H u:=by
    grind [Addr.add,cell_of_row]
   have V:n*i.size<=cur.size:=by grind
   have q:O (cur.toList.take (n*i.size))=n*i.size:=by simp;omega
   refine⟨_,_,run_append_grow (P:=P) w t ty e i z y r f (Ad g 0) n cap _ q d a 1 c news Y B Y Y (growslice_fits Y Q),?_,⟨rfl,rfl,rfl,X,λk b _=>Below.heap_alloc w.drew _ k b⟩,λk b=> ?_,_,_,rfl⟩
   .have x:=grownCap_ge w (n+1) cap e;refine eJ.Kd (lK w.drew _) x (grownCap_le_maxLen w (n+1) cap e T) ?_ hl (λl j F m=> ?_) (λj m=> ?_)
    .simp only[Array.size_append,List.size_toArray,size_zeroCells,h,hl,q];rw[Nat.sub_mul,Nat.succ_mul];have:=Oh i.size x;grind
    .have A:l*i.size+j<n*i.size:=by
      grind
     rw[<-N l j F m,Array.getElem?_append_left (by simp;omega),Array.getElem?_append_left (by simp;omega),List.getElem?_toArray,List.getElem?_take,if_pos A,Array.getElem?_toList]
    grind
   grind [gz]
theorem P2{rest:List Oper}{o:Oper}(p:o.guard=K)(s x:Operand)(t:ap)(Q:o.op= .call {callee:= .builtin .append,args:=#[s,x],argTypes:=#[t,t]})(e:ap)(i:TypeInfo)(z:aF)(size bytes:Nat)(B:P.underlying t=H (.slice e))(d:P.info? e=H i)(S:i.zero=H z)(A:i.size=size)(R:i.bytes=bytes)(l:z.cells.size=size)(v:aF)(n:Nat)(b:Nat->Nat->aF)(q:eJ w v e size n b)(hs:a.eval s=v)(ad:cj)(c:Nat)(news:List aF)(r:a.eval x=hY (H ad) 1 c)(hl:O news=size)(F:∀j u,news[j]? =H u->e7 w (ad.add j)=H u)(f:∀u∈news,u.oneCell'=oj)(m:(n+1)*bytes<=140737488355328)(C:n+1<=bw)(h:∀v' w',eJ w' v' e size (n+1) (wN b n news)->w.grownBy w' (gz v)->(∀k,gz v'=H k->gz v=H k\/hJ w.heap<=k)->(∃g cap,v'=hY (H ⟨g,0,K⟩) (n+1) cap)->
   wpList P ops bBP rest (a.put o.dst v') w'):wpList P ops bBP (o::rest) a w:=by
 refine wpList_plain p λqL hK=> ?_;let⟨v',w',L,y,N,T,G⟩:=K9 (P:=P) w t o.type e i z size bytes B d S A R l v n b q ad c news hl F f m C;unfold Oper.wp execOp;simp only[Q,resolve,invoke,builtin,Sem.run_bind,Sem.run_pure,Result.andThen_ok,List.map_toArray,UU,List.map_nil,hs,r,L];exact hK _ _ (h v' w' y N T G)
theorem FU{w:aA}{o:Obj}{row:Option Nat}(h:(w.alloc o).grownBy w1 row):w.grownBy w1 row:=
 ⟨h.os,h.tape,h.output,by have:=h.size;simp at this;omega,λk b a=>(h.block k (by simp;omega) a).dd (Below.heap_alloc w o k b)⟩
theorem Gl(w:aA)(vs:List aF)(t:ap):∀j u,vs[j]? =H u->e7 (e8 w (h8 vs.toArray t)) ((⟨w,0,K⟩:cj).add j)=H u:=by
 intro j u a;have b:(⟨w,0,K⟩:cj).add j=⟨w,j,K⟩:=by unfold Addr.add;split<;>simp_all
 simp_all
theorem qP{rest:List Oper}{o:Oper}(p:o.guard=K)(s x:Operand)(t:ap)(qL:o.op= .call {callee:= .builtin .append,args:=#[s,x],argTypes:=#[t,t]})(e:ap)(i:TypeInfo)(z:aF)(size bytes:Nat)(B:P.underlying t=H (.slice e))(j:P.info? e=H i)(N:i.zero=H z)(A:i.size=size)(L:i.bytes=bytes)(l:z.cells.size=size)(v:aF)(n:Nat)(b:Nat->Nat->aF)(d:eJ w v e size n b)(hs:a.eval s=v)(news:List aF)(q:a.eval x=hY (H ⟨w,0,K⟩) 1 1)(hl:O news=size)(c:news.all Value.oneCell'=oj)(m:(n+1)*bytes<=140737488355328)(C:n+1<=bw)(h:∀v' w',eJ w' v' e size (n+1) (wN b n news)->w.grownBy w' (gz v)->(∀k,gz v'=H k->gz v=H k\/hJ w.heap<=k)->(∃g cap,v'=hY (H ⟨g,0,K⟩) (n+1) cap)->
   wpList P ops bBP rest (a.put o.dst v') w'):wpList P ops bBP (o::rest) a (e8 w (h8 news.toArray e)):=
 P2 (e8 w (h8 news.toArray e)) p s x t qL e i z size bytes B j N A L l v n b (d.aC λg e=>Below.heap_alloc _ _ _ (d.lt g e)) hs ⟨w,0,K⟩ 1 news q hl
  (Gl w news e) (λu y=>Xa.1 c u y) m C λv' w' c r G F=>h v' w' c (FU r) (λk f=>(G k f).imp id (λh=>by simp at h;omega)) F
end
end
variable{tmps:Array aF}{fn:Func}{bytes e size sz:Nat}{u2:Tmp}{z:aF}
section
theorem ZM116{P:Prop}(h:P:=by
  have dh:tmps[p]?.getD undef=h9 (H A):=eI hp;simp[results,h,dh,asAddr,hv,Result.andThen_ok]):P:=h
structure jM(P:cu)(t e:ap)(size bytes:Nat):Prop where
 ex:∃i z,P.underlying t=H (.slice e)/\P.info? e=H i/\i.zero=H z/\i.size=size/\i.bytes=bytes/\z.cells.size=size
theorem jM.PU{P:cu}{t e:ap}(d:P.underlying t=H (.slice e))(h:(P.info? e).map (λi=>(i.zero,i.size,i.bytes))=H (H z,size,bytes))(b:z.cells.size=size):jM P t e size bytes:=by
 let⟨i,c,a⟩:=Option.map_eq_some_iff.1 h;simp only[Prod.mk.injEq]at a;exact⟨i,z,d,c,a.1,a.2.1,a.2.2,b⟩
section
variable{P:cu}{w:aA}
end
theorem eJ.cell{w:aA}{c:Nat->Nat->aF}(h:eJ w (hY (H ⟨g,0,K⟩) n cap) e sz n c)(b:i<n)(a:j<sz):e7 w ⟨g,i*sz+j,K⟩=H (c i j):=by
 let⟨g',cap',hv,_,_,d,_⟩:=h.block Y;obtain⟨rfl,rfl⟩:g=g'/\cap=cap':=eI hv;exact d i j b a
theorem U.nil{w:aA}(h:U w [] w' S'):U w [] w' []:=h.to X
theorem U.pu{w:aA}(h:U w S w' S'){k:Nat}(c:e7 w ⟨b,k,K⟩=H v)(e:b∉S)(d:∀j,w.frozen? ⟨b,j,K⟩=po):∀j,w'.frozen? ⟨b,j,K⟩=po:=
 λj=>(World.frozen?_of_block (a:=Ad b j) (h.block b (WC c) e)).dd (d j)
theorem aT{P:cu}{w:aA}{p u:Tmp}{T:ap}{A:cj}(h:fn.results=#[.cell p T,.tmp u])(hp:tmps.getD p undef=h9 (H A))(hv:(loadVar T A).run P w= .ok v w):(results fn tmps).run P w= .ok (i8 #[v,tmps.getD u undef]) w:=ZM116
theorem yI{P:cu}{w:aA}{p u:Tmp}{T:ap}{A:cj}(h:fn.results=#[.cell p T,.tmp u,.tmp u2])(hp:tmps.getD p undef=h9 (H A))(hv:(loadVar T A).run P w= .ok v w):(results fn tmps).run P w= .ok (i8 #[v,tmps.getD u undef,tmps.getD u2 undef]) w:=ZM116
theorem Yp{P:cu}{c:Code}{w:aA}(h:∀w',w'=w->c.wp P bBP a w'):c.wp P bBP a w:=h w rfl
theorem iO{a:Nat}(h:a<b):a<b/\(∀n,a<b+n)/\(∀n m,a<b+n+m)/\(∀n m k,a<b+n+m+k)/\(∀n m k i,a<b+n+m+k+i)/\(∀n m k i j,a<b+n+m+k+i+j):=
 ⟨h,λ_=>Y,λ_ _=>Y,λ_ _ _=>Y,λ_ _ _ _=>Y,λ_ _ _ _ _=>Y⟩
end
variable{cap':Nat}{e2:ap}{wb:aA}
section
section
variable(w:aA)(a b c d:Obj)
theorem kV:((w.alloc a).alloc b).heap[hJ w.heap]? =H a:=(Below.heap_alloc (w.alloc a) b _ (by(try simp)<;>omega)).dd (lK w a)
theorem kU:((w.alloc a).alloc b).heap[hJ w.heap+1]? =H b:=eI (lK (w.alloc a) b)
theorem Vz:(((w.alloc a).alloc b).alloc c).heap[hJ w.heap]? =H a:=(Below.heap_alloc _ c _ (by(try simp)<;>omega)).dd (kV w a b)
theorem Vy:(((w.alloc a).alloc b).alloc c).heap[hJ w.heap+1]? =H b:=(Below.heap_alloc _ c _ (by(try simp)<;>omega)).dd (kU w a b)
end
theorem U.aZ{w:aA}(h:U w [] w1 S1)(k:U w1 S w2 S')(d:∀b,b∈S->hJ w.heap<=b):U w [] w2 []:=
 ⟨k.os.dd h.os,k.tape.dd h.tape,k.output.dd h.output,jN h.size k.size,λi a _=>(k.block i (wM a h.size) (λc=>dS (d i c) Y)).dd (h.block i a X),X⟩
theorem XB{w:aA}{B:Nat}{a b x y:aF}{t:ap}(h:w.heap[B]? =H (h8 #[a,b] t (0,0))):
  (ey (ey w ⟨B,0,K⟩ x) ⟨B,1,K⟩ y).heap[B]? =H (h8 #[x,y] t (0,0))/\U w [B] (ey (ey w ⟨B,0,K⟩ x) ⟨B,1,K⟩ y) [B]:=
 ⟨by rw[aE _ (aE _ h)];rfl,(pX w B 0 x).setCell (a:=Ad B 1) (.inl X) y⟩
theorem NY{w:aA}{B:Nat}{a b c x y:aF}{t:ap}(h:w.heap[B]? =H (h8 #[a,b,c] t (0,0))):
  (ey (ey (ey w ⟨B,0,K⟩ x) ⟨B,1,K⟩ y) ⟨B,2,K⟩ z).heap[B]? =H (h8 #[x,y,z] t (0,0))/\U w [B] (ey (ey (ey w ⟨B,0,K⟩ x) ⟨B,1,K⟩ y) ⟨B,2,K⟩ z) [B]:=
 ⟨by rw[aE _ (aE _ (aE _ h))];rfl,((pX w B 0 x).setCell (a:=Ad B 1) (.inl X) y).setCell (a:=Ad B 2) (.inl X) z⟩
theorem gO{w:aA}{p:Tmp}{T:ap}(A:cj){v:aF}(h:fn.results=#[.cell p T])(a:tmps.getD p undef=h9 (H A))(hv:(loadVar T A).run P w= .ok v w):(results fn tmps).run P w= .ok v w:=by
 simp_all[undef,results,asAddr,Result.andThen_ok]
def Rd(w:aA)(v:aF)(sz n:Nat)(c:Nat->Nat->aF):Prop:=
 (n=0/\∃a cap,v=hY a 0 cap/\(a=K->cap=0))\/
 ∃g o cap,v=hY (H ⟨g,o,K⟩) n cap/\0<n/\n<=bw/\g<hJ w.heap/\∀i j,i<n->j<sz->e7 w ⟨g,o+i*sz+j,K⟩=H (c i j)
def Value.mN:aF->Option Nat
 |hY (H a) _ _=>H a.block
 |_=>K
section
variable{w w':aA}{v:aF}{sz n:Nat}{c c':Nat->Nat->aF}
theorem Rd.len(h:Rd w v sz n c):∃a cap,v=hY a n cap/\n<=bw:=by
 rcases h with⟨rfl,a,cap,rfl,_⟩|⟨g,o,cap,rfl,_,b,_⟩<;>grind
theorem Rd.aU(h:Rd w v sz n c)(d:0<n):∃g o cap,v=hY (H ⟨g,o,K⟩) n cap/\g<hJ w.heap/\∀i j,i<n->j<sz->e7 w ⟨g,o+i*sz+j,K⟩=H (c i j):=by
 rcases h with⟨rfl,_⟩|⟨g,o,cap,hv,_,_,b,a⟩<;>grind
theorem Rd.congr(h:Rd w v sz n c)(e:∀i j,i<n->j<sz->c i j=c' i j):Rd w v sz n c':=by
 rcases h with h|⟨g,o,cap,hv,d,l,m,h⟩
 .exact .inl h
 .exact .inr ⟨g,o,cap,hv,d,l,m,λi j b a=>by rw[h i j b a,e i j b a]⟩
theorem Rd.eF(h:Rd w v sz n c)(a:U w S w' S')(l:∀g,Value.mN v=H g->g∉S):Rd w' v sz n c:=by
 rcases h with h|⟨g,o,cap,rfl,e,m,p,h⟩
 .exact .inl h
 .have:=l g rfl;exact .inr ⟨g,o,cap,rfl,e,m,wM p a.size,λi j d b=>a.cell (h i j d b) this⟩
theorem Rd.on(h:Rd w v sz n c)(a:U w [] w' S'):Rd w' v sz n c:=h.eF a (λ_ _=>X)
theorem Rd.nil(w:aA)(sz:Nat)(c:Nat->Nat->aF):Rd w (hY K 0 0) sz 0 c:= .inl ⟨rfl,K,0,rfl,λ_=>rfl⟩
theorem eJ.rd{e:ap}(h:eJ w v e sz n c):Rd w v sz n c:=by
 rcases Nat.eq_zero_or_pos n with rfl|b
 .rcases h with⟨rfl,_⟩|⟨g,cap,cur,rfl,_⟩
  .exact Rd.nil _ _ _
  .exact .inl ⟨rfl,_,cap,rfl,λh=>by cases h⟩
 .let⟨g,cap,hv,_,l,r,_,_⟩:=h.block b;obtain⟨a,cap',q,d⟩:=h.len;exact .inr ⟨g,0,cap,hv,b,d,l,λi j p m=>by grind⟩
theorem Rd.take{a:Option cj}{k:Nat}(h:Rd w (hY a n cap) sz n c)(p:k<=n)(ha:a=K->cap'=0):Rd w (hY a k cap') sz k c:=by
 rcases Nat.eq_zero_or_pos k with rfl|e
 .exact .inl ⟨rfl,a,cap',rfl,ha⟩
 .rcases h with⟨rfl,_⟩|⟨g,o,cap,hv,_,q,l,d⟩
  .omega
  .injection hv with h1 _ _;subst h1;exact .inr ⟨g,o,cap',rfl,e,Y,l,λi j m b=>d i j Y b⟩
end
def bG{α:Type}(f:α->Nat->aF)(d:α)(e:ap)(sz:Nat)(w0 w:aA)(v:aF)(l:List α):Prop:=
 eJ w v e sz (O l) (λi j=>f (ep l i d) j)/\∀g,gz v=H g->hJ w0.heap<=g
def eX{α:Type}(f:α->Nat->aF)(d:α)(sz:Nat)(w:aA)(v:aF)(l:List α):Prop:=Rd w v sz (O l) λi j=>f (ep l i d) j
section
variable{α:Type}{f:α->Nat->aF}{d:α}{e:ap}{sz:Nat}{w0 w w':aA}{v:aF}{l:List α}
theorem bG.rd(h:bG f d e sz w0 w v l):eX f d sz w v l:=h.1.rd
theorem bG.nil(w0 w:aA):bG f d e sz w0 w (hY K 0 0) []:=⟨eJ.nil _ _ _ _,λg a=>by cases a⟩
theorem bG.len(h:bG f d e sz w0 w v l):∃a cap,v=hY a (O l) cap/\O l<=bw:=h.1.len
theorem bG.eF(h:bG f d e sz w0 w v l)(a:U w S w' S')(b:∀g,gz v=H g->g∉S):bG f d e sz w0 w' v l:=⟨h.1.eF a b,h.2⟩
theorem bG.on(h:bG f d e sz w0 w v l)(a:U w [] w' S'):bG f d e sz w0 w' v l:=h.eF a (λ_ _=>X)
theorem bG.eE(h:bG f d e sz w0 w v l)(hs:hJ wb.heap<=hJ w0.heap):bG f d e sz wb w v l:=⟨h.1,λg a=>jN hs (h.2 g a)⟩
theorem bG.drew(h:bG f d e sz w0 w v l):bG f d e sz w0 w.drew v l:=⟨h.1,h.2⟩
theorem bG.ne(h:bG f d e sz w0 w v l){b:Nat}{t:ap}(a:w.heap[b]? =H (h8 cs t (0,0)))(c:e≠t):b∉v.ownBlock.toList:=λg=>eJ.ne h.1 a c (eI g)
theorem bG.set(h:bG f d e sz w0 w v l){b:Nat}{t:ap}(c:w.heap[b]? =H (h8 cs t (0,0)))(i:e≠t)(a:U w [b] w' S'):bG f d e sz w0 w' v l:=
 h.eF a (λg m j=>by
  obtain rfl:g=b:=eI j;exact h.ne c i (eI m))
theorem bG.jL{β:Type}{n:β->Nat->aF}{m:β}{i:List β}(h:bG f d e sz w0 w v l)(c:bG n m e2 sz2 wb w v2 i)(p:e≠e2)(j:U w v2.ownBlock.toList w' S'):bG f d e sz w0 w' v l:=
 h.eF j (λg b a=>eJ.J7 h.1 c.1 p g b (eI a))
theorem bG.zW(h:bG f d e sz w0 w v l){b:Nat}(c:b<hJ w0.heap):b∉v.ownBlock.toList:=λa=>by
 have:=h.2 b (eI a);omega
theorem eX.on(h:eX f d sz w v l)(a:U w [] w' S'):eX f d sz w' v l:=Rd.on h a
theorem eX.len(h:eX f d sz w v l):∃a cap,v=hY a (O l) cap/\O l<=bw:=Rd.len h
theorem eX.nil(w:aA):eX f d sz w (hY K 0 0) []:=Rd.nil w sz _
theorem eX.aU(h:eX f d sz w v l)(a:i<O l):∃g o cap,v=hY (H ⟨g,o,K⟩) (O l) cap/\g<hJ w.heap/\∀j,j<sz->e7 w ⟨g,o+i*sz+j,K⟩=H (f (ep l i d) j):=by
 let⟨g,o,cap,hv,c,b⟩:=Rd.aU h Y;grind
theorem eX.ad(h:eX f d sz w v l)(a:0<O l):∃g o cap,v=hY (H ⟨g,o,K⟩) (O l) cap:=by
 let⟨g,o,cap,hv,_⟩:=Rd.aU h a;grind
theorem eX.cells{o n:Nat}(h:eX f d sz w (hY (H ⟨g,o,K⟩) n cap) l)(a:i<O l):∀j,j<sz->e7 w ⟨g,o+i*sz+j,K⟩=H (f (ep l i d) j):=by
 let⟨g',b,cap',hv,_,c⟩:=h.aU a;grind
theorem kC{l:List α}{x d:α}:ep (l++[x]) i d=if i=O l then x else ep l i d:=by
 grind
theorem bG.wN{x:α}(h:eJ w v e sz (O l+1) (wN (λi j=>f (ep l i d) j) (O l) news))(c:∀j,j<sz->ep news j undef=f x j)(b:∀g,gz v=H g->hJ w0.heap<=g):bG f d e sz w0 w v (l++[x]):=by
 refine⟨?_,b⟩;rw[F5,Xd];refine h.congr λi j m a=> ?_;unfold Go.Proofs.YtbcooplfakebmaaGreatDoor.wN;rw[kC];split
 .exact c j a
 .rfl
theorem cK{t:ap}(C:jM P t e sz bytes){rest:List Oper}{o:Oper}{a:Act}(F:o.guard=K)(s y:Operand)(T:o.op= .call {callee:= .builtin .append,args:=#[s,y],argTypes:=#[t,t]})(m:bG f d e sz w0 w v l)(n:U w0 [] w [])(hs:a.eval s=v)(news:List aF)(x:α)(qs:a.eval y=hY (H ⟨w,0,K⟩) 1 1)(hl:O news=sz)(R:∀j,j<sz->ep news j undef=f x j)(S:news.all Value.oneCell'=oj)(B:(O l+1)*bytes<=140737488355328)(Q:O l+1<=bw)(h:∀g cap w',bG f d e sz w0 w' (hY (H ⟨g,0,K⟩) (O l+1) cap) (l++[x])->U w0 [] w' []->U w v.ownBlock.toList w' [g]->hJ w0.heap<=g->
   wpList P ops bBP rest (a.put o.dst (hY (H ⟨g,0,K⟩) (O l+1) cap)) w'):wpList P ops bBP (o::rest) a (e8 w (h8 news.toArray e)):=by
 obtain⟨i,z,qd,u,W,N,V,A⟩:=C.ex;refine qP w F s y t T e i z sz bytes qd u W N V A v (O l) _ m.1 hs news qs hl S B Q ?_;rintro v' w' G p b ⟨g,cap,rfl⟩;have r:hJ w0.heap<=g:=by
  rcases b g rfl with c|c
  .exact m.2 g c
  .exact jN n.size c
 have qL:bG f d e sz w0 w' (eB g 0 (O l+1) cap) (l++[x]):=bG.wN G R (λg' IW=>by grind [gz]);have L:U w v.ownBlock.toList w' [g]:=((U.refl w v.ownBlock.toList).grown p (λk b=> .inl (by rw[b];simp))).to (λk q=>by
  simp at q;subst q;rcases b k rfl with c|c<;>grind)
 exact h g cap w' qL (n.grown p (λk b=> .inr (m.2 k b))).nil L r
end
end
section
theorem ZM153{P:Prop}(h:P:=by
  exact h.one v i j hi hj (this i hi ti) (this j hj tj)):P:=h
def Er(S:Nat->Nat->Prop)(r:Nat)(cW:Nat->Nat)(v i:Nat):Prop:=S i v/\(i=r\/¬S (cW i) v)
structure J3(ns:List Nat)(S:Nat->Nat->Prop)(r:Nat)(cW rk:Nat->Nat):Prop where
 dL:r∈ns
 up:∀i,i∈ns->i≠r->cW i∈ns/\rk (cW i)<rk i
 one:∀v i j,i∈ns->j∈ns->Er S r cW v i->Er S r cW v j->i=j
def oH(ns:List Nat)(S:Nat->Nat->Prop):Prop:=∃r cW rk,J3 ns S r cW rk
section
variable{ns:List Nat}{S:Nat->Nat->Prop}{r:Nat}{cW rk:Nat->Nat}
theorem J3.aKh(h:J3 ns S r cW rk):∀n i,rk i<=n->i∈ns->i≠r->rk r<rk i
 |n,i,hn,hi,hr=>by
  let⟨b,c⟩:=h.up i hi hr;by_cases a:cW i=r
  .grind
  .match n,hn with
   |0,hn=>omega
   |n+1,hn=>exact Nat.lt_trans (h.aKh n (cW i) Y b a) c
theorem J3.lW(h:J3 ns S r cW rk)(v:Nat):∀n i,rk i<=n->i∈ns->S i v->∃t,t∈ns/\Er S r cW v t/\(t=i\/∃c,c∈ns/\c≠r/\cW c=t)
 |n,i,hn,hi,hv=>by
  by_cases b:i=r
  .exact⟨i,hi,⟨hv,.inl b⟩,.inl rfl⟩
  .by_cases a:S (cW i) v
   .let⟨d,l⟩:=h.up i hi b;match n,hn with
    |0,hn=>omega
    |n+1,hn=>
     let⟨t,g,e,j⟩:=h.lW v n (cW i) Y d a;grind
   .exact⟨i,hi,⟨hv,.inr a⟩,.inl rfl⟩
theorem J3.down(h:J3 ns S r cW rk)(F:c∈ns)(f:c≠r)(qL:cW c=r):
  J3 ns S c (λi=>if i=r then c else cW i) (λi=>if i=c then 0 else rk i+1) where
 dL:=F
 up:=λi l b=>by
  by_cases m:i=r
  .grind
  .let⟨q,a⟩:=h.up i l m;simp only[if_neg m,if_neg b];refine⟨q,?_⟩;split<;>omega
 one:=λv i j l B z A=>by
  have gH:∀x,x∈ns->Er S c (λi=>if i=r then c else cW i) v x->x≠c->Er S r cW v x/\(x=r->¬S c v):=by
   intro x N L n;obtain⟨q,a⟩:=L;by_cases u:x=r
   .subst u;rcases a with a|a
    .exact dS a n
    .simp only[uN]at a;exact⟨⟨q,.inl rfl⟩,λ_=>a⟩
   .rcases a with a|a
    .exact dS a n
    .simp only[bD u]at a;exact⟨⟨q,.inr a⟩,λe=>dS e u⟩
  have g:∀y,y∈ns->Er S c (λi=>if i=r then c else cW i) v y->S c v->y=c:=by
   intro y w ty hv;by_cases d:y=c
   .exact d
   .let⟨C,k2⟩:=gH y w ty d;by_cases G:S r v
    .have:=h.one v y r w h.dL C ⟨G,.inl rfl⟩;grind
    .exact dS (h.one v y c w F C ⟨hv,.inr (qL▸G)⟩) d
  by_cases b:i=c
  .subst b;exact(g j B A z.1).symm
  .by_cases p:j=c
   .subst p;exact g i l z A.1
   .exact h.one v i j l B (gH i l z b).1 (gH j B A p).1
theorem J3.Fs(h:J3 ns S r cW rk):∀n i,rk i<=n->i∈ns->∃a b,J3 ns S i a b/\∀j,j∈ns->rk i<rk j->a j=cW j
 |n,i,hn,hi=>by
  by_cases g:i=r
  .grind
  .let⟨l,m⟩:=h.up i hi g;match n,hn with
   |0,hn=>omega
   |n+1,hn=>
    let⟨a,b,c,p⟩:=h.Fs n (cW i) Y l;have q:i≠cW i:=λe=>by grind
    refine⟨_,_,c.down hi q (p i hi m),λj u v=> ?_⟩;grind
theorem oH.at(h:oH ns S)(b:i∈ns):∃cW rk,J3 ns S i cW rk:=by
 obtain⟨r,cW,rk,h⟩:=h;let⟨a,c,d,_⟩:=h.Fs _ i (fV _) b;grind
theorem oH.congr{S':Nat->Nat->Prop}(h:oH ns S)(b:∀i v,i∈ns->(S i v↔S' i v)):oH ns S':=by
 obtain⟨r,cW,rk,h⟩:=h;refine⟨r,cW,rk,h.dL,h.up,λv i j hi hj ti tj=> ?_⟩;have:∀x,x∈ns->Er S' r cW v x->Er S r cW v x:=λx c d=>by
  refine⟨(b x v c).2 d.1,?_⟩;by_cases a:x=r
  .exact .inl a
  .exact .inr (λhs=>(d.2.resolve_left a) ((b _ v (h.up x c a).1).1 hs))
 exact ZM153
theorem oH.aQv{ms:List Nat}(h:oH ns S)(a:∀i,i∈ns↔i∈ms):oH ms S:=by
 obtain⟨r,cW,rk,h⟩:=h;exact⟨r,cW,rk,(a r).1 h.dL,λi b c=>⟨(a _).1 (h.up i ((a i).2 b) c).1,(h.up i ((a i).2 b) c).2⟩,λv i j b d=>h.one v i j ((a i).2 b) ((a j).2 d)⟩
theorem oH.aBb{S':Nat->Nat->Prop}{C:Nat->Prop}(l:∀v,C v->∀j,j∈ns->j≠e->¬S j v)(m:∀i v,i∈ns->(S' i v↔S i v/\¬(i=e/\C v))):oH ns S↔oH ns S':=by
 have d:∀v,¬C v->∀i,i∈ns->(S' i v↔S i v):=λv hv i hi=>by
  grind
 constructor
 .rintro⟨r,cW,rk,h⟩;refine⟨r,cW,rk,h.dL,h.up,λv i j hi hj ti tj=> ?_⟩;by_cases hv:C v
  .grind [Er]
  .have:∀x,x∈ns->Er S' r cW v x->Er S r cW v x:=λx b c=>by
    refine⟨(d v hv x b).1 c.1,?_⟩;by_cases a:x=r
    .exact .inl a
    .exact .inr (λhs=>(c.2.resolve_left a) ((d v hv _ (h.up x b a).1).2 hs))
   exact ZM153
 .rintro⟨r,cW,rk,h⟩;refine⟨r,cW,rk,h.dL,h.up,λv i j hi hj ti tj=> ?_⟩;by_cases hv:C v
  .have:∀x,x∈ns->Er S r cW v x->x=e:=λx b c=>zbT λg=>l v hv x b g c.1;rw[this i hi ti,this j hj tj]
  .have:∀x,x∈ns->Er S r cW v x->Er S' r cW v x:=λx b c=>by
    refine⟨(d v hv x b).2 c.1,?_⟩;by_cases a:x=r
    .exact .inl a
    .exact .inr (λhs=>(c.2.resolve_left a) ((d v hv _ (h.up x b a).1).1 hs))
   exact ZM153
theorem oH.aEY{ms:List Nat}{k:Nat}(B:e∈ns)(l:k∈ns)(g:e≠k)(C:∀v,S e v->S k v)(a:∀i,i∈ms↔i∈ns/\i≠e):oH ns S↔oH ms S:=by
 constructor
 .intro h;let⟨cW,rk,h⟩:=h.at l;let⟨P,w⟩:=h.up e B g;have T:cW e≠e:=λx=>by rw[x]at w;omega
  have Q:∀v,S e v->S (cW e) v:=λv hv=>zbT λu=>g (h.one v e k B l ⟨hv,.inr u⟩ ⟨C v hv,.inl rfl⟩);refine⟨k,λi=>if cW i=e then cW e else cW i,rk,(a k).2 ⟨l,Ne.symm g⟩,λi b y=> ?_,λv i j b A n p=> ?_⟩
  .let⟨b,c⟩:=(a i).1 b;let⟨z,m⟩:=h.up i b y;grind
  .have:∀x,Er S k (λi=>if cW i=e then cW e else cW i) v x->Er S k cW v x:=λx d=>by
    refine⟨d.1,d.2.imp id λu=> ?_⟩;grind
   exact h.one v i j ((a i).1 b).1 ((a j).1 A).1 (this i n) (this j p)
 .rintro⟨r,cW,rk,h⟩;have R:k∈ms:=(a k).2 ⟨l,Ne.symm g⟩;have G:=((a r).1 h.dL).2;refine⟨r,λi=>if i=e then k else cW i,λi=>if i=e then rk k+1 else rk i,((a r).1 h.dL).1,λi b q=> ?_,λv i j b A n p=> ?_⟩
  .by_cases c:i=e
   .grind
   .let⟨z,m⟩:=h.up i ((a i).2 ⟨b,c⟩) q;grind
  .have:∀x,x∈ns->Er S r (λi=>if i=e then k else cW i) v x->x∈ms/\Er S r cW v x:=λx o d=>by
    obtain⟨z,m⟩:=d;by_cases qL:x=e
    .grind
    .refine⟨(a x).2 ⟨o,qL⟩,z,m.imp id λu=> ?_⟩;grind
   let⟨f,L⟩:=this i b n;let⟨N,F⟩:=this j A p;exact h.one v i j f N L F
theorem OF(f:Nat->Nat):∀(l:List Nat),l≠[]->∃i,i∈l/\∀j,j∈l->f j<=f i
 |[],h=>dS rfl h
 |[a],_=>⟨a,X,λj c=>by grind⟩
 |a::b::l,_=>by
  let⟨i,d,e⟩:=OF f (b::l) X;grind
theorem oH.stuck(h:oH ns S)(l:∀i v,i∈ns->S i v->∃j,j∈ns/\j≠i/\S j v)(u:∀i j,i∈ns->j∈ns->i≠j->∃v,S i v/\¬S j v):∀i v,i∈ns->¬S i v:=by
 obtain⟨r,cW,rk,h⟩:=h;let⟨i,d,A⟩:=OF rk ns (List.ne_nil_of_mem h.dL);have a:i=r:=zbT λa=>by
  let⟨q,B⟩:=h.up i d a;let⟨v,hv,x⟩:=u i (cW i) d q (λe=>by grind);let⟨j,n,p,m⟩:=l i v d hv;let⟨t,w,y,b⟩:=h.lW v _ j (fV _) n m;obtain rfl:t=i:=h.one v t i w d y ⟨hv,.inr x⟩;rcases b with b|⟨c,b,g,z⟩
  .exact p b.symm
  .have:=(h.up c b g).2;grind
 subst a;have FO:∀j,j∈ns->j=i:=λj n=>zbT λp=>by
  have q:=h.aKh _ j (fV _) n p;grind
 grind
theorem oH.Yz{qL:Nat->Prop}{hd:Nat}(h:oH (hd::ns) S)(q:hd∉ns)(hK:∀i v,i∈ns->S i v->(qL v↔S hd v))(m:∀i v,i∈ns->S i v->¬qL v->∃j,j∈ns/\j≠i/\S j v)(y:∀i j,i∈ns->j∈ns->i≠j->∃v,S i v/\¬S j v):∀i v,i∈ns->S i v->qL v:=by
 let⟨cW,rk,h⟩:=h.at (rg ..);have F:∀i,i∈ns->i≠hd:=λi a e=>q (e▸a);have g:∀{i},i∈ns->i∈hd::ns:=λa=>RL _ a;have T:∀i,i∈ns->cW i=hd:=by
  intro f z;refine zbT λn=> ?_;let⟨i,a,A⟩:=OF rk (ns.filter λi=>decide (cW i≠hd)) (List.ne_nil_of_mem (T8.2 ⟨z,kI n⟩));let⟨a,l⟩:=T8.1 a;let⟨k,P⟩:=h.up i (g a) (F i a);have Q:∀c,c∈hd::ns->c≠hd->cW c≠i:=λc r x e=>by
   have:=A c (T8.2 ⟨(AU.1 r).resolve_left x,kI GJ⟩);have:=(h.up c r x).2;grind
  let⟨v,hv,G⟩:=y i (cW i) a ((AU.1 k).resolve_left (of_decide_eq_true l)) (λe=>by grind);have R:∀j,j∈hd::ns->S j v->j=i:=λj w b=>by
   let⟨t,B,L,r⟩:=h.lW v _ j (fV _) w b;obtain rfl:t=i:=h.one v t i B (g a) L ⟨hv,.inr G⟩;grind
  grind
 intro i v a hv;refine zbT λd=> ?_;let⟨j,w,N,b⟩:=m i v a hv d;have C:¬S hd v:=λhs=>d ((hK i v a hv).2 hs);exact N (h.one v j i (g w) (g a) ⟨b,.inr GJ⟩ ⟨hv,.inr GJ⟩)
theorem oH.aBu(i:Nat)(S:Nat->Nat->Prop):oH [i] S:=
 ⟨i,id,id,X,λj d e=>dS (eI d) e,λv a b ha c _ _=>by simp at ha c;rw[ha,c]⟩
end
end
abbrev ES:=Nat×Nat
def fD(a b:Nat):Nat:=a^^^(a&&&b)
theorem cI(a b v:Nat):(fD a b).testBit v=(a.testBit v&& !b.testBit v):=by
 unfold fD;rw[Nat.testBit_xor,Nat.testBit_and];cases a.testBit v<;>cases b.testBit v<;>rfl
def part(a b:Nat):Bool:=fD a b==0
theorem kR{a:Nat}:part a b=oj↔∀v,a.testBit v=oj->b.testBit v=oj:=by
 unfold part;rw[JY];constructor
 .intro h v hv;have:=cI a b v;grind
 .intro h;refine Fb λv=> ?_;grind [cI]
theorem CB{a:Nat}(h:a≠0):∃v,a.testBit v=oj:=by
 refine zbT λb=>h (Fb λv=> ?_);grind
theorem Rn{a:Nat}(h:part a b=po):∃v,a.testBit v=oj/\b.testBit v=po:=by
 have:fD a b≠0:=λe=>by grind [part]
 let⟨v,hv⟩:=CB this;grind [cI]
def yR(l:List ES):Nat:=l.foldr (λx s=>x.2|||s) 0
theorem yE(l:List ES)(v:Nat):(yR l).testBit v=l.any λx=>x.2.testBit v:=by
 induction l with
 |nil=>simp[yR]
 |cons x l ih=>
  show(x.2|||yR l).testBit v=_;rw[Nat.testBit_or,ih,List.any_cons]
def BN(l:List ES)(e:Nat):Nat:=yR (l.filter λx=>x.1 !=e)
structure cT where
 aG:Nat
 bP:Nat
 eK:Nat
 cut:Nat
deriving DecidableEq,Inhabited
def sP(l:List ES)(dg:Nat)(x:ES):Nat:=fD (fD x.2 dg) (BN l x.1)
def oR(l:List ES)(dg:Nat):Option cT:=(l.find? λx=>sP l dg x !=0).map λx=>⟨1,x.1,0,sP l dg x⟩
def mF:List ES->Option cT
 |[]=>K
 |x::r=>((r.find? λy=>y.2==x.2).map λy=>⟨2,y.1,x.1,0⟩).or (mF r)
def qE(l:List ES):Option cT:=l.findSome? λx=>(l.find? λy=>x.2 !=y.2&&part x.2 y.2).map λy=>⟨3,x.1,y.1,0⟩
def next(l:List ES)(dg:Nat):Option cT:=(oR l dg).or ((mF l).or (qE l))
def make(l:List ES)(s:cT):List ES:=if s.aG=1 then l.map λx=>if x.1=s.bP then(x.1,fD x.2 s.cut)else x else l.filter λx=>x.1 !=s.bP
def Mem(l:List ES)(e v:Nat):Prop:=∃s,(e,s)∈l/\s.testBit v=oj
def nK(l:List ES):List Nat:=l.map (·.1)
def JT(l:List ES):Prop:=oH (nK l) (Mem l)
theorem GR{l:List ES}(hd:(nK l).Nodup){s t:Nat}(a:(e,s)∈l)(b:(e,t)∈l):s=t:=by
 induction l with
 |nil=>cases a
 |cons x l ih=>
  grind [nK]
theorem pN{l:List ES}:e∈nK l↔∃s,(e,s)∈l:=by
 grind [nK]
theorem GZ{l:List ES}{v:Nat}:(BN l e).testBit v=oj↔∃j,j≠e/\Mem l j v:=by
 unfold BN;rw[yE,kq];constructor
 .rintro⟨x,a,hv⟩;let⟨a,c⟩:=T8.1 a;exact⟨x.1,by simpa using c,x.2,a,hv⟩
 .rintro⟨j,b,s,hs,hv⟩;exact⟨(j,s),T8.2 ⟨hs,by simpa using b⟩,hv⟩
def uJ(l:List ES)(dg:Nat)(s:cT):Prop:=
 (s.aG=1/\s.eK=0/\∃t,(s.bP,t)∈l/\s.cut=sP l dg (s.bP,t)/\s.cut≠0)\/
 ((s.aG=2\/s.aG=3)/\s.cut=0/\s.bP≠s.eK/\∃a b,(s.bP,a)∈l/\(s.eK,b)∈l/\part a b=oj)
theorem EH{l:List ES}(hd:(nK l).Nodup){s:cT}(h:mF l=H s):s.aG=2/\s.cut=0/\s.bP≠s.eK/\∃a,(s.bP,a)∈l/\(s.eK,a)∈l:=by
 induction l with
 |nil=>cases h
 |cons x r ih=>
  rw[nK,UU,Fa]at hd;unfold mF at h;cases b:r.find? λy=>y.2==x.2 with
  |none=>
   rw[b]at h;let⟨g,i,e,a,d,c⟩:=ih hd.2 (eI h);grind
  |some y=>
   grind
theorem yK{l:List ES}(h:mF l=K):l.Pairwise λx y=>y.2≠x.2:=by
 induction l with
 |nil=>simp_all
 |cons x r ih=>
  unfold mF at h;rw[Option.or_eq_none_iff]at h;refine List.Pairwise.cons (λy b a=> ?_) (ih h.2);grind [Option.map_eq_none_iff]
theorem BP{l:List ES}(hd:(nK l).Nodup){s:cT}(h:qE l=H s):s.aG=3/\s.cut=0/\s.bP≠s.eK/\∃a b,(s.bP,a)∈l/\(s.eK,b)∈l/\part a b=oj:=by
 unfold qE at h;let⟨x,c,h⟩:=List.exists_of_findSome?_eq_some h;grind [Option.map_eq_some_iff,GR]
theorem XX{l:List ES}(h:qE l=K){x y:ES}(c:x∈l)(b:y∈l)(a:x.2≠y.2):part x.2 y.2=po:=by
 grind [qE,Option.map_eq_none_iff]
theorem iK{l:List ES}(hd:(nK l).Nodup){dg:Nat}{s:cT}(h:next l dg=H s):uJ l dg s:=by
 unfold next at h;cases c:oR l dg with
 |some t=>
  rw[c]at h;obtain rfl:t=s:=eI h;unfold oR at c;obtain⟨x,e,rfl⟩:=Option.map_eq_some_iff.1 c;exact .inl ⟨rfl,rfl,x.2,List.mem_of_find?_eq_some e,rfl,GJ⟩
 |none=>
  rw[c]at h;cases d:mF l with
  |some t=>
   rw[d]at h;obtain rfl:t=s:=eI h;obtain⟨a1,a2,a3,a,a4,a5⟩:=EH hd d;exact .inr ⟨.inl a1,a2,a3,a,a,a4,a5,kR.2 λ_ hv=>hv⟩
  |none=>
   rw[d]at h;obtain⟨a1,a2,a3,a,b,a4,a5,a6⟩:=BP hd (eI h);exact .inr ⟨.inr a1,a2,a3,a,b,a4,a5,a6⟩
theorem RZ{l:List ES}{dg:Nat}(h:next l dg=K):oR l dg=K/\mF l=K/\qE l=K:=by
 grind [next]
theorem tJ{l:List ES}{s:cT}(h:s.aG=1):nK (make l s)=nK l:=by
 unfold make nK;rw[bR h,List.map_map];refine List.map_congr_left λx _=> ?_;show(if x.1=s.bP then(x.1,fD x.2 s.cut)else x).1=x.1;split<;>rfl
theorem qG{l:List ES}{s:cT}(h:s.aG≠1):nK (make l s)=(nK l).filter λi=>i !=s.bP:=by
 unfold make nK;rw[bD h,List.filter_map];rfl
theorem rL{l:List ES}(hd:(nK l).Nodup)(s:cT):(nK (make l s)).Nodup:=by
 grind [tJ,qG]
theorem N9{l:List ES}{s:cT}(h:s.aG=1)(i v:Nat):Mem (make l s) i v↔Mem l i v/\¬(i=s.bP/\s.cut.testBit v=oj):=by
 grind [Mem,make,fD]
theorem NA{l:List ES}{s:cT}(h:s.aG≠1)(i v:Nat):Mem (make l s) i v↔Mem l i v/\i≠s.bP:=by
 grind [Mem,make]
theorem uJ.jt{l:List ES}(hd:(nK l).Nodup){dg:Nat}{s:cT}(h:uJ l dg s):JT l↔JT (make l s):=by
 unfold JT;rcases h with⟨c,_,t,y,p,_⟩|⟨c,p,r,a,b,ha,d,q⟩
 .rw[tJ c];refine oH.aBb (e:=s.bP) (C:=λv=>s.cut.testBit v=oj) (λv hv j w m u=> ?_) (λi v _=>N9 c i v);grind [sP,cI,GZ]
 .have z:s.aG≠1:=Y;refine(oH.aEY (e:=s.bP) (k:=s.eK) (ms:=nK (make l s)) (pN.2 ⟨a,ha⟩) (pN.2 ⟨b,d⟩) r (λv hv=> ?_) (λi=> ?_)).trans ?_
  .obtain⟨x,n,hv⟩:=hv;rw[GR hd n ha]at hv;exact⟨b,d,kR.1 q v hv⟩
  .grind [qG]
  .have:∀i v,i∈nK (make l s)->(Mem l i v↔Mem (make l s) i v):=λi v g=>by
    grind [NA,qG]
   exact⟨λh=>h.congr this,λh=>h.congr λi v g=>(this i v g).symm⟩
theorem vr{l:List ES}{s:cT}{x:ES}(h:x.1≠s.bP):make (x::l) s=x::make l s:=by
 grind [make]
theorem uJ.wv{l:List ES}{hd f:Nat}(m:(nK ((hd,f)::l)).Nodup){dg:Nat}(x:part f dg=oj){s:cT}(h:uJ l dg s):JT ((hd,f)::l)↔JT ((hd,f)::make l s):=by
 have w:∀{i t},(i,t)∈l->i≠hd:=λ{i t} g e=>by
  grind [nK]
 have n:(hd,f).1≠s.bP:=by
  rcases h with⟨_,_,t,j,_,_⟩|⟨_,_,_,a,_,ha,_,_⟩
  .grind
  grind
 rw[<-vr n];rcases h with⟨c,g,t,j,d,q⟩|⟨c,d,u,a,b,ha,p,r⟩
 .refine uJ.jt m (dg:=dg) (.inl ⟨c,g,t,RL _ j,?_,q⟩);rw[d];refine Fb λv=> ?_;grind [sP,cI,kR,BN,yE]
 .exact uJ.jt m (dg:=dg) (.inr ⟨c,d,u,a,b,RL _ ha,RL _ p,r⟩)
def bits(s:Nat):Nat:=O ((List.range 32).filter λv=>s.testBit v)
def eD(l:List ES):Nat:=(l.map λx=>bits x.2+1).sum
theorem aI6{a:Nat}(d:a<2^32)(g:c≠0)(i:∀v,c.testBit v=oj->a.testBit v=oj):bits (fD a c)<bits a:=by
 unfold bits;let⟨v,hv⟩:=CB g;have b:v<32:=by
  rcases WB v 32 with h|h
  .exact h
  .have:=zbN (wM d (Cr D h));grind
 have e:((List.range 32).filter λv=>(fD a c).testBit v)=((List.range 32).filter λv=>a.testBit v).filter λv=> !c.testBit v:=by
  rw[List.filter_filter];refine List.filter_congr λx _=> ?_;rw[cI,Bool.and_comm]
 rw[e];refine List.length_filter_lt_length_iff_exists.2 ⟨v,T8.2 ⟨yD.2 b,i v hv⟩,?_⟩;rw[hv];simp
theorem lV(x:ES)(l:List ES):eD (x::l)=bits x.2+1+eD l:=by
 unfold eD;rw[UU,List.sum_cons]
def jS(l:List ES):Prop:=∀x,x∈l->x.2<2^32
theorem AL(a b:Nat):fD a b<=a:=Nat.le_of_testBit λv hv=>by
 grind [cI]
theorem BR{l:List ES}(h:jS l)(s:cT):jS (make l s):=by
 intro x a;unfold make at a;split at a
 .obtain⟨y,b,rfl⟩:=BB.1 a;split
  .exact Og (AL _ _) (h y b)
  .exact h y b
 .exact h x (T8.1 a).1
theorem JZ(l:List ES)(e c:Nat):eD (l.map λx=>if x.1=e then(x.1,fD x.2 c)else x)<=eD l:=by
 induction l with
 |nil=>exact fV _
 |cons x l ih=>
  rw[UU,lV,lV];have:bits (if x.1=e then(x.1,fD x.2 c)else x).2<=bits x.2:=by
   split
   .unfold bits;have a:((List.range 32).filter λv=>(fD x.2 c).testBit v)=((List.range 32).filter λv=>x.2.testBit v).filter λv=> !c.testBit v:=by
     rw[List.filter_filter];refine List.filter_congr λy _=> ?_;rw[cI,Bool.and_comm]
    grind
   omega
  omega
theorem WJ(l:List ES)(e:Nat):eD (l.filter λx=>x.1 !=e)<=eD l:=by
 induction l with
 |nil=>exact fV _
 |cons x l ih=>
  grind [lV]
theorem o9{l:List ES}(hs:jS l){dg:Nat}{s:cT}(h:uJ l dg s):eD (make l s)<eD l:=by
 unfold make;rcases h with⟨e,_,t,i,p,m⟩|⟨e,p,u,a,b,ha,q,r⟩
 .rw[bR e];have j:∀v,s.cut.testBit v=oj->t.testBit v=oj:=λv hv=>by
   grind [sP,cI]
  have gH:∀l:List ES,(s.bP,t)∈l->eD (l.map λx=>if x.1=s.bP then(x.1,fD x.2 s.cut)else x)<eD l:=by
   intro l;induction l with
   |nil=>intro h;cases h
   |cons x l ih=>
    intro d;rw[UU,lV,lV];rcases AU.1 d with d|d
    .subst d;have g:=JZ l s.bP s.cut;have n:=aI6 (a:=t) (c:=s.cut) (hs _ i) m j;grind
    .have g:=ih d;have n:=JZ [x] s.bP s.cut;grind [lV]
  exact gH l i
 .rw[bD Y];have gH:∀l:List ES,(s.bP,a)∈l->eD (l.filter λx=>x.1 !=s.bP)<eD l:=by
   intro l;induction l with
   |nil=>intro h;cases h
   |cons x l ih=>
    intro d;rw[List.filter_cons];rcases AU.1 d with d|d
    .subst d;have g:=WJ l s.bP;grind [lV]
    grind [lV]
  exact gH l ha
def run(dg:Nat):Nat->List ES->List cT×List ES
 |0,l=>([],l)
 |n+1,l=>match next l dg with
  |none=>([],l)
  |some s=>(s::(run dg n (make l s)).1,(run dg n (make l s)).2)
theorem K8{dg:Nat}{l:List ES}(h:next l dg=K):run dg n l=([],l):=by
 cases n with
 |zero=>rfl
 |succ n=>unfold run;rw[h]
theorem K7{dg:Nat}{l:List ES}{s:cT}(h:next l dg=H s):run dg (n+1) l=(s::(run dg n (make l s)).1,(run dg n (make l s)).2):=by
 rw[run,h]
theorem FD{dg:Nat}{p:List ES->Prop}(b:∀l s,(nK l).Nodup->jS l->p l->next l dg=H s->p (make l s)):∀n l,eD l<=n->(nK l).Nodup->jS l->p l->
  p (run dg n l).2/\(nK (run dg n l).2).Nodup/\jS (run dg n l).2/\next (run dg n l).2 dg=K
 |n,l,hw,hd,hs,h=>by
  cases a:next l dg with
  |none=>grind [K8]
  |some s=>
   have c:=o9 hs (iK hd a);match n,hw with
   |0,hw=>omega
   |n+1,hw=>
    rw[K7 a];exact FD b n (make l s) Y (rL hd s) (BR hs s) (b l s hd hs h a)
theorem TS{l:List ES}{dg:Nat}{s:cT}(h:uJ l dg s):make l s≠[]:=by
 intro j;rcases h with⟨c,_,t,i,_,_⟩|⟨c,e,m,a,b,ha,d,g⟩
 .grind [make,List.map_eq_nil_iff]
 grind [make,List.filter_eq_nil_iff]
theorem WV{l:List ES}{dg:Nat}(c:oR l dg=K){v:Nat}(g:Mem l i v)(e:dg.testBit v=po):∃j,j∈nK l/\j≠i/\Mem l j v:=by
 obtain⟨t,p,hv⟩:=g;unfold oR at c;rw[Option.map_eq_none_iff,List.find?_eq_none]at c;have m:sP l dg (i,t)=0:=eI (c _ p);have d:(sP l dg (i,t)).testBit v=po:=by rw[m,Nat.zero_testBit]
 rw[sP,cI,cI,hv,e]at d;have n:(BN l i).testBit v=oj:=eI d;let⟨j,q,b⟩:=GZ.1 n;have a:=b;obtain⟨s,hs,_⟩:=a;grind [pN]
theorem Fl{l:List ES}(hd:(nK l).Nodup)(d:mF l=K)(r:qE l=K)(m:i∈nK l)(x:j∈nK l)(F:i≠j):∃v,Mem l i v/\¬Mem l j v:=by
 let⟨a,ha⟩:=pN.1 m;let⟨b,g⟩:=pN.1 x;have n:a≠b:=by
  intro e;subst e;have y:=yK d;rw[List.pairwise_iff_forall_sublist]at y;let⟨p,u,z⟩:=Pn ha;let⟨q,B,C⟩:=Pn g;have A:=List.pairwise_iff_getElem.1 (yK d);grind
 have:=XX r ha g n;let⟨v,w,d⟩:=Rn this;refine⟨v,⟨a,ha,w⟩,λ⟨c,hc,hv⟩=> ?_⟩;grind [GR]
theorem Wb{l:List ES}(A:l≠[])(hd:(nK l).Nodup)(hs:jS l)(C:eD l<=n):JT l↔∀x,x∈(run 0 n l).2->x.2=0:=by
 let⟨⟨d,c⟩,q,L,B⟩:=FD (dg:=0) (p:=λf=>(JT l↔JT f)/\f≠[]) (λf s a _ z b=>⟨z.1.trans (uJ.jt a (iK a b)),TS (iK a b)⟩) n l C hd hs ⟨Iff.rfl,A⟩;let⟨G,g,F⟩:=RZ B;rw[d];generalize (run 0 n l).2=f at*;constructor
 .intro h x e;refine zbT λu=> ?_;let⟨v,hv⟩:=CB u;exact oH.stuck h (λi v _ w=>WV G w (Nat.zero_testBit v)) (λi j m d k=>Fl q g F m d k) x.1 v (pN.2 ⟨x.2,e⟩) ⟨x.2,e,hv⟩
 .intro h;match f,c with
  |[x],_=>exact oH.aBu x.1 _
  |x::y::r,_=>
   have qL:=yK g;simp_all
theorem ic{l:List ES}(hd:(nK l).Nodup)(hs:jS l)(N:eD l<=n)(dg:Nat)(Q:e∉nK l):
  JT ((e,dg&&&yR l)::l)↔∀x,x∈(run dg n l).2->part x.2 dg=oj:=by
 have hH:part (dg&&&yR l) dg=oj:=kR.2 λv hv=>by grind
 let⟨⟨r,z,b⟩,Z9,W,B⟩:=FD (dg:=dg) (p:=λf=>(JT ((e,dg&&&yR l)::l)↔JT ((e,dg&&&yR l)::f))/\e∉nK f/\∀i v,Mem f i v->(yR l).testBit v=oj)
  (λf s T _ hf F=>by
   grind [iK,uJ.wv,nK,tJ,qG,N9,NA]) n l N hd hs ⟨Iff.rfl,Q,λi v d=>by
   obtain⟨t,w,hv⟩:=d;grind [yE]⟩
 let⟨P,S,k⟩:=RZ B;rw[r];generalize (run dg n l).2=f at*;generalize yR l=bBJ at*;have a:(nK ((e,dg&&&bBJ)::f)).Nodup:=by grind [nK]
 have dW:∀{i},i∈nK f->i≠e:=λg h=>z (h▸g);have u:∀i v,i∈nK f->(Mem ((e,dg&&&bBJ)::f) i v↔Mem f i v):=λi v g=>by
  unfold Mem;grind
 have L:∀v,Mem ((e,dg&&&bBJ)::f) e v↔(dg.testBit v=oj/\bBJ.testBit v=oj):=λv=>by
  grind [Mem,GR]
 constructor
 .intro h x A;refine kR.2 λv hv=> ?_;have q:Mem f x.1 v:=⟨x.2,A,hv⟩;have c:x.1∈nK f:=pN.2 ⟨x.2,A⟩;refine oH.Yz (qL:=λv=>dg.testBit v=oj) (hd:=e) (ns:=nK f) h z (λi v g d=> ?_) (λi v g d hk=> ?_) (λi j g r Xq=> ?_) x.1 v c ((u _ _ c).2 q)
  .grind
  .grind [WV]
  grind [Fl]
 .intro h;clear r P S k B;have gH:∀f:List ES,(nK ((e,dg&&&bBJ)::f)).Nodup->(∀x,x∈f->part x.2 dg=oj)->(∀i v,Mem f i v->bBJ.testBit v=oj)->JT ((e,dg&&&bBJ)::f):=by
   intro f;induction f with
   |nil=>intro _ _ _;exact oH.aBu e _
   |cons x f ih=>
    intro a C b;have m:=a;rw[nK,UU,UU,Fa,Fa]at m;have V:x.1≠e:=λh=>m.1 GJ;have G:uJ ((e,dg&&&bBJ)::x::f) 0 ⟨2,x.1,e,0⟩:= .inr ⟨.inl rfl,rfl,V,x.2,dg&&&bBJ,X,X,kR.2 λv hv=>by
     rw[Nat.testBit_and,Xb];exact⟨kR.1 (C x X) v hv,b x.1 v ⟨x.2,X,hv⟩⟩⟩
    rw[uJ.jt a G];have o:make ((e,dg&&&bBJ)::x::f) ⟨2,x.1,e,0⟩=(e,dg&&&bBJ)::f:=by
     grind [make,List.filter_eq_self]
    rw[o];refine ih ?_ (λy R=>C y (RL _ R)) (λi v d=> ?_)
    .grind [nK]
    .obtain⟨t,w,hv⟩:=d;exact b i v ⟨t,RL _ w,hv⟩
  grind
variable{cW:List Int}{aR:Nat}
def rP(cW:List Int):Nat->Int->Int
 |0,a=>a
 |n+1,a=>if a<0 then a else rP cW n (ep cW a.toNat 0)
def tS(cW:List Int):Bool:=(List.range (O cW)).all λi=>decide (rP cW (O cW) (i:Int)<0)
def J6(aJ:List Nat)(cW:List Int)(v i:Nat):Bool:=(ep aJ i 0).testBit v&&(decide (ep cW i 0<0)|| !(ep aJ (ep cW i 0).toNat 0).testBit v)
def AM(aJ:List Nat)(aR:Nat)(cW:List Int):Bool:=(List.range aR).all λv=>
 !((List.range (O aJ)).any λi=>(ep aJ i 0).testBit v)||O ((List.range (O aJ)).filter λi=>J6 aJ cW v i)==1
def C3(m:Nat)(test:List Int->Bool):Nat->List Int->Bool
 |0,pre=>test pre
 |k+1,pre=>(List.range m).any λp=>p !=O pre&&C3 m test k (pre++[(p:Int)])
def jZ(aJ:List Nat)(aR:Nat):Bool:=
 aJ.isEmpty||C3 (O aJ) (λcW=>tS cW&&AM aJ aR cW) (O aJ-1) [-1]
def bW(aJ:List Nat):List ES:=(List.range (O aJ)).map λi=>(i,ep aJ i 0)
theorem xL(aJ:List Nat):nK (bW aJ)=List.range (O aJ):=by
 unfold nK bW;rw[List.map_map];exact List.map_id' _
theorem oT{aJ:List Nat}{s:Nat}:(i,s)∈bW aJ↔i<O aJ/\s=ep aJ i 0:=by
 grind [bW]
theorem yB{aJ:List Nat}{v:Nat}:Mem (bW aJ) i v↔i<O aJ/\(ep aJ i 0).testBit v=oj:=by
 grind [Mem,oT]
theorem SN(m:Nat)(a:List Int->Bool):∀k b,C3 m a k b=oj↔∃c:List Int,O c=k/\(∀j,j<k->∃p:Nat,p<m/\p≠O b+j/\ep c j 0=(p:Int))/\a (b++c)=oj
 |0,b=>by
  unfold C3;constructor
  .intro h;exact⟨[],rfl,λj l=>Y,by simpa using h⟩
  .rintro⟨c,hl,_,h⟩;rw[Pk.1 hl]at h;simpa using h
 |k+1,b=>by
  unfold C3;rw[kq];constructor
  .rintro⟨p,u,h⟩;rw[Xb,bne_iff_ne]at h;let⟨c,hl,hs,i⟩:=(SN m a k _).1 h.2;refine⟨(p:Int)::c,by simp[hl],λj l=> ?_,by simpa using i⟩;cases j with
   |zero=>exact⟨p,yD.1 u,by simpa using h.1,rfl⟩
   |succ j=>
    let⟨q,e,g,d⟩:=hs j Y;refine⟨q,e,?_,by simpa using d⟩;simp at g;omega
  .rintro⟨c,hl,hs,i⟩;match c,hl with
   |x::c,hl=>
    let⟨p,e,g,d⟩:=hs 0 Y;have r:x=(p:Int):=eI d;subst r;refine⟨p,yD.2 e,?_⟩;rw[Xb,bne_iff_ne];refine⟨by simpa using g,(SN m a k _).2 ⟨c,by simpa using hl,λj l=> ?_,by simpa using i⟩⟩;let⟨q,v,k2,n⟩:=hs (j+1) Y;refine⟨q,v,?_,by simpa using n⟩;simp;omega
theorem Ht{a:Int}(h:a<0):rP cW n a=a:=by
 cases n with
 |zero=>rfl
 |succ n=>unfold rP;rw[bR h]
def depth(cW:List Int)(i:Nat):Nat:=((List.range (O cW+1)).find? λn=>decide (rP cW n (i:Int)<0)).getD 0
theorem Al(h:tS cW=oj)(e:i<O cW):rP cW (depth cW i) (i:Int)<0/\∀n,rP cW n (i:Int)<0->depth cW i<=n:=by
 unfold tS at h;rw[Xa]at h;have m:rP cW (O cW) (i:Int)<0:=of_decide_eq_true (h i (yD.2 e));unfold depth;cases g:(List.range (O cW+1)).find? λn=>decide (rP cW n (i:Int)<0)with
 |none=>
  grind
 |some d=>
  refine⟨of_decide_eq_true GJ,λn u=> ?_⟩;rcases WB n (O cW+1)with r|q
  .show d<=n;let⟨_,a,bs,b,p⟩:=List.find?_eq_some_iff_append.1 g;rcases WB n d with c|c
   .exfalso;have j:(List.range (O cW+1))[O a]? =H d:=by rw[b];simp
    have hd:O a=d:=by
     grind
    have v:n∈a:=by
     have hl:n<O a:=Y;have l:(List.range (O cW+1))[n]? =H a[n]:=by rw[b,zbE hl,kX hl]
     grind
    grind
   .exact c
  grind
theorem gd{α:Type}{l:List α}{p:α->Bool}(h:O (l.filter p)=1){a b:α}(ha:a∈l)(g:b∈l)(i:p a=oj)(c:p b=oj):a=b:=by
 have d:a∈l.filter p:=T8.2 ⟨ha,i⟩;have e:b∈l.filter p:=T8.2 ⟨g,c⟩;let⟨x,j⟩:=List.length_eq_one_iff.1 h;rw[j]at d e;simp at d e;rw[d,e]
theorem Dm{α:Type}{l:List α}(hd:l.Nodup){p:α->Bool}{a:α}(ha:a∈l)(g:p a=oj)(h:∀b,b∈l->p b=oj->b=a):O (l.filter p)=1:=by
 have d:=hd.filter (p:=p);have i:a∈l.filter p:=T8.2 ⟨ha,g⟩;have e:∀b,b∈l.filter p->b=a:=λb c=>h b (T8.1 c).1 (T8.1 c).2;generalize l.filter p=f at*;match f,d,i,e with
 |[x],_,_,_=>rfl
 |x::y::r,d,_,e=>
  simp_all
theorem Ux{ns:List Nat}(rk:Nat->Nat)(a:i∈ns)(h:rk i<rk j):O (ns.filter λx=>decide (rk x<rk i))<O (ns.filter λx=>decide (rk x<rk j)):=by
 have:(ns.filter λx=>decide (rk x<rk i))=(ns.filter λx=>decide (rk x<rk j)).filter λx=>decide (rk x<rk i):=by
  rw[List.filter_filter];grind
 rw[this];refine List.length_filter_lt_length_iff_exists.2 ⟨i,T8.2 ⟨a,kI h⟩,?_⟩;simp
theorem UG{aJ:List Nat}(w:∀s,s∈aJ->s<2^aR)(dW:aJ≠[]):jZ aJ aR=oj↔JT (bW aJ):=by
 have G:=List.length_pos_iff.2 dW;have B:∀i v,(ep aJ i 0).testBit v=oj->i<O aJ/\v<aR:=λi v h=>by
  grind [Nat.testBit_lt_two_pow,Nat.lt_of_lt_of_le,Nat.pow_le_pow_right]
 unfold jZ;rw[show aJ.isEmpty=po by grind,Bool.false_or,SN];unfold JT;rw[xL];constructor
 .rintro⟨c,hl,hs,r⟩;rw[Xb]at r;obtain⟨qL,m⟩:=r;have l:O ([-1]++c)=O aJ:=by simp[hl];omega
  have MR:∀i,i<O aJ->i≠0->∃p:Nat,p<O aJ/\ep ([-1]++c) i 0=(p:Int):=λi a d=>by
   grind
  generalize T:([-1]++c:List Int)=cW at*;have d:ep cW 0 0= -1:=by rw[<-T];rfl
  refine⟨0,λi=>(ep cW i 0).toNat,depth cW,yD.2 G,λi a Q=> ?_,λv i j a uW k tj=> ?_⟩
  .have a:=yD.1 a;let⟨p,S,he⟩:=MR i a Q;show(ep cW i 0).toNat∈_/\depth cW (ep cW i 0).toNat<depth cW i;rw[he,zbX];refine⟨yD.2 S,?_⟩;let⟨g,u⟩:=Al qL (i:=i) Y;let⟨_,h4⟩:=Al qL (i:=p) Y;cases hd:depth cW i with
   |zero=>
    rw[hd]at g;exact dS (show(i:Int)<0 from g) Y
   |succ n=>
    grind [rP,Int.toNat_natCast]
  .have V:=yD.1 a;have hj1:=yD.1 uW;let⟨_,y⟩:=B i v (yB.1 k.1).2;unfold AM at m;rw[Xa]at m;have g:=m v (yD.2 y);have q:((List.range (O aJ)).any λi=>(ep aJ i 0).testBit v)=oj:=kq.2 ⟨i,a,(yB.1 k.1).2⟩;rw[q,Bool.not_true,Bool.false_or,JY]at g;have xe:∀x,x<O aJ->Er (Mem (bW aJ)) 0 (λi=>(ep cW i 0).toNat) v x->J6 aJ cW v x=oj:=λx N f=>by
    unfold J6;rw[(yB.1 f.1).2,Bt,Bool.or_eq_true];by_cases Ca:x=0
    .grind
    .refine .inr ?_;have u:=f.2.resolve_left Ca;grind [yB]
   grind [gd]
 .intro h;let⟨cW,rk,h⟩:=oH.at h (yD.2 G);let c:List Int:=(List.range (O aJ-1)).map λj=>(cW (j+1):Int);have hl:O c=O aJ-1:=by simp[c]
  have z:∀j,j<O aJ-1->ep c j 0=(cW (j+1):Int):=λj m=>by
   grind
  have W:∀j,j<O aJ->j≠0->ep ([-1]++c:List Int) j 0=(cW j:Int):=λj m d=>by
   grind
  have A:∀i,i<O aJ->i≠0->cW i<O aJ/\rk (cW i)<rk i:=λi a d=>by
   have:=h.up i (yD.2 a) d;grind
  refine⟨c,hl,λj m=> ?_,?_⟩
  .let⟨g,u⟩:=A (j+1) Y Y;refine⟨cW (j+1),g,λe=> ?_,z j m⟩;simp at e;grind
  .rw[Bool.and_eq_true];have l:O ([-1]++c:List Int)=O aJ:=by simp[hl];omega
   constructor
   .unfold tS;rw[Xa,l];intro i a;have a:=yD.1 a;refine kI ?_;have gH:∀n i,i<O aJ->O ((List.range (O aJ)).filter λx=>decide (rk x<rk i))<=n->rP ([-1]++c) (n+1) (i:Int)<0:=by
     intro n;induction n with
     |zero=>
      intro i a C;by_cases d:i=0
      .grind [rP]
      .let⟨g,u⟩:=A i a d;have:=Ux (ns:=List.range (O aJ)) rk (yD.2 g) u;omega
     |succ n ih=>
      intro i a C;unfold rP;rw[bD Y,zbX];by_cases d:i=0
      .subst d;rw[Ht (show([-1]++c:List Int).getD 0 0<0 from(by decide:(-1:Int)<0))];grind
      .let⟨g,u⟩:=A i a d;have:=Ux (ns:=List.range (O aJ)) rk (yD.2 g) u;grind
    have C:O ((List.range (O aJ)).filter λx=>decide (rk x<rk i))<=O aJ-1:=by
     have:O ((List.range (O aJ)).filter λx=>decide (rk x<rk i))<O (List.range (O aJ)):=
      List.length_filter_lt_length_iff_exists.2 ⟨i,yD.2 a,X⟩
     grind
    have:=gH (O aJ-1) i a C;rwa[show O aJ-1+1=O aJ by omega]at this
   .unfold AM;rw[Xa];intro v hv;cases q:(List.range (O aJ)).any λi=>(ep aJ i 0).testBit v with
    |false=>rfl
    |true=>
     rw[Bool.not_true,Bool.false_or,JY];let⟨i,a,F⟩:=kq.1 q;let⟨t,r,P,_⟩:=h.lW v _ i (fV _) a (yB.2 ⟨yD.1 a,F⟩);have L:∀x,x<O aJ->(J6 aJ ([-1]++c) v x=oj↔Er (Mem (bW aJ)) 0 cW v x):=λx N=>by
      unfold J6 Er;rw[Xb,yB,Bool.or_eq_true];by_cases d:x=0
      .grind
      .rw[W x N d,Int.toNat_natCast];grind [yB]
     refine Dm List.nodup_range r ((L t (yD.1 r)).2 P) λb w R=> ?_;exact h.one v b t w r ((L b (yD.1 w)).1 R) P
abbrev dU:=ByteArray
instance:LawfulBEq ByteArray where
 eq_of_beq {a b} h:=by
  have h:(a.data==b.data)=oj:=h;exact ByteArray.ext (eq_of_beq h)
 rfl {a}:=by
  show(a.data==a.data)=oj;exact beq_self_eq_true _
structure MU where
 aG:Int
 num:Int
 eR:dU
deriving DecidableEq,Inhabited
structure jF where
 var:dU
 vY:MU
deriving DecidableEq,Inhabited
structure oL where
 rel:dU
 aS:List jF
deriving DecidableEq,Inhabited
structure bB where
 name:dU
 head:List dU
 aD:List oL
deriving DecidableEq,Inhabited
def bO:dU:=ByteArray.empty
def aP:MU:=⟨0,0,bO⟩
def jE(c:UInt8):Bool:=(97<=c&&c<=122)||(65<=c&&c<=90)||c==95
def n8(c:UInt8):Bool:=48<=c&&c<=57
def iT(s:dU):Bool:=decide (1<=s.size)&&decide (s.size<=16)&&jE (s.data.toList.headD 0)&&s.data.toList.all λc=>jE c||n8 c
def iH(v:MU):Bool:=if v.aG=1 then decide (v.eR=bO)else decide (v.aG=2)&&decide (v.num=0)&&decide (v.eR.size<=64)
def gX(out:List dU)(v:dU):List dU:=if v∈out then out else out++[v]
def bC(ts:List jF)(out:List dU):List dU:=ts.foldl (λo t=>if t.var=bO then o else gX o t.var) out
def bY(a:oL):List dU:=bC a.aS []
def vars(q:bB):List dU:=q.aD.foldl (λo a=>(bY a).foldl gX o) []
def nQ(l:List dU):Bool:=(List.range (O l)).any λi=>decide (ep l i bO∈l.take i)
def CG(q:bB):Bool:= !iT q.name||q.head.any (λh=> !iT h)||q.aD.any λa=> !iT a.rel||a.aS.any λt=>decide (t.var≠bO)&& !iT t.var
def fQ(t:jF):Bool:=if t.var≠bO then decide (t.vY≠aP)else !iH t.vY
def fJ(q:bB):Int:=
 if CG q then 72 else if q.aD.any (λa=>a.aS.any fQ)then 21 else if O q.aD=0\/6<O q.aD then 90
 else if q.aD.any (λa=>decide (5<O a.aS))then 91 else if nQ q.head then 92 else if q.head.any (λh=>decide (h∉vars q))then 93 else 0
theorem Y1{out:List dU}{v x:dU}:x∈gX out v↔x∈out\/x=v:=by
 grind [gX]
theorem S0{l out:List dU}{x:dU}:x∈l.foldl gX out↔x∈out\/x∈l:=by
 induction l generalizing out<;>grind [Y1]
theorem Kf{out:List dU}(h:out.Nodup)(v:dU):(gX out v).Nodup:=by
 grind [gX]
theorem rE(t:jF)(ts:List jF)(out:List dU):bC (t::ts) out=bC ts (if t.var=bO then out else gX out t.var):=rfl
theorem rY(s t:List jF)(out:List dU):bC (s++t) out=bC t (bC s out):=by
 unfold bC;rw[kr]
theorem VC(ts:List jF):∀a out:List dU,(bC ts a).foldl gX out=bC ts (a.foldl gX out):=by
 induction ts with
 |nil=>intro a out;rfl
 |cons t ts ih=>
  grind [rE,gX,S0]
theorem P6(q:bB):vars q=bC (q.aD.flatMap (·.aS)) []:=by
 unfold vars;have:∀(l:List oL) (out:List dU),l.foldl (λo a=>(bY a).foldl gX o) out=bC (l.flatMap (·.aS)) out:=by
  intro l;induction l with
  |nil=>intro out;rfl
  |cons a l ih=>
   grind [rY,bY,VC]
 exact this q.aD []
theorem tG{ts:List jF}{out:List dU}{x:dU}:x∈bC ts out↔x∈out\/∃t,t∈ts/\t.var≠bO/\t.var=x:=by
 induction ts generalizing out<;>grind [bC,rE,Y1]
theorem V1{ts:List jF}{out:List dU}(h:out.Nodup):(bC ts out).Nodup:=by
 induction ts generalizing out with
 |nil=>exact h
 |cons t ts ih=>
  grind [rE,Kf]
theorem NC(out:List dU)(v:dU):O out<=O (gX out v)/\O (gX out v)<=O out+1:=by
 unfold gX;split<;>simp
theorem gG(ts:List jF)(out:List dU):O (bC ts out)<=O out+O ts:=by
 induction ts generalizing out<;>grind [bC,NC]
theorem NS(q:bB):(vars q).Nodup:=by grind [P6,V1]
theorem Rs{q:bB}{x:dU}:x∈vars q↔∃a,a∈q.aD/\x∈bY a:=by
 rw[P6,tG];simp only[List.not_mem_nil,false_or,List.mem_flatMap];constructor
 .rintro⟨t,⟨a,ha,b⟩,h⟩;exact⟨a,ha,tG.2 (.inr ⟨t,b,h⟩)⟩
 .rintro⟨a,ha,h⟩;rcases tG.1 h with h|⟨t,b,h⟩<;>grind
def sV(vs cY:List dU):Nat:=(List.range (O vs)).foldl (λs v=>if ep vs v bO∈cY then s+2^v else s) 0
theorem IP{s v:Nat}(h:s<2^v)(x:Nat):(s+2^v).testBit x=(s.testBit x||decide (x=v)):=by
 rw[Nat.add_comm,show 2^v+s=2^v*1+s by rw[wZ],Nat.two_pow_add_eq_or_of_lt h,wZ,Nat.testBit_or,Nat.testBit_two_pow,Bool.or_comm];grind
theorem DI(vs cY:List dU):∀n,∀s,s=(List.range n).foldl (λs v=>if ep vs v bO∈cY then s+2^v else s) 0->s<2^n/\∀x,s.testBit x=(decide (x<n)&&decide (ep vs x bO∈cY))
 |0,s,h=>by
  grind
 |n+1,s,h=>by
  rw[List.range_succ,List.foldl_append,List.foldl_cons,List.foldl_nil]at h;let⟨a,b⟩:=DI vs cY n _ rfl;grind [IP]
theorem AY(vs cY:List dU):sV vs cY<2^O vs:=(DI vs cY _ _ rfl).1
theorem rD(vs cY:List dU)(x:Nat):(sV vs cY).testBit x=(decide (x<O vs)&&decide (ep vs x bO∈cY)):=(DI vs cY _ _ rfl).2 x
theorem Kp{vs:List dU}(hd:vs.Nodup){cY:List dU}(a:∀x,x∈cY->x∈vs):cY.foldl (λs n=>s|||2^vs.idxOf n) 0=sV vs cY:=by
 refine Fb λx=> ?_;rw[rD];have:∀(l:List dU) (s:Nat),(l.foldl (λs n=>s|||2^vs.idxOf n) s).testBit x=(s.testBit x||l.any λn=>decide (vs.idxOf n=x)):=by
  intro l;induction l<;>grind
 grind
def aJ(q:bB):List Nat:=q.aD.map λa=>sV (vars q) (bY a)
def cO(q:bB):Nat:=sV (vars q) q.head
theorem GW{v:Nat}(h:v<32):(2:Int)^v%4294967296=((2^v:Nat):Int):=by
 have b:2^v<4294967296:=Xc (Nat.pow_lt_pow_right (by decide) h:2^v<2^32) (by decide);have a:(2:Int)^v=((2^v:Nat):Int):=(Int.natCast_pow 2 v).symm;rw[a];generalize 2^v=n at*;omega
theorem Qf(S:Nat){v:Nat}(h:v<32):S.testBit v=((S:Int)/((2:Int)^v%4294967296)%2==1):=by
 rw[GW h,Nat.testBit_eq_decide_div_mod_eq,Bu,RK,JY,<-Int.natCast_ediv];generalize S/2^v=x;omega
theorem iV(S v:Nat)(c:S<2^32)(w:aA)(hv:v<2147483648):
  aH prog 107 #[i6 kd S,i6 i7 v] w λe w'=>e=i5 (j4 (S.testBit v))/\w=w':=by
 have d:decide ((0:Int)<=(v:Int))=oj:=kI Y;by_cases h:v<32
 .have a:decide ((v:Int)<32)=oj:=kI Y;have g2:¬((2:Int)^v%4294967296=0):=by rw[GW h];have:=Nat.two_pow_pos v;omega
  go_in;go_wp2;go_ret;exact⟨by rw[(Qf S h)];rfl,rfl⟩
 .have a:decide ((v:Int)<32)=po:=jO Y;go_in;go_wp2;go_ret;exact⟨by rw[zbN (wM c (Cr D Y))];rfl,rfl⟩
theorem aOS{S v:Nat}(b:S<2^32)(h:S.testBit v=oj):v<32:=by
 rcases WB v 32 with a|a
 .exact a
 .rw[zbN (wM b (Cr D a))]at h;cases h
theorem GK(a b:Nat)(ha:a<2^32)(p:b<2^32)(w:aA):
  aH prog 108 #[i6 kd a,i6 kd b] w λe w'=>e=i5 (j4 (part a b))/\w=w':=by
 go_in;go_wp2;go_loopw [5] (λi wr=>w=wr/\∃k:Nat,k<=32/\i=J k/\∀v,v<k->a.testBit v=oj->b.testBit v=oj) (λi _=>32-(intOf i).toNat)
 .exact⟨rfl,0,Y,rfl,λv hv=>Y⟩
 obtain⟨rfl,k,r,rfl,m⟩:=hrel;by_cases u:k<32
 .cases n:a.testBit k with
  |true=>
   have d:=Z n;cases q:b.testBit k with
   |true=>
    have j:=Z q;go_wp2_with fail;apply(iV a k ha _ Y).cL;rintro w2 rfl;rw[d.out];go_wp2_with fail;apply(iV b k p _ Y).cL;rintro w2 rfl;rw[j.out];go_wp2;go_roundw
    .exact⟨trivial,k+1,Y,eO,λv hv g=>by
     by_cases c:v=k
     .subst c;exact j.out
     .exact m v Y g⟩
    simp[intOf];omega
   |false=>
    have j:=Z q;go_wp2_with fail;apply(iV a k ha _ Y).cL;rintro w2 rfl;rw[d.out];go_wp2_with fail;apply(iV b k p _ Y).cL;rintro w2 rfl;rw[j.out];go_wp2;go_ret;have l:part a b=po:=by
     cases l:part a b
     .rfl
     .exact dS (kR.1 l k d.out) (by rw[j.out];decide)
    exact⟨by rw[l];rfl,rfl⟩
  |false=>
   have d:=Z n;go_wp2_with fail;apply(iV a k ha _ Y).cL;rintro w2 rfl;rw[d.out];go_wp2;go_roundw
   .exact⟨trivial,k+1,Y,eO,λv hv g=>by
    by_cases c:v=k
    .subst c;rw[d.out]at g;cases g
    .exact m v Y g⟩
   simp[intOf];omega
 .go_wp2;go_ret;have l:part a b=oj:=kR.2 λv hv=>m v (nA (aOS ha hv)) hv;exact⟨by rw[l];rfl,rfl⟩
theorem Kk(x k:Nat):x%2^(k+1)=if x.testBit k then x%2^k+2^k else x%2^k:=by
 refine Fb λi=> ?_;have b:x%2^k<2^k:=Nat.mod_lt _ (Nat.two_pow_pos k);rw[Nat.testBit_mod_two_pow];split
 .rename_i h;rw[IP b,Nat.testBit_mod_two_pow];by_cases a:i=k
  .subst a;simp[h]
  .have:i<k+1↔i<k:=Y;simp[a,this]
 .rename_i h;rw[Nat.testBit_mod_two_pow];by_cases a:i=k
  .subst a;simp[h]
  .have:i<k+1↔i<k:=Y;simp[this]
theorem Wa{a:Nat}(ha:a<2^32):(a&&&b)+fD a b=a:=by
 have hl:fD a b<2^32:=Og (AL a b) ha;have c:a&&&b<2^32:=Og Nat.and_le_left ha;have e:BitVec.ofNat 32 (a&&&b)&&&BitVec.ofNat 32 (fD a b)=0#32:=by
  apply BitVec.eq_of_toNat_eq;rw[BitVec.toNat_and,BitVec.toNat_ofNat,BitVec.toNat_ofNat,Nat.mod_eq_of_lt c,Nat.mod_eq_of_lt hl];refine Fb λi=> ?_;rw[Nat.testBit_and,Nat.testBit_and,cI];cases a.testBit i<;>cases b.testBit i<;>simp
 have d:=BitVec.toNat_add_of_and_eq_zero e;rw[BitVec.add_eq_or_of_and_eq_zero _ _ e,BitVec.toNat_or,BitVec.toNat_ofNat,BitVec.toNat_ofNat,Nat.mod_eq_of_lt c,Nat.mod_eq_of_lt hl]at d;rw[<-d];refine Fb λi=> ?_;rw[Nat.testBit_or,Nat.testBit_and,cI];cases a.testBit i<;>cases b.testBit i<;>rfl
theorem Vj(a b:Nat)(ha:a<2^32)(n:b<2^32)(w:aA):
  aH prog 144 #[i6 kd a,i6 kd b] w λe w'=>e=i5 (i6 kd ((a&&&b:Nat):Int))/\w=w':=by
 have q:a&&&b<2^32:=Og Nat.and_le_left ha;go_in;go_wp2;go_loopw [5,6] (λs i wr=>w=wr/\∃k:Nat,k<=32/\i=J k/\s=i6 kd (((a&&&b)%2^k:Nat):Int)) (λ_ i _=>32-(intOf i).toNat)
 .exact⟨rfl,0,Y,rfl,by simp[Nat.mod_one]⟩
 obtain⟨rfl,k,x,rfl,rfl⟩:=hrel;by_cases r:k<32
 .have c:=Z (Kk (a&&&b) k);have d:=Nat.testBit_and a b k;let⟨s,hs⟩:=E ((a&&&b)%2^k);have v:s<2^k:=hs▸Nat.mod_lt _ (Nat.two_pow_pos k);rw[hs]at c|-;cases g:a.testBit k with
  |true=>
   have l:=Z g;cases j:b.testBit k with
   |true=>
    have m:=Z j;have c:dT ((a&&&b)%2^(k+1)=s+2^k):=Z (by rw[c.o,d,g,j];rfl);have u:s+2^k<4294967296:=c.o▸Og (Nat.mod_le _ _) (Xc q D);go_wp2_with fail;apply(iV a k ha _ Y).cL;rintro w2 rfl;rw[l.out];go_wp2_with fail;apply(iV b k n _ Y).cL;rintro w2 rfl;rw[m.out];go_wp2;go_roundw
    .exact⟨trivial,k+1,Y,eO,by
     rw[c.o,GW r];generalize 2^k=p at*;congr 1;omega⟩
    simp[intOf];omega
   |false=>
    have m:=Z j;have c:dT ((a&&&b)%2^(k+1)=s):=Z (by rw[c.o,d,g,j];rfl);go_wp2_with fail;apply(iV a k ha _ Y).cL;rintro w2 rfl;rw[l.out];go_wp2_with fail;apply(iV b k n _ Y).cL;rintro w2 rfl;rw[m.out];go_wp2;go_roundw
    .exact⟨trivial,k+1,Y,eO,by rw[c.o]⟩
    simp[intOf];omega
  |false=>
   have l:=Z g;have c:dT ((a&&&b)%2^(k+1)=s):=Z (by rw[c.o,d,g];rfl);go_wp2_with fail;apply(iV a k ha _ Y).cL;rintro w2 rfl;rw[l.out];go_wp2;go_roundw
   .exact⟨trivial,k+1,Y,eO,by rw[c.o]⟩
   simp[intOf];omega
 .obtain rfl:k=32:=Y;rw[Nat.mod_eq_of_lt q];go_wp2;go_ret;exact⟨rfl,rfl⟩
theorem FG(a b:Nat)(ha:a<2^32)(d:b<2^32)(w:aA):
  aH prog 109 #[i6 kd a,i6 kd b] w λe w'=>e=i5 (i6 kd (fD a b))/\w=w':=by
 have hs:=Wa (b:=b) ha;have j:a<4294967296:=Xc ha (by decide);generalize g:a&&&b=c at hs;go_in;go_wp2_with (go_at_call 144;apply(Vj a b ha d _).cL;rintro w2 rfl;rw[g]);go_ret;refine⟨wJ (λz=>i5 (i6 kd z)) ?_,rfl⟩;omega
section
structure wI(P:cu)(t e:ap)(sz bytes:Nat)(zc:Array aF):Prop where
 ex:∃i z,P.underlying t=H (.slice e)/\P.info? e=H i/\i.zero=H z/\i.size=sz/\i.bytes=bytes/\z.cells=zc
 sz:zc.size=sz
theorem wI.ok{P:cu}{t e:ap}{sz bytes:Nat}{zc:Array aF}(h:wI P t e sz bytes zc):jM P t e sz bytes:=by
 obtain⟨i,z,g,j,d,c,a,b⟩:=h.ex;exact⟨i,z,g,j,d,c,a,b▸h.sz⟩
theorem wI.PU{P:cu}{t e:ap}{bytes:Nat}{zc:Array aF}(d:P.underlying t=H (.slice e))(h:(P.info? e).map (λi=>(i.zero,i.size,i.bytes))=H (H z,size,bytes))(b:z.cells=zc)(hs:zc.size=size):wI P t e size bytes zc:=by
 let⟨i,c,a⟩:=Option.map_eq_some_iff.1 h;simp only[Prod.mk.injEq]at a;exact⟨⟨i,z,d,c,a.1,a.2.1,a.2.2,b⟩,hs⟩
theorem OC(z:Array aF)(n k:Nat)(a:k<n)(b:0<z.size):(madeCells z n)[k]? =z[k%z.size]? :=by
 grind [madeCells,Nat.mod_lt]
section
variable{P:cu}{t e:ap}{sz bytes:Nat}{zc:Array aF}
theorem wI.wO(h:wI P t e sz bytes zc)(l c:Nat)(a:l<=c)(b:c*bytes<=281474976710656)(m:c<=bw)(u:aA):
  (Instr.makeSlice t (i6 i7 l) (i6 i7 c)).run P u= .ok (hY (H ⟨hJ u.heap,0,K⟩) l c) (e8 u (h8 (madeCells zc (c*sz)) e)):=by
 obtain⟨i,z,n,p,j,g,d,q⟩:=h.ex;grind [run_make,bw,Int.toNat_natCast]
theorem wI.yF(h:wI P t e sz bytes zc)(l c:Nat)(a:l<=c)(m:c<=bw)(u:aA)(d:0<sz):
  eJ (e8 u (h8 (madeCells zc (c*sz)) e)) (hY (H ⟨hJ u.heap,0,K⟩) l c) e sz l (λ_ j=>zc.getD j undef):=by
 refine .inr ⟨hJ u.heap,c,_,rfl,lK u _,a,m,size_madeCells _ _,λi j n b=> ?_⟩;have g:i*sz+j<c*sz:=by
  calc i*sz+j<(i+1)*sz:=by grind
   _<=c*sz:=Oh _ Y
 rw[OC _ _ _ g (h.sz▸d),h.sz,Nat.mul_comm i sz,Nat.mul_add_mod,Nat.mod_eq_of_lt b];simp[Array.getD_eq_getD_getElem?,h.sz,b]
theorem N4(w:aA)(l n ty b:ap)(g o d e:Nat)(a:cj)(c i:Nat)(cur:Array aF)(t:ap)(cs:List aF)(sz:Nat)(y:P.underlying l=H (.slice b))(hs:(P.info? b).map (·.size)=H sz)(q:w.heap[g]? =H (h8 cur t (0,0)))(z:O cs=Nat.min c d*sz)(m:∀j v,cs[j]? =H v->e7 w (a.add j)=H v)(p:o+O cs<=cur.size)(r:∀v∈cs,v.oneCell'=oj):
  (Builtin.copy_ #[l,n] ty #[hY (H ⟨g,o,K⟩) d e,hY (H a) c i]).run P w=
   .ok (goInt (Nat.min c d)) (w.setRow g (cur.toList.take o++cs++cur.toList.drop (o+O cs)).toArray):=by
 have hl:=run_loadCells_list (P:=P) w a cs m;have x:=run_storeCells_at P g o t cs 0 cur w q (eI p) r;cases u:P.info? b<;>simp_all [Builtin.copy_,run_underlying,Builtin.lenOf,Builtin.firstCells,sizeOf,typeInfo]
end
def cellsOf{α:Type}(f:α->Nat->aF)(sz:Nat)(l:List α):List aF:=l.flatMap λx=>(List.range sz).map (f x)
theorem f9{α:Type}(f:α->Nat->aF)(sz:Nat)(l:List α):O (cellsOf f sz l)=O l*sz:=by
 induction l<;>grind [cellsOf]
theorem sJ{α:Type}(f:α->Nat->aF)(d:α){sz:Nat}(l:List α)(a:i<O l)(b:j<sz):(cellsOf f sz l)[i*sz+j]? =H (f (ep l i d) j):=by
 induction l generalizing i with
 |nil=>simp at a
 |cons x l ih=>
  show((List.range sz).map (f x)++cellsOf f sz l)[i*sz+j]? =_;cases i<;>grind
section
variable{α:Type}{f:α->Nat->aF}{d:α}{e:ap}{sz:Nat}{w0 w:aA}{l:List α}
theorem QO{P:cu}{t:ap}{bytes:Nat}(m:jM P t e sz bytes)(C:0<sz)(ty:ap)(g:Nat){c:Nat->Nat->aF}(W:eJ w (hY (H ⟨g,0,K⟩) (O l) (O l)) e sz (O l) c)(G:hJ w0.heap<=g)(Q:U w0 [] w [])(hR:eX f d sz w v l)(A:∀x,x∈l->∀j,j<sz->(f x j).oneCell'=oj):
  ∃w',(Builtin.copy_ #[t,t] ty #[hY (H ⟨g,0,K⟩) (O l) (O l),v]).run P w= .ok (goInt (O l)) w'/\bG f d e sz w0 w' (hY (H ⟨g,0,K⟩) (O l) (O l)) l/\U w0 [] w' []/\U w [g] w' [g]:=by
 obtain⟨i,z,L,b,hz,DK,Xt,be⟩:=m.ex;have h:(P.info? e).map (·.size)=H sz:=by grind
 obtain⟨g',cap,cur,hv,p,hn,qL,xO,dF⟩:∃g' cap cur,eB g 0 (O l) (O l)=eB g' 0 (O l) cap/\rW w g' cur e/\O l<=cap/\cap<=bw/\cur.size=cap*sz/\∀i j,i<O l->j<sz->cur[i*sz+j]? =H (c i j):=by
  rcases W with⟨A,_⟩|A<;>grind
 injection hv with e1 e2 e3;injection e1 with e1;injection e1 with e1;subst e1 e3;clear e2;have done:∀w',w'=w.setRow g (cur.toList.take 0++cellsOf f sz l++cur.toList.drop (0+O (cellsOf f sz l))).toArray->bG f d e sz w0 w' (eB g 0 (O l) (O l)) l/\U w0 [] w' []/\U w [g] w' [g]:=by
  rintro w' rfl;refine⟨⟨.inr ⟨g,O l,_,rfl,setRow_heap w g cur _ e _ p,fV _,qL,?_,λi j b B=> ?_⟩,λg' IW=>by grind [gz]⟩,Q.setRow (.inr G) _,(U.refl w [g]).setRow (.inl X) _⟩
  .grind [f9]
  grind [f9,sJ]
 rcases hR with⟨k,a0,a,rfl,S⟩|⟨g2,o2,gI,rfl,N,M7,DM,V⟩
 .have hl:=Pk.1 k;subst hl;have n:w.setRow g (cur.toList.take 0++cellsOf f sz ([]:List α)++cur.toList.drop (0+O (cellsOf f sz ([]:List α)))).toArray=w:=by
   grind [cellsOf,setRow_self]
  let⟨T,k2,R⟩:=done w n.symm;have dP:(Builtin.copy_ #[t,t] ty #[eB g 0 0 0,hY a0 0 a]).run P w= .ok (goInt (0:Nat)) w:=by
   rcases a0 with _|ad
   .grind [run_copy_nil]
   .have:=N4 (P:=P) w t t ty e g 0 0 0 ad 0 a cur e [] sz L h p X X X X;rw[this];congr 1
  grind
 .let⟨T,k2,R⟩:=done _ rfl;have FI:∀j u,(cellsOf f sz l)[j]? =H u->e7 w (((Ad g2 o2):cj).add j)=H u:=by
   intro j u q;have B:j<O l*sz:=by
    grind [f9]
   have Eg:((Ad g2 o2):cj).add j=(Ad g2 (o2+j)):=by unfold Addr.add;split<;>simp_all
   have b:=(Nat.div_lt_iff_lt_mul C).2 B;have r:j%sz<sz:=Nat.mod_lt _ C;have m:j/sz*sz+j%sz=j:=by grind [Nat.div_add_mod]
   rw[Eg];have F:=sJ f d l b r;rw[m]at F;rw[F]at q;have y:=V _ _ b r;rw[Nat.add_assoc,m]at y;rw[y,q]
  grind [cellsOf,N4,f9]
end
end
variable{u:aF}
section
section
variable{P:cu}{α:Type}{f:α->Nat->aF}{d:α}{e:ap}{sz:Nat}{wb w0 w:aA}{v:aF}{l m:List α}
theorem sp{t:ap}(a:P.underlying t=H (.slice e))(l:0<sz)(G:eX f d sz w u m)(L:∀x,x∈m->∀j,j<sz->(f x j).oneCell'=oj):Src P sz t u (O m) (cellsOf f sz m) w:=by
 have b:∀u∈cellsOf f sz m,u.oneCell'=oj:=by
  grind [cellsOf]
 rcases G with⟨y,a0,g,rfl,c⟩|⟨g2,o2,A,rfl,z,h,qL,B⟩
 .have hl:=Pk.1 y;subst hl;rcases a0 with _|ad
  .rw[c rfl];exact Src.ofNil w a 0
  .exact Src.ofSlice w a ad 0 g [] X X X
 .refine Src.ofSlice w a (Ad g2 o2) (O m) A _ (f9 f sz m) (λj u q=> ?_) b;have F:j<O m*sz:=by
   grind [f9]
  have C:((Ad g2 o2):cj).add j=(Ad g2 (o2+j)):=by unfold Addr.add;split<;>simp_all
  have i:=(Nat.div_lt_iff_lt_mul l).2 F;have r:j%sz<sz:=Nat.mod_lt _ l;have n:j/sz*sz+j%sz=j:=by grind [Nat.div_add_mod]
  rw[C];have p:=sJ f d m i r;rw[n]at p;rw[p]at q;have v:=B _ _ i r;rw[Nat.add_assoc,n]at v;rw[v,q]
theorem L8:ep (l++m) i d=if i<O l then ep l i d else ep m (i-O l) d:=by
 grind
theorem jR{t:ap}(he:jM P t e sz bytes)(h0:0<sz)(ty:ap)(hL:bG f d e sz w0 w v l)(N:U wb [] w [])(pE:hJ wb.heap<=hJ w0.heap)(hws:hJ w0.heap<=hJ w.heap)(hR:eX f d sz w u m)(h1:∀x,x∈m->∀j,j<sz->(f x j).oneCell'=oj)(T:(O l+O m)*bytes<=140737488355328)(Ow:O l+O m<=bw):
  ∃v' w',(Builtin.append_ #[t,t] ty #[v,u]).run P w= .ok v' w'/\bG f d e sz w0 w' v' (l++m)/\U wb [] w' []/\U w v.ownBlock.toList w' v'.ownBlock.toList/\∃a cap,v'=hY a (O l+O m) cap:=by
 obtain⟨i,z,B,L,hz,DK,Xt,be⟩:=he.ex;subst DK Xt;have p:=sp (w:=w) B h0 hR h1;have c:O (l++m)=O l+O m:=F5;have mW:∀(cur:Array aF),(∀b j,b<O l->j<i.size->cur[b*i.size+j]? =H (f (ep l b d) j))->(∀k,k<O m*i.size->cur[O l*i.size+k]? =(cellsOf f i.size m)[k]?)->
   ∀b j,b<O (l++m)->j<i.size->cur[b*i.size+j]? =H (f (ep (l++m) b d) j):=λcur ho hn b j qL q=>by
  rw[L8];split
  .grind
  .rename_i h;have y:b*i.size+j=O l*i.size+((b-O l)*i.size+j):=by
    rw[Nat.sub_mul];have:=Oh i.size (show O l<=b by omega);omega
   rw[y,hn,sJ f d m Y q];calc (b-O l)*i.size+j<(b-O l+1)*i.size:=by grind
    _<=O m*i.size:=Oh _ Y
 rcases hL with⟨O7,S⟩;rcases O7 with⟨rfl,Cf⟩|⟨g,cap,cur,rfl,n,W,o,R,dF⟩
 .have hl:l=[]:=Pk.1 Cf;subst hl;rcases Nat.eq_zero_or_pos (O m) with G|G
  .have hm:m=[]:=Pk.1 G;subst hm;have dP:(Builtin.append_ #[t,t] ty #[cH,u]).run P w= .ok cH w:=by
    have V:=p.len;have RA:=p.cells;simp only[List.length_nil]at V RA;simp[Builtin.append_,run_underlying B,sizeOf,typeInfo,L,V,RA]
   exact⟨_,w,dP,⟨eJ.nil _ _ _ _,S⟩,N,U.refl _ _,K,0,X⟩
  .have A:=run_append_grow_src (P:=P) w t t ty e i z B L hz K 0 0 [] Yr u (O m) _ p Y (by grind [bw]) (growslice_fits Y (eI T));have s:=grownCap_ge w (0+O m) 0 e;refine⟨_,_,A,⟨.inr ⟨w,grownCap w (0+O m) 0 e,_,X,lK w.drew _,by simpa using s,grownCap_le_maxLen w (0+O m) 0 e (eI Ow),?_,?_⟩,λg n=> ?_⟩,(N.drew.alloc _),?_,H ⟨w,0,K⟩,grownCap w (0+O m) 0 e,X⟩
   .simp_all[Array.size_append,List.size_toArray,size_zeroCells,f9,List.length_nil,Bv,Nat.sub_mul,Oh]
   .simp_all[List.length_nil,Array.getElem?_append_left,f9]
   .grind [gz]
   .exact((U.refl w _).drew.alloc _).to (λk y=>by grind [gz])
 .have FK:hJ w0.heap<=g:=S g rfl;by_cases oW:O l+O m<=cap
  .have Q:O l*i.size<=cur.size:=by rw[R];exact Oh _ W
   have l9:O l*i.size+O (cellsOf f i.size m)<=cur.size:=by rw[f9,R,<-Nat.add_mul];exact Oh _ oW
   have A:=run_append_room_src (P:=P) w t t ty e i B L g 0 (O l) cap u (O m) _ p oW (λj q=>by
    rw[cell_of_row w g _ cur e (0,0) n,Array.getElem?_eq_getElem Y];rfl) (λj _=>frozen_of_row w g _ cur e n)
   have vS:w.setCells g (0+O l*i.size) (cellsOf f i.size m)=w.setRow g (cur.toList.take (O l*i.size)++cellsOf f i.size m++cur.toList.drop (O l*i.size+O (cellsOf f i.size m))).toArray:=by
    rw[Nat.zero_add];have h1:=run_storeCells_at P g (O l*i.size) e (cellsOf f i.size m) 0 cur w n (eI l9) p.one;have h2:=run_storeCells_cells (P:=P) g (O l*i.size) (cellsOf f i.size m) 0 w (by
     intro j q;rw[cell_of_row w g _ cur e (0,0) n,Array.getElem?_eq_getElem Y];rfl) (λj _=>frozen_of_row w g _ cur e n) p.one
    grind
   rw[vS]at A;refine⟨_,_,A,⟨.inr ⟨g,cap,_,by rw[c],setRow_heap w g cur _ e _ n,Y,o,?_,?_⟩,λg' IW=>by grind [gz]⟩,(N.setRow (.inr (jN pE FK)) _),?_,_,_,rfl⟩
   .grind
   .refine mW _ (λb j qL q=> ?_) (λk y=> ?_)
    .have r:b*i.size+j<O l*i.size:=by
      calc b*i.size+j<(b+1)*i.size:=by grind
       _<=O l*i.size:=Oh _ Y
     rw[<-dF b j qL q,List.getElem?_toArray,List.append_assoc,List.getElem?_append_left (l₁:=cur.toList.take (O l*i.size)) GJ,List.getElem?_take,if_pos r,Array.getElem?_toList]
    .have r:O (cur.toList.take (O l*i.size))=O l*i.size:=by grind
     rw[List.getElem?_toArray,List.append_assoc,List.getElem?_append_right (j7 r),r,List.getElem?_append_left (by grind [f9])];grind
   .exact((U.refl w _).setRow (.inl (by simp[gz])) _).to (λk y=>by grind [gz])
  .have Q:O l*i.size<=cur.size:=by rw[R];exact Oh _ W
   have F:O (cur.toList.take (O l*i.size))=O l*i.size:=by simp;omega
   have C:(Builtin.firstCells i.size (O l) (eB g 0 (O l) cap)).run P w.drew= .ok (cur.toList.take (O l*i.size)).toArray w.drew:=by
    refine run_firstCells_some w.drew i.size (O l) (Ad g 0) (O l) cap _ F (λj u hu=> ?_);have Eg:((Ad g 0):cj).add j=(Ad g j):=by unfold Addr.add;split<;>simp_all
    rw[Eg];show e7 w _=_;grind [cell_of_row]
   have A:=run_append_grow_src (P:=P) w t t ty e i z B L hz (H (Ad g 0)) (O l) cap _ C u (O m) _ p Y (by grind [bw]) (growslice_fits Y T);have s:=grownCap_ge w (O l+O m) cap e;refine⟨_,_,A,⟨.inr ⟨w,_,_,by rw[c],lK w.drew _,by rw[c];exact s,grownCap_le_maxLen w _ _ e Ow,?_,?_⟩,λg' IW=> ?_⟩,N.drew.alloc _,?_,_,_,rfl⟩
   .simp only[Array.size_append,List.size_toArray,size_zeroCells,be,f9,F,F5];rw[Nat.sub_mul,<-Nat.add_mul];have:=Oh i.size s;omega
   .refine mW _ (λb j qL q=> ?_) (λk y=> ?_)
    .have r:b*i.size+j<O l*i.size:=by
      calc b*i.size+j<(b+1)*i.size:=by grind
       _<=O l*i.size:=Oh _ Y
     rw[<-dF b j qL q,Array.getElem?_append_left GJ,List.getElem?_toArray,List.getElem?_append_left Y,List.getElem?_take,if_pos r,Array.getElem?_toList]
    grind [f9]
   .grind [gz]
   .exact((U.refl w _).drew.alloc _).to (λk y=>by grind [gz])
end
theorem E8{α:Type}{f:α->Nat->aF}{d:α}{sz:Nat}{w:aA}{e:ap}(a:w.heap[b]? =H (h8 news.toArray e (0,0)))(hl:O news=sz)(x:α)(l:∀j,j<sz->ep news j undef=f x j):
  eX f d sz w (hY (H ⟨b,0,K⟩) 1 1) [x]:=by
 refine .inr ⟨b,0,1,rfl,Nat.zero_lt_one,(by decide:1<=bw),cV a,λi j g c=> ?_⟩;grind [aL]
end
theorem aLd{p u:Tmp}{T:ap}{A:cj}(h:fn.results=#[.cell p T,.tmp u])(a:tmps.getD p undef=h9 (H A))(b:tmps.getD u undef=v2)(hv:(loadVar T A).run P w= .ok v w):(results fn tmps).run P w= .ok (i8 #[v,v2]) w:=by
 subst b;exact aT h a hv
variable{a':Act}{qL:Act->aA->Prop}{listed:Array Bool}{fuel id:Nat}{o1 o2 oi:Oper}
section
section
variable{P:cu}{ops:Array Oper}{bBP:Exit->Act->aA->Prop}{md:Region.Mode}{S:aA->Prop}{L:Nat}
def iF(P:cu)(md:Region.Mode)(ops:Array Oper)(bBP:Exit->Act->aA->Prop)(S:aA->Prop)(L:Nat):Nat->Array Bool->Act->aA->Prop
 |0,listed,a,w=>Region.ready md ops listed=[]/\bBP .normal a w
 |fuel+1,listed,a,w=>
  (Region.ready md ops listed=[]->bBP .normal a w)/\
  ∀i∈Region.ready md ops listed,wpOp P ops bBP i (λa' w'=>(i≠L->S w')/\iF P md ops bBP S L fuel (listed.setIfInBounds i oj) a' w') a w
theorem WH:∀(fuel:Nat) (listed:Array Bool) (a:Act) (w:aA),iF P md ops bBP S L fuel listed a w->wpAny P md ops bBP fuel listed a w
 |0,_,_,_,h=>h
 |fuel+1,_,_,_,h=>⟨h.1,λi c=>wpOp_mono (λa' w' b=>WH fuel _ a' w' b.2) (h.2 i c)⟩
def waits(md:Region.Mode)(ops:Array Oper)(L i:Nat):Bool:=
 match ops[L]?with
 |some o=>o.after.any λe=>Region.binds md e&&e.on==i
 |none=>oj
theorem KK(b:waits md ops L i=oj)(a:i∈Region.ready md ops listed):L∉Region.ready md ops listed:=by
 grind [mem_ready,waits]
theorem P4(q:ops[i]? =H oi)(u:∀(j:Nat) (o:Oper) cs b,ops[j]? =H o->o.op≠ .select cs b)(hl:waits md ops L i=oj)(x:∀c a w,bBP (.panic c) (a.put oi.dst v) w->bBP (.panic c) a w):
  ∀(fuel:Nat) (listed:Array Bool) (a:Act) (w:aA),
   (∀j g,ops[j]? =H g->j≠i->listed.getD j oj=po->(∀e∈g.after,Region.binds md e=oj->e.on≠i)->oi.apart ops g=oj)->
   i∈Region.ready md ops listed->YieldsIf P ops S oi v a->S w->
   iF P md ops bBP S L fuel (listed.setIfInBounds i oj) (a.put oi.dst v) w->iF P md ops bBP S L (fuel+1) listed a w
 |fuel,listed,a,w,hfree,hr,hy,hS,s=>by
  refine⟨λh=>(by grind),λj p=> ?_⟩;by_cases l:j=i
  .subst l;exact hy.wpOp q hS ⟨λ_=>hS,s⟩
  .have m:j≠L:=λe=>KK hl hr (e▸p);cases fuel with
   |zero=>
    have:=ready_mono p l;rw[s.1]at this;cases this
   |succ fuel=>
    obtain⟨r,g,d,FO⟩:=mem_ready.1 p;have B:∀e∈g.after,Region.binds md e=oj->e.on≠i:=λe f N C=>by
     grind [mem_ready]
    have A:∀k ok,ops[k]? =H ok->k≠i->(listed.setIfInBounds j oj).getD k oj=po->
      (∀e∈ok.after,Region.binds md e=oj->e.on≠i)->oi.apart ops ok=oj:=λk ok F y R qL=>by
     refine hfree k ok F y ?_ qL;by_cases Q:j=k<;>simp_all
    refine wpOp_mono (λa' w' n=>⟨λ_=>n.2.1 m,P4 q u hl x fuel (listed.setIfInBounds j oj) a' w' A (ready_mono hr (Ne.symm l)) n.1 (n.2.1 m) ?_⟩) (wpOp_putIf d (hfree j g d l r B) (λcs b=>u i oi cs b q) (λcs b=>u j g cs b d) x hy (s.2 j (ready_mono p l)));rw[Array.setIfInBounds_comm _ _ l];exact n.2.2
theorem Pu(d:Option Tmp)(b:ops[i]? =H oi)(hd:oi.dst=d)(hs:Region.noSelect ops=oj)(e:Region.free md ops listed i=oj)(l:(Region.ready md ops listed).contains i=oj)(hl:waits md ops L i=oj)(m:∀c a w,bBP (.panic c) (a.put oi.dst v) w->bBP (.panic c) a w)(j:YieldsIf P ops S oi v a)(g:S w)(h:iF P md ops bBP S L fuel (listed.setIfInBounds i oj) (a.put d v) w):iF P md ops bBP S L (fuel+1) listed a w:=
 P4 b (Region.noSelect_spec hs) hl m fuel listed a w (Region.free_spec b e) (by simpa using l) j g (hd▸h)
theorem I(i:Nat){d:Nat}(h:iF P md ops bBP S L fuel (listed.setIfInBounds i oj) a' w)(e:ops[i]? =H oi:=by rfl)(hd:oi.dst=H d:=by rfl)(hs:Region.noSelect ops=oj:=by kernel_rfl)(n:Region.free md ops listed i=oj:=by kernel_rfl)(g:(Region.ready md ops listed).contains i=oj:=by kernel_rfl)(hl:waits md ops L i=oj:=by kernel_rfl)(q:∀c a w,bBP (.panic c) (a.put oi.dst v) w->bBP (.panic c) a w:=by exact λ_ _ _ h=>h)(j:Region.wanted oi (yielded ops a.tmps)=oj:=by rfl)(l:∀w,S w->(execOp a.eval oi).run P w= .ok (.value v) w:=by(intro w b;(try dsimp only at b);(try obtain⟨z,b⟩:=b);(try obtain⟨u,b⟩:=b);(try obtain⟨y,b⟩:=b);(try obtain⟨x,b⟩:=b);(try obtain⟨A,b⟩:=b);(try obtain⟨r,b⟩:=b);(try obtain⟨m,b⟩:=b);go_simp;try with_reducible rfl))(p:S w:=by assumption)(ha:a.put (H d) v=a':=by(simp only[Act.put,List.setIfInBounds_toArray,List.set_cons_zero,List.set_cons_succ];try exact rfl)):iF P md ops bBP S L (fuel+1) listed a w:=
 Pu (H d) e hd hs n g hl q (.inl ⟨j,l⟩) p (ha▸h)
theorem Yq{o:Oper}(c:Region.ready md ops listed=[i])(d:ops[i]? =H o)(m:o.guard=K)(h:∀qL:Act->aA->Prop,dT (∀a' w',(i≠L->S w')->iF P md ops bBP S L fuel (listed.setIfInBounds i oj) a' w'->qL a' w')->Oper.wp P o a w qL bBP):
  iF P md ops bBP S L (fuel+1) listed a w:=by
 refine⟨λh=>(by rw[c]at h;cases h),λj b=> ?_⟩;rw[c]at b;obtain rfl:j=i:=by simpa using b
 have e:Region.wanted o (yielded ops a.tmps)=oj:=by grind [Region.wanted]
 have:=h (λa' w'=>(j≠L->S w')/\iF P md ops bBP S L fuel (listed.setIfInBounds j oj) a' w') (Lib.hid λa' w' g l=>⟨g,l⟩);unfold wpOp;simp only[d,e,if_true];exact .inl this
theorem xA(l:Region.ready md ops listed=[i,j])(c:ops[i]? =H o1)(n:ops[j]? =H o2)(d:o1.guard=K)(p:o2.guard=K)(e:∀qL:Act->aA->Prop,dT (∀a' w',(i≠L->S w')->iF P md ops bBP S L fuel (listed.setIfInBounds i oj) a' w'->qL a' w')->Oper.wp P o1 a w qL bBP)(g:∀qL:Act->aA->Prop,dT (∀a' w',(j≠L->S w')->iF P md ops bBP S L fuel (listed.setIfInBounds j oj) a' w'->qL a' w')->Oper.wp P o2 a w qL bBP):
  iF P md ops bBP S L (fuel+1) listed a w:=by
 refine⟨λh=>(by rw[l]at h;cases h),λk b=> ?_⟩;rw[l]at b;have gH:∀{k:Nat} {o:Oper},ops[k]? =H o->o.guard=K->(∀qL:Act->aA->Prop,dT (∀a' w',(k≠L->S w')->iF P md ops bBP S L fuel (listed.setIfInBounds k oj) a' w'->qL a' w')->Oper.wp P o a w qL bBP)->
   wpOp P ops bBP k (λa' w'=>(k≠L->S w')/\iF P md ops bBP S L fuel (listed.setIfInBounds k oj) a' w') a w:=λ{k o} c hg h=>by
  have m:Region.wanted o (yielded ops a.tmps)=oj:=by grind [Region.wanted]
  have:=h (λa' w'=>(k≠L->S w')/\iF P md ops bBP S L fuel (listed.setIfInBounds k oj) a' w') (Lib.hid λa' w' e g=>⟨e,g⟩);unfold wpOp;simp only[c,m,if_true];exact .inl this
 rcases List.mem_cons.1 b with b|b
 .subst b;exact gH c d e
 .obtain rfl:k=j:=by simpa using b
  exact gH n p g
theorem aY(b:Region.ready md ops listed=[])(h:bBP .normal a w):∀fuel,iF P md ops bBP S L fuel listed a w
 |0=>⟨b,h⟩
 |_+1=>⟨λ_=>h,by rw[b];simp⟩
theorem aO(L:Nat)(S:aA->Prop)(b:P.follows .mixedOrders=oj)(c:S w.drew)(h:S w.drew->iF P .any ops bBP S L ops.size (Array.replicate ops.size po) a w.drew):(Code.region id ops oj).wp P bBP a w:=
 wp_region_any b (WH _ _ _ _ (h c))
section
variable{P:cu}{md:Region.Mode}{ops:Array Oper}{bBP:Exit->Act->aA->Prop}{S:aA->Prop}{L:Nat}{w:aA}{a:Act}
def ds(P:cu)(md:Region.Mode)(ops:Array Oper)(bBP:Exit->Act->aA->Prop)(S:aA->Prop)(L:Nat)(_:List Nat)(fuel:Nat)(listed:Array Bool)(a:Act)(w:aA):Prop:=iF P md ops bBP S L fuel listed a w
theorem dt{i d:Nat}{ll:List Nat}(h:ds P md ops bBP S L ll fuel (listed.setIfInBounds i oj) a' w)(e:ops[i]? =H oi:=by rfl)(hd:oi.dst=H d:=by rfl)(hs:Region.noSelect ops=oj:=by kernel_rfl)(n:Region.free md ops listed i=oj:=by kernel_rfl)(g:(Region.ready md ops listed).contains i=oj:=by kernel_rfl)(hl:waits md ops L i=oj:=by kernel_rfl)(q:∀c a w,bBP (.panic c) (a.put oi.dst v) w->bBP (.panic c) a w:=by exact λ_ _ _ h=>h)(j:Region.wanted oi (yielded ops a.tmps)=oj:=by rfl)(l:∀w,S w->(execOp a.eval oi).run P w= .ok (.value v) w:=by(intro w b;(try dsimp only at b);(try obtain⟨z,b⟩:=b);(try obtain⟨u,b⟩:=b);(try obtain⟨y,b⟩:=b);(try obtain⟨x,b⟩:=b);(try obtain⟨A,b⟩:=b);(try obtain⟨r,b⟩:=b);(try obtain⟨m,b⟩:=b);go_simp;try with_reducible rfl))(p:S w:=by assumption)(ha:a.put (H d) v=a':=by(simp only[Act.put,List.setIfInBounds_toArray,List.set_cons_zero,List.set_cons_succ];try exact rfl)):ds P md ops bBP S L (i::ll) (fuel+1) listed a w:=
 Pu (H d) e hd hs n g hl q (.inl ⟨j,l⟩) p (ha▸h)
theorem dw(l:List Nat){m:Nat}{b:Array Bool}(h:iF P md ops bBP S L m b a' w)(c:iF P md ops bBP S L m b a' w->ds P md ops bBP S L l fuel listed a w:=by(intro h;(repeat refine dt ?_);exact h)):iF P md ops bBP S L fuel listed a w:=c h
def d6(S:aA->Prop)(w:aA):Prop:=S w
theorem d7{A:cj}{v:aF}(h:e7 w A=H v):d6 (λw=>e7 w A=H v) w.drew:=h
theorem eb{A:cj}{v:aF}(h:e7 w A=H v)(g:d6 S w.drew):d6 (λw=>e7 w A=H v/\S w) w.drew:=⟨h,g⟩
theorem ee{id:Nat}(L:Nat)(c:d6 S w.drew)(h:S w.drew->iF P .any ops bBP S L ops.size (Array.replicate ops.size po) a w.drew)(b:P.follows .mixedOrders=oj:=by kernel_rfl):(Code.region id ops oj).wp P bBP a w:=aO L S b c h
theorem ek{id:Nat}(L:Nat)(c:d6 S w.drew)(h:∀d,w.drew=d->U w [] d []->S d->iF P .any ops bBP S L ops.size (Array.replicate ops.size po) a d)(b:P.follows .mixedOrders=oj:=by kernel_rfl):(Code.region id ops oj).wp P bBP a w:=aO L S b c λq=>h _ rfl (U.refl w []).drew q
end
def aVa(R:Act->aA->Prop):Exit->Act->aA->Prop
 | .normal,a,w=>R a w
 |_,_,_=>False
theorem Cs(L:Nat)(S:aA->Prop)(R:Act->aA->Prop)(d:P.follows .mixedOrders=oj)(g:S w.drew)(h:S w.drew->iF P .any ops (aVa R) S L ops.size (Array.replicate ops.size po) a w.drew)(c:∀a' w',R a' w'->bBP .normal a' w'):(Code.region id ops oj).wp P bBP a w:=by
 refine Code.wp_mono (λe a' w' b=> ?_) (aO L S d g h);cases e<;>first|exact c a' w' b|exact False.elim b
end
section
variable{P:cu}{ops:Array Oper}{bBP:Exit->Act->aA->Prop}{md:Region.Mode}{S:aA->Prop}{L:Nat}
theorem Zo(i:Nat){o:Oper}(h:∀qL:Act->aA->Prop,dT (∀a' w',(i≠L->S w')->iF P md ops bBP S L fuel (listed.setIfInBounds i oj) a' w'->qL a' w')->Oper.wp P o a w qL bBP)(c:Region.ready md ops listed=[i]:=by kernel_rfl)(b:ops[i]? =H o:=by(simp only[List.getElem?_toArray,List.getElem?_cons_succ,List.getElem?_cons_zero];try exact rfl))(d:o.guard=K:=by rfl):iF P md ops bBP S L (fuel+1) listed a w:=
 Yq c b d h
theorem Zk(hK:dT (∀a' w',(i≠L->S w')->iF P md ops bBP S L fuel listed a' w'->qL a' w'))(b:S w)(h:iF P md ops bBP S L fuel listed a' w)(ha:a=a':=by(try simp only[Act.put,List.setIfInBounds_toArray,List.set_cons_zero,List.set_cons_succ])<;>try exact rfl):qL a w:=hK.out a w (λ_=>b) (ha▸h)
theorem Zl(hK:dT (∀a' w',(i≠i->S w')->iF P md ops bBP S i fuel listed a' w'->qL a' w'))(h:bBP .normal a' w)(b:Region.ready md ops listed=[]:=by kernel_rfl)(ha:a=a':=by(try simp only[Act.put,List.setIfInBounds_toArray,List.set_cons_zero,List.set_cons_succ])<;>try exact rfl):qL a w:=hK.out a w (λh=>absurd rfl h) (aY b (ha▸h) _)
theorem j8(h:iF P md ops bBP S L fuel listed a' w)(ha:a=a':=by(try simp only[Act.put,List.setIfInBounds_toArray,List.set_cons_zero,List.set_cons_succ])<;>try exact rfl)(hK:dT (∀a' w',(i≠L->S w')->iF P md ops bBP S L fuel listed a' w'->qL a' w'):=by exact hK)(b:S w:=by exact Q):qL a w:=hK.out a w (λ_=>b) (ha▸h)
theorem MH(h:bBP .normal a' w)(hK:dT (∀a' w',(i≠i->S w')->iF P md ops bBP S i fuel listed a' w'->qL a' w'):=by exact hK)(b:Region.ready md ops listed=[]:=by kernel_rfl)(ha:a=a':=by(try simp only[Act.put,List.setIfInBounds_toArray,List.set_cons_zero,List.set_cons_succ])<;>try exact rfl):qL a w:=hK.out a w (λh=>absurd rfl h) (aY b (ha▸h) _)
end
end
variable{ts:List jF}
theorem ZM93{P:Prop}(h:P:=by
  go_wp2;go_ret;obtain rfl:k=O ts:=Y;obtain rfl:bC ts []=L:=by rw[<-OT,R9]
  exact⟨_,rfl,HL.eE cM.size,cM.dd hU⟩):P:=h
def xR(s:dU):Nat->aF:=λ_=>j3 s
abbrev II(w:aA)(v:aF)(l:List dU):Prop:=eX xR bO 1 w v l
abbrev vC(w0 w:aA)(v:aF)(l:List dU):Prop:=bG xR bO 9 1 w0 w v l
theorem eX.DR{α:Type}{f:α->Nat->aF}{d:α}{l:List α}(h:eX f d 1 w v l)(a:i<O l):∃g o cap,v=hY (H ⟨g,o,K⟩) (O l) cap/\e7 w ⟨g,o+i,K⟩=H (f (ep l i d) 0):=by
 let⟨g,o,cap,hv,_,b⟩:=eX.aU h a;refine⟨g,o,cap,hv,?_⟩;simpa using b 0 Y
theorem dH{x:aF}{f:Nat->aF}(h:x=f 0):∀j,j<1->ep [x] j undef=f j:=λj a=>by
 obtain rfl:j=0:=Y;exact h
theorem aIS:jM prog 22 9 1 16:= .PU (z:=j3 {data:=#[]}) underlying22 dB rfl
theorem yG(a b:dU):(a.toList==b.toList)=decide (a=b):=by
 rw[ByteArray.toList_eq,ByteArray.toList_eq];rw[Bu,JY,RK];exact⟨λh=>ByteArray.ext (Array.ext' h),λh=>h▸rfl⟩
theorem nW{x:dU}(h:x=bO):x.toList=[]:=by subst h;rw[ByteArray.toList_eq];rfl
theorem iR{x:dU}(h:x≠bO):¬x.toList=[]:=λe=>h (by
 have:=yG x bO;rw[e,nW rfl]at this;exact of_decide_eq_true this.symm)
theorem pC{x:dU}(h:x≠bO):x.toList.isEmpty=po:=by
 cases a:x.toList with
 |nil=>exact dS a (iR h)
 |cons=>rfl
theorem WX{a b:dU}(h:a≠b):(a.toList==b.toList)=po:=by rw[yG];exact jO h
def Vx(l:List dU)(s:dU):Int:=if s∈l then(l.idxOf s:Int)else-1
theorem Ic{l:List dU}{s:dU}{k:Nat}(a:k<O l)(hs:ep l k bO=s)(e:∀j,j<k->ep l j bO≠s):Vx l s=k:=by
 rw[iB,kX a,NQ]at hs;have c:s∈l:=hs▸kt a;unfold Vx;rw[bR c];have d:=List.idxOf_lt_length_iff.2 c;rcases Nat.lt_trichotomy (l.idxOf s) k with h|h|h
 .exact dS (by rw[iB,kX d,NQ];exact List.getElem_idxOf d) (e _ h)
 .omega
 .have b:=List.not_of_lt_findIdx (p:=(·==s)) (xs:=l) h;rw[hs]at b;simp at b
theorem Vw{l:List dU}{s:dU}(d:∀j,j<O l->ep l j bO≠s):Vx l s= -1:=by
 unfold Vx;rw[bD];intro c;let⟨i,a,b⟩:=Pn c;exact d i a (by rw[iB,kX a];exact b)
theorem jd(v:aF)(l:List dU)(s:dU)(w:aA)(h:II w v l):
  aH prog 66 #[v,j3 s] w λe w'=>e=i5 (i6 i7 (Vx l s))/\U w [] w' []:=by
 obtain⟨a,cap,rfl,p⟩:=h.len;unfold bw at p;go_in;go_wp2;go_loopw [5] (λi wr=>U w [] wr []/\∃k:Nat,k<=O l/\i=J k/\∀j,j<k->ep l j bO≠s) (λi _=>O l-(intOf i).toNat)
 .exact⟨U.refl _ _,0,Y,rfl,λj m=>Y⟩
 obtain⟨b,k,A,rfl,d⟩:=hrel;by_cases n:k<O l
 .let⟨g,o,cap',hv,r⟩:=(h.on b).DR n;injection hv with h1 h2 h3;subst h1 h3;let⟨x,c⟩:=E (ep l k bO);simp only[xR,c]at r;by_cases hs:x=s
  .subst hs;go_wp2;go_ret;exact⟨wJ (λz=>i5 (J z)) (Ic n c d).symm,b⟩
  .have u:=Z hs;have y:=WX hs;go_wp2;go_roundw
   .exact⟨b,k+1,Y,eO,λj m=>by
    by_cases q:j=k
    .subst q;rw[c];exact u.o
    .exact d j Y⟩
   simp[intOf];omega
 .go_wp2;go_ret;exact⟨wJ (λz=>i5 (J z)) (Vw λj m=>d j Y).symm,b⟩
theorem Ay(l:List dU)(s:dU):decide (0<=Vx l s)=decide (s∈l):=by
 unfold Vx;split
 .rename_i h;simp[h]
 .rename_i h;simp[h]
theorem O6(v:aF)(l:List dU)(s:dU)(w:aA)(h:II w v l):
  aH prog 103 #[v,j3 s] w λe w'=>e=i5 (j4 (decide (s∈l)))/\U w [] w' []:=by
 go_in;go_wp2_with (go_at_call 66;apply(jd v l s w h).cL;intro w' a);go_ret;exact⟨by rw[<-Ay];rfl,a⟩
def jF.cell(t:jF):Nat->aF
 |0=>j3 t.var
 |1=>i6 i7 t.vY.aG
 |2=>i6 i7 t.vY.num
 |_=>j3 t.vY.eR
abbrev zB(w:aA)(v:aF)(l:List jF):Prop:=eX jF.cell qc 4 w v l
theorem dA(a b:Nat):((a:Int)==(b:Int))=decide (a=b):=by
 rw[Bu,JY,RK];omega
theorem bM{α:Type}{l:List α}{d:α}{k:Nat}(a:k<O l):ep l k d∈l:=by
 rw[iB,kX a];exact kt a
theorem fG{α:Type}{l:List α}{d:α}(h:i<O l):l.take (i+1)=l.take i++[ep l i d]:=by
 rw[List.take_add_one,iB,kX h];rfl
theorem K1(h:i<O ts)(out:List dU):
  bC (ts.take (i+1)) out=if(ep ts i qc).var=bO then bC (ts.take i) out else gX (bC (ts.take i) out) (ep ts i qc).var:=by
 rw[fG (d:=qc) h,rY];rfl
theorem N6(v:aF)(rel:dU)(ts:List jF)(w:aA)(h:zB w v ts)(G:O ts<=1048576):
  aH prog 102 #[.agg #[j3 rel,v]] w λe w'=>∃u,e=i5 u/\vC w w' u (bC ts [])/\U w [] w' []:=by
 obtain⟨a,cap,rfl,C⟩:=h.len;go_in;go_wp2;let⟨w1,l⟩:=E (e8 w (h8 #[j3 rel,hY a (O ts) cap] 52));have cM:=Za l;have A:e7 w1 ⟨w,1,K⟩=H (hY a (O ts) cap):=l▸aL (lK w _) rfl;rw[l];clear l;unfold bw at C;go_loopw [3,4] (λp i wr=>U w1 [] wr []/\∃(k:Nat) (L:List dU),k<=O ts/\i=J k/\bC (ts.take k) []=L/\vC w1 wr p L) (λ_ i _=>O ts-(intOf i).toNat)
 .exact⟨U.refl _ _,0,[],Y,rfl,rfl,bG.nil _ _⟩
 obtain⟨hU,k,L,s,rfl,OT,m⟩:=hrel;have j:=gG (ts.take k) [];rw[VQ,List.length_nil,OT]at j;have c1:=hU.cell A X;obtain⟨a3,qL,rfl,f⟩:=m.len;have HL:=Z m;clear m;by_cases n:k<O ts
 .let⟨g,o,cap',hv,_,r⟩:=(h.on (cM.dd hU)).aU n;injection hv with h1 h2 h3;subst h1 h3;clear h2;have c2:e7 wr (Ad g (o+k*4))=H (j3 (ep ts k qc).var):=r 0 Y;have b:=Z (K1 n []);clear r;generalize q:(ep ts k qc).var=x at c2;rw[q]at b;clear q;rw[OT]at b;by_cases hs:x=bO
  .have b:dT (bC (ts.take (k+1)) []=L):=Z (by rw[b.o,bR hs]);have z:=nW hs;clear hs;go_wp2;go_roundw
   .exact⟨hU,k+1,_,Y,eO,b,HL⟩
   simp[intOf];omega
  .have b:dT (bC (ts.take (k+1)) []=gX L x):=Z (by rw[b.o,bD hs]);have z:=iR hs;have Q:=pC hs;clear hs;by_cases d:x∈L
   .have b:dT (bC (ts.take (k+1)) []=L):=Z (b.o▸bR d);have hd:=kI d;clear d;go_wp2_with (go_at_call 103;apply(O6 _ _ _ _ HL.rd).cL;intro w2 c);go_roundw
    .exact⟨hU.dd c,k+1,_,Y,eO,b,HL.on c⟩
    simp[intOf];omega
   .have b:dT (bC (ts.take (k+1)) []=L++[x]):=Z (b.o▸bD d);have hd:=jO d;clear d;go_wp2_with (first
     |(at_builtin;refine cK aIS rfl _ _ rfl (HL.on c) (hU.dd c) Yr [j3 x] x Yr rfl (dH rfl) rfl Y F4 ?_;rintro g2 P w3 y B- -;have F:=Z y;clear y)
     |(go_at_call 103;apply(O6 _ _ _ _ HL.rd).cL;intro w2 c;have c3:=c.cell c1 X;have N:=c.cell c2 X))
    go_roundw
    .exact⟨B,k+1,_,Y,eO,b,F⟩
    simp[intOf];omega
 .exact ZM93
theorem ZM135{P:Prop}(h:P:=by
  go_wp2;go_quiet (fail);go_wp2;go_roundw
  .exact⟨hU.drewN _,k+1,Y,eO⟩
  simp[intOf];omega):P:=h
theorem aLL:wI prog 22 9 1 16 #[j3 {data:=#[]}]:= .PU (z:=j3 {data:=#[]}) underlying22 dB rfl rfl
theorem Pp:wI prog 50 67 4 48 #[j3 {data:=#[]},i6 i7 0,i6 i7 0,j3 {data:=#[]}]:=
 .PU (z:= .agg #[j3 {data:=#[]},J 0,J 0,j3 {data:=#[]}]) underlying50 dB rfl rfl
theorem Fj(v:aF)(l:List dU)(w:aA)(h:II w v l)(m:O l<=1048576):
  aH prog 25 #[v] w λe w'=>∃u,e=i5 u/\vC w w' u l/\U w [] w' []:=by
 obtain⟨a,cap,hv,b⟩:=h.len;subst hv;have g:=aLL.wO (O l) (O l) (fV _) Y b;obtain⟨w2,d,j,i,-⟩:=QO (w0:=w) aIS Y 3 w.heap.size (aLL.yF (O l) (O l) (fV _) b w Y) (fV _) ((U.refl w []).alloc _) (h.on ((U.refl w []).alloc _)) (λ_ _ _ _=>rfl);simp only[wZ]at g d;have c:=Z j;unfold bw at b;go_in;go_wp2;go_ret;exact⟨_,rfl,c,i⟩
theorem Jq(v1 v2:aF)(l:List dU)(w:aA)(c:II w v1 l)(d:II w v2 l):
  aH prog 35 #[v1,v2] w λe w'=>e=i5 (j4 oj)/\U w [] w' []:=by
 obtain⟨a1,r,rfl,j⟩:=c.len;obtain⟨a2,u,rfl,-⟩:=d.len;unfold bw at j;go_in;go_wp2;go_loopw [5] (λi wr=>U w [] wr []/\∃k:Nat,k<=O l/\i=J k) (λi _=>O l-(intOf i).toNat)
 .exact⟨U.refl _ _,0,Y,rfl⟩
 obtain⟨hU,k,p,rfl⟩:=hrel;by_cases g:k<O l
 .let⟨n,o1,c1,hv,a⟩:=(c.on hU).DR g;let⟨g2,o2,c2,m,b⟩:=(d.on hU).DR g;injection hv with e1 e2 e3;subst e1 e3;injection m with e1 e2 e3;subst e1 e3;simp only[xR]at a b;generalize q:ep l k bO=x at a b;exact ZM135
 .go_wp2;go_ret;exact⟨rfl,hU⟩
def vW(p:dU×aF):Nat->aF
 |0=>j3 p.1
 |_=>p.2
theorem Na(v:aF)(rel:dU)(l:List jF)(w:aA)(h:zB w v l)(G:O l<=1048576):
  aH prog 26 #[.agg #[j3 rel,v]] w λe w'=>∃u,e=i5 (.agg #[j3 rel,u])/\bG jF.cell qc 67 4 w w' u l/\U w [] w' []:=by
 obtain⟨a,cap,hv,d⟩:=h.len;subst hv;have f:=Pp.wO (O l) (O l) (fV _) Y d;go_in;unfold bw at d;go_wp2;have p:=(((U.refl w []).alloc (h8 #[j3 rel,hY a (O l) cap] 52)).alloc (h8 #[j3 {data:=#[]},cH] 52));have n:=Pp.yF (O l) (O l) (fV _) d ((w.alloc (h8 #[j3 rel,hY a (O l) cap] 52)).alloc (h8 #[j3 {data:=#[]},cH] 52)) Y;have b:hJ ((w.alloc (h8 #[j3 rel,hY a (O l) cap] 52)).alloc (h8 #[j3 {data:=#[]},cH] 52)).heap=hJ w.heap+1+1:=X;rw[b]at n;let⟨w2,r,z,y,m⟩:=QO (w0:=w) Pp.ok Y 3 (hJ w.heap+1+1) n Y (p.alloc _) (h.on (p.alloc _)) (λx _ j F=>by
  match j,F with
  |0,_=>rfl
  |1,_=>rfl
  |2,_=>rfl
  |3,_=>rfl)
 simp only[r,Result.andThen_ok];have q:rW w2 w.heap.size #[j3 rel,hY a (O l) cap] 52:=m.aC (Vz _ _ _ _) (by simp;omega);have c:rW w2 (hJ w.heap+1) #[j3 {data:=#[]},cH] 52:=m.aC (Vy _ _ _ _) X;have N:=Zc q 0;have e0:=Zc c 0;have qL:=Zc c 1;have L:=aM c;go_wp2;refine mD (gO ⟨hJ w.heap+1,0,K⟩ rfl Yr (v:= .agg #[j3 rel,hY (H ⟨hJ w.heap+1+1,0,K⟩) (O l) (O l)]) (by go_simp)) rfl ?_;have C:=((y.setCell (a:=⟨hJ w.heap+1,0,K⟩) (.inr X) (j3 rel)).setCell (a:=⟨hJ w.heap+1,1,K⟩) (.inr X) (hY (H ⟨hJ w.heap+1+1,0,K⟩) (O l) (O l)));refine⟨_,rfl,?_,C⟩;exact z.eF (((U.refl w2 [hJ w.heap+1]).setCell (a:=⟨hJ w.heap+1,0,K⟩) (.inl X) (j3 rel)).setCell (a:=⟨hJ w.heap+1,1,K⟩) (.inl X) (hY (H ⟨hJ w.heap+1+1,0,K⟩) (O l) (O l))) (λg A=>by
  simp[gz]at A;simp;omega)
variable{ps:List (dU×aF)}{q:bB}{av hv v':aF}
def oL.CU(a:oL):List dU:=a.rel::a.aS.flatMap λt=>[t.var,t.vY.eR]
def bB.CU(q:bB):List dU:=q.name::(q.head++q.aD.flatMap oL.CU)
structure bB.jS(q:bB):Prop where
 head:O q.head<=1048576
 aD:O q.aD<=1048576
 aS:O (q.aD.flatMap (·.aS))<=1048576
 CU:∀s,s∈q.CU->s.size<=1048576
structure B9(w:aA)(hv av:aF)(ps:List (dU×aF))(q:bB):Prop where
 head:II w hv q.head
 aD:eX vW qc 2 w av ps
 len:O ps=O q.aD
 j5:∀i,i<O q.aD->(ep ps i qc).1=(ep q.aD i qc).rel/\zB w (ep ps i qc).2 (ep q.aD i qc).aS
 dM:q.jS
theorem B9.on(h:B9 w hv av ps q)(a:U w [] w' S'):B9 w' hv av ps q:=
 ⟨h.head.on a,h.aD.on a,h.len,λi b=>⟨(h.j5 i b).1,(h.j5 i b).2.on a⟩,h.dM⟩
theorem B9.o7(h:B9 w hv av ps q){k:Nat}(c:k<O q.aD):
  ∃g o cap ta a,g<hJ w.heap/\av=hY (H ⟨g,o,K⟩) (O q.aD) cap/\e7 w ⟨g,o+k*2,K⟩=H (j3 (ep q.aD k qc).rel)/\e7 w ⟨g,o+k*2+1,K⟩=H (hY ta (O (ep q.aD k qc).aS) a)/\
   zB w (hY ta (O (ep q.aD k qc).aS) a) (ep q.aD k qc).aS:=by
 have l:k<O ps:=h.len▸c;let⟨g,o,cap,hv,i,b⟩:=h.aD.aU l;let⟨j,d⟩:=h.j5 k c;obtain⟨ta,a,e,_⟩:=d.len;refine⟨g,o,cap,ta,a,i,by rw[hv,h.len],?_,?_,e▸d⟩
 .have:=b 0 Y;rw[<-j];exact this
 .have:=b 1 Y;rw[<-e];exact this
theorem F8{k:Nat}(b:k<O q.aD):O (ep q.aD k qc).aS<=O (q.aD.flatMap (·.aS)):=by
 have c:ep q.aD k qc∈q.aD:=by rw[iB,kX b];exact kt b
 generalize ep q.aD k qc=a at c;let⟨s,t,d⟩:=List.append_of_mem c;rw[d];simp;omega
theorem aBf:∀{l:List jF} (x:jF),x∈l->∀j,j<4->(x.cell j).oneCell'=oj:=λx _ j a=>by
 match j,a with
 |0,_=>rfl
 |1,_=>rfl
 |2,_=>rfl
 |3,_=>rfl
theorem dJ{o:Oper}{t:ap}(s x:Operand)(b:o.op= .call {callee:= .builtin .append,args:=#[s,x],argTypes:=#[t,t]})(hs:a.eval s=v)(d:a.eval x=u)(c:(Builtin.append_ #[t,t] o.type #[v,u]).run P w= .ok v' w')(h:qL (a.put o.dst v') w'):Oper.wp P o a w qL bBP:=by
 unfold Oper.wp execOp;simp only[b,resolve,invoke,builtin,Sem.run_bind,Sem.run_pure,Result.andThen_ok,List.map_toArray,UU,List.map_nil,hs,d,c];exact h
theorem IC{α β:Type}(f:α->List β){l:List α}{d:α}{k:Nat}(a:k<O l):(l.take (k+1)).flatMap f=(l.take k).flatMap f++f (ep l k d):=by
 rw[fG (d:=d) a,List.flatMap_append];simp
theorem tV{α β:Type}(f:α->List β){l:List α}{k:Nat}:O ((l.take k).flatMap f)<=O (l.flatMap f):=by
 conv=>rhs;rw[<-List.take_append_drop k l]
 rw[List.flatMap_append,F5];omega
theorem aTt:jM prog 50 67 4 48:=Pp.ok
theorem RW(hv av:aF)(ps:List (dU×aF))(q:bB)(w:aA)(h:B9 w hv av ps q):
  aH prog 65 #[.agg #[j3 q.name,hv,av]] w λe w'=>∃u,e=i5 u/\vC w w' u (vars q)/\U w [] w' []:=by
 obtain⟨ha,hc,rfl,-⟩:=h.head.len;obtain⟨aa,s,rfl,-⟩:=h.aD.len;have p:=h.len;rw[p]at h|-;have S:=h.dM;go_in;go_wp2;let⟨wa,B⟩:=E (e8 w (h8 #[j3 q.name,hY ha (O q.head) hc,hY aa (O q.aD) s] 25));have N:hJ wa.heap=hJ w.heap+1:=by rw[<-B];simp
 have z:=Za B;have b2:e7 wa ⟨w,2,K⟩=H (hY aa (O q.aD) s):=by rw[<-B];exact aL (lK w _) rfl
 rw[B];let⟨w1,y⟩:=E (e8 wa (h8 #[j3 {data:=#[]},cH] 52));have V:=Za y;have d1:rW w1 (hJ w.heap+1) #[j3 {data:=#[]},cH] 52:=by rw[<-y,<-N];exact lK wa _
 have f:hJ w1.heap=hJ w.heap+1+1:=by rw[<-y];simp[N]
 rw[y];have m:=Z (dX N f);have aYO:=S.aD;go_loopw [4] (λi wr=>U wa [] wr []/\∃(k:Nat) (ta:Option cj) (r v:Nat),k<=O q.aD/\i=J k/\rW wr (hJ w.heap+1) #[j3 {data:=#[]},hY ta r v] 52/\
  bG jF.cell qc 67 4 w1 wr (hY ta r v) ((q.aD.take k).flatMap (·.aS))) (λi _=>O q.aD-(intOf i).toNat)
 .exact⟨V,0,K,0,0,Y,rfl,d1,bG.nil _ _⟩
 obtain⟨j,k,ta,r,v,hk,rfl,n,hL⟩:=hrel;have c2:=j.cell b2 (by simp);have e1:=Zc n 1;have e0:=Zc n 0;have ef:=aM n;have F:=Z hL;by_cases T:k<O q.aD
 .let⟨g,o,cap,ga,gc,hg,hv,a0,a1,G⟩:=h.o7 T;have a1:=(z.dd j).cell a1 (by simp);have G:=G.on (z.dd j);injection hv with x1 x2 x3;subst x1 x3;have C:=Z (IC (λx:oL=>x.aS) (d:=qc) T);have c:=tV (λx:oL=>x.aS) (l:=q.aD) (k:=k+1);rw[C.out,F5]at c;have hle:=S.aS;let⟨ts,Xm⟩:=E ((ep q.aD k qc).aS);rw[Xm]at a1 G C c;let⟨L,OT⟩:=E ((q.aD.take k).flatMap (·.aS));rw[OT]at F C c;go_wp2;refine ee 10 (eb e1<|eb c2<|d7 a1) (λQ=> ?_);refine dw [0,1,2,3,4,5,6,7] ?_;refine Zo 8 λqL hK=> ?_;obtain⟨v',w2,dP,A2,P,A,a2,R,rfl⟩:=jR (w:=wr.drew) aTt (by omega) 50 F.drew j.drew (by rw[m.o.1,m.o.2];omega) (by have:=V.size;have:=cV n;show hJ w1.heap<=hJ wr.heap;rw[m.o.2];omega) (G.on (U.refl _ []).drew) aBf (by omega) F4;refine dJ _ _ rfl (by rfl) (by rfl) dP ?_;have zW:∀b,b<hJ w.heap+1+1->b∉(hY ta r v).ownBlock.toList:=λb hb=>F.zW (by rw[m.o.2];exact hb);have Q:=dX (A.cell Q.1 (zW (hJ w.heap+1) (by omega))) (dX (A.cell Q.2.1 (zW w.heap.size (by omega))) (A.cell Q.2.2 (zW g (by omega))));have gT:=Z (A.aC (show wr.drew.heap[hJ w.heap+1]? =_ from n) (zW (hJ w.heap+1) (by omega)));have Co:=Z A2;have e1:=Q.1;have ef:=aM gT.out;refine j8 ?_;clear hK qL;refine I 9 ?_;refine Zo 10 λqL hK=> ?_;go_simp;refine MH ?_;clear hK qL;have sH:=aE (i:=1) (hY a2 (O L+O ts) R) gT.out;have pV:=Co.eF ((U.refl w2 [hJ w.heap+1]).setCell (a:=⟨hJ w.heap+1,1,K⟩) (.inl (by simp)) (hY a2 (O L+O ts) R)) (λg' IW hm=>by
   have:=Co.2 g' IW;rw[m.o.2]at this;simp at hm;omega)
  go_wp2;go_roundw
  .exact⟨P.setCell (a:=⟨hJ w.heap+1,1,K⟩) (.inr (by rw[m.o.1];exact fV _)) _,k+1,a2,_,R,by omega,eO,sH,by rw[C.out];exact pV⟩
  simp[intOf];omega
 .go_wp2_with (go_at_call 102;apply(N6 _ _ _ _ F.rd (jN (tV _) S.aS)).cF;rintro e w2 ⟨u,rfl,hO,P⟩);go_ret;obtain rfl:k=O q.aD:=by omega
  have W:=hO;rw[R9,<-P6]at W;exact⟨_,rfl,W.eE (jN (z.dd j).size (fV _)),z.dd (j.dd P)⟩
variable{l:List ES}
def uZ(x:ES):Nat->aF
 |0=>i6 i7 (x.1:Int)
 |_=>i6 kd (x.2:Int)
abbrev Ik(w:aA)(v:aF)(l:List ES):Prop:=eX uZ qc 2 w v l
abbrev LL(w0 w:aA)(v:aF)(l:List ES):Prop:=bG uZ qc 187 2 w0 w v l
theorem jS.aU(h:jS l)(i:Nat):(ep l i qc).2<2^32:=by
 rw[iB];cases a:l[i]?with
 |none=>exact Nat.two_pow_pos 32
 |some x=>exact h x (rh a)
theorem eX.qb{α:Type}{f:α->Nat->aF}{d:α}{l:List α}(h:eX f d 2 w v l)(b:i<O l):
  ∃g o cap,v=hY (H ⟨g,o,K⟩) (O l) cap/\g<hJ w.heap/\e7 w ⟨g,o+i*2,K⟩=H (f (ep l i d) 0)/\e7 w ⟨g,o+i*2+1,K⟩=H (f (ep l i d) 1):=by
 let⟨g,o,cap,hv,c,a⟩:=eX.aU h b;exact⟨g,o,cap,hv,c,a 0 Y,a 1 Y⟩
def p8(l:List ES)(a k:Nat):Nat:=(List.range k).foldl (λs i=>if i=a then s else s|||(ep l i qc).2) 0
theorem EC(l:List ES)(a k:Nat):p8 l a (k+1)=if k=a then p8 l a k else p8 l a k|||(ep l k qc).2:=by
 unfold p8;rw[Yl,kr];rfl
theorem KH(hs:jS l)(a:Nat):∀k,p8 l a k<2^32
 |0=>Nat.two_pow_pos 32
 |k+1=>by
  rw[EC];split
  .exact KH hs a k
  .exact Nat.or_lt_two_pow (KH hs a k) (hs.aU k)
theorem xC(l:List ES)(a v:Nat):∀k,(p8 l a k).testBit v=oj↔∃i,i<k/\i≠a/\(ep l i qc).2.testBit v=oj
 |0=>by simp[p8]
 |k+1=>by
  rw[EC];split
  .rename_i h;rw[xC l a v k];constructor
   .rintro⟨i,d,b⟩;exact⟨i,Y,b⟩
   .rintro⟨i,d,b⟩;exact⟨i,Y,b⟩
  .rename_i h;rw[Nat.testBit_or,Bool.or_eq_true,xC l a v k];constructor
   .rintro(⟨i,d,b⟩|b)
    .exact⟨i,Y,b⟩
    .exact⟨k,Y,h,b⟩
   .rintro⟨i,d,b,e⟩;by_cases c:i=k
    .subst c;exact .inr e
    .exact .inl ⟨i,Y,b,e⟩
theorem ur(hd:(nK l).Nodup){a:Nat}(ha:a<O l):p8 l a (O l)=BN l (ep l a qc).1:=by
 refine Fb λv=> ?_;rw[Bu,xC,GZ];have e:∀i,(b:i<O l)->ep l i qc=l[i]:=λi b=>by rw[iB,kX b];rfl
 have m:∀i,(b:i<O l)->(nK l)[i]'(by simpa[nK]using b)=(ep l i qc).1:=λi b=>by rw[e i b];simp[nK]
 constructor
 .rintro⟨i,g,p,n⟩;refine⟨(ep l i qc).1,λc=>p ?_,(ep l i qc).2,bM (d:=qc) g,n⟩;rw[<-m i g,<-m a ha]at c;exact(List.getElem_inj hd).1 c
 .rintro⟨j,q,s,hs,hv⟩;let⟨i,b,c⟩:=Pn hs;refine⟨i,b,λh=>q ?_,?_⟩
  .subst h;rw[e i b,c]
  .rw[e i b,c];exact hv
theorem Gd{s t:Nat}(hs:s<2^32)(d:t<2^32):s+fD t s=s|||t:=by
 have h:=Wa (a:=s|||t) (b:=s) (Nat.or_lt_two_pow hs d);have c:(s|||t)&&&s=s:=by
  refine Fb λi=> ?_;rw[Nat.testBit_and,Nat.testBit_or];cases s.testBit i<;>simp
 have e:fD (s|||t) s=fD t s:=by
  refine Fb λi=> ?_;rw[cI,cI,Nat.testBit_or];cases s.testBit i<;>simp
 rw[c,e]at h;exact h
theorem O'(v:aF)(l:List ES)(a:Nat)(w:aA)(h:Ik w v l)(hs:jS l)(hl:O l<=7)(ha:a<O l)(hd:(nK l).Nodup):
  aH prog 110 #[v,i6 i7 a] w λe w'=>e=i5 (i6 kd (BN l (ep l a qc).1))/\w=w':=by
 obtain⟨ad,cap,rfl,-⟩:=h.len;have n:=Z hs;go_in;go_wp2;go_loopg [5,6] (O l) (λg s i wr=>w=wr/\∃k:Nat,k<=O l/\g=O l-k/\i=J k/\s=i6 kd (p8 l a k))
 .exact⟨rfl,0,Y,rfl,rfl,rfl⟩
 obtain⟨rfl,k,A,rfl,rfl,rfl⟩:=hrel;by_cases y:k<O l
 .let⟨g,o,cap',hv,_,c0,c1⟩:=h.qb y;injection hv with m r h3;subst m h3;have j:=(n.aU k);have d:=(KH n a k);have b:=Z (EC l a k);simp only[uZ]at c1;let⟨t,x⟩:=E ((ep l k qc).2);let⟨s,hs⟩:=E (p8 l a k);rw[x]at c1 j b;rw[hs]at d b|-;by_cases c:k=a
  .have p:((k:Int)!=(a:Int))=po:=by rw[bne,dA,kI c];rfl
   have b:dT (p8 l a (k+1)=s):=Z (by rw[b.o,bR c]);go_wp2;go_roundg (O l-(k+1))
   .exact⟨rfl,k+1,Y,rfl,eO,by rw[b.o]⟩
   omega
  .have p:((k:Int)!=(a:Int))=oj:=by rw[bne,dA,jO c];rfl
   have b:dT (p8 l a (k+1)=s|||t):=Z (by rw[b.o,bD c]);go_wp2_with (go_at_call 109;apply(FG t s j d _).cL;rintro w2 rfl);go_roundg (O l-(k+1))
   .exact⟨rfl,k+1,Y,rfl,eO,by
    rw[b.o];have m:=(Gd d j);have r:=Xc (Nat.or_lt_two_pow d j) (by decide:2^32=4294967296);congr 1;omega⟩
   omega
 .obtain rfl:k=O l:=Y;rw[ur hd ha];go_wp2;go_ret;exact⟨rfl,rfl⟩
def EN(x:Nat):Nat->aF:=λ_=>i6 kd (x:Int)
abbrev CI(w:aA)(v:aF)(l:List Nat):Prop:=eX EN 0 1 w v l
abbrev wY(w0 w:aA)(v:aF)(l:List Nat):Prop:=bG EN 0 134 1 w0 w v l
theorem aEX:jM prog 178 187 2 16:= .PU (z:= .agg #[J 0,i6 kd 0]) underlying178 dB rfl
def OH(es:List Nat)(k:Nat):List ES:=(List.range k).map λi=>(i,ep es i 0)
theorem Us(es:List Nat)(k:Nat):OH es (k+1)=OH es k++[(k,ep es k 0)]:=by
 unfold OH;rw[Yl,R8];rfl
theorem Do(es:List Nat)(k:Nat):O (OH es k)=k:=by simp[OH]
theorem VR{x y:aF}{f:Nat->aF}(c:x=f 0)(b:y=f 1):∀j,j<2->ep [x,y] j undef=f j:=λj a=>by
 match j,a with
 |0,_=>exact c
 |1,_=>exact b
theorem J'(v:aF)(es:List Nat)(n:Int)(w:aA)(h:CI w v es)(hl:O es<=1048576):
  aH prog 68 #[.agg #[i6 i7 n,v]] w λe w'=>∃u,e=i5 u/\LL w w' u (bW es)/\U w [] w' []:=by
 obtain⟨ad,cap,rfl,-⟩:=h.len;go_in;go_wp2;let⟨wa,d⟩:=E (e8 w (h8 #[J n,hY ad (O es) cap] 133));have l:=Za d;have y:e7 wa ⟨w,1,K⟩=H (hY ad (O es) cap):=d▸aL (lK w _) rfl;rw[d];go_loopg [3,4] (O es) (λg p i wr=>U wa [] wr []/\∃k:Nat,k<=O es/\g=O es-k/\i=J k/\LL wa wr p (OH es k))
 .exact⟨U.refl _ _,0,Y,rfl,rfl,bG.nil _ _⟩
 obtain⟨b,k,G,rfl,rfl,m⟩:=hrel;have c1:=b.cell y X;obtain⟨a3,f,rfl,-⟩:=m.len;have j:=Z m;by_cases r:k<O es
 .let⟨g,o,cap',hv,c2⟩:=(h.on (l.dd b)).DR r;injection hv with h1 h2 h3;subst h1 h3;simp only[EN]at c2;have c:=(Us es k);have a:=Do es k;generalize B:ep es k 0=x at c2 c;generalize C:OH es k=L at j c a|-;go_wp2_with (at_builtin;refine cK aEX rfl _ _ rfl j b Yr [J k,i6 kd x] (k,x) Yr rfl (VR rfl rfl) rfl Y F4 ?_;rintro g2 F w3 A q- -;have z:=Z A);go_roundg (O es-(k+1))
  .exact⟨q,k+1,Y,rfl,eO,by rw[c];have h:=z.o;rw[a]at h;exact h⟩
  omega
 .obtain rfl:k=O es:=Y;go_wp2;go_ret;exact⟨_,rfl,j.eE l.size,l.dd b⟩
def H4(s:cT)(x:ES):List ES:=if x.1=s.bP then(if s.aG=1 then[(x.1,fD x.2 s.cut)]else[])else[x]
theorem Kq(l:List ES)(s:cT):make l s=l.flatMap (H4 s):=by
 unfold make;by_cases a:s.aG=1
 .rw[bR a];induction l with
  |nil=>rfl
  |cons x l ih=>
   rw[UU,List.flatMap_cons,ih];unfold H4;split<;>simp[a]
 .rw[bD a];induction l with
  |nil=>rfl
  |cons x l ih=>
   rw[List.filter_cons,List.flatMap_cons,ih];unfold H4;by_cases b:x.1=s.bP<;>simp[b,a]
theorem Y9(l:List ES)(s:cT):O (make l s)<=O l:=by
 unfold make;split
 .simp
 .exact zdG _ _
def jX(s:cT):aF:= .agg #[i6 i7 (s.aG:Int),i6 i7 (s.bP:Int),i6 i7 (s.eK:Int),i6 kd (s.cut:Int)]
theorem LZ(v:aF)(l:List ES)(s:cT)(w:aA)(h:Ik w v l)(hs:jS l)(hl:O l<=7)(hc:s.cut<2^32):
  aH prog 72 #[v,jX s] w λe w'=>∃u,e=i5 u/\LL w w' u (make l s)/\U w [] w' []:=by
 obtain⟨ad,cap,rfl,-⟩:=h.len;have HS:=Z hs;clear hs;unfold jX;go_in;go_wp2;let⟨wa,z⟩:=E (e8 w (h8 #[J (s.aG:Int),J (s.bP:Int),J (s.eK:Int),i6 kd (s.cut:Int)] 185));have P:=Za z;have b0:e7 wa ⟨hJ w.heap,0,K⟩=H (J (s.aG:Int)):=by rw[<-z];exact aL (lK w _) rfl
 have b1:e7 wa ⟨hJ w.heap,1,K⟩=H (J (s.bP:Int)):=by rw[<-z];exact aL (lK w _) rfl
 have b3:e7 wa ⟨hJ w.heap,3,K⟩=H (i6 kd (s.cut:Int)):=by rw[<-z];exact aL (lK w _) rfl
 rw[z];clear z;go_loopg [5,6] (O l) (λg p i wr=>U wa [] wr []/\∃k:Nat,k<=O l/\g=O l-k/\i=J k/\LL wa wr p (make (l.take k) s))
 .exact⟨U.refl _ _,0,Y,rfl,rfl,by rw[Kq];exact bG.nil _ _⟩
 obtain⟨c,k,hk,rfl,rfl,qL⟩:=hrel;have c0:=c.cell b0 X;have c1:=c.cell b1 X;have c3:=c.cell b3 X;obtain⟨a3,EP,rfl,-⟩:=qL.len;have q:=Z qL;clear qL;by_cases S:k<O l
 .let⟨g,o,cap',hv,_,e0,V⟩:=(h.on (P.dd c)).qb S;injection hv with h1 h2 h3;subst h1 h3;clear h2;simp only[uZ]at e0 V;have a:dT (make (l.take (k+1)) s=make (l.take k) s++H4 s (ep l k qc)):=Z (by rw[Kq,Kq,IC _ (d:=qc) S]);have m:=Y9 (l.take k) s;rw[VQ]at m;have T:=(HS.o.aU k);generalize hx:ep l k qc=x at e0 V a T;clear hx;generalize OT:make (l.take k) s=L at q a m|-;clear OT;go_upto_region 5 with(fail);go_cut [7] (λW wx=>∃B,W= Pt B/\hJ wr.heap<=B/\U wr [] wx []/\rW wx B #[J (x.1:Int),i6 kd (x.2:Int)] 187)
  case first=>
   go_wp2;go_meet;exact⟨_,rfl,fV _,(U.refl _ _).alloc _,lK ..⟩
  case rest=>
   obtain⟨B,rfl,A,n,G⟩:=hcut;have Cd:∀g',gz (hY a3 (O L) EP)=H g'->g'∉[B]:=λg' IW hm=>by
    have:=q.o.1.lt g' IW;simp at hm;omega
   let⟨c0,c1,c3⟩:=n.R7 c0 c1 c3;have d0:=Zc G 0;have d1:=Zc G 1;have df:=aM G;have N:=(show hJ wa.heap<=B from jN c.size A);clear A;by_cases j:x.1=s.bP
   .have F:((x.1:Int)==(s.bP:Int))=oj:=by rw[dA];exact kI j
    by_cases r:s.aG=1
    .have mZ:((s.aG:Int)!=1)=po:=by rw[r];rfl
     have a:dT (make (l.take (k+1)) s=L++[(x.1,fD x.2 s.cut)]):=Z (by rw[a.o];unfold H4;rw[bR j,bR r]);clear j r;go_upto_region 9 with(go_at_call 109;apply(FG x.2 s.cut T hc _).cL;rintro w2 rfl);let⟨wd,t⟩:=E (ey wc (Ad B 1) (i6 kd (fD x.2 s.cut:Int)));have y:U wc [B] wd [B]:=t▸pX wc B 1 _;have Q:rW wd B #[J (x.1:Int),i6 kd (fD x.2 s.cut:Int)] 187:=by rw[<-t];exact aE (i:=1) _ G
     have f0:=Zc Q 0;have f1:=Zc Q 1;have f:=((q.o.on n).eF y Cd);have MF:=((c.dd n).aZ y (λb F=>by simp at F;subst F;exact N));rw[t];clear t Q d0 d1;go_wp2_with (at_builtin;refine cK aEX rfl _ _ rfl f MF Yr [J (x.1:Int),i6 kd (fD x.2 s.cut:Int)] (x.1,fD x.2 s.cut) Yr rfl (VR rfl rfl) rfl Y F4 ?_;rintro g2 gI w3 C y- -;have R:=Z C;clear C);go_roundg (O l-(k+1))
     .exact⟨y,k+1,Y,rfl,eO,by rw[a.o];exact R.o⟩
     omega
    .have mZ:((s.aG:Int)!=1)=oj:=by rw[bne,show((s.aG:Int)==1)=decide (s.aG=1)from dA s.aG 1,jO r];rfl
     have a:dT (make (l.take (k+1)) s=L):=Z (by rw[a.o];unfold H4;rw[bR j,bD r,kn]);clear j r;go_wp2;go_roundg (O l-(k+1))
     .exact⟨c.dd n,k+1,Y,rfl,eO,by rw[a.o];exact q.o.on n⟩
     omega
   .have F:((x.1:Int)==(s.bP:Int))=po:=by rw[dA];exact jO j
    have a:dT (make (l.take (k+1)) s=L++[x]):=Z (by rw[a.o];unfold H4;rw[bD j]);clear j;go_wp2_with (at_builtin;refine cK aEX rfl _ _ rfl (q.o.on n) (c.dd n) Yr [J (x.1:Int),i6 kd (x.2:Int)] x Yr rfl (VR rfl rfl) rfl Y F4 ?_;rintro g2 gI w3 C y- -;have R:=Z C;clear C);go_roundg (O l-(k+1))
    .exact⟨y,k+1,Y,rfl,eO,by rw[a.o];exact R.o⟩
    omega
 .obtain rfl:k=O l:=Y;rw[R9]at q|-;go_wp2;go_ret;exact⟨_,rfl,q.o.eE P.size,P.dd c⟩
structure aX where
 aG:Nat
 o7:Nat
 vars:List Nat
 cB:Nat
 bK:Nat
 bU:Int
 lW:Bool
deriving DecidableEq,Inhabited
structure zY where
 vars:List dU
 head:List Nat
 aK:List aX
 dL:Nat
 tops:List Nat
deriving DecidableEq,Inhabited
def cD(s:Nat):List Nat:=(List.range 32).filter λv=>s.testBit v
def FB(l:List ES)(e:Nat):Nat:=((l.find? λx=>x.1==e).map (·.2)).getD 0
abbrev sM:=List aX×List Nat
def gB(pa:Int)(b:sM)(l:List ES)(s:cT):sM:=
 if s.aG=1 then(b.1++[⟨2,0,cD (fD (FB l s.bP) s.cut),ep b.2 s.bP 0,0,pa,po⟩],b.2.set s.bP (O b.1))
 else(b.1++[⟨3,0,cD (FB l s.eK),ep b.2 s.eK 0,ep b.2 s.bP 0,pa,po⟩],b.2.set s.eK (O b.1))
def iG(l:List ES)(dg:Nat):Bool:=l.all λx=>part x.2 dg
def cX(pa:Int)(dg:Nat):Nat->sM->List ES->Option (sM×List ES)
 |0,b,l=>if iG l dg then H (b,l)else K
 |n+1,b,l=>if iG l dg then H (b,l)else match next l dg with
  |none=>K
  |some s=>cX pa dg n (gB pa b l s) (make l s)
def fC(pa:Int):Nat->sM->List ES->sM×List ES
 |0,b,l=>(b,l)
 |n+1,b,l=>match next l 0 with
  |none=>(b,l)
  |some s=>fC pa n (gB pa b l s) (make l s)
def cN(pa:Int)(es:List Nat):sM:=((List.range (O es)).map λi=>⟨1,i,cD (ep es i 0),0,0,pa,po⟩,List.range (O es))
def qB(l:List ES):List ES:=bW (l.map (·.2))
def dV(n:aX)(i:Nat):Bool:=((n.aG==2||n.aG==3)&&n.cB==i)||(n.aG==3&&n.bK==i)
def nF(ns:List aX)(i:Nat):Int:=(List.range (O ns)).foldl (λp j=>if dV (ep ns j qc) i then(j:Int)else p) (-1)
def oJ(ns:List aX)(low:Nat)(tops:List Nat):List aX:=
 (List.range (O ns)).map λi=>{ep ns i qc with bU:=nF ns i,lW:=decide (low<=i)||decide (i∈tops)}
def eS(ns:List aX):Nat->Nat->List Nat
 |0,_=>[]
 |n+1,i=>
  let p:=ep ns i qc;if p.lW then i::((if p.aG=2\/p.aG=3 then eS ns n p.cB else[])++(if p.aG=3 then eS ns n p.bK else[]))else[]
def bZ:Nat:=300
def aB(q:bB):Int×zY:=
 if fJ q≠0 then(fJ q,qc)else
 if((run 0 bZ (bW (aJ q))).2).any (λx=>decide (x.2≠0))then(161,qc)else
 match cX (-1) (cO q) bZ (cN (-1) (aJ q)) (bW (aJ q))with
 |none=>(170,qc)
 |some (b,l)=>
  let now:=l.map λx=>ep b.2 x.1 0;let (b2,l2):=fC (-1) bZ (b.1,now) (qB l);let ns:=oJ b2.1 (O b.1) now;let dL:=ep b2.2 ((ep l2 0 qc).1) 0;(0,⟨vars q,q.head.map λh=>(vars q).idxOf h,ns,dL,eS ns (O ns) dL⟩)
def fN(x:Nat):Nat->aF:=λ_=>i6 i7 (x:Int)
abbrev a0j(w:aA)(v:aF)(l:List Nat):Prop:=eX fN 0 1 w v l
abbrev gJ(w0 w:aA)(v:aF)(l:List Nat):Prop:=bG fN 0 3 1 w0 w v l
theorem OI:jM prog 43 3 1 8:= .PU (z:=J 0) underlying43 dB rfl
def LD(s k:Nat):List Nat:=(List.range k).filter λv=>s.testBit v
theorem Vm(s k:Nat):LD s (k+1)=LD s k++if s.testBit k then[k]else[]:=by
 unfold LD;rw[Yl,zdF];cases h:s.testBit k<;>simp[h]
theorem Dp(s k:Nat):O (LD s k)<=k:=jN (zdG _ _) X
theorem Fw(s:Nat)(w:aA)(hs:s<2^32):
  aH prog 67 #[i6 kd s] w λe w'=>∃u,e=i5 u/\gJ w w' u (cD s)/\U w [] w' []:=by
 go_in;go_wp2;go_loopg [3,4] 32 (λg p i wr=>U w [] wr []/\∃k:Nat,k<=32/\g=32-k/\i=J k/\gJ w wr p (LD s k))
 .exact⟨U.refl _ _,0,Y,rfl,rfl,bG.nil _ _⟩
 obtain⟨j,k,A,rfl,rfl,n⟩:=hrel;obtain⟨a3,B,rfl,-⟩:=n.len;have d:=Z n;by_cases y:k<32
 .have a:=Z (Vm s k);have b:=Dp s k;generalize x:LD s k=L at d a b|-;cases c:s.testBit k with
  |false=>
   have m:=Z λl=>(iV s k hs l Y).mono λe w' h=>dX (h.1.dd (by rw[c])) h.2;have a:dT (LD s (k+1)=L):=Z (by rw[a.o,c];simp);go_wp2_with (go_at_call 107;apply(m.o _).cL;rintro w2 rfl);go_roundg (32-(k+1))
   .exact⟨j,k+1,Y,rfl,eO,a.o▸d⟩
   omega
  |true=>
   have m:=Z λl=>(iV s k hs l Y).mono λe w' h=>dX (h.1.dd (by rw[c])) h.2;have a:dT (LD s (k+1)=L++[k]):=Z (by rw[a.o,c];simp);go_wp2_with (first
    |(go_at_call 107;apply(m.o _).cL;rintro w2 rfl)
    |(at_builtin;refine cK OI rfl _ _ rfl d j Yr [i6 i7 k] k Yr rfl (dH rfl) rfl Y F4 ?_;rintro g2 z w3 v q- -;have r:=Z v))
   go_roundg (32-(k+1))
   .exact⟨q,k+1,Y,rfl,eO,a.o▸r⟩
   omega
 .obtain rfl:k=32:=Y;go_wp2;go_ret;exact⟨_,rfl,d,j⟩
theorem aCD(v:aF)(l:List ES)(dg:Nat)(w:aA)(h:Ik w v l)(hs:jS l)(hl:O l<=7)(r:dg<2^32):
  aH prog 69 #[v,i6 kd dg] w λe w'=>e=i5 (j4 (iG l dg))/\w=w':=by
 obtain⟨ad,cap,rfl,-⟩:=h.len;go_in;go_wp2;go_loopg [5] (O l) (λg i wr=>w=wr/\∃k:Nat,k<=O l/\g=O l-k/\i=J k/\∀j,j<k->part (ep l j qc).2 dg=oj)
 .exact⟨rfl,0,Y,rfl,rfl,λj c=>Y⟩
 obtain⟨rfl,k,F,rfl,rfl,y⟩:=hrel;by_cases z:k<O l
 .let⟨g,o,cap',hv,_,c0,c1⟩:=h.qb z;injection hv with h1 h2 h3;subst h1 h3;simp only[uZ]at c1;have m:=hs.aU k;have u:=bM (d:=qc) z;generalize b:ep l k qc=x at c1 m u;cases a:part x.2 dg with
  |true=>
   have q:=Z λn=>(GK x.2 dg m r n).mono λe w' h=>dX (h.1.dd (by rw[a])) h.2;go_wp2_with (go_at_call 108;apply(q.o _).cL;rintro w2 rfl);go_roundg (O l-(k+1))
   .exact⟨rfl,k+1,Y,rfl,eO,λj c=>by
    by_cases B:j=k
    .subst B;rw[b];exact a
    .exact y j Y⟩
   omega
  |false=>
   have q:=Z λn=>(GK x.2 dg m r n).mono λe w' h=>dX (h.1.dd (by rw[a])) h.2;have p:dT (iG l dg=po):=Z (by
    unfold iG;rw[List.all_eq_false];exact⟨x,u,by rw[a];decide⟩)
   go_wp2_with (go_at_call 108;apply(q.o _).cL;rintro w2 rfl);go_ret;exact⟨by rw[p.o];rfl,rfl⟩
 .have p:dT (iG l dg=oj):=Z (by
   unfold iG;rw[Xa];intro x b;let⟨j,c,A⟩:=Pn b;have:=y j Y;rw[iB,kX c,NQ,A]at this;exact this)
  go_wp2;go_ret;exact⟨by rw[p.o];rfl,rfl⟩
variable{ns:List (aX×aF)}
def oE(x:aX×aF):Nat->aF
 |0=>i6 i7 (x.1.aG:Int)
 |1=>i6 i7 (x.1.o7:Int)
 |2=>x.2
 |3=>i6 i7 (x.1.cB:Int)
 |4=>i6 i7 (x.1.bK:Int)
 |5=>i6 i7 x.1.bU
 |_=>j4 x.1.lW
def LF(w:aA)(ns:List (aX×aF)):Prop:=∀x,x∈ns->a0j w x.2 x.1.vars
theorem LF.on(h:LF w ns)(a:U w [] w' S'):LF w' ns:=λx b=>(h x b).on a
theorem eX.at7{l:List (aX×aF)}(h:eX oE qc 7 w v l)(b:i<O l):
  ∃g o cap,v=hY (H ⟨g,o,K⟩) (O l) cap/\g<hJ w.heap/\e7 w ⟨g,o+i*7,K⟩=H (i6 i7 ((ep l i qc).1.aG:Int))/\e7 w ⟨g,o+i*7+1,K⟩=H (i6 i7 ((ep l i qc).1.o7:Int))/\
   e7 w ⟨g,o+i*7+2,K⟩=H (ep l i qc).2/\e7 w ⟨g,o+i*7+3,K⟩=H (i6 i7 ((ep l i qc).1.cB:Int))/\e7 w ⟨g,o+i*7+4,K⟩=H (i6 i7 ((ep l i qc).1.bK:Int))/\
   e7 w ⟨g,o+i*7+5,K⟩=H (i6 i7 (ep l i qc).1.bU)/\e7 w ⟨g,o+i*7+6,K⟩=H (j4 (ep l i qc).1.lW):=by
 let⟨g,o,cap,hv,c,a⟩:=eX.aU h b;exact⟨g,o,cap,hv,c,a 0 Y,a 1 Y,a 2 Y,a 3 Y,a 4 Y,a 5 Y,a 6 Y⟩
theorem I'(p0 V P:Option cj)(l0 l1 f R k1 W:Nat)(nv:aF)(dL:Int)(ns:List (aX×aF))(j i:Nat)(w:aA)(h:eX oE qc 7 w nv ns)(Q:LF w ns)(S:j<O ns):
  aH prog 73 #[.agg #[hY p0 l0 R,hY V l1 k1,nv,i6 i7 dL,hY P f W],i6 i7 j,i6 i7 i] w λe w'=>e=i5 (j4 (dV (ep ns j qc).1 i))/\U w [] w' []:=by
 obtain⟨ad,cap,rfl,L⟩:=h.len;unfold bw at L;let⟨g,o,cap',hv,hg,G,F,n2,z,B,k,A⟩:=h.at7 S;injection hv with x1 x2 x3;clear x2 x3;subst x1;obtain⟨va,vc,v,-⟩:=(Q _ (bM (d:=qc) S)).len;rw[v]at n2;obtain⟨⟨x,xv⟩,T⟩:∃x,ep ns j qc=x:=⟨_,rfl⟩;rw[T]at G F n2 z B k A|-;clear T h Q v;dsimp only at*;let⟨wa,N⟩:=E (e8 w (h8 #[hY p0 l0 R,hY V l1 k1,eB g o (O ns) cap,J dL,hY P f W] 46));have r:=Za N;have b2:e7 wa ⟨hJ w.heap,2,K⟩=H (eB g o (O ns) cap):=by rw[<-N];exact aL (lK w _) rfl
 let⟨G,F,n2,z,B,k,A⟩:=r.zc7 G F n2 z B k A;have c:dT (dV x i=(((x.aG==2||x.aG==3)&&x.cB==i)||(x.aG==3&&x.bK==i))):=Z rfl;go_in;go_upto_region 2 with(fail);let⟨w3,qL⟩:=E (e8 wa (h8 #[J (x.aG:Int),J (x.o7:Int),hY va (O x.vars) vc,J (x.cB:Int),J (x.bK:Int),J x.bU,j4 x.lW] 177));have y:=Za qL;have C:rW w3 wa.heap.size #[J (x.aG:Int),J (x.o7:Int),hY va (O x.vars) vc,J (x.cB:Int),J (x.bK:Int),J x.bU,j4 x.lW] 177:=by rw[<-qL];exact lK ..
 have e0:=Zc C 0;have e3:=Zc C 3;have e4:=Zc C 4;try rw[qL]
 clear C N G F n2 z B k A;have kb:∀a b:Nat,((a:Int)==(b:Int))=decide (a=b):=dA;have u:=kb x.aG 2;have q:=kb x.aG 3;have m:=kb x.cB i;have p:=kb x.bK i;clear kb;by_cases l:x.aG=2
 .have g2:((x.aG:Int)==2)=oj:=by rw[l];rfl
  have g3:((x.aG:Int)==3)=po:=by rw[l];rfl
  by_cases hs:x.cB=i
  .have gs:((x.cB:Int)==(i:Int))=oj:=by rw[m];exact kI hs
   have c:dT (dV x i=oj):=Z (by rw[c.o,l,hs];simp);clear u q m p l hs;go_wp2;go_ret;exact⟨by rw[c.o];rfl,r.dd y⟩
  .have gs:((x.cB:Int)==(i:Int))=po:=by rw[m];exact jO hs
   have c:dT (dV x i=po):=Z (by rw[c.o,l];simp[hs]);clear u q m p l hs;go_wp2;go_ret;exact⟨by rw[c.o];rfl,r.dd y⟩
 .have g2:((x.aG:Int)==2)=po:=by rw[show((x.aG:Int)==2)=decide (x.aG=2)from u];exact jO l
  by_cases n:x.aG=3
  .have g3:((x.aG:Int)==3)=oj:=by rw[n];rfl
   by_cases hs:x.cB=i
   .have gs:((x.cB:Int)==(i:Int))=oj:=by rw[m];exact kI hs
    have c:dT (dV x i=oj):=Z (by rw[c.o,n,hs];simp);clear u q m p l hs n;go_wp2;go_ret;exact⟨by rw[c.o];rfl,r.dd y⟩
   .have gs:((x.cB:Int)==(i:Int))=po:=by rw[m];exact jO hs
    have c:dT (dV x i=((x.bK:Int)==(i:Int))):=Z (by rw[c.o,n,p,show(x.cB==i)=po from by rw[G9];exact hs];rfl);clear u q m p l hs n;go_wp2;go_ret;exact⟨by rw[c.o];rfl,r.dd y⟩
  .have g3:((x.aG:Int)==3)=po:=by rw[show((x.aG:Int)==3)=decide (x.aG=3)from q];exact jO n
   have c:dT (dV x i=po):=Z (by rw[c.o];simp[l,n]);clear u q m p l n;go_wp2;go_ret;exact⟨by rw[c.o];rfl,r.dd y⟩
variable{pa pb:Int}{es:List Nat}{vs:List dU}{x:Nat}
section
def lJ(ns:List aX):Prop:=∀i,i<O ns->((ep ns i qc).aG=1\/(ep ns i qc).aG=2\/(ep ns i qc).aG=3)/\((ep ns i qc).aG≠1->(ep ns i qc).cB<i)/\((ep ns i qc).aG=3->(ep ns i qc).bK<i)
theorem BU(ns:List aX):∀n i,O (eS ns n i)<=2^n-1
 |0,i=>by simp[eS]
 |n+1,i=>by
  unfold eS;dsimp only;have g:2^(n+1)=2*2^n:=by rw[Nat.pow_succ,Nat.mul_comm]
  have j:=Nat.two_pow_pos n;split
  .rw[T9,F5];have:∀(c:Prop) [Decidable c] (l:List Nat),O l<=2^n-1->O (if c then l else[])<=2^n-1:=λc _ l h=>by split<;>simp_all
   have a:=this ((ep ns i qc).aG=2\/(ep ns i qc).aG=3) _ (BU ns n (ep ns i qc).cB);have b:=this ((ep ns i qc).aG=3) _ (BU ns n (ep ns i qc).bK);omega
  .simp
theorem AG{ns:List aX}(a:lJ ns):∀i,i<O ns->∀n,i<n->eS ns n i=eS ns (i+1) i:=by
 intro i;induction i using Nat.strongRecOn with
 |_ i ih=>
  intro b n d;obtain⟨n,rfl⟩:∃m,n=m+1:=⟨n-1,Y⟩;let⟨c,hs,hd⟩:=a i b;grind [eS]
def core(n:aX):aX:={n with bU:=0,lW:=po}
def jT(ns ms:List aX):Prop:=ns.map core=ms.map core
section
variable{ns ms:List aX}
theorem jT.len(h:jT ns ms):O ns=O ms:=eI (wJ O h)
theorem Hs(ns:List aX)(i:Nat):ep (ns.map core) i (core qc)=core (ep ns i qc):=by
 rw[iB,iB,Pm];cases ns[i]? <;>rfl
theorem jT.aU(h:jT ns ms)(i:Nat):core (ep ns i qc)=core (ep ms i qc):=by
 rw[<-Hs,<-Hs,h]
theorem jT.refl(ns:List aX):jT ns ns:=rfl
theorem jT.wN(h:jT ns ms){x y:aX}(a:core x=core y):jT (ns++[x]) (ms++[y]):=by
 unfold jT at*;rw[R8,R8,h,List.map_singleton,List.map_singleton,a]
theorem AN(n:aX)(i:Nat):dV n i=dV (core n) i:=rfl
theorem jT.nF(h:jT ns ms)(i:Nat):nF ns i=nF ms i:=by
 unfold Go.Proofs.YtbcooplfakebmaaGreatDoor.nF;rw[h.len];congr 1;funext p j;rw[AN,h.aU j,<-AN]
theorem Fd{x y:aX}(h:core x=core y)(p:Int)(t:Bool):({x with bU:=p,lW:=t}:aX)={y with bU:=p,lW:=t}:=by
 have a:∀z:aX,({z with bU:=p,lW:=t}:aX)={core z with bU:=p,lW:=t}:=λ_=>rfl;rw[a,h,<-a]
theorem jT.oJ(h:jT ns ms)(low:Nat)(tops:List Nat):oJ ns low tops=oJ ms low tops:=by
 unfold Go.Proofs.YtbcooplfakebmaaGreatDoor.oJ;rw[h.len];refine List.map_congr_left λi _=> ?_;rw[h.nF i];exact Fd (h.aU i) _ _
end
theorem GX{dg:Nat}{pa pb:Int}:∀(n:Nat) (b c:sM) (l:List ES),jT b.1 c.1->b.2=c.2->
  match cX pa dg n b l,cX pb dg n c l with
  |none,K=>True
  |some (b',l'),H (c',m')=>jT b'.1 c'.1/\b'.2=c'.2/\l'=m'
  |_,_=>False
 |0,b,c,l,h1,h2=>by
  unfold cX;cases iG l dg
  .trivial
  .exact⟨h1,h2,rfl⟩
 |n+1,b,c,l,h1,h2=>by
  unfold cX;cases iG l dg
  .cases next l dg with
   |none=>trivial
   |some s=>
    have:=GX (dg:=dg) (pa:=pa) (pb:=pb) n (gB pa b l s) (gB pb c l s) (make l s)
     (by unfold gB;rw[h2];split<;>exact h1.wN rfl) (by unfold gB;rw[h2,h1.len];split<;>rfl)
    exact this
  .exact⟨h1,h2,rfl⟩
theorem PK:∀(n:Nat) (b c:sM) (l:List ES),jT b.1 c.1->b.2=c.2->
  jT (fC pa n b l).1.1 (fC pb n c l).1.1/\(fC pa n b l).1.2=(fC pb n c l).1.2/\(fC pa n b l).2=(fC pb n c l).2
 |0,b,c,l,h1,h2=>⟨h1,h2,rfl⟩
 |n+1,b,c,l,h1,h2=>by
  unfold fC;cases next l 0 with
  |none=>exact⟨h1,h2,rfl⟩
  |some s=>
   exact PK n (gB pa b l s) (gB pb c l s) (make l s)
    (by unfold gB;rw[h2];split<;>exact h1.wN rfl) (by unfold gB;rw[h2,h1.len];split<;>rfl)
structure BOk(b:sM):Prop where
 below:lJ b.1
 GV:∀e,e<O b.2->ep b.2 e 0<O b.1
theorem ZZ{α:Type}{l:List α}{x d:α}:ep (l++[x]) i d=if i=O l then x else ep l i d:=by
 grind
theorem lJ.wN{ns:List aX}(h:lJ ns){x:aX}(b:x.aG=1\/x.aG=2\/x.aG=3)(hs:x.aG≠1->x.cB<O ns)(hd:x.aG=3->x.bK<O ns):lJ (ns++[x]):=by
 intro i a;rw[F5,Xd]at a;rw[ZZ];split
 .omega
 .exact h i Y
theorem lJ.Ie{ns ms:List aX}(h:lJ ns)(ha:jT ns ms):lJ ms:=by
 intro i a;have:=h i (ha.len▸a);have b:=ha.aU i;grind [core]
theorem FV{l:List Nat}:ep (l.set i x) e 0=if i=e/\i<O l then x else ep l e 0:=by
 grind
theorem BOk.step{b:sM}(h:BOk b)(pa:Int)(l:List ES){s:cT}(c:s.bP<O b.2)(g:s.aG≠1->s.eK<O b.2):BOk (gB pa b l s):=by
 unfold gB;split
 .rename_i d;refine⟨h.below.wN (.inr (.inl rfl)) (λ_=>h.GV _ c) (λi=>by cases i),λe a=> ?_⟩;simp only[VP]at a;dsimp only;rw[FV,F5,Xd];have:=h.GV e a;split<;>omega
 .rename_i d;refine⟨h.below.wN (.inr (.inr rfl)) (λ_=>h.GV _ (g d)) (λ_=>h.GV _ c),λe a=> ?_⟩;simp only[VP]at a;dsimp only;rw[FV,F5,Xd];have:=h.GV e a;split<;>omega
theorem zw(pa:Int)(b:sM)(l:List ES)(s:cT):O (gB pa b l s).1=O b.1+1/\O (gB pa b l s).2=O b.2:=by
 unfold gB;split<;>simp
theorem wj(pa:Int)(es:List Nat):BOk (cN pa es):=by
 refine⟨λi b=> ?_,λe a=> ?_⟩
 .grind [cN]
 grind [cN]
theorem uJ.mem{dg:Nat}{s:cT}(h:uJ l dg s):(s.aG=1\/s.aG=2\/s.aG=3)/\s.bP∈nK l/\(s.aG≠1->s.eK∈nK l/\s.eK≠s.bP/\s.cut=0):=by
 rcases h with⟨c,i,t,g,_⟩|⟨c,e,j,a,b,ha,d,_⟩
 .grind [pN]
 grind [pN]
theorem FA(hd:(nK l).Nodup){t:Nat}(h:(e,t)∈l):FB l e=t:=by
 unfold FB;cases a:l.find? λx=>x.1==e with
 |none=>
  grind
 |some x=>
  grind [GR]
theorem Pv{dg:Nat}(h:iG l dg=oj)(s:cT):iG (make l s) dg=oj:=by
 grind [iG,make,kR,cI]
theorem TL{dg:Nat}:∀(n:Nat) (b:sM) (l:List ES),eD l<=n->(nK l).Nodup->jS l->(cX pa dg n b l=K↔iG (run dg n l).2 dg=po)
 |n,b,l,hw,hd,hs=>by
  by_cases a:iG l dg=oj
  .have e:=(FD (dg:=dg) (p:=λl=>iG l dg=oj) (λl s _ _ h _=>Pv h s) n l hw hd hs a).1;have:cX pa dg n b l=H (b,l):=by cases n<;>(unfold cX;rw[bR a])
   rw[this,e];simp
  .have d:iG l dg=po:=eI a;cases c:next l dg with
   |none=>
    rw[K8 c];have:cX pa dg n b l=K:=by
     cases n
     .unfold cX;rw[bD a]
     .unfold cX;rw[bD a,c]
    simp[this,d]
   |some s=>
    have g:=o9 hs (iK hd c);match n,hw with
    |0,hw=>omega
    |n+1,hw=>
     rw[K7 c];unfold cX;rw[bD a,c];exact TL n (gB pa b l s) (make l s) Y (rL hd s) (BR hs s)
theorem aI7(s:Nat):bits s<=32:=jN (zdG _ _) X
theorem Ff{k:Nat}(h:∀x,x∈l->bits x.2<=k):eD l<=O l*(k+1):=by
 induction l with
 |nil=>simp[eD]
 |cons x l ih=>
  grind [lV,Nat.succ_mul]
theorem sE(es:List Nat):O (bW es)=O es:=by simp[bW]
theorem lD(h:O es<=7):eD (bW es)<=bZ:=by
 have:=Ff (l:=bW es) (k:=32) λx _=>aI7 _;grind [sE,bZ]
theorem NB(f:Nat->dU):∀(l:List Nat) (cY:List dU),l.Nodup->(∀x,x∈l->f x∈cY)->(∀x y,x∈l->y∈l->f x=f y->x=y)->O l<=O cY
 |[],cY,_,_,_=>X
 |x::l,cY,hd,hm,hi=>by
  rw[Fa]at hd;have c:=hm x (rg ..);have d:=NB f l (cY.erase (f x)) hd.2 (λy a=>(List.mem_erase_of_ne λe=>hd.1 (hi y x (RL _ a) (rg ..) e▸a)).2 (hm y (RL _ a)))
   (λy z a b=>hi y z (RL _ a) (RL _ b))
  grind
theorem Vl(hd:vs.Nodup)(cY:List dU):bits (sV vs cY)<=O cY:=by
 unfold bits;have b:∀x,x∈(List.range 32).filter (λv=>(sV vs cY).testBit v)->x<O vs/\ep vs x bO∈cY:=λx a=>by
  grind [rD]
 refine NB (λv=>ep vs v bO) _ cY (List.nodup_range.filter _) (λx a=>(b x a).2) λx y a g c=> ?_;have d:=(b x a).1;have e:=(b y g).1;rw[iB,iB,kX d,kX e,NQ,NQ]at c;rw[<-hd.idxOf_getElem x d,<-hd.idxOf_getElem y e,c]
theorem GL(g:O q.aD<=6)(e:∀a,a∈q.aD->O a.aS<=5):eD (bW (aJ q))<=36:=by
 have:=Ff (l:=bW (aJ q)) (k:=5) λx c=>by
  let⟨b,d⟩:=oT.1 (show(x.1,x.2)∈_ from c);rw[d];unfold aJ at b|-;rw[sN]at b;rw[iB,Pm,kX b];refine jN (Vl (NS q) _) ?_;refine jN (gG _ _) ?_;grind
 grind [sE,aJ]
end
theorem fY(ns:List (aX×aF))(i:Nat):ep (ns.map (·.1)) i qc=(ep ns i qc).1:=by
 rw[iB,iB,Pm];cases ns[i]? <;>rfl
variable{w0:aA}
theorem Jz{α:Type}{f:α->Nat->aF}{d:α}{e:ap}(l:w.heap[b]? =H (h8 news.toArray e (0,0)))(hl:O news=sz)(x:α)(m:∀j,j<sz->ep news j undef=f x j)(p:hJ w0.heap<=b):
  bG f d e sz w0 w (hY (H ⟨b,0,K⟩) 1 1) [x]:=by
 refine⟨.inr ⟨b,1,news.toArray,rfl,l,fV _,(by decide:1<=bw),by simp[hl],λi j a c=> ?_⟩,λg n=>by simp[gz]at n;omega⟩;obtain rfl:i=0:=by simp at a;exact a
 rw[Nat.zero_mul,Nat.zero_add,List.getElem?_toArray,kX Y];have:=m j c;rw[iB,kX Y,NQ]at this;rw[this];rfl
theorem PN(a:lJ (ns.map (·.1)))(c:i<O ns){x:aX}(b:(ep ns i qc).1=x):
  eS (ns.map (·.1)) (i+1) i=if x.lW then i::((if x.aG=2\/x.aG=3 then eS (ns.map (·.1)) (x.cB+1) x.cB else[])++(if x.aG=3 then eS (ns.map (·.1)) (x.bK+1) x.bK else[]))else[]:=by
 have d:i<O (ns.map (·.1)):=eI c;let⟨e,hs,hd⟩:=a i d;rw[fY,b]at e hs hd;rw[show eS (ns.map (·.1)) (i+1) i=(let p:=ep (ns.map (·.1)) i qc
  if p.lW then i::((if p.aG=2\/p.aG=3 then eS (ns.map (·.1)) i p.cB else[])++(if p.aG=3 then eS (ns.map (·.1)) i p.bK else[]))else[])from rfl]
 dsimp only;rw[fY,b];split
 .congr 1;congr 1
  .split
   .rename_i h;have:=hs Y;exact AG a _ Y _ this
   .rfl
  .split
   .rename_i h;have:=hd h;exact AG a _ Y _ this
   .rfl
 .rfl
theorem ED{ns:List aX}(a:i<41):O (eS ns (i+1) i)<=2199023255551:=by
 have c:=BU ns (i+1) i;have d:2^(i+1)<=2^41:=Cr (by decide) (by omega);have b:(2:Nat)^41=2199023255552:=by decide
 omega
theorem H'(p0 p1 p4:Option cj)(l0 l1 V W k1 k4:Nat)(nv:aF)(dL:Int)(ns:List (aX×aF))(hl:O ns<=41)(N:lJ (ns.map (·.1))):∀(i:Nat),i<O ns->∀(w:aA),eX oE qc 7 w nv ns->LF w ns->
  aH prog 74 #[.agg #[hY p0 l0 W,hY p1 l1 k1,nv,i6 i7 dL,hY p4 V k4],i6 i7 i] w λe w'=>∃u,e=i5 u/\gJ w w' u (eS (ns.map (·.1)) (i+1) i)/\U w [] w' []:=by
 intro i;induction i using Nat.strongRecOn with
 |_ i ih=>
 intro hi w h hV;obtain⟨ad,cap,rfl,hmx⟩:=h.len;have IH:=Z ih;clear ih;let⟨g,o,cap',hv,hg,n0,n1,n2,n3,n4,n5,R⟩:=h.at7 hi;injection hv with x1 x2 x3;clear x2 x3;subst x1;have k:=Z h;have HV:=Z hV;have pO:=PN N hi rfl;let⟨F,hs,hd⟩:=N i (eI hi);rw[fY]at F hs hd;let⟨x,hx⟩:=E ((ep ns i qc).1);rw[hx]at n0 n3 n4 R pO F hs hd;clear n1 n2 n5 hx h hV;have l:=Z pO;clear pO;let⟨wa,dE⟩:=E (e8 w (h8 #[hY p0 l0 W,hY p1 l1 k1,eB g o (O ns) cap,J dL,hY p4 V k4] 46));have cR:=Za dE;have A1:hJ wa.heap=hJ w.heap+1:=by rw[<-dE];simp
 have z:=Zb dE;have b0:=Zc z 0;have b1:=Zc z 1;have b2:=Zc z 2;have b3:=Zc z 3;have b4:=Zc z 4;let⟨n0,n3,n4,R⟩:=cR.zc4 n0 n3 n4 R;have S:=Z cR;have OP:=Z A1;have tQ:=Z z;clear cR A1 z;go_in;cases p:x.lW with
 |false=>
  rw[p]at R;have l:dT (eS (ns.map (·.1)) (i+1) i=[]):=Z (by rw[l.o,p];rfl);clear p F hs hd;go_wp2;go_ret;exact⟨_,rfl,by rw[l.o];exact bG.nil _ _,S.o⟩
 |true=>
  rw[p]at R;let⟨wb,pE⟩:=E (e8 wa (h8 #[J i] 3));have m:=Za pE;have HN:dT (gJ w wb (hY (H ⟨hJ wa.heap,0,K⟩) 1 1) [i]):=Z (Jz (news:=[It i]) (by rw[<-pE];exact lK wa _) rfl i (dH rfl) (j7 OP.o));have q0:=m.cell b0 X;have q1:=m.cell b1 X;have q2:=m.cell b2 X;have q3:=m.cell b3 X;have q4:=m.cell b4 X;have m0:=m.cell n0 X;have m3:=m.cell n3 X;have m4:=m.cell n4 X;have rR:=Z (m.aC tQ.o X);have D2:=Z m;clear m;by_cases v:x.aG=1
  .have l:dT (eS (ns.map (·.1)) (i+1) i=[i]):=Z (by rw[l.o,p];simp[v]);have g1:((x.aG:Int)!=1)=po:=by rw[v];rfl
   have g3:((x.aG:Int)==3)=po:=by rw[v];rfl
   clear p F hs hd v;go_wp2;go_ret;exact⟨_,rfl,by rw[l.o];exact HN.o,S.o.dd D2.o⟩
  .have hs:=hs v;have GB:x.cB<O ns:=Y;have HI:=Z (IH.out x.cB hs GB);have T:=ED (ns:=ns.map (·.1)) (show x.cB<41 by omega);let⟨n,A3⟩:=E (eS (ns.map (·.1)) (x.cB+1) x.cB);have g1:((x.aG:Int)!=1)=oj:=by
    rw[bne_iff_ne];omega
   have l:dT (eS (ns.map (·.1)) (i+1) i=i::(n++if x.aG=3 then eS (ns.map (·.1)) (x.bK+1) x.bK else[])):=Z (by
    rw[l.o,p,A3,bR rfl,bR Y])
   rw[A3]at HI T;have HK:=Z F;have HD:=Z hd;have H1:=Z v;have HS:=Z hs;clear A3 p F hd v hs;go_upto_region 5 with(fail);refine ee 10 (eb q0<|eb q1<|eb q2<|eb q3<|eb q4<|d7 m3) (λQ=> ?_);refine dw [0,1,2,3,4,5,6,7] ?_;refine Zo 8 λqL hK=> ?_;go_simp;go_at_call 74;have c:U w [] wb.drew []:=(S.o.dd D2.o).drew;refine(HI.o wb.drew (k.o.on c) (HV.o.on c)).mono ?_;rintro e w4 ⟨u,rfl,Dy,d⟩;dsimp only;obtain⟨ua,uc,rfl,-⟩:=Dy.len;have d:U wb [] w4 []:=(U.refl wb []).drew.dd d;have Q:=dX (d.cell Q.1 X) (dX (d.cell Q.2.1 X) (dX (d.cell Q.2.2.1 X) (dX (d.cell Q.2.2.2.1 X) (dX (d.cell Q.2.2.2.2.1 X) (d.cell Q.2.2.2.2.2 X)))));refine Zk hK Q<|Zo 9 λqL hK=> ?_;obtain⟨v',w6,A,lL,dK,a,a6,OK,rfl⟩:=jR (wb:=w) (w:=w4) OI Y 43 (HN.o.on d) ((S.o.dd D2.o).dd d) (fV _) ((S.o.dd D2.o).dd d).size Dy.rd (λy hy j hj=>rfl) (by simp;omega) (by unfold bw;simp;omega);refine dJ _ _ rfl Yr Yr A ?_;have zW:∀b,b<=hJ w.heap->b∉(hY (H ⟨hJ wa.heap,0,K⟩) 1 1).ownBlock.toList:=λb N hm=>by
    have:=OP.o;simp[gz]at hm;omega
   have Q:=dX (a.cell Q.1 (zW _ (fV _))) (dX (a.cell Q.2.1 (zW _ (fV _))) (dX (a.cell Q.2.2.1 (zW _ (fV _))) (dX (a.cell Q.2.2.2.1 (zW _ (fV _))) (dX (a.cell Q.2.2.2.2.1 (zW _ (fV _))) (a.cell Q.2.2.2.2.2 (zW g Y))))));have m0:=a.cell (d.cell m0 X) (zW g Y);have m4:=a.cell (d.cell m4 X) (zW g Y);let⟨M,L⟩:=E (O [i]+O n);rw[L]at lL|-;have zO:=Z (a.aC (d.aC rR.o X) (zW _ (fV _)));have HM:=Z L;have B:=Z lL;have f:=Z dK;have q0:=Q.1;have q1:=Q.2.1;have q2:=Q.2.2.1;have q3:=Q.2.2.2.1;have q4:=Q.2.2.2.2.1;clear A lL dK a L d Dy c;refine Zk hK Q<|Zo 10 λqL hK=> ?_;go_simp;refine MH ?_;clear hK qL;by_cases C:x.aG=3
   .have hd:=HD.o C;have hdl:x.bK<O ns:=Y;have Is:=Z (IH.out x.bK hd hdl);have He:=ED (ns:=ns.map (·.1)) (show x.bK<41 by omega);let⟨L2,A2⟩:=E (eS (ns.map (·.1)) (x.bK+1) x.bK);have g3:((x.aG:Int)==3)=oj:=by rw[C];rfl
    have l:dT (eS (ns.map (·.1)) (i+1) i=[i]++n++L2):=Z (by rw[l.o,A2,bR C];simp);rw[A2]at Is He;clear A2 C hd HI;have H6:=Z ((k.o).on f.o);have jo:=Z ((HV.o).on f.o);go_upto_region 7 with(fail);refine ee 10 (eb q0<|eb q1<|eb q2<|eb q3<|eb q4<|d7 m4) (λQ=> ?_);refine dw [0,1,2,3,4,5,6,7] ?_;refine Zo 8 λqL hK=> ?_;go_simp;go_at_call 74;have c:U w6 [] w6.drew []:=(U.refl w6 []).drew;refine(Is.o w6.drew (H6.o.on c) (jo.o.on c)).mono ?_;rintro e w7 ⟨u2,rfl,Xl,a⟩;dsimp only;obtain⟨ub,uc2,rfl,-⟩:=Xl.len;have a:U w6 [] w7 []:=c.dd a;have Q:=dX (a.cell Q.1 X) (dX (a.cell Q.2.1 X) (dX (a.cell Q.2.2.1 X) (dX (a.cell Q.2.2.2.1 X) (dX (a.cell Q.2.2.2.2.1 X) (a.cell Q.2.2.2.2.2 X)))));refine Zk hK Q<|Zo 9 λqL hK=> ?_;have L:=HM.o;have q:O ([i]++n)=M:=by rw[F5];exact L
    have B:dT (gJ w w6 (hY a6 (O ([i]++n)) OK) ([i]++n)):=Z (by rw[q];exact B.o);obtain⟨v',w8,A,CS,iE,r,a8,a8T,rfl⟩:=jR (wb:=w) (w:=w7) OI Y 43 (B.o.on a) (f.o.dd a) (fV _) (f.o.dd a).size Xl.rd (λy hy j hj=>rfl) (by simp;omega) (by unfold bw;simp;omega);rw[q]at A CS;refine dJ _ _ rfl Yr Yr A ?_;have P:∀b,b<hJ w.heap->b∉(hY a6 (O ([i]++n)) OK).ownBlock.toList:=λb N=>B.o.zW N;have EM:=a.aC (show w6.heap[hJ w.heap]? =_ from zO.o) X;have G:=(B.o.on a).ne EM D;have Q:=dX (r.cell Q.1 G) (dX (r.cell Q.2.1 G) (dX (r.cell Q.2.2.1 G) (dX (r.cell Q.2.2.2.1 G) (dX (r.cell Q.2.2.2.2.1 G) (r.cell Q.2.2.2.2.2 (P g hg))))));let⟨M2,zI⟩:=E (M+O L2);rw[zI];rw[zI]at CS;have OY:=Z CS;have G6:=Z iE;clear A CS iE r zI q L a Xl c EM G P;refine Zk hK Q<|Zo 10 λqL hK=> ?_;go_simp;refine MH ?_;clear hK qL;go_wp2;go_ret;exact⟨_,rfl,by rw[l.o];exact OY.o,G6.o⟩
   .have g3:((x.aG:Int)==3)=po:=by
     rw[G9];omega
    have l:dT (eS (ns.map (·.1)) (i+1) i=[i]++n):=Z (by rw[l.o,bD C];simp);clear C;go_wp2;go_ret;exact⟨_,rfl,by rw[l.o];exact B.o,f.o⟩
theorem ZM102{P:Prop}(h:P:=by
  go_wp2;go_roundg (O es-(n+1))
  .exact⟨bH.drewN _,n+1,Y,rfl,eO,by rw[HF,HT.o];go_num,by rw[HA.o]⟩
  omega):P:=h
theorem ZM114{P:Prop}(h:P:=by
  have:=wJ (List.take i) hp5;rw[List.take_take,Nat.min_eq_left Y,List.take_left' aDL]at this;exact this):P:=h
theorem ZM117{P:Prop}(h:P:=by
  rw[Ym];refine hT.congr λi j hi hj=> ?_;obtain rfl:j=0:=Y;rw[iB,List.getElem?_replicate,bR hi];rfl):P:=h
def fZ(x:Int):Nat->aF:=λ_=>i6 i7 x
abbrev Zs(w:aA)(v:aF)(l:List Int):Prop:=eX fZ 0 1 w v l
abbrev OZs(w0 w:aA)(v:aF)(l:List Int):Prop:=bG fZ 0 3 1 w0 w v l
theorem il{a:Int}(h:0<=a):rP cW (n+1) a=rP cW n (ep cW a.toNat 0):=by
 show(if a<0 then a else rP cW n (ep cW a.toNat 0))=_;rw[bD Y]
theorem pt{l:List Int}{b:Int}(h:∀x,x∈l->x<b)(a:i<O l):ep l i 0<b:=h _ (bM a)
theorem Zv(v:aF)(cW:List Int)(w:aA)(h:Zs w v cW)(Q:O cW<=7)(C:∀x,x∈cW->x<O cW)(z:∀x,x∈cW->-1<=x):
  aH prog 168 #[v] w λe w'=>e=i5 (j4 (tS cW))/\w=w':=by
 obtain⟨ad,cap,rfl,-⟩:=h.len;have qL:=Z z;go_in;go_wp2;go_loopg [3] (O cW) (λg i wr=>w=wr/\∃k:Nat,k<=O cW/\g=O cW-k/\i=J k/\∀j,j<k->rP cW (O cW) (j:Int)<0)
 .exact⟨rfl,0,Y,rfl,rfl,λj r=>Y⟩
 obtain⟨rfl,k,S,rfl,rfl,B⟩:=hrel;by_cases s:k<O cW
 .go_wp2;go_loopg [4,5] (O cW) (λg a i wr=>w=wr/\∃(n:Nat) (x:Int),n<=O cW/\g=O cW-n/\i=J n/\a=J x/\-1<=x/\x<O cW/\rP cW (O cW-n) x=rP cW (O cW) (k:Int))
  .exact⟨rfl,0,(k:Int),Y,rfl,rfl,rfl,Y,Y,rfl⟩
  obtain⟨rfl,n,x,z,rfl,rfl,rfl,R,T,p⟩:=hrel;by_cases q:0<=x
  .have F:decide ((0:Int)<=x)=oj:=kI q;by_cases f:n<O cW
   .have g2:decide ((n:Int)<(O cW:Int))=oj:=kI Y;obtain⟨b,rfl⟩:∃b:Nat,x=(b:Int):=⟨x.toNat,Y⟩;let⟨g,o,cap',hv,A⟩:=h.DR (show b<O cW by omega);injection hv with h1 h2 h3;subst h1 h3;simp only[fZ]at A;have m:=qL.o _ (bM (d:=0) (show b<O cW by omega));have l:=pt C (show b<O cW by omega);have c:dT (rP cW (O cW-(n+1)) (ep cW b 0)=rP cW (O cW) (k:Int)):=Z (by
     rw[<-p,show O cW-n=(O cW-(n+1))+1 by omega,il q,zbX])
    generalize P:ep cW b 0=y at A m l c;go_wp2;go_roundg (O cW-(n+1))
    .exact⟨rfl,n+1,y,Y,rfl,eO,rfl,m,l,c⟩
    omega
   .have g2:decide ((n:Int)<(O cW:Int))=po:=jO Y;have N:¬rP cW (O cW) (k:Int)<0:=by
     rw[<-p,show O cW-n=0 by omega];show¬x<0;omega
    have u:dT (tS cW=po):=Z (by
     unfold tS;rw[List.all_eq_false];exact⟨k,yD.2 s,by simpa using N⟩)
    go_wp2;go_ret;exact⟨by rw[u.o];rfl,rfl⟩
  .have F:decide ((0:Int)<=x)=po:=jO q;have L:dT (rP cW (O cW) (k:Int)<0):=Z (by rw[<-p,Ht Y];omega);go_wp2;go_roundg (O cW-(k+1))
   .exact⟨rfl,k+1,Y,rfl,eO,λj r=>by
    by_cases G:j=k
    .subst G;exact L.o
    .exact B j Y⟩
   omega
 .have u:dT (tS cW=oj):=Z (by
   unfold tS;rw[Xa];intro j r;exact kI (B j (nA (yD.1 r))))
  go_wp2;go_ret;exact⟨by rw[u.o];rfl,rfl⟩
theorem Gp(es:List Nat)(aR:Nat)(cW:List Int):AM es aR cW=(List.range aR).all λv=> !((List.range (O es)).any λi=>(ep es i 0).testBit v)||O ((List.range (O es)).filter (J6 es cW v))==1:=rfl
theorem aAF{p:Nat->Bool}{k:Nat}:(List.range (k+1)).any p=((List.range k).any p||p k):=by
 rw[Yl,List.any_append];simp
theorem QL{p:Nat->Bool}{k:Nat}:O ((List.range (k+1)).filter p)=O ((List.range k).filter p)+if p k then 1 else 0:=by
 rw[Yl,zdF,F5];cases h:p k<;>simp[h]
theorem IZ{p:Nat->Bool}{k:Nat}:O ((List.range k).filter p)<=k:=jN (zdG _ _) X
theorem au(v1 v2:aF)(es:List Nat)(aR:Nat)(cW:List Int)(w:aA)(Q:CI w v1 es)(W:Zs w v2 cW)(hm:O es<=7)(hl:O cW=O es)(hv:aR<=1048576)(hs:∀s,s∈es->s<2^32)(qL:∀x,x∈cW->x<O cW):
  aH prog 169 #[.agg #[i6 i7 aR,v1],v2] w λe w'=>e=i5 (j4 (AM es aR cW))/\U w [] w' []:=by
 obtain⟨ad,cap,rfl,-⟩:=Q.len;obtain⟨ad2,gI,rfl,-⟩:=W.len;rw[hl]at W qL|-;have HS:=Z hs;clear hs;go_in;go_wp2;let⟨wa,F⟩:=E (e8 w (h8 #[J aR,hY ad (O es) cap] 133));have v:=Za F;have b0:e7 wa ⟨hJ w.heap,0,K⟩=H (J aR):=by rw[<-F];exact aL (lK w _) rfl
 have b1:e7 wa ⟨hJ w.heap,1,K⟩=H (hY ad (O es) cap):=by rw[<-F];exact aL (lK w _) rfl
 rw[F];clear F;go_loopg [5] aR (λg i wr=>U wa [] wr []/\∃k:Nat,k<=aR/\g=aR-k/\i=J k/\∀j,j<k->(!((List.range (O es)).any λi=>(ep es i 0).testBit j)||O ((List.range (O es)).filter (J6 es cW j))==1)=oj)
 .exact⟨U.refl _ _,0,Y,rfl,rfl,λj N=>Y⟩
 obtain⟨c,k,hk,rfl,rfl,R⟩:=hrel;have c0:=c.cell b0 X;by_cases aV:k<aR
 .go_wp2;go_loopg [6,7,8] (O es) (λg tp an i wx=>U wr [] wx []/\∃n:Nat,n<=O es/\g=O es-n/\i=J n/\tp=J (O ((List.range n).filter (J6 es cW k)):Int)/\an=j4 ((List.range n).any λi=>(ep es i 0).testBit k))
  .exact⟨U.refl _ _,0,Y,rfl,rfl,rfl,rfl⟩
  obtain⟨bH,n,hn,rfl,rfl,rfl,rfl⟩:=hrel;have d1:=bH.cell (c.cell b1 X) X;by_cases L:n<O es
  .let⟨g,o,cap',hv,e0⟩:=(Q.on (v.dd (c.dd bH))).DR L;let⟨g2,o2,EP,EZ,f0⟩:=(W.on (v.dd (c.dd bH))).DR (show n<O cW by rw[hl];exact L);injection hv with x1 x2 x3;subst x1 x3;injection EZ with x1 x2 x3;subst x1 x3;clear x2;simp only[EN,fZ]at e0 f0;have hS:=HS.o _ (bM (d:=0) L);have hz:=pt qL (show n<O cW by rw[hl];exact L);have HA:=Z (aAF (p:=λi=>(ep es i 0).testBit k) (k:=n));have HF:=(QL (p:=J6 es cW k) (k:=n));have OA:=IZ (p:=J6 es cW k) (k:=n);have HT:dT (J6 es cW k n=((ep es n 0).testBit k&&(decide (ep cW n 0<0)|| !(ep es (ep cW n 0).toNat 0).testBit k))):=Z rfl;obtain⟨S,Hm⟩:∃S,ep es n 0=S:=⟨_,rfl⟩;obtain⟨z,u⟩:∃z,ep cW n 0=z:=⟨_,rfl⟩;rw[Hm]at e0 hS HA HT;rw[u]at f0 hz HT;clear Hm u;generalize G:O ((List.range n).filter (J6 es cW k))=C at HF OA|-;clear G;generalize B:((List.range n).any λi=>(ep es i 0).testBit k)=A at HA|-;clear B;cases l:S.testBit k with
   |false=>
    have y:=Z λb=>(iV S k hS b Y).mono λe w' h=>dX (h.1.dd (by rw[l])) h.2;have HT:dT (J6 es cW k n=po):=Z (by rw[HT.o,l];rfl);have HA:dT (((List.range (n+1)).any λi=>(ep es i 0).testBit k)=A):=Z (by rw[HA.o,l,Bool.or_false]);clear l;go_wp2_with (go_at_call 107;apply(y.o _).cL;rintro w2 rfl);go_roundg (O es-(n+1))
    .exact⟨bH,n+1,Y,rfl,eO,by rw[HF,HT.o];rfl,by rw[HA.o]⟩
    omega
   |true=>
    have y:=Z λb=>(iV S k hS b Y).mono λe w' h=>dX (h.1.dd (by rw[l])) h.2;have HA:dT (((List.range (n+1)).any λi=>(ep es i 0).testBit k)=oj):=Z (by rw[HA.o,l,Bool.or_true]);rw[l,Bt]at HT;clear l;by_cases q:z<0
    .have V:decide (z<0)=oj:=kI q;have HT:dT (J6 es cW k n=oj):=Z (by rw[HT.o,V,Bool.true_or]);go_wp2_with (go_at_call 107;apply(y.o _).cL;rintro w2 rfl);go_quiet (fail);exact ZM102
    .have V:decide (z<0)=po:=jO q;rw[V,Bool.false_or]at HT;obtain⟨t,rfl⟩:∃t:Nat,z=(t:Int):=⟨z.toNat,Y⟩;let⟨g',o',a8V,hv,p0⟩:=(Q.on (v.dd (c.dd bH))).DR (show t<O es by omega);injection hv with x1 x2 x3;clear x2 x3;injection x1 with x1;injection x1 with x1 x4;subst x1 x4;simp only[EN]at p0;have T:=HS.o _ (bM (d:=0) (show t<O es by omega));rw[zbX]at HT;obtain⟨bBP,r⟩:∃bBP,ep es t 0=bBP:=⟨_,rfl⟩;rw[r]at p0 T HT;clear r;cases a:bBP.testBit k with
     |true=>
      have f:dT (∀b:aA,tR 107 #[i6 kd (bBP:Int),It k] b λe w'=>e=i5 (j4 oj)/\w'=b):=Z λb=>(iV bBP k T b Y).mono λe w' h=>dX (h.1.dd (by rw[a])) h.2.symm;have HT:dT (J6 es cW k n=po):=Z (by rw[HT.o,a];rfl);clear a;go_wp2_with (go_at_call 107;apply(y.o _).cL;rintro w2 rfl);go_quiet ((go_at_call 107;exact Calls.quiet_of_same (f.o _)));go_wp2;go_roundg (O es-(n+1))
      .exact⟨bH.drewN _,n+1,Y,rfl,eO,by rw[HF,HT.o];rfl,by rw[HA.o]⟩
      omega
     |false=>
      have f:dT (∀b:aA,tR 107 #[i6 kd (bBP:Int),It k] b λe w'=>e=i5 (j4 po)/\w'=b):=Z λb=>(iV bBP k T b Y).mono λe w' h=>dX (h.1.dd (by rw[a])) h.2.symm;have HT:dT (J6 es cW k n=oj):=Z (by rw[HT.o,a];rfl);clear a;go_wp2_with (go_at_call 107;apply(y.o _).cL;rintro w2 rfl);go_quiet ((go_at_call 107;exact Calls.quiet_of_same (f.o _)));exact ZM102
  .obtain rfl:n=O es:=Y;let⟨C,G⟩:=E (O ((List.range (O es)).filter (J6 es cW k)));let⟨A,B⟩:=E (((List.range (O es)).any λi=>(ep es i 0).testBit k));rw[G,B];have HJ:dT ((!((List.range (O es)).any λi=>(ep es i 0).testBit k)||O ((List.range (O es)).filter (J6 es cW k))==1)=(!A||C==1)):=Z (by rw[G,B]);clear G B;cases A with
   |false=>
    go_wp2;go_roundg (aR-(k+1))
    .exact⟨c.dd bH,k+1,Y,rfl,eO,λj N=>by
     by_cases P:j=k
     .subst P;rw[HJ.o];rfl
     .exact R j Y⟩
    omega
   |true=>
    by_cases m:C=1
    .have qL:((C:Int)!=1)=po:=by rw[m];rfl
     go_wp2;go_roundg (aR-(k+1))
     .exact⟨c.dd bH,k+1,Y,rfl,eO,λj N=>by
      by_cases P:j=k
      .subst P;rw[HJ.o,m];rfl
      .exact R j Y⟩
     omega
    .have qL:((C:Int)!=1)=oj:=by rw[bne,show((C:Int)==1)=decide (C=1)from dA C 1,jO m];rfl
     have HR:dT (AM es aR cW=po):=Z (by
      rw[Gp,List.all_eq_false];refine⟨k,yD.2 aV,?_⟩;rw[HJ.o];simpa using m)
     clear m;go_wp2;go_ret;exact⟨by rw[HR.o];rfl,v.dd (c.dd bH)⟩
 .have HR:dT (AM es aR cW=oj):=Z (by
   rw[Gp,Xa];intro j N;exact R j (nA (yD.1 N)))
  go_wp2;go_ret;exact⟨by rw[HR.o];rfl,v.dd c⟩
theorem Da{l:List Int}{p:Int}(a:i<O l):(l.set i p).take (i+1)=l.take i++[p]:=by
 rw[List.take_add_one,List.take_set_of_le (fV i)];simp[a]
theorem bG.lw{α:Type}{f:α->Nat->aF}{d:α}{e:ap}{l:List α}(h:bG f d e 1 w0 w (hY (H ⟨g,0,K⟩) n cap) l)(c:i<O l)(x:α):
  bG f d e 1 w0 (ey w ⟨g,i,K⟩ (f x 0)) (hY (H ⟨g,0,K⟩) n cap) (l.set i x):=by
 obtain⟨a',cap',hv,_⟩:=h.len;injection hv with h1 h2 h3;subst h1 h2 h3;refine⟨?_,h.2⟩;have b:=h.1.set rfl i 0 Y (f x 0);rw[wZ,pK]at b;rw[VP];refine b.congr λj m p q=> ?_;obtain rfl:m=0:=Y;rw[iB (l:=l.set i x),List.getElem?_set];by_cases a:i=j
 .subst a;simp[c]
 .rw[bD a,bD (λh=>a h.1.symm),<-iB]
def K0(es:List Nat)(aR:Nat)(cW:List Int):Bool:=tS cW&&AM es aR cW
theorem Uh(v1:aF)(es:List Nat)(aR g:Nat)(cap:Nat)(w0:aA)(hm:O es<=7)(hv:aR<=1048576)(hs:∀s,s∈es->s<2^32)(h0:0<O es):∀(k:Nat) (cW:List Int) (w:aA),
  k<=O es->CI w v1 es->(∀b,Value.mN v1=H b->b<hJ w0.heap)->OZs w0 w (hY (H ⟨g,0,K⟩) (O es) cap) cW->O cW=O es->(∀x,x∈cW->-1<=x/\x<O es)->
  aH prog 146 #[.agg #[i6 i7 aR,v1],hY (H ⟨g,0,K⟩) (O es) cap,i6 i7 ((O es-k:Nat):Int)] w λe w'=>
   e=i5 (j4 (C3 (O es) (K0 es aR) k (cW.take (O es-k))))/\U w [g] w' [g]/\∃c,OZs w0 w' (hY (H ⟨g,0,K⟩) (O es) cap) c/\O c=O es/\(∀x,x∈c->-1<=x/\x<O es)/\c.take (O es-k)=cW.take (O es-k)
 |0,cW,w,N,h1,A,d,hl,l=>by
  have hT:C3 (O es) (K0 es aR) 0 (cW.take (O es-0))=K0 es aR cW:=by rw[Nat.sub_zero,<-hl,R9];rfl
  rw[hT];rw[Nat.sub_zero];obtain⟨ad,o,rfl,-⟩:=h1.len;have V6:∀x,x∈cW->x<O cW:=λx h=>by rw[hl];exact(l x h).2
  have hr:=Zv _ cW _ (d.rd.on ((U.refl w []).alloc (h8 #[J aR,hY ad (O es) o] 133))) Y V6 (λx h=>(l x h).1);have hj:=au _ _ es aR cW _ (h1.on ((U.refl w []).alloc (h8 #[J aR,hY ad (O es) o] 133))) (d.rd.on ((U.refl w []).alloc (h8 #[J aR,hY ad (O es) o] 133))) hm hl hv hs V6;have B:=Z hr;have HJ:=Z hj;have HL:=Z d;have C:=Z (dX hl l);have HT:dT (K0 es aR cW=(tS cW&&AM es aR cW)):=Z rfl;clear hT hr hj d hl l V6 hs A h1;generalize hR:tS cW=R at B HT;clear hR;cases R with
  |true=>
   go_in;go_wp2_with (first
    |(go_at_call 168;apply B.cL;rintro w2 rfl)
    |(go_at_call 169;apply HJ.cL;intro w2 G;have L:=Z G;clear G))
   go_ret;exact⟨by rw[HT.o,Bt];rfl,(((U.refl w []).alloc _).dd L).aN X|>.to (λk N=> .inl N),cW,HL.on (((U.refl w []).alloc _).dd L),C.1,C.2,rfl⟩
  |false=>
   go_in;go_wp2_with (go_at_call 168;apply B.cL;rintro w2 rfl);go_ret;exact⟨by rw[HT.o];rfl,((U.refl w []).alloc _).aN X|>.to (λk N=> .inl N),cW,HL.on ((U.refl w []).alloc _),C.1,C.2,rfl⟩
 |k+1,cW,w,N,h1,A,d,hl,l=>by
  let⟨i,hi⟩:=E (O es-(k+1));have IH:=Uh v1 es aR g cap w0 hm hv hs h0 k;have hik:O es-k=i+1:=Y;have qL:i<O es:=Y;rw[hi];rw[hik,Int.natCast_add,Int.natCast_one]at IH;let⟨a,Q⟩:=E (cW.take i);have aDL:O a=i:=by rw[<-Q,VQ];omega
  have HG:dT (C3 (O es) (K0 es aR) (k+1) a=(List.range (O es)).any λp=>p !=i&&C3 (O es) (K0 es aR) k (a++[(p:Int)])):=Z (by rw[C3,aDL]);rw[Q];have IH:=Z IH;have hgw:=d.1.lt g rfl;have FK:hJ w0.heap<=g:=d.2 g rfl;obtain⟨ad,o,rfl,-⟩:=h1.len;have H1:=Z h1;have km:=Z A;have HL:=Z d;have C:=Z (dX hl (dX l Q));clear h1 A d hl l Q hs hi hik;have y:hJ w.heap∉[g]:=by simp;omega
  have hie:((i:Int)==(O es:Int))=po:=by rw[dA];exact jO Y
  have f:dT (∀b,Value.mN (hY ad (O es) o)=H b->b∉[g]):=Z λb A hm=>by
   have:=km.o b A;simp at hm;omega
  go_in;go_wp2;let⟨wa,W⟩:=E (e8 w (h8 #[J aR,hY ad (O es) o] 133));have cR:=Za W;have b0:e7 wa ⟨w,0,K⟩=H (J aR):=by rw[<-W];exact aL (lK w _) rfl
  have b1:e7 wa ⟨w,1,K⟩=H (hY ad (O es) o):=by rw[<-W];exact aL (lK w _) rfl
  have wU:=Z ((cR.aN (T:=[g]) X).to (T:=[g]) (λk N=> .inl N));have HLa:=Z (HL.on cR);rw[W];clear W cR;go_loopg [7] (O es) (λgh j wr=>U wa [g] wr [g]/\∃(p:Nat) (pl:List Int),p<=O es/\gh=O es-p/\j=J p/\OZs w0 wr (eB g 0 (O es) cap) pl/\O pl=O es/\(∀x,x∈pl->-1<=x/\x<O es)/\pl.take i=a/\
   ∀n,n<p->(n !=i&&C3 (O es) (K0 es aR) k (a++[(n:Int)]))=po)
  .exact⟨U.refl _ _,0,cW,Y,rfl,rfl,HLa,C.1,C.2.1,C.2.2,λn hp=>Y⟩
  obtain⟨G,p,pl,hp,rfl,rfl,d,hl,l,Q,fS⟩:=hrel;have c0:=G.cell b0 y;have c1:=G.cell b1 y;have L:=Z G;have q:=Z d;have m:=Z (dX hl (dX l Q));have RF:=Z fS;clear G d hl l Q fS;by_cases aV:p<O es
  .by_cases S:p=i
   .have A:((p:Int)!=(i:Int))=po:=by rw[bne,dA,kI S];rfl
    have P:=Z S;clear S;go_wp2;go_roundg (O es-(p+1))
    .exact⟨L,p+1,pl,Y,rfl,eO,q,m.1,m.2.1,m.2.2,λn dh=>by
     by_cases h:n=p
     .subst h;rw[P.o];simp
     .exact RF n Y⟩
    omega
   .have A:((p:Int)!=(i:Int))=oj:=by rw[bne,dA,jO S];rfl
    let⟨g',o',cap',AO,e0⟩:=q.rd.DR (show i<O pl by rw[m.o.1];exact qL);injection AO with x1 x2 x3;clear x2 x3;injection x1 with x1;injection x1 with x1 x4;subst x1 x4;rw[Nat.zero_add]at e0;have ef:=q.1.free (g:=g) rfl i;simp only[fZ]at e0;have P:=Z S;clear S;go_upto_region 8 with(fail);let⟨wd,eY⟩:=E (ey wr (Ad g i) (It p));have cU:U wr [g] wd [g]:=eY▸pX wr g i _;have pV:OZs w0 wd (eB g 0 (O es) cap) (pl.set i (p:Int)):=eY▸q.lw (by rw[m.o.1];exact qL) (p:Int);have V:=((H1.eF wU f).eF L f).eF cU f.o;have aKE:O (pl.set i (p:Int))=O es:=by rw[VP];exact m.1
    have hx3:∀x,x∈pl.set i (p:Int)->-1<=x/\x<O es:=λx l=>by
     rcases List.mem_or_eq_of_mem_set l with h|h
     .exact m.2.1 x h
     .subst h;omega
    have aJw:(pl.set i (p:Int)).take (i+1)=a++[(p:Int)]:=by rw[Da (by rw[m.o.1];exact qL),m.o.2.2]
    have U7:=IH.out (pl.set i (p:Int)) wd Y V km pV aKE hx3;rw[aJw]at U7;have d0:=cU.cell c0 y;have d1:=cU.cell c1 y;have HC:=Z U7;have gZ:=Z (L.dd cU);rw[eY];clear eY cU pV V aKE hx3 aJw U7 e0 ef;generalize hR:C3 (O es) (K0 es aR) k (a++[(p:Int)])=R at HC;have B:=Z hR;clear hR;cases R with
    |true=>
     go_wp2_with (go_at_call 146;apply HC.cL;rintro w5 ⟨u,F,r,v,z,hp5⟩;have HE:=Z (dX u (dX r (dX v (dX z hp5))));clear u r v z hp5);go_ret;obtain⟨u,r,v,z,hp5⟩:=HE.o;refine⟨?_,wU.dd (gZ.dd u),F,r,v,z,?_⟩
     .rw[HG.o,show((List.range (O es)).any λp=>p !=i&&C3 (O es) (K0 es aR) k (a++[(p:Int)]))=oj from kq.2 ⟨p,yD.2 aV,by rw[B.o,Bool.and_true];simpa using P.o⟩];rfl
     .exact ZM114
    |false=>
     go_wp2_with (go_at_call 146;apply HC.cL;rintro w5 ⟨u,F,r,v,z,hp5⟩;have HE:=Z (dX u (dX r (dX v (dX z hp5))));clear u r v z hp5);go_roundg (O es-(p+1))
     .obtain⟨u,r,v,z,hp5⟩:=HE.o;refine⟨gZ.dd u,p+1,F,Y,rfl,eO,r,v,z,?_,λn dh=> ?_⟩
      .exact ZM114
      .by_cases h:n=p
       .subst h;rw[B.o,Bool.and_false]
       .exact RF n Y
     omega
  .have B:dT (((List.range (O es)).any λp=>p !=i&&C3 (O es) (K0 es aR) k (a++[(p:Int)]))=po):=Z (by
    rw[List.any_eq_false];intro n dh;have:=RF.o n (nA (yD.1 dh));rw[this];decide)
   go_wp2;go_ret;exact⟨by rw[HG.o,B.o];rfl,wU.dd L,pl,q,m.1,m.2.1,m.2.2⟩
theorem aGL:wI prog 43 3 1 8 #[i6 i7 0]:= .PU (z:=J 0) underlying43 dB rfl rfl
theorem Af(v1:aF)(es:List Nat)(aR:Nat)(w:aA)(h:CI w v1 es)(Q:O es<=7)(hv:aR<=1048576)(hs:∀s,s∈es->s<2^32):
  aH prog 105 #[.agg #[i6 i7 aR,v1]] w λe w'=>e=i5 (j4 (jZ es aR))/\U w [] w' []:=by
 obtain⟨ad,cap,rfl,-⟩:=h.len;by_cases d:O es=0
 .have c:((O es:Int)==0)=oj:=by rw[d];rfl
  have m:es=[]:=Pk.1 d;have B:dT (jZ es aR=oj):=Z (by rw[m];rfl);clear d m;go_in;go_wp2;go_ret;exact⟨by rw[B.o];rfl,(U.refl w []).alloc _⟩
 .have c:((O es:Int)==0)=po:=by rw[show((O es:Int)==0)=decide (O es=0)from dA (O es) 0];exact jO d
  have S:(0:Int)<(O es:Int):=Y;have R:=aGL.wO (O es) (O es) (fV _) Y F4;simp only[wZ]at R;let⟨wa,C⟩:=E (e8 w (h8 #[J aR,hY ad (O es) cap] 133));have A:=Za C;have qL:hJ wa.heap=hJ w.heap+1:=by rw[<-C];simp
  have u:rW wa w.heap.size #[J aR,hY ad (O es) cap] 133:=by rw[<-C];exact lK ..
  have hT:=aGL.yF (O es) (O es) (fV _) F4 wa Y;simp only[wZ]at hT;generalize V:e8 wa (h8 (madeCells #[J 0] (O es)) 3)=wb at hT;have f:=Za V;have q:OZs wa wb (hY (H ⟨hJ wa.heap,0,K⟩) (O es) (O es)) (List.replicate (O es) 0):=by
   refine⟨?_,λg F=>by simp[gz]at F;omega⟩;exact ZM117
  have N:=q.lw (i:=0) (j7 Ym) (-1);obtain⟨c0,NF⟩:∃c0,e7 wb ⟨hJ wa.heap,0,K⟩=H c0:=by
   let⟨g',o',cap',y,e0⟩:=q.rd.DR (i:=0) (j7 Ym);injection y with x1 _ _;injection x1 with x1;injection x1 with x1 x4;subst x1 x4;exact⟨_,e0⟩
  have hf0:=q.1.free (g:=hJ wa.heap) rfl 0;let⟨wc,p⟩:=E (ey wb ⟨hJ wa.heap,0,K⟩ (J (-1)));have P:OZs wa wc (hY (H ⟨hJ wa.heap,0,K⟩) (O es) (O es)) ((List.replicate (O es) 0).set 0 (-1)):=p▸N;have L:U wb [hJ wa.heap] wc [hJ wa.heap]:=p▸(U.refl wb [hJ wa.heap]).setCell (a:=⟨hJ wa.heap,0,K⟩) (.inl X) _;have v:U wa [] wc []:=f.aZ L (λb c=>by simp at c;omega);have r:=Uh (hY ad (O es) cap) es aR wa.heap.size (O es) wa Q hv hs Y (O es-1) ((List.replicate (O es) 0).set 0 (-1)) wc Y (h.on (A.dd v)) (λb c=>by
    have:∀b,Value.mN (hY ad (O es) cap)=H b->b<hJ w.heap:=λb c=>by
     rcases h with⟨T,_⟩|⟨g,o,cap',y,_,_,F,_⟩
     .exact dS T d
     .injection y with x1 _ _;subst x1;simp[Value.mN]at c;omega
    have:=this b c;omega) P X (λx hx=>by
    rcases List.mem_or_eq_of_mem_set hx with G|G
    .have:=(List.mem_replicate.1 G).2;omega
    .omega)
  have l:O es-(O es-1)=1:=Y;rw[l,show(((1:Nat):Int))=1 from rfl]at r;have k:((List.replicate (O es) (0:Int)).set 0 (-1)).take 1=[-1]:=by
   obtain⟨n,hn⟩:∃n,O es=n+1:=⟨O es-1,Y⟩;rw[hn];rfl
  rw[k]at r;have B:dT (jZ es aR=C3 (O es) (K0 es aR) (O es-1) [-1]):=Z (by
   unfold jZ;rw[show es.isEmpty=po by cases es;exact dS rfl d;rfl,Bool.false_or];rfl)
  have HC:=Z r;have z:=(A.dd v);have d0:=v.cell (aL u (j:=0) rfl) X;have d1:=v.cell (aL u (j:=1) rfl) X;have e1:=Zc u 1;have So:=qL.symm;clear h q N P L r hT f A u d k l qL;go_in;go_wp2_with (go_at_call 146;apply HC.o.cL;rintro w5 ⟨W,-⟩);go_ret;exact⟨by rw[B.o];rfl,z.aZ W (λb c=>by simp at c;omega)⟩
variable{keep':Nat}
theorem aO5{m:List ES}(h:∀x,x∈l↔x∈m):JT l↔JT m:=by
 have b:∀{l m:List ES},(∀x,x∈l↔x∈m)->∀i,i∈nK l↔i∈nK m:=λh i=>by
  simp_all [pN,exists_congr]
 have c:∀{l m:List ES},(∀x,x∈l↔x∈m)->∀i v,Mem l i v↔Mem m i v:=λh i v=>exists_congr λs=>and_congr_left λ_=>h _;unfold JT;constructor
 .intro a;exact(a.aQv (b h)).congr λi v _=>c h i v
 .intro a;exact(a.aQv λi=>(b h i).symm).congr λi v _=>(c h i v).symm
theorem nC(h:∀s,s∈es->s<2^32):jS (bW es):=λx a=>by
 grind [oT,List.getElem_mem]
theorem pB(es:List Nat):(nK (bW es)).Nodup:=by grind [xL]
theorem Ag(h:es≠[]):bW es≠[]:=λe=>h (by
 grind [sE])
theorem NI(a:∀s,s∈es->s<2^aR)(hv:aR<=30)(hl:O es<=7)(b:es≠[]):
  jZ es aR= !((run 0 bZ (bW es)).2).any (λx=>decide (x.2≠0)):=by
 have hs:∀s,s∈es->s<2^32:=λs h=>wM (a s h) (Cr D Y);grind [UG,Wb,Ag,pB,nC,lD]
theorem Y0{a:Nat}(x:ES):x∈bW (es++[a])↔x∈(O es,a)::bW es:=by
 grind [oT]
theorem aB8(h:∀x,x∈l->x.2<2^n):yR l<2^n:=by
 unfold yR;induction l<;>simp_all [Nat.two_pow_pos,Nat.or_lt_two_pow,rg,RL]
theorem Nb{head:Nat}(a:∀s,s∈es->s<2^aR)(hv:aR<=30)(hl:O es<=6):
  jZ (es++[head&&&yR (bW es)]) aR=iG (run head bZ (bW es)).2 head:=by
 have hs:∀s,s∈es->s<2^32:=λs h=>wM (a s h) (Cr D Y);have c:yR (bW es)<2^aR:=aB8 λx d=>by
  grind [oT,List.getElem_mem]
 have b:∀s,s∈es++[head&&&yR (bW es)]->s<2^aR:=λs h=>by
  grind [Nat.and_le_right]
 rw[Bu,UG b X,aO5 (Y0 (es:=es)),
  ic (pB es) (nC hs) (lD Y) head (e:=O es) (by rw[xL];simp)]
 unfold iG;rw[Xa]
structure F2(dg:Nat)(b:sM)(l:List ES)(m W:Nat):Prop where
 ok:BOk b
 pm:O b.2=m
 xb:∀e,e∈nK l->e<m
 nd:(nK l).Nodup
 sm:jS l
 ne:l≠[]
 ml:O l<=m
 wt:O b.1+eD l<=W
theorem IU(l:List ES)(s:cT):O (make l s)<=O l:=by
 grind [make]
theorem F2.step{dg:Nat}{b:sM}{m W:Nat}(h:F2 dg b l m W)(pa:Int){k:Nat}{s:cT}(q:next l k=H s):F2 dg (gB pa b l s) (make l s) m W:=by
 have c:=iK h.nd q;obtain⟨g,j,i⟩:=c.mem;have r:=o9 h.sm c;let⟨n,p⟩:=zw pa b l s;refine⟨h.ok.step pa l (h.pm▸h.xb _ j) (λg=>by rw[h.pm];exact h.xb _ (i g).1),p.dd h.pm,λe a=> ?_,rL h.nd s,BR h.sm s,TS c,jN (IU _ _) h.ml,by rw[n];have:=h.wt;omega⟩;by_cases d:s.aG=1
 .rw[tJ d]at a;exact h.xb e a
 .rw[qG d]at a;exact h.xb e (T8.1 a).1
theorem NR(h:l≠[]):0<eD l:=by
 cases l<;>grind [lV]
theorem F2.few{dg:Nat}{b:sM}{m W:Nat}(h:F2 dg b l m (W+1)):O b.1<=W:=by
 have:=NR h.ne;have:=h.wt;omega
theorem Pw:∀(l:List ES),eD (qB l)=eD l:=λl=>by
 unfold eD qB bW;rw[sN,List.map_map];grind [List.ext_getElem,List.length_map]
theorem F2.qB{dg:Nat}{b:sM}{m W:Nat}(h:F2 dg b l m W)(c:sM)(j:c.1=b.1\/jT b.1 c.1)(g:c.2=l.map λx=>ep b.2 x.1 0):F2 keep' c (qB l) (O l) W:=by
 have d:jT b.1 c.1:=j.elim (λe=>e▸jT.refl _) id;have i:nK (Go.Proofs.YtbcooplfakebmaaGreatDoor.qB l)=List.range (O l):=by unfold Go.Proofs.YtbcooplfakebmaaGreatDoor.qB;rw[xL,sN]
 refine⟨⟨h.ok.below.Ie d,λe a=> ?_⟩,by rw[g,sN],λe a=>by grind,GJ,?_,?_,?_,by rw[Pw,<-d.len];exact h.wt⟩
 .rw[g,sN]at a;rw[g,iB,Pm,kX a,<-d.len];exact h.ok.GV _ (h.pm▸h.xb _ (BB.2 ⟨_,kt a,rfl⟩))
 .exact nC λs hs=>by
   obtain⟨x,n,rfl⟩:=BB.1 hs;exact h.sm x n
 .exact Ag λe=>h.ne (List.map_eq_nil_iff.1 e)
 .unfold Go.Proofs.YtbcooplfakebmaaGreatDoor.qB;rw[sE,sN];exact fV _
theorem F2.cN(pa:Int){dg:Nat}(hs:∀s,s∈es->s<2^32)(b:es≠[]){W:Nat}(c:O es+eD (bW es)<=W):F2 dg (cN pa es) (bW es) (O es) W:=by
 refine⟨wj pa es,by simp[Go.Proofs.YtbcooplfakebmaaGreatDoor.cN],λe a=>by rw[xL]at a;simpa using a,pB es,nC hs,Ag b,by rw[sE];exact fV _,by simpa[Go.Proofs.YtbcooplfakebmaaGreatDoor.cN]using c⟩
theorem F2.cX{dg:Nat}{m W:Nat}(pa:Int):∀(n:Nat) (b:sM) (l:List ES) (c:sM) (k:List ES),F2 dg b l m W->cX pa dg n b l=H (c,k)->F2 dg c k m W/\iG k dg=oj
 |0,b,l,c,k,h,e=>by
  unfold Go.Proofs.YtbcooplfakebmaaGreatDoor.cX at e;split at e
  .rename_i a;injection e with e;injection e with e1 e2;subst e1 e2;exact⟨h,a⟩
  .cases e
 |n+1,b,l,c,k,h,e=>by
  unfold Go.Proofs.YtbcooplfakebmaaGreatDoor.cX at e;split at e
  .rename_i a;injection e with e;injection e with e1 e2;subst e1 e2;exact⟨h,a⟩
  .cases d:next l dg with
   |none=>rw[d]at e;cases e
   |some s=>rw[d]at e;exact F2.cX pa n _ _ c k (h.step pa d) e
theorem F2.fC{dg:Nat}{m W:Nat}(pa:Int):∀(n:Nat) (b:sM) (l:List ES),F2 dg b l m W->F2 dg (fC pa n b l).1 (fC pa n b l).2 m W
 |0,b,l,h=>h
 |n+1,b,l,h=>by
  unfold Go.Proofs.YtbcooplfakebmaaGreatDoor.fC;cases a:next l 0 with
  |none=>exact h
  |some s=>exact F2.fC pa n _ _ (h.step pa a)
def jI{α:Type}(n:Nat)(f:Nat->Option α):Option α:=(List.range n).findSome? f
theorem LU{α:Type}(f:Nat->Option α):jI 0 f=K:=rfl
theorem mX{α:Type}(n:Nat)(f:Nat->Option α):jI (n+1) f=(jI n f).or (f n):=by
 unfold jI;rw[Yl,List.findSome?_append,List.findSome?_cons];cases f n<;>simp
theorem LW{α:Type}(n:Nat)(f:Nat->Option α):jI (n+1) f=(f 0).or (jI n λi=>f (i+1)):=by
 unfold jI;rw[List.range_succ_eq_map,List.findSome?_cons,List.findSome?_map];cases f 0<;>simp[Function.comp_def]
theorem yN{α β:Type}(l:List α)(d:α)(g:α->Option β):l.findSome? g=jI (O l) λi=>g (ep l i d):=by
 induction l with
 |nil=>rfl
 |cons x l ih=>
  rw[List.findSome?_cons,T9,LW,ih];cases h:g x
  .simp[h]
  .simp[h]
theorem FY{α β:Type}(l:List α)(p:α->Bool)(f:α->β):(l.find? p).map f=l.findSome? λx=>if p x then H (f x)else K:=by
 induction l with
 |nil=>rfl
 |cons x l ih=>
  rw[List.find?_cons,List.findSome?_cons];cases h:p x
  .simpa using ih
  .simp
def GO(l:List ES)(dg i:Nat):Option cT:=if sP l dg (ep l i qc)≠0 then H ⟨1,(ep l i qc).1,0,sP l dg (ep l i qc)⟩else K
def pL(l:List ES)(i j:Nat):Option cT:=if i<j/\(ep l i qc).2=(ep l j qc).2 then H ⟨2,(ep l j qc).1,(ep l i qc).1,0⟩else K
def rX(l:List ES)(i j:Nat):Option cT:=if(ep l i qc).2≠(ep l j qc).2/\part (ep l i qc).2 (ep l j qc).2=oj then H ⟨3,(ep l i qc).1,(ep l j qc).1,0⟩else K
theorem Di(l:List ES)(dg:Nat):oR l dg=jI (O l) (GO l dg):=by
 unfold oR;rw[FY,yN _ qc];unfold GO;congr 1;funext i;simp
theorem XW(l:List ES):qE l=jI (O l) λi=>jI (O l) (rX l i):=by
 unfold qE;rw[yN _ qc];congr 1;funext i;rw[FY,yN _ qc];congr 1;funext j;unfold rX;simp
theorem Dj(l:List ES):mF l=jI (O l) λi=>jI (O l) (pL l i):=by
 induction l with
 |nil=>rfl
 |cons x r ih=>
  have b:∀i,pL (x::r) i 0=K:=λi=>by unfold pL;rw[bD Y]
  have c:∀i j,pL (x::r) (i+1) (j+1)=pL r i j:=λi j=>by
   unfold pL;simp only[List.getD_cons_succ,Nat.add_lt_add_iff_right]
  unfold mF;rw[T9,LW,LW,b,Option.none_or,FY,yN _ qc,ih];congr 1
  .congr 1;funext j;unfold pL;simp only[List.getD_cons_zero,List.getD_cons_succ];by_cases a:(ep r j qc).2=x.2
   .rw[bR (by rw[JY];exact a),bR ⟨Y,a.symm⟩]
   .rw[bD (by rw[JY];exact a),bD (λh=>a h.2.symm)]
  .congr 1;funext i;rw[LW,b,Option.none_or];congr 1;funext j;rw[c]
theorem te(b:j<i)(a:i<O l)(h:(ep l i qc).2=(ep l j qc).2)(dg:Nat):(next l dg).isSome=oj:=by
 cases d:next l dg with
 |some _=>rfl
 |none=>
  rw[iB,iB,kX a,kX (show j<O l by omega)]at h;exact dS h (List.pairwise_iff_getElem.1 (yK (RZ d).2.1) j i Y a b)
theorem M8{α:Type}(L:List α)(x:α):(L++[x]).head? =L.head?.or (H x):=by cases L<;>rfl
theorem Kv{a:Nat}(ha:a<2^32):fD a b<2^32:=Og (AL a b) ha
theorem uq(hs:jS l)(e:Nat):BN l e<2^32:=by
 unfold BN;have:∀m:List ES,(∀x,x∈m->x.2<2^32)->yR m<2^32:=by
  intro m;induction m with
  |nil=>intro _;exact Nat.two_pow_pos 32
  |cons x m ih=>
   intro a;exact Nat.or_lt_two_pow (a x X) (ih λy b=>a y (RL _ b))
 exact this _ λx c=>hs x (T8.1 c).1
section
def gW(ss:List Nat)(ts:List Bool)(n:Nat):List ES:=((List.range n).filter λi=>ep ts i po).map λi=>(i,ep ss i 0)
section
variable(ss:List Nat)(ts:List Bool)
theorem AQ(n:Nat):gW ss ts (n+1)=gW ss ts n++if ep ts n po then[(n,ep ss n 0)]else[]:=by
 grind [gW,List.range_succ]
theorem TP{s:Nat}:(i,s)∈gW ss ts n↔i<n/\ep ts i po=oj/\s=ep ss i 0:=by
 grind [gW]
theorem Sg(n:Nat):nK (gW ss ts n)=(List.range n).filter λi=>ep ts i po:=by
 unfold nK gW;rw[List.map_map];exact(List.map_congr_left λ_ _=>rfl).dd (List.map_id _)
theorem YA(n:Nat):O (gW ss ts n)<=n:=by
 grind [gW]
theorem mA{α:Type}(g:ES->Option α):∀n,(gW ss ts n).findSome? g=jI n λi=>if ep ts i po then g (i,ep ss i 0)else K
 |0=>rfl
 |n+1=>by
  rw[AQ,List.findSome?_append,mA g n,mX];congr 1;cases ep ts n po
  .rfl
  .rw[bR rfl,bR rfl,List.findSome?_cons];cases g (n,ep ss n 0)<;>rfl
def iU(dg i k:Nat):Nat:=(List.range k).foldl (λc j=>if j≠i/\ep ts j po=oj then fD c (ep ss j 0)else c) (fD (ep ss i 0) dg)
theorem EI(dg i k:Nat):iU ss ts dg i (k+1)=if k≠i/\ep ts k po=oj then fD (iU ss ts dg i k) (ep ss k 0)else iU ss ts dg i k:=by
 grind [iU,List.range_succ]
theorem KO(dg i:Nat):∀k,iU ss ts dg i k<=ep ss i 0
 |0=>AL _ _
 |k+1=>by
  rw[EI];split
  .exact jN (AL _ _) (KO dg i k)
  .exact KO dg i k
theorem F7(dg i v:Nat):∀k,(iU ss ts dg i k).testBit v=oj↔((ep ss i 0).testBit v=oj/\dg.testBit v=po)/\∀j,j<k->j≠i->ep ts j po=oj->(ep ss j 0).testBit v=po
 |0=>by
  show(fD (ep ss i 0) dg).testBit v=oj↔_;rw[cI,Xb,Bool.not_eq_true'];exact⟨λh=>⟨h,λj c=>dS c Y⟩,λh=>h.1⟩
 |k+1=>by
  rw[EI];have ih:=F7 dg i v k;split
  .rename_i g;rw[cI,Xb,Bool.not_eq_true',ih];constructor
   .rintro⟨⟨b,a⟩,l⟩;refine⟨b,λj c e d=> ?_⟩;rcases WB j k with h|h
    .exact a j h e d
    .obtain rfl:j=k:=Y;exact l
   .rintro⟨b,a⟩;exact⟨⟨b,λj c=>a j Y⟩,a k Y g.1 g.2⟩
  .rename_i g;rw[ih];constructor
   .rintro⟨b,a⟩;refine⟨b,λj c e d=> ?_⟩;rcases WB j k with h|h
    .exact a j h e d
    .obtain rfl:j=k:=Y;exact dS ⟨e,d⟩ g
   .rintro⟨b,a⟩;exact⟨b,λj c=>a j Y⟩
theorem vw(dg:Nat):iU ss ts dg i n=sP (gW ss ts n) dg (i,ep ss i 0):=by
 refine Fb λv=> ?_;rw[Bu,F7,sP,cI,cI,Xb,Xb,Bool.not_eq_true',Bool.not_eq_true'];refine and_congr_right λ_=> ?_;rw[<-Bool.not_eq_true,GZ];constructor
 .rintro h ⟨j,a,s,hs,hv⟩;grind [TP]
 .intro h j b a c;cases hv:(ep ss j 0).testBit v with
  |false=>rfl
  |true=>exact dS ⟨j,a,_,(TP ss ts).2 ⟨b,c,rfl⟩,hv⟩ h
def jV(i j:Nat):Nat:=if i=j\/ep ts i po=po\/ep ts j po=po then 0 else if ep ss i 0=ep ss j 0 then 2 else if fD (ep ss i 0) (ep ss j 0)=0 then 3 else 0
def GN(dg n i:Nat):Option cT:=if ep ts i po=oj/\iU ss ts dg i n≠0 then H ⟨1,i,0,iU ss ts dg i n⟩else K
def E6(i j:Nat):Option cT:=if i<j/\jV ss ts j i=2 then H ⟨2,j,i,0⟩else K
def AA(i j:Nat):Option cT:=if jV ss ts i j=3 then H ⟨3,i,j,0⟩else K
theorem xE{α:Type}{f g:Nat->Option α}:∀{n:Nat},(∀i,i<n->f i=g i)->jI n f=jI n g
 |0,_=>rfl
 |n+1,h=>by rw[mX,mX,xE (n:=n) λi a=>h i Y,h n Y]
theorem LV{α:Type}{f:Nat->Option α}:∀{n:Nat},(∀i,i<n->f i=K)->jI n f=K
 |0,_=>rfl
 |n+1,h=>by rw[mX,LV (n:=n) λi a=>h i Y,h n Y];rfl
theorem AW{α:Type}{f:Nat->Option α}{x:α}:∀{n:Nat},jI n f=H x->∃i,i<n/\f i=H x
 |0,h=>by cases h
 |n+1,h=>by
  rw[mX]at h;cases hs:jI n f with
  |none=>rw[hs]at h;exact⟨n,Y,by simpa using h⟩
  |some y=>
   rw[hs]at h;let⟨i,b,a⟩:=AW (n:=n) hs;exact⟨i,Y,a.dd (eI h)⟩
theorem C8{α β:Type}{f g:α->Option β}:∀{l:List α},(∀x,x∈l->f x=g x)->l.findSome? f=l.findSome? g
 |[],_=>rfl
 |x::l,h=>by
  rw[List.findSome?_cons,List.findSome?_cons,h x (rg ..),C8 λy a=>h y (RL _ a)]
theorem KM:∀{l:List ES},(nK l).Pairwise (·<·)->mF l=l.findSome? λx=>l.findSome? λy=>if x.1<y.1/\x.2=y.2 then H (⟨2,y.1,x.1,0⟩:cT)else K
 |[],_=>rfl
 |x::r,h=>by
  unfold nK at h;rw[UU,List.pairwise_cons]at h;have c:∀y,y∈r->x.1<y.1:=λy b=>h.1 _ (BB.2 ⟨y,b,rfl⟩);rw[mF,List.findSome?_cons,List.findSome?_cons,bD (λh=>Nat.lt_irrefl _ h.1),FY,KM (l:=r) h.2];have e:(r.findSome? λy=>if(y.2==x.2)=oj then H (⟨2,y.1,x.1,0⟩:cT)else K)=r.findSome? λy=>if x.1<y.1/\x.2=y.2 then H ⟨2,y.1,x.1,0⟩else K:=C8 λy b=>by
   grind
  have e2:(r.findSome? λa=>r.findSome? λy=>if a.1<y.1/\a.2=y.2 then H (⟨2,y.1,a.1,0⟩:cT)else K)=r.findSome? λa=>(x::r).findSome? λy=>if a.1<y.1/\a.2=y.2 then H ⟨2,y.1,a.1,0⟩else K:=C8 λa d=>by
   rw[List.findSome?_cons,if_neg (λh=>Nat.lt_asymm (c a d) h.1)]
  rw[e,e2];generalize r.findSome? (λy=>if x.1<y.1/\x.2=y.2 then H (⟨2,y.1,x.1,0⟩:cT)else K)=o;cases o<;>rfl
theorem X5(n:Nat):(nK (gW ss ts n)).Pairwise (·<·):=by rw[Sg];exact List.pairwise_lt_range.filter _
theorem PT(dg n:Nat):next (gW ss ts n) dg=(jI n (GN ss ts dg n)).or ((jI n λi=>jI n (E6 ss ts i)).or (jI n λi=>jI n (AA ss ts i))):=by
 unfold next;congr 1
 .grind [oR,FY,mA,xE,GN,vw]
 .congr 1
  .rw[KM (X5 ss ts n),mA];refine xE λi _=> ?_;dsimp only;rw[mA];grind [LV,E6,jV,xE]
  .unfold qE;rw[mA];refine xE λi _=> ?_;dsimp only;rw[FY,mA];cases a:ep ts i po
   .grind [LV,AA,jV]
   grind [xE,AA,jV,part]
def Nm(dg n:Nat)(s:cT):Prop:=
 (s.bP<n/\ep ts s.bP po=oj/\s.cut≠0/\s=⟨1,s.bP,0,iU ss ts dg s.bP n⟩)\/
 (s.bP<n/\s.eK<n/\ep ts s.bP po=oj/\jV ss ts s.bP s.eK≠0/\s=⟨jV ss ts s.bP s.eK,s.bP,s.eK,0⟩)
theorem Ro{dg:Nat}{s:cT}(h:next (gW ss ts n) dg=H s):Nm ss ts dg n s:=by
 rw[PT]at h;have l:∀i j,jV ss ts i j≠0->ep ts i po=oj:=λi j h=>by
  grind [jV]
 cases e:jI n (GN ss ts dg n)with
 |some x=>
  rw[e]at h;obtain rfl:x=s:=eI h;let⟨i,c,a⟩:=AW e;unfold GN at a;split at a
  .rename_i b;injection a with a;subst a;exact .inl ⟨c,b.1,b.2,rfl⟩
  .cases a
 |none=>
  rw[e,Option.none_or]at h;cases g:jI n λi=>jI n (E6 ss ts i)with
  |some x=>
   rw[g]at h;obtain rfl:x=s:=eI h;let⟨i,c,a⟩:=AW g;let⟨j,d,a⟩:=AW a;unfold E6 at a;split at a
   .rename_i b;injection a with a;subst a;refine .inr ⟨d,c,l j i (by rw[b.2];decide),by rw[b.2];decide,by rw[b.2]⟩
   .cases a
  |none=>
   rw[g,Option.none_or]at h;let⟨i,c,a⟩:=AW h;let⟨j,d,a⟩:=AW a;unfold AA at a;split at a
   .rename_i b;injection a with a;subst a;refine .inr ⟨c,d,l i j (by rw[b];decide),by rw[b];decide,by rw[b]⟩
   .cases a
def fH(s:cT):List Nat:=if s.aG=1 then ss.set s.bP (fD (ep ss s.bP 0) s.cut)else ss
def tY(s:cT):List Bool:=if s.aG=1 then ts else ts.set s.bP po
theorem QM{s:cT}(hs:s.bP<O ss)(g:s.bP<O ts):∀n,gW (fH ss s) (tY ts s) n=make (gW ss ts n) s
 |0=>by unfold gW make;split<;>rfl
 |n+1=>by
  rw[AQ,AQ,QM hs g n];have e:∀a b,make (a++b) s=make a s++make b s:=λa b=>by unfold make;split<;>simp
  rw[e];congr 1;unfold make fH tY;by_cases d:s.aG=1
  .rw[bR d,bR d,bR d];cases ep ts n po
   .rfl
   .rw[bR rfl,bR rfl,List.map_singleton];dsimp only;rw[FV];by_cases c:n=s.bP
    .subst c;rw[bR ⟨rfl,hs⟩,bR rfl]
    .rw[bD (λh=>c h.1.symm),bD c]
  .rw[bD d,bD d,bD d];have i:ep (ts.set s.bP po) n po=if n=s.bP then po else ep ts n po:=by
    rw[iB,List.getElem?_set];by_cases c:n=s.bP
    .subst c;simp[g]
    .rw[bD (Ne.symm c),bD c,<-iB]
   rw[i];by_cases c:n=s.bP
   .rw[bR c];cases ep ts n po
    .rfl
    .rw[bR rfl,List.filter_cons_of_neg (eI c)];rfl
   .rw[bD c];cases ep ts n po
    .rfl
    .rw[bR rfl,List.filter_cons_of_pos (eI c)];rfl
end
theorem Ut{ts:List Bool}{ss:List Nat}(hs:∀i,i<O es->ep ss i 0=ep es i 0)(a:∀i,i<O es->ep ts i po=oj):gW ss ts (O es)=bW es:=by
 grind [gW,bW,List.filter_eq_self,List.map_congr_left]
end
variable{b2:sM}{ms:List aX}{dL:Nat}
theorem jT.dd{a b c:List aX}(h:jT a b)(k:jT b c):jT a c:=Eq.dd h k
theorem Q2(pa pb:Int)(es:List Nat):jT (cN pa es).1 (cN pb es).1:=by
 unfold jT cN;simp[core]
theorem C2(ns:List aX)(low:Nat)(tops:List Nat):jT ns (oJ ns low tops):=by
 unfold jT oJ;apply List.ext_getElem
 .simp
 .intro i a b;simp only[sN,List.length_range]at a b;simp[core,a]
theorem DJ(ns:List aX)(low:Nat)(tops:List Nat):O (oJ ns low tops)=O ns:=(C2 ns low tops).len.symm
def mM(q:bB):Bool:=((run 0 bZ (bW (aJ q))).2).any (λx=>decide (x.2≠0))
theorem XL(h:fJ q≠0):aB q=(fJ q,qc):=by unfold aB;rw[bR h]
theorem N7(h:fJ q=0)(a:mM q=oj):aB q=(161,qc):=by
 unfold aB;unfold mM at a;rw[bD (by simp[h]),bR a]
theorem TJ(h:fJ q=0)(b:mM q=po)(pa:Int)(d:cX pa (cO q) bZ (cN pa (aJ q)) (bW (aJ q))=K):aB q=(170,qc):=by
 unfold aB;unfold mM at b;rw[bD (by simp[h]),b,bD D];have a:=GX (dg:=cO q) (pa:= -1) (pb:=pa) bZ (cN (-1) (aJ q)) (cN pa (aJ q)) (bW (aJ q)) (Q2 _ _ _) rfl;rw[d]at a;cases c:cX (-1) (cO q) bZ (cN (-1) (aJ q)) (bW (aJ q))with
 |none=>rfl
 |some x=>rw[c]at a;exact a.elim
theorem ul(h:fJ q=0)(g:mM q=po)(pa:Int){b:sM}(v:cX pa (cO q) bZ (cN pa (aJ q)) (bW (aJ q))=H (b,l))(u:jT b.1 ms){i:List ES}(w:fC pa bZ (ms,l.map λx=>ep b.2 x.1 0) (qB l)=(b2,i)){ns:List aX}(d:ns=oJ b2.1 (O b.1) (l.map λx=>ep b.2 x.1 0))(r:dL=ep b2.2 ((ep i 0 qc).1) 0)(m:lJ b2.1)(z:dL<O b2.1):aB q=(0,⟨vars q,q.head.map λh=>(vars q).idxOf h,ns,dL,eS ns (dL+1) dL⟩):=by
 unfold aB;unfold mM at g;rw[bD (by simp[h]),g,bD D];have a:=GX (dg:=cO q) (pa:= -1) (pb:=pa) bZ (cN (-1) (aJ q)) (cN pa (aJ q)) (bW (aJ q)) (Q2 _ _ _) rfl;rw[v]at a;cases j:cX (-1) (cO q) bZ (cN (-1) (aJ q)) (bW (aJ q))with
 |none=>rw[j]at a;exact a.elim
 |some x=>
  obtain⟨c,k⟩:=x;rw[j]at a;obtain⟨a1,a2,rfl⟩:=a;dsimp only;have e:=PK (pa:= -1) (pb:=pa) bZ (c.1,k.map λx=>ep c.2 x.1 0) (ms,k.map λx=>ep c.2 x.1 0) (qB k) (a1.dd u) rfl;rw[a2,w]at e;obtain⟨y,e2,p⟩:=e;rw[a2,p,e2,a1.len,y.oJ,<-d,<-r];have n:lJ ns:=d▸m.Ie (C2 _ _ _);have hl:O ns=O b2.1:=by rw[d,DJ]
  rw[AG n dL Y (O ns) Y]
variable{gp:Nat}
theorem ZM112{P:Prop}(h:P:=by
  clear tK;go_wp2;go_meet;rw[HA.o,HX.o,<-OP.o];exact⟨rfl,((U.refl _ _).alloc _).drew,lK _ _,rfl,rfl⟩):P:=h
abbrev ET(w0 w:aA)(v:aF)(ns:List (aX×aF)):Prop:=bG oE qc 177 7 w0 w v ns
theorem px:jM prog 44 177 7 72:= .PU (z:= .agg #[J 0,J 0,cH,J 0,J 0,J 0,j4 po]) underlying44 dB rfl
def OV(w0 w:aA)(gp:Nat)(ns:List (aX×aF)):Prop:=∀x,x∈ns->gJ w0 w x.2 x.1.vars/\gz x.2≠H gp
theorem OV.eF(h:OV w0 w gp ns){ms:List (aX×aF)}(m:ET wb w v ms)(i:U w S w' S')(l:∀k,k∈S->k=gp\/gz v=H k):OV w0 w' gp ns:=λx e=>by
 let⟨b,c⟩:=h x e;refine⟨b.eF i λg d j=> ?_,c⟩;rcases l g j with a|a
 .subst a;exact c d
 .exact eJ.J7 b.1 m.1 D g d a
theorem OV.on(h:OV w0 w gp ns)(b:U w [] w' S'):OV w0 w' gp ns:=λx a=>⟨(h x a).1.on b,(h x a).2⟩
def nB(pa:Int)(b:List Nat)(l:List ES)(s:cT):aX:=
 if s.aG=1 then⟨2,0,cD (fD (FB l s.bP) s.cut),ep b s.bP 0,0,pa,po⟩else⟨3,0,cD (FB l s.eK),ep b s.eK 0,ep b s.bP 0,pa,po⟩
def BG(s:cT):Nat:=if s.aG=1 then s.bP else s.eK
theorem aE8(pa:Int)(b:sM)(l:List ES)(s:cT):gB pa b l s=(b.1++[nB pa b.2 l s],b.2.set (BG s) (O b.1)):=by
 unfold gB nB BG;split<;>rfl
theorem vy(a:Nat):fD a 0=a:=Fb λv=>by rw[cI,Nat.zero_testBit];simp
theorem Dc{b:List Nat}{s:cT}(hd:(nK l).Nodup)(d:s.aG≠1->s.cut=0){t:Nat}(a:(BG s,t)∈l):(nB pa b l s).vars=cD (fD t s.cut):=by
 unfold nB;unfold BG at a;by_cases c:s.aG=1
 .rw[bR c]at a|-;rw[FA hd a]
 .rw[bD c]at a|-;rw[FA hd a,d c,vy]
theorem aC5{k:Nat}(a:k<O l):((ep l k qc).1,(ep l k qc).2)∈l:=bM a
theorem U.quiet(h:U w [] w' S')(S:List Nat):U w S w' S:=(h.aN (T:=S) X).to λ_ a=> .inl a
theorem RV{f:Nat->aF}{a b c d e g i:aF}(n:a=f 0)(q:b=f 1)(r:c=f 2)(p:d=f 3)(m:e=f 4)(l:g=f 5)(v:i=f 6):∀j,j<7->ep [a,b,c,d,e,g,i] j undef=f j:=λj u=>by
 match j,u with
 |0,_=>exact n
 |1,_=>exact q
 |2,_=>exact r
 |3,_=>exact p
 |4,_=>exact m
 |5,_=>exact l
 |6,_=>exact v
theorem ug(nv lv:aF)(gp pc:Nat)(ns:List (aX×aF))(pr:List Nat)(l:List ES)(s:cT)(w0 w:aA)(di:ET w0 w nv ns)(v:gJ w0 w (hY (H ⟨gp,0,K⟩) (O pr) pc) pr)(hl:Ik w lv l)(hs:jS l)(hd:(nK l).Nodup)(Ol:O l<=7)(hp7:O pr<=7)(a6y:O ns<=41)(p:∀x,x∈pr->x<64)(R:s.aG=1\/s.aG=2\/s.aG=3)(q:s.bP<O pr)(hi:s.eK<O pr)(hc:s.aG≠1->s.cut=0)(DN:s.cut<2^32)(F:BG s∈nK l)(V:U w0 [] w []):
  aH prog 71 #[nv,hY (H ⟨gp,0,K⟩) (O pr) pc,lv,.agg #[i6 i7 s.aG,i6 i7 s.bP,i6 i7 s.eK,i6 kd s.cut]] w λe w'=>
   ∃u x,e=i5 u/\ET w0 w' u (ns++[(nB 0 pr l s,x)])/\gJ w0 w' (hY (H ⟨gp,0,K⟩) (O pr) pc) (pr.set (BG s) (O ns))/\gJ w w' x (nB 0 pr l s).vars/\U w (gp::nv.ownBlock.toList) w' (gp::u.ownBlock.toList)/\U w0 [] w' []:=by
 obtain⟨na,nc,rfl,-⟩:=di.len;obtain⟨la,lc,rfl,-⟩:=hl.len;let⟨wa,dE⟩:=E (e8 w (h8 #[J s.aG,J s.bP,J s.eK,i6 kd s.cut] 185));have cR:=Za dE;have A1:hJ wa.heap=hJ w.heap+1:=by rw[<-dE];simp
 have kB:=Zb dE;obtain⟨b0,b1,b2,b3⟩:=Z4 kB;have m:=v.on cR;have z:=(show eJ _ _ _ _ _ _ from m.1).cell (i:=s.bP) (j:=0) q Y;have e2:=(show eJ _ _ _ _ _ _ from m.1).cell (i:=s.eK) (j:=0) hi Y;rw[wZ,pK]at z e2;simp only[fN]at z e2;have qW:=p _ (bM (d:=0) q);have M7:=p _ (bM (d:=0) hi);have HP:=Z v;have HN:=Z di;have HL:=Z hl;have HU0:=Z V;have HS:=Z hs;have HD:=Z hd;have HC:=Z hc;have wU:=Z cR;have UR:=Z kB;have HPB:=Z p;let⟨pe,Su⟩:=E (ep pr s.bP 0);let⟨pi,Hb⟩:=E (ep pr s.eK 0);rw[Su]at z qW;rw[Hb]at e2 M7;have r:=Z (show nB 0 pr l s=if s.aG=1 then⟨2,0,cD (fD (FB l s.bP) s.cut),pe,0,0,po⟩else⟨3,0,cD (FB l s.eK),pi,pe,0,po⟩ by unfold nB;rw[Su,Hb]);let⟨x,hx⟩:=E (nB 0 pr l s);have jn:dT (∀t,(BG s,t)∈l->x.vars=cD (fD t s.cut)):=Z λt ht=>by rw[<-hx];exact Dc hd hc ht
 have DZ:=Z (show BG s=if s.aG=1 then s.bP else s.eK from rfl);let⟨a,pF⟩:=E (BG s);rw[hx]at r|-;rw[pF]at DZ jn F|-;have JD:a<O pr:=by rw[DZ.o];split<;>assumption
 generalize eQ:hJ w.heap+1=B1 at A1;have OP:=Z A1;have a7x:hJ w.heap<B1:=Y;clear v Su Hb hx pF di hl V hs hd hc cR kB A1 p m eQ;go_in;have l1:=iO (WC b0);have l2:=iO (WC z);go_wp2;go_region;go_upto_if 27 with(fail);go_cut [10] (λs10 wx=>s10= It a/\U wa [] wx []/\rW wx B1 #[J x.aG,J x.o7,cH,J x.cB,J x.bK,J 0,j4 po] 177/\x.bU=0/\x.lW=po)
 case first=>
  by_cases tK:s.aG=1
  .have g1:((s.aG:Int)==1)=oj:=by rw[tK];rfl
   have HX:dT (x=⟨2,0,cD (fD (FB l s.bP) s.cut),pe,0,0,po⟩):=Z (by rw[r.o,bR tK]);have HA:dT (a=s.bP):=Z (by rw[DZ.o,bR tK]);exact ZM112
  .have g1:((s.aG:Int)==1)=po:=j7 G9;have HX:dT (x=⟨3,0,cD (FB l s.eK),pi,pe,0,po⟩):=Z (by rw[r.o,bD tK]);have HA:dT (a=s.eK):=Z (by rw[DZ.o,bD tK]);exact ZM112
 case rest=>
  obtain⟨rfl,Ej,f,hxp,Xh⟩:=hcut;rw[OP.o];have Nq:=Z Ej;have HBC:=Z f;have HXP:=Z hxp;have Oz:=Z Xh;clear Ej f hxp Xh z e2 dE l1 l2;go_wp2;go_loopg [11] (O l) (λg i wr=>U wa [] wr []/\∃(k:Nat) (va:Option cj) (vl vc:Nat),k<=O l/\g=O l-k/\i=J k/\
   rW wr B1 #[J x.aG,J x.o7,hY va vl vc,J x.cB,J x.bK,J 0,j4 po] 177/\((∃j,j<k/\(ep l j qc).1=a)->gJ wa wr (hY va vl vc) x.vars))
  .exact⟨Nq,0,K,0,0,Y,rfl,rfl,HBC,λ⟨j,S,_⟩=>dS S Y⟩
  obtain⟨hU,k,va,vl,vc,R,rfl,rfl,hB,hV⟩:=hrel;have A:=Z hU;have P:=Z hB;have HV:=Z hV;clear hU hB hV;by_cases aV:k<O l
  .let⟨g,o,cap,hv,hg,c0,c1⟩:=(HL.on (wU.dd A)).qb aV;obtain rfl:=CT hv;simp only[uZ]at c0 c1;have jB:=aC5 aV;have SB:=HS.aU k;generalize hy:ep l k qc=y at c0 c1 jB SB;have kh:=Z jB;have HY:=Z hy;clear jB hy;by_cases B:y.1=a
   .have g1:((y.1:Int)==(a:Int))=oj:=by rw[B];simp
    have jn:dT (x.vars=cD (fD y.2 s.cut)):=Z (jn.o y.2 (B▸kh));go_upto_region 10 with(fail);refine ee 10 (eb c1<|d7 ((A.o).cell b3 X)) (λQ=> ?_);refine dw [0,1,5,2,6,3,4] ?_;refine Zo 7 λqL hK=> ?_;go_simp;go_at_call 109;apply(FG y.2 s.cut SB DN _).cF;rintro e w4 ⟨rfl,rfl⟩;dsimp only;refine j8 ?_;clear hK qL;refine Zo 8 λqL hK=> ?_;go_simp;go_at_call 67;apply(Fw _ _ (Kv SB)).cF;rintro e w5 ⟨u,rfl,Gy,n⟩;dsimp only;obtain⟨ua,uc,rfl,-⟩:=Gy.len;have n:U wr [] w5 []:=(U.refl wr []).drew.dd n;have Q:=dX (n.cell Q.1 X) (n.cell Q.2 X);have L:=n.aC P X;have gD:=Z n;have c:=Z L;have lI:=Z Gy;clear n L Gy;have f2:=Zc c 2;have ff:=aM c.o;refine j8 ?_;clear hK qL;refine I 9 ?_;refine Zo 10 λqL hK=> ?_;go_simp;refine MH ?_;clear hK qL;go_wp2;have Hn:=aE (i:=2) (hY ua (O (cD (fD y.2 s.cut))) uc) c.o;have iE:=pX w5 B1 2 (hY ua (O (cD (fD y.2 s.cut))) uc);go_roundg (O l-(k+1))
    .exact⟨(A.dd gD).aZ iE (λb G=>by simp at G;subst G;rw[OP.o];exact fV _),k+1,ua,_,uc,Y,rfl,eO,Hn,λ_=>by rw[jn.o];exact (lI.set c D iE).eE A.size⟩
    omega
   .have g1:((y.1:Int)==(a:Int))=po:=j7 G9;go_wp2;go_roundg (O l-(k+1))
    .exact⟨A,k+1,va,vl,vc,Y,rfl,eO,P,λ⟨j,S,q⟩=>HV.o ⟨j,by
     rcases WB j k with h|h
     .exact h
     .obtain rfl:j=k:=Y;rw[HY.o]at q;exact dS q B,q⟩⟩
    omega
  .obtain rfl:k=O l:=Y;have qs:∃j,j<O l/\(ep l j qc).1=a:=by
    let⟨t,ht⟩:=pN.1 F;let⟨j,S,q⟩:=Pn ht;exact⟨j,S,by rw[iB,kX S,NQ,q]⟩
   have Gw:=HV.o qs;obtain⟨a',c',hve,-⟩:=Gw.len;injection hve with y1 y2 y3;subst y1 y2 y3;have N:=wU.dd A.o;have m:=HP.on N;have z:=(show eJ _ _ _ _ _ _ from m.1).cell (i:=a) (j:=0) JD Y;rw[wZ,pK]at z;have hpf:=eJ.free m.1 (g:=gp) rfl a;have hpg:=m.2 gp rfl;obtain⟨f0,f1,f2,f3,f4,f5,f6⟩:=Z7 P.o;have dW:gp≠B1:=λe=>eJ.ne m.1 P D (by rw[<-e];rfl);have C:U wr [gp] (ey wr (Ad gp a) (J (O ns))) [gp]:=pX wr gp a _;let⟨w5,oD⟩:=E (ey wr (Ad gp a) (J (O ns)));have Me:=m.lw JD (O ns);simp only[fN]at Me;rw[oD]at C Me;have Ce:=(HN.on N).eF C (λg hg F=>by
    obtain rfl:g=gp:=eI F;exact eJ.J7 m.1 (HN.on N).1 D g rfl hg)
   have Ed:=eJ.lt HP.1 gp rfl;have W:=Gw.eF C (λg hg F=>by
    obtain rfl:g=gp:=eI F;have:=Gw.2 g hg;rw[OP.o]at this;omega)
   have n:U w0 [] w5 []:=(HU0.dd N).aZ C (λb G=>by simp at G;subst G;exact hpg);have L:=C.aC P (eI (Ne.symm dW));have Nt:=Z Ce;have Wi:=Z W;have gD:=Z n;have uK:=Z Me;have c:=Z L;have HW:=Z C;have OO:=Z oD;clear Ce W n Me L C oD;clear Gw N m qs hpg;go_upto_region 12 with(fail);rw[OO.o];have f0:=Zc c 0;have f1:=Zc c 1;have f2:=Zc c 2;have f3:=Zc c 3;have f4:=Zc c 4;have f5:=Zc c 5;have f6:=Zc c 6;go_wp2_with (at_builtin;refine cK px rfl _ _ rfl Nt gD Yr [J x.aG,J x.o7,hY va (O x.vars) vc,J x.cB,J x.bK,J 0,j4 po] (x,hY va (O x.vars) vc) Yr rfl (RV rfl rfl rfl rfl rfl (by simp[oE,HXP.o]) (by simp[oE,Oz.o])) rfl Y F4 ?_;rintro g2 gI w7 wW fM vU-;have RH:=Z wW;have NN:=Z fM;have Wx:=Z vU;clear wW fM vU);go_ret;refine⟨_,_,rfl,RH,uK.jL Nt D Wx,(Wi.jL Nt D Wx).eE wU.size,?_,NN⟩;exact(((wU.dd A).quiet _).dd (HW.jL _)).dd ((Wx.aN (T:=gp::(hY na (O ns) nc).ownBlock.toList) (λk R=>RL _ R)).to (by
    intro k R;rcases AU.1 R with h|h
    .exact .inl (by simp[h])
    .exact(Wx.fresh k h).imp (λh=>RL _ h) id))
variable{al:List oL}{hl:List dU}{av':aF}
structure wT(w0 w:aA)(hv av:aF)(ps:List (dU×aF))(hl:List dU)(al:List oL):Prop where
 head:vC w0 w hv hl
 aD:bG vW qc 52 2 w0 w av ps
 len:O ps=O al
 j5:∀i,i<O al->(ep ps i qc).1=(ep al i qc).rel/\bG jF.cell qc 67 4 w0 w (ep ps i qc).2 (ep al i qc).aS
theorem wT.eF(h:wT w0 w hv av ps hl al)(b:U w S w' S')(j:∀k,k∈S->k<hJ w0.heap):wT w0 w' hv av ps hl al:=by
 have zW:∀{v:aF},(∀g,gz v=H g->hJ w0.heap<=g)->∀g,gz v=H g->g∉S:=λc g d e=>by
  have l:=c g d;have m:=j g e;omega
 exact⟨h.head.eF b (zW h.head.2),h.aD.eF b (zW h.aD.2),h.len,λi a=>⟨(h.j5 i a).1,(h.j5 i a).2.eF b (zW (h.j5 i a).2.2)⟩⟩
theorem wT.qin(h:wT w0 w hv av ps q.head q.aD)(hs:q.jS):B9 w hv av ps q:=
 ⟨h.head.rd,h.aD.rd,h.len,λi a=>⟨(h.j5 i a).1,(h.j5 i a).2.rd⟩,hs⟩
theorem wT.eE(h:wT w0 w hv av ps hl al)(hs:hJ wb.heap<=hJ w0.heap):wT wb w hv av ps hl al:=
 ⟨h.head.eE hs,h.aD.eE hs,h.len,λi a=>⟨(h.j5 i a).1,(h.j5 i a).2.eE hs⟩⟩
theorem wT.set(h:wT w0 w hv av ps hl al)(c:w.heap[b]? =H (h8 cs 25 (0,0)))(a:U w [b] w' S'):wT w0 w' hv av ps hl al:=
 ⟨h.head.set c D a,h.aD.set c D a,h.len,λi d=>⟨(h.j5 i d).1,(h.j5 i d).2.set c D a⟩⟩
theorem wT.on(h:wT w0 w hv av ps hl al)(a:U w [] w' S'):wT w0 w' hv av ps hl al:=h.eF a X
theorem wT.vP{x:oL}(h:wT w0 w hv av ps hl al)(b:U w av.ownBlock.toList w' S')(ha:bG vW qc 52 2 w0 w' av' (ps++[(x.rel,u)]))(e:bG jF.cell qc 67 4 w0 w u x.aS):wT w0 w' hv av' (ps++[(x.rel,u)]) hl (al++[x]):=by
 refine⟨h.head.jL h.aD D b,ha,by simp[h.len],λi d=> ?_⟩;rw[kC,kC,h.len];by_cases a:i=O al
 .rw[bR a,bR a];exact⟨rfl,e.jL h.aD D b⟩
 .rw[bD a,bD a];have c:i<O al:=by simp at d;omega
  exact⟨(h.j5 i c).1,(h.j5 i c).2.jL h.aD D b⟩
theorem aKd:jM prog 23 52 2 40:= .PU (z:= .agg #[j3 {data:=#[]},cH]) underlying23 dB rfl
theorem M0(hv av:aF)(ps:List (dU×aF))(q:bB)(w:aA)(h:B9 w hv av ps q):
  aH prog 13 #[.agg #[j3 q.name,hv,av]] w λe w'=>∃AO av' Oj,e=i5 (.agg #[j3 q.name,AO,av'])/\wT w w' AO av' Oj q.head q.aD/\U w [] w' []:=by
 obtain⟨ha,hc,rfl,-⟩:=h.head.len;obtain⟨aa,ac,rfl,-⟩:=h.aD.len;have G:=h.len;rw[G]at h|-;have nU:=h.dM;have t:=Z h;clear h G;go_in;go_wp2;let⟨wa,T⟩:=E (e8 (e8 w (h8 #[j3 q.name,hY ha (O q.head) hc,hY aa (O q.aD) ac] 25)) (h8 #[j3 {data:=#[]},cH,cH] 25));have A1:hJ wa.heap=hJ w.heap+1+1:=by rw[<-T];simp
 have cR:U w [] wa []:=T▸((U.refl w []).alloc _).alloc _;have kB:rW wa w.heap.size #[j3 q.name,hY ha (O q.head) hc,hY aa (O q.aD) ac] 25:=T▸kV ..;have eQ:rW wa (hJ w.heap+1) #[j3 {data:=#[]},cH,cH] 25:=T▸kU ..;have b0:=Zc kB 0;have b1:=Zc kB 1;have b2:=Zc kB 2;have R:=Z cR;have OP:=Z A1;have jG:=Z eQ;rw[T];clear T kB eQ cR A1;have aR2:=nU.head;refine Cs 7 (λw'=>e7 w' ⟨w,0,K⟩=H (j3 q.name)/\e7 w' ⟨w,1,K⟩=H (hY ha (O q.head) hc))
  (λa3 w3=>∃(B:Nat) (ta:Option cj) (n:Nat) (u5 u6 u7 u8 u9 u10:aF),a3=⟨#[.agg #[j3 q.name,hY ha (O q.head) hc,hY aa (O q.aD) ac],h9 (H ⟨w,0,K⟩),h9 (H ⟨hJ w.heap+1,0,K⟩),h9 (H ⟨B,0,K⟩),undef,u5,u6,u7,u8,u9,u10,undef,undef,undef,undef,undef,undef,undef,undef,undef,undef,undef,undef,undef,undef,undef,undef,undef,undef,undef],[]⟩/\
   hJ wa.heap<=B/\rW w3 B #[j3 q.name,hY ta (O q.head) n,cH] 25/\vC wa w3 (hY ta (O q.head) n) q.head/\U wa [] w3 []) dB ⟨b0,b1⟩ (λQ=> ?_) ?_
 .skip
  refine dw [0,1,2,3] ?_;refine xA (i:=4) (j:=6) dB rfl rfl rfl rfl (λqL hK=> ?_) (λqL hK=> ?_)
  .go_simp;go_at_call 25;apply(Fj _ q.head wa.drew (t.head.on R.drew) aR2).cF;rintro e w2 ⟨u,rfl,F,r⟩;obtain⟨ta,n,rfl,-⟩:=F.len;dsimp only;have Q:=dX (r.cell Q.1 (by simp)) (r.cell Q.2 (by simp));refine j8 ?_;clear hK qL;refine I 5 ?_;refine Zo 6 λqL hK=> ?_;go_simp;let⟨w3,N⟩:=E (e8 w2 (h8 #[j3 {data:=#[]},cH,cH] 25));have p:=Za N;have c:rW w3 w2.heap.size #[j3 {data:=#[]},cH,cH] 25:=N▸lK ..;have Q:=dX (p.cell Q.1 (by simp)) (p.cell Q.2 (by simp));have e0:=Zc c 0;have e1:=Zc c 1;have e2:=Zc c 2;have ef:=aM c;have hs:hJ wa.heap<=hJ w2.heap:=r.size;rw[N];refine j8 ?_;clear hK qL;refine Zo 7 λqL hK=> ?_;go_simp;refine MH ?_;clear hK qL;have m:=(NY (x:=j3 q.name) (y:=hY ta (O q.head) n) (z:=cH) c);refine⟨w2,ta,n,_,_,_,_,_,_,rfl,hs,m.1,?_,?_⟩
   .exact(F.on p).set c (by decide) m.2
   .exact((U.refl wa []).drew.dd (r.dd p)).aZ m.2 (λk hk=>by simp at hk;omega)
  .go_simp;let⟨w3,N⟩:=E ((e8 wa (h8 #[j3 {data:=#[]},cH,cH] 25)).drew);have p:U wa [] w3 []:=N▸((U.refl wa []).alloc _).drew;have c:rW w3 wa.heap.size #[j3 {data:=#[]},cH,cH] 25:=N▸lK ..;have Q:=dX (p.cell Q.1 (by simp)) (p.cell Q.2 (by simp));rw[N];refine j8 ?_;clear hK qL;refine Zo 4 λqL hK=> ?_;go_simp;go_at_call 25;apply(Fj _ q.head w3 (t.head.on (R.dd p)) aR2).cF;rintro e w2 ⟨u,rfl,F,r⟩;obtain⟨ta,n,rfl,-⟩:=F.len;dsimp only;have Q:=dX (r.cell Q.1 (by simp)) (r.cell Q.2 (by simp));have c:=r.aC c (by simp);have e0:=Zc c 0;have e1:=Zc c 1;have e2:=Zc c 2;have ef:=aM c;refine j8 ?_;clear hK qL;refine I 5 ?_;refine Zo 7 λqL hK=> ?_;go_simp;refine MH ?_;clear hK qL;have m:=(NY (x:=j3 q.name) (y:=hY ta (O q.head) n) (z:=cH) c);refine⟨wa,ta,n,_,_,_,_,_,_,rfl,fV _,m.1,?_,?_⟩
   .exact(F.eE p.size).set c (by decide) m.2
   .exact(p.dd r).aZ m.2 (λk hk=>by simp at hk;omega)
 .rintro a3 w3 ⟨B,ta,n,u5,u6,u7,u8,u9,u10,rfl,aNw,c,F,S⟩;go_wp2;have aYO:=nU.aD;clear b0 b1;go_loopw [4] (λi wr=>U wa [] wr []/\∃(k:Nat) (W:Option cj) (xn xc:Nat) (V:List (dU×aF)),k<=O q.aD/\i=J k/\rW wr B #[j3 q.name,hY ta (O q.head) n,hY W xn xc] 25/\
   wT wa wr (hY ta (O q.head) n) (hY W xn xc) V q.head (q.aD.take k)) (λi _=>O q.aD-(intOf i).toNat)
  .exact⟨S,0,K,0,0,[],Y,rfl,c,F,bG.nil _ _,rfl,λi hi=>by simp at hi⟩
  clear S c F;obtain⟨S,k,W,xn,xc,V,hk,rfl,c,hQ⟩:=hrel;have c2:=S.cell b2 (by simp);have e2:=Zc c 2;have C:=Z S;have HQ:=Z hQ;have HB:=Z c;clear S hQ c;by_cases aV:k<O q.aD
  .let⟨g,o,cap,ga,gc,hg,hv,a0,a1,hT⟩:=t.o7 aV;have a0:=(R.dd C).cell a0 (by simp);have a1:=(R.dd C).cell a1 (by simp);have hT:=hT.on (R.dd C);injection hv with x1 x2 x3;subst x1 x3;have HT:=Z hT;have YS:=jN (F8 aV) nU.aS;have HX:=Z (fG (d:=qc) aV);generalize hx:ep q.aD k qc=x at a0 a1 HT YS HX;clear hx hT x2;go_wp2;refine ee 11 (eb e2<|eb c2<|eb a0<|d7 a1) (λQ=> ?_);refine dw [0,1,2,3,4,5,6] ?_;refine Zo 7 λqL hK=> ?_;go_simp;go_at_call 26;apply(Na _ x.rel x.aS wr.drew (HT.on (U.refl _ []).drew) YS).cF;rintro e w4 ⟨u,rfl,Dy,m⟩;dsimp only;have m:U wr [] w4 []:=(U.refl wr []).drew.dd m;have Q:=dX (m.cell Q.1 (by simp)) (dX (m.cell Q.2.1 (by simp)) (dX (m.cell Q.2.2.1 (by simp)) (m.cell Q.2.2.2 (by simp))));refine j8 ?_;clear hK qL;refine Zo 8 λqL hK=> ?_;go_simp;obtain⟨ua,uc,hue,-⟩:=Dy.len;subst hue;let⟨w5,oD⟩:=E (e8 w4 (h8 #[j3 x.rel,hY ua (O x.aS) uc] 52));have s:=Za oD;have hN:rW w5 w4.heap.size [j3 x.rel,hY ua (O x.aS) uc].toArray 52:=oD▸lK ..;have Q:=dX (s.cell Q.1 (by simp)) (dX (s.cell Q.2.1 (by simp)) (dX (s.cell Q.2.2.1 (by simp)) (s.cell Q.2.2.2 (by simp))));rw[oD];refine j8 ?_;clear hK qL;refine Zo 9 λqL hK=> ?_;have Lz:=m.dd s;have l:=HQ.on Lz;have CX:O V<=O q.aD:=by rw[l.len,VQ];omega
   obtain⟨v',w6,dP,lL,dK,P,a6,OK,rfl⟩:=jR (wb:=wa) (w:=w5) aKd (by omega) 23 l.aD (C.dd Lz) (fV _) (C.dd Lz).size (E8 (f:=vW) (d:=qc) hN rfl (x.rel,hY ua (O x.aS) uc) (λj hj=>by
    match j,hj with
    |0,_=>rfl
    |1,_=>rfl)) (λy hy j hj=>by
    obtain rfl:=Yj.1 hy;match j,hj with
    |0,_=>rfl
    |1,_=>rfl) (by simp;omega) (by unfold bw;simp;omega)
   refine dJ _ _ rfl (by rfl) (by rfl) dP ?_;have A:=l.vP (x:=x) P lL ((Dy.eE C.size).on s);have rS:=Lz.aC HB (by simp);have nP:=P.aC rS (l.aD.ne rS (by decide));have Q:=dX (P.cell Q.1 (l.aD.ne rS (by decide))) (dX (P.cell Q.2.1 (l.aD.zW (by rw[OP.o];simp;omega))) (dX (P.cell Q.2.2.1 (l.aD.zW (by rw[OP.o];simp;omega))) (P.cell Q.2.2.2 (l.aD.zW (by rw[OP.o];simp;omega)))));have e2:=Q.1;have ef:=aM nP;have lI:=Z dK;have zO:=Z nP;have A:=Z A;clear dP lL dK P rS nP l Lz hN s m Dy oD;refine j8 ?_;clear hK qL;refine I 10 ?_;refine Zo 11 λqL hK=> ?_;go_simp;refine MH ?_;clear hK qL;have EM:=aE (i:=2) (hY a6 (O V+O [(x.rel,hY ua (O x.aS) uc)]) OK) zO.o;have iE:=(U.refl w6 [B]).setCell (a:=⟨B,2,K⟩) (.inl (by simp)) (hY a6 (O V+O [(x.rel,hY ua (O x.aS) uc)]) OK);have L:=A.set zO iE;have sO:=lI.aZ iE (λk hk=>by simp at hk;omega);rw[<-HX.o]at L;have Oa:=Z EM;have HQ7:=Z L;have GI:=Z sO;clear EM L sO iE zO A lI;go_wp2;go_roundw
   .exact⟨GI,k+1,_,_,_,_,by omega,eO,Oa,HQ7⟩
   simp[intOf];omega
  .obtain rfl:k=O q.aD:=by omega
   have RD:=C.aC jG (by simp);have e0:=Zc HB 0;have e1:=Zc HB 1;have r0:=Zc RD 0;have r1:=Zc RD 1;have r2:=Zc RD 2;have rf:=aM RD;have HBR:=Z RD;clear RD;go_wp2;have hS:=NY (x:=j3 q.name) (y:=hY ta (O q.head) n) (z:=hY W xn xc) HBR.o;have hQ:=HQ.set HBR hS.2;rw[R9]at hQ;refine mD (gO ⟨hJ w.heap+1,0,K⟩ rfl (by rfl) (v:= .agg #[j3 q.name,hY ta (O q.head) n,hY W xn xc]) (by go_simp)) rfl ?_;exact⟨_,_,V,rfl,hQ.eE R.size,(R.dd C).aZ hS.2 (λb hb=>by simp at hb;omega)⟩
theorem Qt(v1 v2:aF)(rel:dU)(l:List jF)(w:aA)(m:zB w v1 l)(n:zB w v2 l):
  aH prog 36 #[.agg #[j3 rel,v1],.agg #[j3 rel,v2]] w λe w'=>e=i5 (j4 oj)/\U w [] w' []:=by
 obtain⟨a1,p,rfl,A⟩:=m.len;obtain⟨a2,q,rfl,-⟩:=n.len;unfold bw at A;have r:=yG rel rel;go_in;go_wp2;let⟨wa,c⟩:=E (e8 (e8 w (h8 #[j3 rel,hY a1 (O l) p] 52)) (h8 #[j3 rel,hY a2 (O l) q] 52));have g:U w [] wa []:=c▸((U.refl w []).alloc _).alloc _;have u:e7 wa ⟨hJ w.heap,1,K⟩=H (hY a1 (O l) p):=by rw[<-c];exact aL (kV w _ _) rfl
 have v:e7 wa ⟨hJ w.heap+1,1,K⟩=H (hY a2 (O l) q):=by rw[<-c];exact aL (kU w _ _) rfl
 rw[c];clear c;go_loopw [5] (λi wr=>U wa [] wr []/\∃k:Nat,k<=O l/\i=J k) (λi _=>O l-(intOf i).toNat)
 .exact⟨U.refl _ _,0,Y,rfl⟩
 obtain⟨hU,k,C,rfl⟩:=hrel;have c1:=hU.cell u X;have c2:=hU.cell v X;by_cases j:k<O l
 .let⟨d,o1,x1,hv,_,a⟩:=(m.on (g.dd hU)).aU j;let⟨g2,o2,x2,z,_,b⟩:=(n.on (g.dd hU)).aU j;injection hv with e1 e2 e3;subst e1 e3;injection z with e1 e2 e3;subst e1 e3;generalize y:ep l k qc=x at a b;have N:e7 wr (Ad d (o1+k*4))=H (j3 x.var):=a 0 Y;have f:e7 wr (Ad d (o1+k*4+1))=H (J x.vY.aG):=a 1 Y;have B:e7 wr (Ad d (o1+k*4+2))=H (J x.vY.num):=a 2 Y;have qL:e7 wr (Ad d (o1+k*4+3))=H (j3 x.vY.eR):=a 3 Y;have q0:e7 wr (Ad g2 (o2+k*4))=H (j3 x.var):=b 0 Y;have G:e7 wr (Ad g2 (o2+k*4+1))=H (J x.vY.aG):=b 1 Y;have L:e7 wr (Ad g2 (o2+k*4+2))=H (J x.vY.num):=b 2 Y;have F:e7 wr (Ad g2 (o2+k*4+3))=H (j3 x.vY.eR):=b 3 Y;clear y a b;exact ZM135
 .go_wp2;go_ret;exact⟨rfl,g.dd hU⟩
theorem Rc(L a1 f a2:aF)(p z:List (dU×aF))(q:bB)(w:aA)(b:B9 w L a1 p q)(d:B9 w f a2 z q):
  aH prog 16 #[.agg #[j3 q.name,L,a1],.agg #[j3 q.name,f,a2]] w λe w'=>e=i5 (j4 oj)/\U w [] w' []:=by
 obtain⟨ha,hc,rfl,-⟩:=b.head.len;obtain⟨aa,T,rfl,-⟩:=b.aD.len;obtain⟨P,RA,rfl,-⟩:=d.head.len;obtain⟨aa2,B,rfl,-⟩:=d.aD.len;have l:=b.len;have V:=d.len;rw[l]at b|-;rw[V]at d|-;have nU:=b.dM.aD;have R:=yG q.name q.name;go_in;go_wp2_with (go_at_call 35;apply(Jq _ _ q.head _ (b.head.on (((U.refl w []).alloc _).alloc _)) (d.head.on (((U.refl w []).alloc _).alloc _))).cL;intro wa n;have b2:=n.cell (aL (kV w _ _) (j:=2) rfl) X;have S:=n.cell (aL (kU w _ _) (j:=2) rfl) X;have u:=((((U.refl w []).alloc _).alloc _).dd n));go_loopw [5] (λi wr=>U wa [] wr []/\∃k:Nat,k<=O q.aD/\i=J k) (λi _=>O q.aD-(intOf i).toNat)
 .exact⟨U.refl _ _,0,Y,rfl⟩
 obtain⟨c,k,hk,rfl⟩:=hrel;have c1:=c.cell b2 X;have c2:=c.cell S X;by_cases h:k<O q.aD
 .let⟨r,o1,x1,A,C,_,hv,F,y,N⟩:=(b.on (u.dd c)).o7 h;let⟨g2,o2,x2,v,G,_,W,r0,m,g⟩:=(d.on (u.dd c)).o7 h;injection hv with e1 e2 e3;subst e1 e3;injection W with e1 e2 e3;subst e1 e3;generalize hx:ep q.aD k qc=x at F y r0 m N g;go_wp2;refine aO 99 (λw'=>e7 w' ⟨w,2,K⟩=H (eB r o1 (O q.aD) T)/\e7 w' ⟨hJ w.heap+1,2,K⟩=H (eB g2 o2 (O q.aD) B)/\(e7 w' (Ad r (o1+k*2))=H (j3 x.rel)/\e7 w' (Ad r (o1+k*2+1))=H (hY A (O x.aS) C))/\
   e7 w' (Ad g2 (o2+k*2))=H (j3 x.rel)/\e7 w' (Ad g2 (o2+k*2+1))=H (hY v (O x.aS) G)) dB ⟨c1,c2,⟨F,y⟩,r0,m⟩ (λQ=> ?_)
  refine dw [0,1,2,3,4,5,6,7,8,9] ?_;refine Zo 10 λqL hK=> ?_;go_simp;go_at_call 36;apply(Qt _ _ x.rel x.aS wr.drew (N.on (U.refl _ []).drew) (g.on (U.refl _ []).drew)).cF;rintro e w4 ⟨rfl,a⟩;dsimp only;have a:=(U.refl wr []).drew.dd a;have Q:=dX (a.cell c1 X) (dX (a.cell c2 X) (dX (dX (a.cell F X) (a.cell y X)) (dX (a.cell r0 X) (a.cell m X))));refine j8 ?_;clear hK qL;refine I 11 ?_;refine aY dB ?_ _;try simp only[Act.put,RM,RJ,UT]
  go_wp2;go_roundw
  .exact⟨c.dd a,k+1,Y,eO⟩
  simp[intOf];omega
 .go_wp2;go_ret;exact⟨rfl,u.dd c⟩
theorem ZM89{P:Prop}(h:P:=by
  go_roundw
  .exact⟨trivial,k+1,Y,eO,λj hj yX=>by
   by_cases h:j=k
   .subst h;exact HE.o
   .exact fS j hj Y⟩
  simp[intOf];omega):P:=h
def FF(c:UInt8)(s:dU):Bool:=s.data.toList.contains c
theorem Vg(a c:UInt8):((a.toNat:Int)==(c.toNat:Int))=decide (a=c):=by
 rw[Bu,JY,RK];exact⟨λh=>UInt8.toNat_inj.1 Y,λh=>by rw[h]⟩
theorem yT(s:dU):O s.data.toList=s.size:=by rw[Array.length_toList];rfl
theorem IB(s:dU){k:Nat}(h:k<s.size):s.data.toList[k]? =H s[k]:=by
 rw[Array.getElem?_toList];exact Array.getElem?_eq_getElem h
theorem ai{c:UInt8}{s:dU}{k:Nat}(h:k<s.size)(a:s[k]=c):FF c s=oj:=by
 unfold FF;rw[List.contains_iff_mem];exact rh (by rw[IB s h,a])
theorem vh{c:UInt8}{s:dU}(h:∀j,(e:j<s.size)->s[j]≠c):FF c s=po:=by
 cases a:FF c s
 .rfl
 .unfold FF at a;rw[List.contains_iff_mem]at a;let⟨i,b,d⟩:=Pn a;rw[yT]at b;exact dS d (h i b)
theorem MC(c:UInt8)(s:dU)(w:aA)(m:s.size<=1048576):
  aH prog 165 #[i6 lr c.toNat,j3 s] w λe w'=>e=i5 (j4 (FF c s))/\w=w':=by
 go_in;go_wp2;go_loopw [5] (λi wr=>w=wr/\∃k:Nat,k<=s.size/\i=J k/\∀j,(hj:j<s.size)->j<k->s[j]≠c) (λi _=>s.size-(intOf i).toNat)
 .exact⟨rfl,0,Y,rfl,λj _ hj=>Y⟩
 obtain⟨rfl,k,l,rfl,fS⟩:=hrel;by_cases g:k<s.size
 .by_cases a:s[k]=c
  .have b:((s[k].toNat:Int)==(c.toNat:Int))=oj:=by rw[Vg];exact kI a
   go_wp2;go_ret;exact⟨by rw[(ai g a)];rfl,rfl⟩
  .have b:((s[k].toNat:Int)==(c.toNat:Int))=po:=by rw[Vg];exact jO a
   have HE:=Z a;go_wp2;exact ZM89
 .go_wp2;go_ret;exact⟨by rw[vh λj hj=>fS j hj Y];rfl,rfl⟩
def E7(s set:dU):Nat:=O (s.data.toList.takeWhile λc=>FF c set)
theorem LY{s set:dU}{k:Nat}(b:k<=s.size)(h:∀j,(d:j<s.size)->j<k->FF s[j] set=oj)(g:(b:k<s.size)->FF s[k] set=po):E7 s set=k:=by
 unfold E7;have gH:∀(l:List UInt8) (k:Nat),k<=O l->(∀j,(d:j<O l)->j<k->FF l[j] set=oj)->((b:k<O l)->FF l[k] set=po)->O (l.takeWhile λc=>FF c set)=k:=by
  intro l;induction l with
  |nil=>intro k b _ _;simp at b|-;omega
  |cons a l ih=>
   intro k b h g;cases k with
   |zero=>
    have:=g X;simp only[Pj]at this;simp[List.takeWhile_cons,this]
   |succ k=>
    have i:=h 0 X Y;simp only[Pj]at i;simp only[List.takeWhile_cons,i,uN,T9];rw[ih k (eI b) (λj d m=>by have:=h (j+1) (eI d) Y;rwa[Pi]at this) (λe=>by have:=g (eI e);rwa[Pi]at this)]
 exact gH s.data.toList k (by rw[yT];exact b) (λj d m=>h j (by rw[yT]at d;exact d) m) (λe=>g (by rw[yT]at e;exact e))
theorem lx(s set:dU)(w:aA)(hs:s.size<=1048576)(c:set.size<=1048576):
  aH prog 166 #[j3 s,i6 i7 0,j3 set] w λe w'=>e=i5 (i6 i7 (E7 s set))/\w=w':=by
 go_in;go_wp2;go_loopw [7] (λi wr=>w=wr/\∃k:Nat,k<=s.size/\i=J k/\∀j,(hj:j<s.size)->j<k->FF s[j] set=oj) (λi _=>s.size-(intOf i).toNat)
 .exact⟨rfl,0,Y,rfl,λj _ hj=>Y⟩
 obtain⟨rfl,k,b,rfl,fS⟩:=hrel;by_cases d:k<s.size
 .cases a:FF s[k] set with
  |true=>
   have HE:=Z a;go_wp2_with (go_at_call 165;apply(MC s[k] set _ c).cL;rintro w2 rfl);exact ZM89
  |false=>
   have HE:=Z a;go_wp2_with (go_at_call 165;apply(MC s[k] set _ c).cL;rintro w2 rfl);go_ret;exact⟨by rw[LY b fS (λ_=>HE.o)];rfl,rfl⟩
 .go_wp2;go_ret;exact⟨by rw[LY b fS (λh=>dS h d)];rfl,rfl⟩
def W7:dU:={data:=#[48,49,50,51,52,53,54,55,56,57]}
def qA:dU:={data:=#[97,98,99,100,101,102,103,104,105,106,107,108,109,110,111,112,113,114,115,116,117,118,119,120,121,122,65,66,67,68,69,70,71,72,73,74,75,76,77,78,79,80,81,82,83,84,85,86,87,88,89,90,95,48,49,50,51,52,53,54,55,56,57]}
theorem Rt(c:UInt8):FF c W7=n8 c:=by
 have:∀n:Fin 256,FF (UInt8.ofNat n) W7=n8 (UInt8.ofNat n):=by decide+kernel
 simpa using this ⟨c.toNat,c.toNat_lt⟩
theorem PW(c:UInt8):FF c qA=(jE c||n8 c):=by
 have:∀n:Fin 256,FF (UInt8.ofNat n) qA=(jE (UInt8.ofNat n)||n8 (UInt8.ofNat n)):=by decide+kernel
 simpa using this ⟨c.toNat,c.toNat_lt⟩
theorem aCT(c:UInt8):(jE c&&n8 c)=po:=by
 have:∀n:Fin 256,(jE (UInt8.ofNat n)&&n8 (UInt8.ofNat n))=po:=by decide+kernel
 simpa using this ⟨c.toNat,c.toNat_lt⟩
theorem Db{p:UInt8->Bool}{l:List UInt8}:decide (O (l.takeWhile p)=O l)=l.all p:=by
 induction l with
 |nil=>rfl
 |cons a l ih=>
  rw[List.takeWhile_cons,List.all_cons];cases ha:p a
  .simp
  .simp only[uN,T9,Nat.add_right_cancel_iff,Bt];exact ih
theorem XD(s:dU):decide (E7 s qA=s.size)=s.data.toList.all λc=>jE c||n8 c:=by
 unfold E7;rw[<-yT,Db];congr 1;funext c;exact PW c
theorem aCZ(s:dU)(d:0<s.size)(g:s.size<=16):iT s=(!n8 s[0]&&s.data.toList.all λc=>jE c||n8 c):=by
 unfold iT;rw[kI (show 1<=s.size from d),kI g,Bt,Bt];have b:=IB s d;cases hl:s.data.toList with
 |nil=>rw[hl]at b;simp at b
 |cons a l=>
  rw[hl]at b;have ha:a=s[0]:=eI b;rw[List.headD_cons,List.all_cons,<-ha];have e:=aCT a;clear ha b hl;generalize l.all (λc=>jE c||n8 c)=r;revert e;cases jE a<;>cases n8 a<;>cases r<;>decide
theorem DD(s:dU)(w:aA)(hs:s.size<=1048576):
  aH prog 140 #[j3 s] w λe w'=>e=i5 (j4 (iT s))/\w=w':=by
 by_cases g:0<s.size
 .by_cases i:s.size<=16
  .have c:=aCZ s g i;rw[<-XD]at c;have b:=Z c;have a:=Rt s[0];have d:decide ((1:Int)<=(s.size:Int))=oj:=kI Y;have g2:decide ((s.size:Int)<=16)=oj:=kI Y;cases hd:n8 s[0]with
   |true=>
    rw[hd]at a;have a:=Z a;go_in;go_wp2_with (first
     |(go_at_call 165;apply(MC s[0] W7 _ D).cL;rintro w2 rfl;rw[a.o])
     |(go_at_call 166;apply(lx s qA _ hs D).cL;rintro w2 rfl))
    go_ret;exact⟨by rw[b.out,hd];rfl,rfl⟩
   |false=>
    rw[hd]at a;have a:=Z a;go_in;go_wp2_with (first
     |(go_at_call 165;apply(MC s[0] W7 _ D).cL;rintro w2 rfl;rw[a.o])
     |(go_at_call 166;apply(lx s qA _ hs D).cL;rintro w2 rfl))
    go_ret;exact⟨by rw[b.out,hd,<-dA];rfl,rfl⟩
  .have c:iT s=po:=by unfold iT;rw[jO i];simp
   have d:decide ((1:Int)<=(s.size:Int))=oj:=kI Y;have g2:decide ((s.size:Int)<=16)=po:=jO Y;have b:=Z c;go_in;go_wp2;go_ret;exact⟨by rw[b.out];rfl,rfl⟩
 .have c:iT s=po:=by unfold iT;rw[jO (show¬1<=s.size from g)];simp
  have d:decide ((1:Int)<=(s.size:Int))=po:=jO Y;have b:=Z c;go_in;go_wp2;go_ret;exact⟨by rw[b.out];rfl,rfl⟩
theorem ZM147{P:Prop}(h:P:=by
  go_in;go_wp2;go_ret;exact⟨by rw[hv];rfl,(U.refl w []).alloc _⟩):P:=h
theorem RT{s:dU}:s.size=0↔s=bO:=by
 constructor
 .intro h;refine ByteArray.ext (Array.eq_empty_of_size_eq_zero h)
 .rintro rfl;rfl
theorem z'(v:MU)(w:aA)(hs:v.eR.size<=1048576):
  aH prog 141 #[.agg #[i6 i7 v.aG,i6 i7 v.num,j3 v.eR]] w λe w'=>e=i5 (j4 (iH v))/\U w [] w' []:=by
 by_cases b:v.aG=1
 .have d:(v.aG==1)=oj:=by rw[JY];exact b
  have hv:iH v=((v.eR.size:Int)==0):=by
   unfold iH;rw[bR b,Bu,JY,RK,<-RT];omega
  exact ZM147
 .have d:(v.aG==1)=po:=by rw[G9];exact b
  have hv:iH v=(decide (v.aG=2)&&decide (v.num=0)&&decide (v.eR.size<=64)):=by unfold iH;rw[bD b]
  by_cases c:v.aG=2
  .have g:(v.aG==2)=oj:=by rw[JY];exact c
   by_cases a:v.num=0
   .have i:(v.num==0)=oj:=by rw[JY];exact a
    have hv:iH v=decide ((v.eR.size:Int)<=64):=by
     rw[hv,kI c,kI a,Bt,Bt,Bu,RK,RK];omega
    exact ZM147
   .have i:(v.num==0)=po:=by rw[G9];exact a
    have hv:iH v=po:=by rw[hv,jO a];simp
    exact ZM147
  .have g:(v.aG==2)=po:=by rw[G9];exact c
   have hv:iH v=po:=by rw[hv,jO c];simp
   exact ZM147
theorem LE{α:Type}(p:α->Bool){l:List α}(d:α){k:Nat}(a:k<O l):(l.take (k+1)).all p=((l.take k).all p&&p (ep l k d)):=by
 rw[fG (d:=d) a,List.all_append];simp
theorem Az{α:Type}(p:α->Bool){l:List α}(d:α){k:Nat}(a:k<O l):(l.take (k+1)).any p=((l.take k).any p||p (ep l k d)):=by
 rw[fG (d:=d) a,List.any_append];simp
theorem bB.jS.h(h:q.jS){k:Nat}(a:k<O q.head):(ep q.head k bO).size<=1048576:=h.CU _ (by simp[bB.CU];exact .inr (.inl (eI (bM (d:=bO) a))))
theorem bB.jS.rel(h:q.jS){k:Nat}(a:k<O q.aD):(ep q.aD k qc).rel.size<=1048576:=h.CU _ (by
 unfold bB.CU oL.CU;refine RL _ (List.mem_append_right _ (List.mem_flatMap.2 ⟨_,bM (d:=qc) a,rg ..⟩)))
theorem bB.jS.aLZ(h:q.jS){k:Nat}(b:k<O q.aD)(a:j<O (ep q.aD k qc).aS):
  ((ep (ep q.aD k qc).aS j qc).var.size<=1048576)/\(ep (ep q.aD k qc).aS j qc).vY.eR.size<=1048576:=by
 refine⟨h.CU _ ?_,h.CU _ ?_⟩;all_goals
  unfold bB.CU oL.CU;refine RL _ (List.mem_append_right _ (List.mem_flatMap.2 ⟨_,bM (d:=qc) b,RL _ (List.mem_flatMap.2 ⟨_,bM (d:=qc) a,?_⟩)⟩));simp
def rZ(t:jF):Bool:=decide (t.var=bO)||iT t.var
def xV(a:oL):Bool:=iT a.rel&&a.aS.all rZ
def O3(q:bB):Bool:=iT q.name&&q.head.all iT&&q.aD.all xV
theorem WS{s:dU}:s.toList=[]↔s=bO:=⟨λh=>zbT λa=>iR a h,nW⟩
theorem Vp{t:jF}(h:t.var≠bO):(!fQ t)=(decide (t.vY.aG=0)&&(decide (t.vY.num=0)&&decide (t.vY.eR.toList=[]))):=by
 unfold fQ;rw[bR h,Bu];cases a:t.vY with
 |mk k n s=>
  simp[aP,WS]
theorem Vq{t:jF}(h:t.var=bO):(!fQ t)=iH t.vY:=by
 unfold fQ;rw[bD (eI h)];simp
theorem Qo(q:bB):fJ q=if O3 q=po then 72 else if(q.aD.all λa=>a.aS.all λt=> !fQ t)=po then 21 else if O q.aD=0\/6<O q.aD then 90 else
  if(q.aD.any λa=>decide (5<O a.aS))then 91 else if nQ q.head then 92 else if q.head.any (λh=>decide (h∉vars q))then 93 else 0:=by
 have b:CG q= !O3 q:=by
  unfold CG O3;rw[Bool.not_and,Bool.not_and,List.not_all_eq_any_not,List.not_all_eq_any_not];congr 1;congr 1;funext a;unfold xV;rw[Bool.not_and,List.not_all_eq_any_not];congr 1;congr 1;funext t;unfold rZ;rw[Bool.not_or];by_cases h:t.var=bO<;>simp[h]
 have c:(q.aD.any λa=>a.aS.any fQ)= !(q.aD.all λa=>a.aS.all λt=> !fQ t):=by
  rw[List.not_all_eq_any_not];congr 1;funext a;rw[List.not_all_eq_any_not];congr 1;funext t;rw[Bool.not_not]
 unfold fJ;rw[b,c];cases O3 q<;>cases(q.aD.all λa=>a.aS.all λt=> !fQ t)<;>simp
theorem Km{l:List dU}{k:Nat}{x:dU}(d:k<=O l):x∈l.take k↔∃j,j<k/\ep l j bO=x:=by
 rw[List.mem_iff_getElem?];constructor
 .rintro⟨i,a⟩;rw[List.getElem?_take]at a;split at a
  .rename_i h;exact⟨i,h,by rw[iB,a];rfl⟩
  .cases a
 .rintro⟨j,b,c⟩;refine⟨j,?_⟩;rw[List.getElem?_take,bR b,<-c,iB,kX Y];rfl
theorem aOU{l:List dU}{k:Nat}(d:k<O l):decide (Vx l (ep l k bO)<(k:Int))=decide (ep l k bO∈l.take k):=by
 have b:ep l k bO∈l:=bM d;unfold Vx;rw[bR b,Bu,RK,RK,Km Y];have e:l.idxOf (ep l k bO)<O l:=List.idxOf_lt_length_iff.2 b;constructor
 .intro h;refine⟨l.idxOf (ep l k bO),Y,?_⟩;rw[iB (i:=l.idxOf _),kX e,NQ,List.getElem_idxOf]
 .rintro⟨j,n,a⟩;have m:l.idxOf (ep l k bO)<=j:=by
   refine Nat.le_of_not_lt λg=> ?_;have c:=List.not_of_lt_findIdx (p:=(·==ep l k bO)) (xs:=l) g;rw[iB (i:=j),kX Y,NQ]at a;rw[a]at c;simp at c
  omega
theorem Ai{l:List dU}{k:Nat}(a:k<O l)(h:ep l k bO∈l.take k):nQ l=oj:=by
 unfold nQ;rw[kq];exact⟨k,yD.2 a,kI h⟩
theorem Aj{l:List dU}(h:∀j,j<O l->ep l j bO∉l.take j):nQ l=po:=by
 unfold nQ;rw[List.any_eq_false];intro j a;simpa using h j (yD.1 a)
theorem XI(hv av:aF)(ps:List (dU×aF))(q:bB)(w:aA)(h:B9 w hv av ps q):
  aH prog 101 #[.agg #[j3 q.name,hv,av]] w λe w'=>e=i5 (i6 i7 (fJ q))/\U w [] w' []:=by
 obtain⟨ha,hc,rfl,-⟩:=h.head.len;obtain⟨aa,ac,rfl,-⟩:=h.aD.len;have s:=h.len;rw[s]at h|-;have nU:=h.dM;have hs0:q.name.size<=1048576:=nU.CU _ (rg ..);have aR1:=nU.head;have aM0:=nU.aD;clear s;go_in;go_wp2_with (go_at_call 140;apply(DD _ _ hs0).cL;rintro wx rfl);let⟨wa,dE⟩:=E (e8 w (h8 #[j3 q.name,hY ha (O q.head) hc,hY aa (O q.aD) ac] 25));have A:=Za dE;have b0:e7 wa ⟨hJ w.heap,0,K⟩=H (j3 q.name):=by rw[<-dE];exact aL (lK w _) rfl
 have b1:e7 wa ⟨hJ w.heap,1,K⟩=H (hY ha (O q.head) hc):=by rw[<-dE];exact aL (lK w _) rfl
 have b2:e7 wa ⟨hJ w.heap,2,K⟩=H (hY aa (O q.aD) ac):=by rw[<-dE];exact aL (lK w _) rfl
 rw[dE];clear dE;go_loopw [3,4] (λnm i wr=>U wa [] wr []/\∃k:Nat,k<=O q.head/\i=J k/\nm=j4 (iT q.name&&(q.head.take k).all iT)) (λ_ i _=>O q.head-(intOf i).toNat)
 .exact⟨U.refl _ _,0,Y,rfl,X⟩
 obtain⟨hU,k,hk,rfl,rfl⟩:=hrel;have c1:=hU.cell b1 X;by_cases b:k<O q.head
 .let⟨g,o,cap',hv,d⟩:=(h.head.on (A.dd hU)).DR b;injection hv with l n z;subst l z;clear n;simp only[xR]at d;have hsx:=nU.h b;have HA:=(LE iT bO b);generalize C:ep q.head k bO=x at d hsx HA;clear C;let⟨N,L⟩:=E ((iT q.name&&(q.head.take k).all iT));rw[L];have HN:=Z L;clear L;cases N with
  |true=>
   go_wp2_with (go_at_call 140;apply(DD _ _ hsx).cL;rintro wx rfl);go_roundw
   .exact⟨hU,k+1,Y,eO,by rw[HA,<-Bool.and_assoc,HN.o,Bt]⟩
   simp[intOf];omega
  |false=>
   go_wp2;go_roundw
   .exact⟨hU,k+1,Y,eO,by rw[HA,<-Bool.and_assoc,HN.o,Bool.false_and]⟩
   simp[intOf];omega
 .obtain rfl:k=O q.head:=Y;rw[R9];let⟨N1,FQ⟩:=E ((iT q.name&&q.head.all iT));rw[FQ];have rQ:=Z FQ;clear FQ;go_wp2;clear c1 b hk;go_loopg [3,5,6,7] (O q.aD) (λg nm vd wd i wx=>U wa [] wx []/\∃k:Nat,k<=O q.aD/\g=O q.aD-k/\i=J k/\nm=j4 (N1&&(q.aD.take k).all xV)/\vd=j4 ((q.aD.take k).all λa=>a.aS.all λt=> !fQ t)/\wd=j4 ((q.aD.take k).any λa=>decide (5<O a.aS)))
  .exact⟨hU,0,Y,rfl,rfl,X,rfl,rfl⟩
  obtain⟨p,k,hk,rfl,rfl,rfl,rfl,rfl⟩:=hrel;have c2:=p.cell b2 X;by_cases b:k<O q.aD
  .let⟨g,o,cap',ga,gc,hg,hv,a0,a1,hT⟩:=h.o7 b;have a0:=(A.dd p).cell a0 X;have a1:=(A.dd p).cell a1 X;have hT:=hT.on (A.dd p);injection hv with l n z;subst l z;have hsr:=nU.rel b;have zM:=(λj=>nU.aLZ (j:=j) b);have YS:=jN (F8 b) nU.aS;have qz:=(LE xV qc b);have HA2:=(LE (λa:oL=>a.aS.all λt=> !fQ t) qc b);have HA3:=(Az (λa:oL=>decide (5<O a.aS)) qc b);generalize C:ep q.aD k qc=x at a0 a1 hT hsr YS qz HA2 HA3 zM;clear C n;let⟨N,L⟩:=E ((N1&&(q.aD.take k).all xV));let⟨V,hV⟩:=E (((q.aD.take k).all λa=>a.aS.all λt=> !fQ t));let⟨W,hW⟩:=E (((q.aD.take k).any λa=>decide (5<O a.aS)));rw[L,hV,hW];have HN:=Z L;have HW:=Z hW;clear L hW;go_upto_region 10 with(fail);go_cut [3] (λs3 wx=>wr=wx/\s3=j4 (N&&iT x.rel))
   case first=>
    cases N with
    |true=>
     go_wp2_with (go_at_call 140;apply(DD _ _ hsr).cL;rintro wx rfl);go_meet;exact⟨rfl,by rw[Bt]⟩
    |false=>
     go_wp2;go_meet;exact⟨rfl,rfl⟩
   case rest=>
    obtain⟨rfl,rfl⟩:=hcut;go_upto_region 11 with(fail);go_cut [6] (λs6 wx=>wr=wx/\s6=j4 (W||decide (5<O x.aS)))
    case first=>
     cases W with
     |true=>
      go_wp2;go_meet;exact⟨rfl,rfl⟩
     |false=>
      go_wp2;go_meet;exact⟨rfl,by rw[Bool.false_or];congr 1;rw[Bu,RK,RK];omega⟩
    case rest=>
     obtain⟨rfl,rfl⟩:=hcut;go_wp2;go_loopg [3,5,8] (O x.aS) (λg nm vd i wx=>U wr [] wx []/\∃j:Nat,j<=O x.aS/\g=O x.aS-j/\i=J j/\nm=j4 (N&&iT x.rel&&(x.aS.take j).all rZ)/\vd=j4 (V&&(x.aS.take j).all λt=> !fQ t))
     .exact⟨U.refl _ _,0,Y,rfl,rfl,X,X⟩
     obtain⟨m,j,hj,rfl,rfl,rfl,rfl⟩:=hrel;have c3:=m.cell c2 X;have d1:=m.cell a1 X;by_cases QA:j<O x.aS
     .let⟨g2,o2,gI,hv,_,d⟩:=(hT.on m).aU QA;injection hv with l n z;subst l z;have T:=zM j QA;have jG:=(LE rZ qc QA);have F3:=(LE (λt:jF=> !fQ t) qc QA);generalize hy:ep x.aS j qc=y at d T jG F3;have t0:e7 wr (Ad g2 (o2+j*4))=H (j3 y.var):=d 0 Y;have t1:e7 wr (Ad g2 (o2+j*4+1))=H (J y.vY.aG):=d 1 Y;have t2:e7 wr (Ad g2 (o2+j*4+2))=H (J y.vY.num):=d 2 Y;have t3:e7 wr (Ad g2 (o2+j*4+3))=H (j3 y.vY.eR):=d 3 Y;clear d hy n;go_upto_region 15 with(fail);go_cut [9] (λs9 wx=>∃B,s9= Pt B/\U wr [] wx []/\rW wx B #[j3 y.var,J y.vY.aG,J y.vY.num,j3 y.vY.eR] 67)
      case first=>
       go_wp2;go_meet;exact⟨_,rfl,(U.refl _ _).alloc _,lK ..⟩
      case rest=>
       obtain⟨B,rfl,G,hB⟩:=hcut;have e0:=Zc hB 0;have e1:=Zc hB 1;have e2:=Zc hB 2;have e3:=Zc hB 3;have R:=Z (m.dd G);clear G hB;let⟨N2,f⟩:=E ((N&&iT x.rel&&(x.aS.take j).all rZ));obtain⟨V2,v⟩:∃V',(V&&(x.aS.take j).all λt=> !fQ t)=V':=⟨_,rfl⟩;rw[f,v];have Cm:=Z f;clear f;by_cases hs:y.var=bO
       .have hb:=nW hs;have HS:=Z hs;clear hs;have r:dT (rZ y=oj):=Z (by unfold rZ;rw[kI HS.o,Bool.true_or]);have JC:=Z (Vq HS.o);cases V2 with
        |true=>
         go_wp2_with (go_at_call 141;apply(z' y.vY _ T.2).cL;intro w5 cQ);go_roundg (O x.aS-(j+1))
         .exact⟨R.o.dd cQ,j+1,Y,rfl,eO,by rw[jG,r.out,Bool.and_true,Cm.o],by rw[F3,<-Bool.and_assoc,v,JC.out,Bt]⟩
         omega
        |false=>
         go_wp2;go_roundg (O x.aS-(j+1))
         .exact⟨R.o,j+1,Y,rfl,eO,by rw[jG,r.out,Bool.and_true,Cm.o],by rw[F3,<-Bool.and_assoc,v,Bool.false_and]⟩
         omega
       .have hb:=iR hs;have pP:=pC hs;have HS:=Z hs;clear hs;go_upto_region 17 with(fail);go_cut [3] (λs3 wx=>wc=wx/\s3=j4 (N2&&iT y.var))
        case first=>
         cases N2 with
         |true=>
          go_wp2_with (go_at_call 140;apply(DD _ _ T.1).cL;rintro wx rfl);go_meet;exact⟨rfl,by rw[Bt]⟩
         |false=>
          go_wp2;go_meet;exact⟨rfl,rfl⟩
        case rest=>
         obtain⟨rfl,rfl⟩:=hcut;have r:dT (rZ y=iT y.var):=Z (by unfold rZ;rw[jO HS.o,Bool.false_or]);cases V2 with
         |true=>
          have JC:=Z (Vp HS.o);go_wp2;all_goals
           go_roundg (O x.aS-(j+1))
           .refine⟨R.o,j+1,Y,rfl,eO,by rw[jG,<-Bool.and_assoc,Cm.o,r.out],wJ j4 ?_⟩;rw[F3,<-Bool.and_assoc,v,JC.out];first
             |(rename_i l n z;simp[l,n,z];done)
             |(rename_i l n;simp[l,n];done)
             |(rename_i l;simp[l];done)
           omega
         |false=>
          go_wp2;go_roundg (O x.aS-(j+1))
          .exact⟨R.o,j+1,Y,rfl,eO,by rw[jG,<-Bool.and_assoc,Cm.o,r.out],by rw[F3,<-Bool.and_assoc,v,Bool.false_and]⟩
          omega
     .obtain rfl:j=O x.aS:=Y;rw[R9];go_wp2;go_roundg (O q.aD-(k+1))
      .exact⟨p.dd m,k+1,Y,rfl,eO,by rw[qz,<-Bool.and_assoc,HN.o];unfold xV;rw[Bool.and_assoc],by rw[HA2,hV],by rw[HA3,HW.o]⟩
      omega
  .obtain rfl:k=O q.aD:=Y;rw[R9];have Wr:=(Qo q);have hnm:(N1&&q.aD.all xV)=O3 q:=by rw[<-rQ.o];rfl
   rw[hnm];let⟨NM,hNM⟩:=E (O3 q);let⟨VD,S⟩:=E ((q.aD.all λa=>a.aS.all λt=> !fQ t));let⟨WD,hWD⟩:=E ((q.aD.any λa=>decide (5<O a.aS)));rw[hNM,S,hWD];have c:=Z (dX hNM (dX S hWD));clear hNM S hWD hnm b hk;cases NM with
   |false=>
    go_wp2;go_ret;exact⟨by rw[Wr,c.o.1];rfl,A.dd p⟩
   |true=>
    cases VD with
    |false=>
     go_wp2;go_ret;exact⟨by rw[Wr,c.o.1,c.o.2.1];rfl,A.dd p⟩
    |true=>
     by_cases hz:O q.aD=0
     .have g1:decide ((O q.aD:Int)<1)=oj:=kI Y;go_wp2;go_ret;exact⟨by rw[Wr,c.o.1,c.o.2.1,bR (Or.inl hz)];rfl,A.dd p⟩
     .have g1:decide ((O q.aD:Int)<1)=po:=jO Y;by_cases h6:6<O q.aD
      .have g2:decide ((6:Int)<(O q.aD:Int))=oj:=kI Y;go_wp2;go_ret;exact⟨by rw[Wr,c.o.1,c.o.2.1,bR (Or.inr h6)];rfl,A.dd p⟩
      .have g2:decide ((6:Int)<(O q.aD:Int))=po:=jO Y;have hnz:¬(O q.aD=0\/6<O q.aD):=Y;cases WD with
       |true=>
        go_wp2;go_ret;exact⟨by rw[Wr,c.o.1,c.o.2.1,c.o.2.2,bD hnz];rfl,A.dd p⟩
       |false=>
        have aU8:dT (fJ q=if nQ q.head then 92 else if q.head.any (λh=>decide (h∉vars q))then 93 else 0):=Z (by rw[Wr,c.o.1,c.o.2.1,c.o.2.2,bD hnz];rfl);clear Wr c hnz;go_wp2;have HW:=Z (A.dd p);go_loopg [10] (O q.head) (λg i wx=>U wr [] wx []/\∃k:Nat,k<=O q.head/\g=O q.head-k/\i=J k/\∀j,j<k->ep q.head j bO∉q.head.take j)
        .exact⟨U.refl _ _,0,Y,rfl,rfl,λj hj=>Y⟩
        obtain⟨m,k,hk,rfl,rfl,fS⟩:=hrel;have m1:=m.cell (p.cell b1 X) X;by_cases b:k<O q.head
        .let⟨g,o,cap',hv,d⟩:=(h.head.on (HW.o.dd m)).DR b;injection hv with l n z;subst l z;clear n;simp only[xR]at d;have Nv:=(aOU b);generalize C:ep q.head k bO=x at d Nv;have c:=Z C;clear C;go_wp2;refine ee 99 (eb m1<|d7 d) (λQ=> ?_);refine dw [0,1,2,3,4,5,6,8] ?_;refine Zo 7 λqL hK=> ?_;go_simp;go_at_call 66;apply(jd _ q.head x wr.drew ((h.head.on (HW.o.dd m)).on (U.refl _ []).drew)).cF;rintro e w4 ⟨rfl,G⟩;dsimp only;have G:U wr [] w4 []:=(U.refl wr []).drew.dd G;have Q:=dX (G.cell m1 X) (G.cell d X);have R:=Z G;refine j8 ?_;clear hK qL;refine I 9 ?_;refine aY dB ?_ _;try simp only[Act.put,RM,RJ,UT]
         by_cases F:x∈q.head.take k
         .have g3:decide (Vx q.head x<(k:Int))=oj:=by rw[Nv];exact kI F
          have g4:Vx q.head x<(k:Int):=of_decide_eq_true g3;go_wp2;go_ret;exact⟨by rw[aU8.o,((Ai b (c.o.symm▸F)))];rfl,HW.o.dd (m.dd R.o)⟩
         .have g3:decide (Vx q.head x<(k:Int))=po:=by rw[Nv];exact jO F
          have g4:(k:Int)<=Vx q.head x:=nA (of_decide_eq_false g3);go_wp2;go_roundg (O q.head-(k+1))
          .exact⟨m.dd R.o,k+1,Y,rfl,eO,λj hj=>by
           by_cases yX:j=k
           .subst yX;rw[c.o];exact F
           .exact fS j Y⟩
          omega
        .obtain rfl:k=O q.head:=Y;have aU7:dT (fJ q=if q.head.any (λh=>decide (h∉vars q))then 93 else 0):=Z (by rw[aU8.o,Aj fS];rfl);have n0:=m.cell (p.cell b0 X) X;have n2:=m.cell c2 X;have Xz:=(HW.o.dd m);go_wp2_with (go_at_call 65;apply(RW _ _ ps q _ ((h.on Xz))).cF;rintro e w5 ⟨u,rfl,hO,cQ⟩;obtain⟨ua,uc,rfl,-⟩:=hO.len;have m5:=cQ.cell m1 X);go_loopg [12] (O q.head) (λg i wx=>U w5 [] wx []/\∃k:Nat,k<=O q.head/\g=O q.head-k/\i=J k/\∀j,j<k->ep q.head j bO∈vars q)
         .exact⟨U.refl _ _,0,Y,rfl,rfl,λj hj=>Y⟩
         obtain⟨P,k,hk,rfl,rfl,fS⟩:=hrel;have p1:=P.cell m5 X;by_cases b:k<O q.head
         .let⟨g,o,cap',hv,d⟩:=(h.head.on (Xz.dd (cQ.dd P))).DR b;injection hv with l n z;subst l z;clear n;simp only[xR]at d;generalize C:ep q.head k bO=x at d;have c:=Z C;clear C;by_cases F:x∈vars q
          .have g3:=kI F;go_wp2_with (go_at_call 103;apply(O6 _ (vars q) x _ (hO.rd.on P)).cL;intro w7 fM);go_roundg (O q.head-(k+1))
           .exact⟨P.dd fM,k+1,Y,rfl,eO,λj hj=>by
            by_cases yX:j=k
            .subst yX;rw[c.o];exact F
            .exact fS j Y⟩
           omega
          .have g3:=jO F;have HD:=(show q.head.any (λh=>decide (h∉vars q))=oj from kq.2 ⟨x,by rw[<-c.o];exact bM b,kI F⟩);go_wp2_with (go_at_call 103;apply(O6 _ (vars q) x _ (hO.rd.on P)).cL;intro w7 fM);go_ret;exact⟨by rw[aU7.o,HD];rfl,Xz.dd (cQ.dd (P.dd fM))⟩
         .obtain rfl:k=O q.head:=Y;have HD:=(show q.head.any (λh=>decide (h∉vars q))=po from by
           rw[List.any_eq_false];intro y hy;let⟨i,hi,he⟩:=Pn hy;have:=fS i hi;rw[iB,kX hi,NQ,he]at this;simpa using this)
          go_wp2;go_ret;exact⟨by rw[aU7.o,HD];rfl,Xz.dd (cQ.dd P)⟩
structure oB(es:List Nat)(aR:Nat):Prop where
 hv:aR<=30
 hm:O es<=7
 xD:∀s,s∈es->s<2^aR
theorem oB.dM(h:oB es aR):∀s,s∈es->s<2^32:=λs hs=>wM (h.xD s hs) (Cr D (jN h.hv D))
theorem Pz(v1:aF)(es:List Nat)(aR:Nat)(w:aA)(h:CI w v1 es)(a:oB es aR):
  aH prog 167 #[.agg #[i6 i7 aR,v1]] w λe w'=>e=i5 (j4 oj)/\U w [] w' []:=by
 obtain⟨ad,cap,rfl,-⟩:=h.len;have hv:=a.hv;have r:=a.hm;have A:decide ((aR:Int)<0)=po:=jO Y;have g2:decide ((30:Int)<(aR:Int))=po:=jO Y;have g3:decide ((7:Int)<(O es:Int))=po:=jO Y;go_in;go_wp2;let⟨wa,b⟩:=E (e8 w (h8 #[J aR,hY ad (O es) cap] 133));have m:=Za b;have b0:e7 wa ⟨w,0,K⟩=H (J aR):=b▸aL (lK w _) rfl;have C:e7 wa ⟨w,1,K⟩=H (hY ad (O es) cap):=b▸aL (lK w _) rfl;rw[b];go_loopg [3] (O es) (λg i wr=>wa=wr/\∃k:Nat,k<=O es/\g=O es-k/\i=J k)
 .exact⟨rfl,0,Y,rfl,rfl⟩
 obtain⟨rfl,k,F,rfl,rfl⟩:=hrel;by_cases c:k<O es
 .let⟨g,o,cap',q,e0⟩:=(h.on m).DR c;injection q with x1 x2 x3;subst x1 x3;simp only[EN]at e0;have j:=a.dM _ (bM (d:=0) c);have l:=a.xD _ (bM (d:=0) c);obtain⟨S,y⟩:∃S,ep es k 0=S:=⟨_,rfl⟩;rw[y]at e0 j l;go_wp2;go_loopg [4] (32-aR) (λg i wr=>wa=wr/\∃n:Nat,aR<=n/\n<=32/\g=32-n/\i=J n)
  .exact⟨rfl,aR,fV _,Y,rfl,rfl⟩
  obtain⟨rfl,n,u,v,rfl,rfl⟩:=hrel;by_cases B:n<32
  .have z:=Z λx=>(iV S n j x Y).mono λe w' h=>dX (h.1.dd (by rw[zbN (wM l (Cr D u))])) h.2;go_wp2_with (go_at_call 107;apply(z.o _).cL;rintro w2 rfl);go_roundg (32-(n+1))
   .exact⟨rfl,n+1,Y,Y,rfl,eO⟩
   omega
  .go_wp2;go_roundg (O es-(k+1))
   .exact⟨rfl,k+1,Y,rfl,eO⟩
   omega
 .go_wp2;go_ret;exact⟨rfl,m⟩
theorem Yn:wI prog 131 134 1 4 #[i6 kd 0]:= .PU (z:=i6 kd 0) underlying131 dB rfl rfl
theorem ia(v:aF)(es:List Nat)(aR:Nat)(w:aA)(h:CI w v es)(G:O es<=7):
  aH prog 143 #[.agg #[i6 i7 aR,v]] w λe w'=>∃u,e=i5 (.agg #[i6 i7 aR,u])/\wY w w' u es/\U w [] w' []:=by
 obtain⟨a,cap,hv,g⟩:=h.len;subst hv;have C:=Yn.wO (O es) (O es) (fV _) Y g;simp only[wZ]at C;go_in;unfold bw at g;go_wp2;have q:=(((U.refl w []).alloc (h8 #[J aR,hY a (O es) cap] 133)).alloc (h8 #[J 0,cH] 133));have p:=Yn.yF (O es) (O es) (fV _) g ((w.alloc (h8 #[J aR,hY a (O es) cap] 133)).alloc (h8 #[J 0,cH] 133)) Y;have d:hJ ((w.alloc (h8 #[J aR,hY a (O es) cap] 133)).alloc (h8 #[J 0,cH] 133)).heap=hJ w.heap+1+1:=X;rw[d]at p;let⟨w2,l,B,A,m⟩:=QO (w0:=w) Yn.ok Y 3 (hJ w.heap+1+1) p Y (q.alloc _) (h.on (q.alloc _)) (λx _ j qL=>rfl);simp only[wZ]at l;simp only[l,Result.andThen_ok];have F:=Z B;have z:rW w2 w.heap.size #[J aR,hY a (O es) cap] 133:=m.aC (Vz _ _ _ _) (by simp;omega);have c:rW w2 (hJ w.heap+1) #[J 0,cH] 133:=m.aC (Vy _ _ _ _) X;have N:=Zc z 0;have e0:=Zc c 0;have f:=Zc c 1;have L:=aM c;go_wp2;refine mD (gO ⟨hJ w.heap+1,0,K⟩ rfl Yr (v:= .agg #[J aR,hY (H ⟨hJ w.heap+1+1,0,K⟩) (O es) (O es)]) (by go_simp)) rfl ?_;have n:=XB (x:=J aR) (y:=hY (H ⟨hJ w.heap+1+1,0,K⟩) (O es) (O es)) c;exact⟨_,rfl,F.set c D n.2,A.aZ n.2 (λb r=>by simp at r;omega)⟩
theorem ZM65{P:Prop}(h:P:=by
  have hS:=XB (x:=J 0) (y:=cH) gT;refine mD (yI (A:=⟨hJ w.heap+1,0,K⟩) (T:=133) rfl Yr (v:= .agg #[J 0,cH]) (by go_simp)) rfl ?_;exact⟨rfl,eM.aZ hS.2 (λb hb=>by simp at hb;omega)⟩):P:=h
theorem aG3(hv av:aF)(ps:List (dU×aF))(q:bB)(w:aA)(h:B9 w hv av ps q)(hs:fJ q≠0):
  aH prog 63 #[.agg #[j3 q.name,hv,av]] w λe w'=>e=i5 (i8 #[.agg #[i6 i7 0,hY K 0 0],i6 kd 0,i6 i7 (fJ q)])/\U w [] w' []:=by
 obtain⟨ha,i,rfl,-⟩:=h.head.len;obtain⟨g,c,rfl,-⟩:=h.aD.len;rw[h.len]at h|-;have hb:(fJ q !=0)=oj:=by rw[bne_iff_ne];exact hs
 let⟨s,l⟩:=E (fJ q);rw[l]at hb|-;let⟨wa,j⟩:=E (e8 (e8 w (h8 #[j3 q.name,hY ha (O q.head) i,hY g (O q.aD) c] 25)) (h8 #[J 0,cH] 133));have n:U w [] wa []:=j▸((U.refl w []).alloc _).alloc _;have d:rW wa w.heap.size #[j3 q.name,hY ha (O q.head) i,hY g (O q.aD) c] 25:=by rw[<-j];exact kV ..
 have r:rW wa (hJ w.heap+1) #[J 0,cH] 133:=by rw[<-j];exact kU ..
 have b0:=Zc d 0;have u:=Zc d 1;have b2:=Zc d 2;have p:dT (tR 101 #[.agg #[j3 q.name,hY ha (O q.head) i,hY g (O q.aD) c]] wa λe w'=>e=i5 (J s)/\U wa [] w' []):=Z ((XI _ _ ps q wa (h.on n)).mono λe w' h=>⟨h.1.dd (by rw[l]),h.2⟩);go_in;go_wp2_with (go_at_call 101;apply p.cL;intro w2 m;have gT:=m.aC r X;obtain⟨e0,B⟩:=Z2 gT;have z:=aM gT;have eM:=(n.dd m));exact ZM65
def t4(vs cY:List dU)(k:Nat):Nat:=(List.range k).foldl (λs v=>if ep vs v bO∈cY then s+2^v else s) 0
theorem TR(vs cY:List dU)(k:Nat):t4 vs cY (k+1)=if ep vs k bO∈cY then t4 vs cY k+2^k else t4 vs cY k:=by
 unfold t4;rw[Yl,kr];rfl
theorem Gm(vs cY:List dU)(k:Nat):t4 vs cY k<2^k:=(DI vs cY k _ rfl).1
theorem f8(h:fJ q=0):1<=O q.aD/\O q.aD<=6/\O (vars q)<=30/\(∀a,a∈q.aD->O a.aS<=5)/\nQ q.head=po/\∀x,x∈q.head->x∈vars q:=by
 rw[Qo]at h;by_cases d:O3 q=po
 .rw[bR d]at h;cases h
 .rw[bD d]at h;by_cases e:(q.aD.all λa=>a.aS.all λt=> !fQ t)=po
  .rw[bR e]at h;cases h
  .rw[bD e]at h;by_cases j:O q.aD=0\/6<O q.aD
   .rw[bR j]at h;cases h
   .rw[bD j]at h;cases c:q.aD.any λa=>decide (5<O a.aS)with
    |true=>rw[c]at h;cases h
    |false=>
     rw[c]at h;cases i:nQ q.head with
     |true=>rw[i]at h;cases h
     |false=>
      rw[i]at h;cases g:q.head.any λh=>decide (h∉vars q)with
      |true=>rw[g]at h;cases h
      |false=>
       have m:∀a,a∈q.aD->O a.aS<=5:=λa ha=>by
        rw[List.any_eq_false]at c;have:=c a ha;simp at this;omega
       refine⟨Y,Y,?_,m,rfl,λx p=> ?_⟩
       .rw[P6];refine jN (gG _ _) ?_;have:∀l:List oL,(∀a,a∈l->O a.aS<=5)->O (l.flatMap (·.aS))<=5*O l:=by
         intro l;induction l with
         |nil=>intro _;simp
         |cons a l ih=>
          intro hl;rw[List.flatMap_cons,F5,T9];have d:=hl a X;have e:=ih λb n=>hl b (RL _ n);omega
        have:=this q.aD m;simp only[List.length_nil];omega
       .rw[List.any_eq_false]at g;simpa using g x p
theorem vV(h:fJ q=0):oB (aJ q) (O (vars q)):=by
 let⟨c,d,b,_⟩:=f8 h;refine⟨b,by unfold aJ;rw[sN];omega,λs hs=> ?_⟩;obtain⟨a,_,rfl⟩:=BB.1 hs;exact AY _ _
theorem ZM81{P:Prop}(h:P:=by
  go_roundg (n-(j+1))
  .exact⟨cQ.dd dK,j+1,by omega,rfl,eO,by
   rw[HM.o,GW (by omega)];have:=Iq.o;generalize 2^j=p at*;congr 1;omega⟩
  omega):P:=h
theorem aCC(hv av:aF)(ps:List (dU×aF))(q:bB)(w:aA)(h:B9 w hv av ps q)(hs:fJ q=0):
  aH prog 63 #[.agg #[j3 q.name,hv,av]] w λe w'=>∃u,e=i5 (i8 #[.agg #[i6 i7 (O (vars q):Int),u],i6 kd (cO q:Int),i6 i7 0])/\wY w w' u (aJ q)/\U w [] w' []:=by
 obtain⟨ha,hc,rfl,-⟩:=h.head.len;obtain⟨aa,ac,rfl,-⟩:=h.aD.len;rw[h.len]at h|-;let⟨_,ha6,Dx,pF,_,_⟩:=f8 hs;let⟨wa,V⟩:=E (e8 (e8 w (h8 #[j3 q.name,hY ha (O q.head) hc,hY aa (O q.aD) ac] 25)) (h8 #[J 0,cH] 133));have cR:U w [] wa []:=V▸((U.refl w []).alloc _).alloc _;have W:rW wa w.heap.size #[j3 q.name,hY ha (O q.head) hc,hY aa (O q.aD) ac] 25:=by rw[<-V];exact kV ..
 have eQ:rW wa (hJ w.heap+1) #[J 0,cH] 133:=by rw[<-V];exact kU ..
 have b0:=Zc W 0;have b1:=Zc W 1;have b2:=Zc W 2;have JS:dT (tR 101 #[.agg #[j3 q.name,hY ha (O q.head) hc,hY aa (O q.aD) ac]] wa λe w'=>e=i5 (J 0)/\U wa [] w' []):=Z ((XI _ _ ps q wa (h.on cR)).mono λe w' h=>⟨h.1.dd (by rw[hs]),h.2⟩);have A1:hJ wa.heap=hJ w.heap+1+1:=by rw[<-V];simp
 clear hs;go_in;go_upto_region 5 with(first
  |(go_at_call 65;apply(RW _ _ ps q _ (h.on eM)).cF;rintro e wb ⟨u,rfl,hO,t⟩;obtain⟨ua,uc,rfl,-⟩:=hO.len;have d0:=t.cell c0 (by simp);have d1:=t.cell c1 (by simp);have d2:=t.cell c2 (by simp);have N:=(eM.dd t);have F:=(S.dd t);clear t)
  |(go_at_call 101;apply JS.o.cL;intro w2 S;have c0:=S.cell b0 (by simp);have c1:=S.cell b1 (by simp);have c2:=S.cell b2 (by simp);have eM:=(cR.dd S)))
 generalize hn:O (vars q)=n at Dx|-;let⟨B,VY⟩:=E (hJ wb.heap);go_upto_region 6 with(fail);let⟨w3,iQ⟩:=E (e8 wb (h8 #[J (n:Int),cH] 133));have cU:=Za iQ;have sH:rW w3 B #[J (n:Int),cH] 133:=by rw[<-iQ,<-VY];exact lK ..
 have k1:=cU.cell d1 (by simp);have k2:=cU.cell d2 (by simp);have R:=Z hn;have HVS:dT (II wb (hY ua n uc) (vars q)):=Z (by have h:=hO.rd;rw[hn]at h;exact h);rw[iQ];clear b0 b1 b2 c0 c1 c2 d0 d1 d2 V iQ hn;go_wp2;go_loopg [9] (O q.aD) (λg i wr=>U wb [] wr []/\∃(k:Nat) (f:Option cj) (P:Nat),k<=O q.aD/\g=O q.aD-k/\i=J k/\rW wr B #[J (n:Int),hY f k P] 133/\wY wb wr (hY f k P) ((aJ q).take k))
 .exact⟨cU,0,K,0,Y,rfl,rfl,sH,bG.nil _ _⟩
 obtain⟨m,k,f,P,hk,rfl,rfl,hB,hL⟩:=hrel;have m2:=m.cell (F.cell (aL (show wa.heap[hJ w.heap]? =_ from W) (j:=2) rfl) (by simp)) (by simp);have HL:=Z hL;clear hL;by_cases aV:k<O q.aD
 .let⟨g,o,cap',ga,gc,hg,AO,a0,a1,hT⟩:=h.o7 aV;have a0:=(N.dd m).cell a0 (by simp);have a1:=(N.dd m).cell a1 (by simp);have hT:=hT.on (N.dd m);injection AO with x1 x2 x3;subst x1 x3;clear x2;have YS:=pF _ (bM (d:=qc) aV);have HX:dT ((aJ q).take (k+1)=(aJ q).take k++[sV (vars q) (bY (ep q.aD k qc))]):=Z (by
   rw[fG (d:=0) (by unfold aJ;rw[sN];exact aV)];congr 2;unfold aJ;rw[iB,Pm,iB,kX aV];rfl)
  have c:O ((aJ q).take k)=k:=by unfold aJ;rw[VQ,sN];omega
  generalize hx:ep q.aD k qc=x at a0 a1 hT YS HX;generalize OT:(aJ q).take k=L at HL HX c;clear hx OT;go_upto_region 11 with(go_at_call 102;apply(N6 _ x.rel x.aS _ hT (by omega)).cF;rintro e w4 ⟨u4,rfl,QE,eA⟩;obtain⟨oa,oc,rfl,-⟩:=QE.len;have Ns:=(show vC wr w4 _ (bY x)from QE);clear QE);go_wp2;go_loopg [11,12] n (λg s i wx=>U w4 [] wx []/\∃j:Nat,j<=n/\g=n-j/\i=J j/\s=i6 kd (t4 (vars q) (bY x) j:Int))
  .exact⟨U.refl _ _,0,Y,rfl,rfl,rfl⟩
  obtain⟨cQ,j,hj,rfl,rfl,rfl⟩:=hrel;by_cases FJ:j<n
  .let⟨g6,o6,OK,G,e0⟩:=(((HVS.o.on (m.dd eA))).on cQ).DR (show j<O (vars q) by rw[R.o];exact FJ);injection G with x1 x2 x3;clear x2 x3;subst x1;simp only[xR]at e0;have HM:=Z (TR (vars q) (bY x) j);have IV:=Gm (vars q) (bY x) j;have CX:2^j<2^30:=Nat.pow_lt_pow_right (by decide) (by omega);have r:2^j<1073741824:=Xc CX (by decide);let⟨y,hy⟩:=E (ep (vars q) j bO);let⟨s,hs⟩:=E (t4 (vars q) (bY x) j);rw[hy]at e0 HM;rw[hs]at HM IV|-;clear hy hs CX;have Iq:=Z r;clear r;by_cases l:y∈bY x
   .have HI:=Z λwz (hz:II wz (hY oa (O (bC x.aS [])) oc) (bY x))=>(O6 _ (bY x) y wz hz).mono λe w' h=>dX (h.1.dd (by rw[kI l])) h.2;have HM:dT (t4 (vars q) (bY x) (j+1)=s+2^j):=Z (by rw[HM.o,bR l]);clear l;go_wp2_with (go_at_call 103;apply(HI.o _ (Ns.rd.on cQ)).cL;intro w6 dK);exact ZM81
   .have HI:=Z λwz (hz:II wz (hY oa (O (bC x.aS [])) oc) (bY x))=>(O6 _ (bY x) y wz hz).mono λe w' h=>dX (h.1.dd (by rw[jO l])) h.2;have HM:dT (t4 (vars q) (bY x) (j+1)=s):=Z (by rw[HM.o,bD l]);clear l;go_wp2_with (go_at_call 103;apply(HI.o _ (Ns.rd.on cQ)).cL;intro w6 dK);go_roundg (n-(j+1))
    .exact⟨cQ.dd dK,j+1,by omega,rfl,eO,by rw[HM.o]⟩
    omega
  .have Te:j=n:=by omega
   have HM:dT (t4 (vars q) (bY x) j=sV (vars q) (bY x)):=Z (by rw[Te,<-R.o];rfl);rw[HM.o];generalize hM:sV (vars q) (bY x)=M at HX|-;clear hM HM Te;have z:=eA.dd cQ;have Xv:=z.aC hB (by simp);have e1:=Zc Xv 1;have HLk:=(HL.o.on z);have HUk:=(m.dd z);have a3b:O L<=6:=by omega
   clear z;go_wp2_with (at_builtin;refine cK Yn.ok rfl _ _ rfl HLk HUk (by rfl) [i6 kd (M:Int)] M (by rfl) rfl (dH rfl) rfl (by omega) F4 ?_;rintro g2 gI w7 wW fM vU-;have EM:=vU.aC Xv (HLk.ne Xv (by decide));have f1:=Zc EM 1;have ff:=aM EM;have RH:=Z wW;clear wW vU);have Hn:=aE (i:=1) (hY (H ⟨g2,0,K⟩) (O L+1) gI) EM;have iE:=(U.refl w7 [B]).setCell (a:=⟨B,1,K⟩) (.inl (by simp)) (hY (H ⟨g2,0,K⟩) (O L+1) gI);go_roundg (O q.aD-(k+1))
   .obtain rfl:=c;exact⟨fM.aZ iE (λb hb=>by simp at hb;subst hb;rw[VY];exact fV _),O L+1,H ⟨g2,0,K⟩,gI,by omega,rfl,eO,Hn,by rw[HX.o];exact (RH.o.set EM (by decide) iE)⟩
   omega
 .obtain rfl:k=O q.aD:=by omega
  have FL:(aJ q).take (O q.aD)=aJ q:=by
   rw[zdH];unfold aJ;rw[sN];exact fV _
  rw[FL]at HL;have m1:=m.cell (F.cell (aL (show wa.heap[hJ w.heap]? =_ from W) (j:=1) rfl) (by simp)) (by simp);clear FL;go_wp2;go_loopg [8,13] n (λg s i wx=>U wr [] wx []/\∃j:Nat,j<=n/\g=n-j/\i=J j/\s=i6 kd (t4 (vars q) q.head j:Int))
  .exact⟨U.refl _ _,0,Y,rfl,rfl,rfl⟩
  obtain⟨cQ,j,hj,rfl,rfl,rfl⟩:=hrel;have n1:=cQ.cell m1 (by simp);by_cases FJ:j<n
  .let⟨g6,o6,OK,G,e0⟩:=(HVS.o.on (m.dd cQ)).DR (show j<O (vars q) by rw[R.o];exact FJ);injection G with x1 x2 x3;clear x2 x3;subst x1;simp only[xR]at e0;have HM:=Z (TR (vars q) q.head j);have IV:=Gm (vars q) q.head j;have CX:2^j<2^30:=Nat.pow_lt_pow_right (by decide) (by omega);have r:2^j<1073741824:=Xc CX (by decide);let⟨y,hy⟩:=E (ep (vars q) j bO);let⟨s,hs⟩:=E (t4 (vars q) q.head j);rw[hy]at e0 HM;rw[hs]at HM IV|-;clear hy hs CX;have Iq:=Z r;clear r;go_wp2;refine ee 99 (eb n1<|d7 e0) (λQ=> ?_);refine dw [0,1,2,3,4,5] ?_;refine Zo 6 λqL hK=> ?_;go_simp;go_at_call 103;apply(O6 _ q.head y wr.drew ((h.head.on (N.dd (m.dd cQ))).on (U.refl _ []).drew)).cF;rintro e w6 ⟨rfl,dK⟩;dsimp only;have dK:U wr [] w6 []:=(U.refl wr []).drew.dd dK;have Q:=dX (dK.cell n1 (by simp)) (dK.cell e0 (by simp));refine j8 ?_;clear hK qL;refine aY dB ?_ _;try simp only[Act.put,RM,RJ,UT]
   by_cases l:y∈q.head
   .have HM:dT (t4 (vars q) q.head (j+1)=s+2^j):=Z (by rw[HM.o,bR l]);have hd:=kI l;rw[hd];clear l hd;go_wp2;exact ZM81
   .have HM:dT (t4 (vars q) q.head (j+1)=s):=Z (by rw[HM.o,bD l]);have hd:=jO l;rw[hd];clear l hd;go_wp2;go_roundg (n-(j+1))
    .exact⟨cQ.dd dK,j+1,by omega,rfl,eO,by rw[HM.o]⟩
    omega
  .have Te:j=n:=by omega
   have HM:dT (t4 (vars q) q.head j=cO q):=Z (by rw[Te,<-R.o];rfl);rw[HM.o];have C:=cQ.aC hB (by simp);have f0:=Zc C 0;have f1:=Zc C 1;have RD:=(F.dd (m.dd cQ)).aC eQ (by simp);have r0:=Zc RD 0;have r1:=Zc RD 1;have rf:=aM RD;clear C Te n1;go_wp2;have hS:=XB (x:=J (n:Int)) (y:=hY f (O q.aD) P) RD;refine mD (yI (A:=⟨hJ w.heap+1,0,K⟩) (T:=133) rfl (by rfl) (v:= .agg #[J (n:Int),hY f (O q.aD) P]) (by go_simp)) rfl ?_;refine⟨hY f (O q.aD) P,by rw[R.o];rfl,?_,(N.dd (m.dd cQ)).aZ hS.2 (λb hb=>by simp at hb;omega)⟩;exact((HL.o.on cQ).set RD (by decide) hS.2).eE N.size
theorem Uj(v1:aF)(es:List Nat)(aR:Nat)(w:aA)(h:CI w v1 es)(b:oB es aR)(d:O es<=6):
  aH prog 142 #[.agg #[i6 i7 aR,v1]] w λe w'=>e=i5 (j4 oj)/\U w [] w' []:=by
 obtain⟨ad,cap,rfl,-⟩:=h.len;have g:decide ((O es:Int)<=6)=oj:=kI Y;go_in;go_wp2_with (go_at_call 167;apply (Pz _ es aR _ (h.on ((U.refl w []).alloc (h8 #[J aR,hY ad (O es) cap] 133))) b).cL;intro w2 a;have c1:=a.cell (aL (lK w _) (j:=1) rfl) X);go_ret;exact⟨rfl,((U.refl w []).alloc _).dd a⟩
def D7(es:List Nat)(k:Nat):Nat:=(es.take k).foldl (λs x=>s|||x) 0
theorem Jc{k:Nat}(h:k<O es):D7 es (k+1)=D7 es k|||ep es k 0:=by
 unfold D7;rw[fG (d:=0) h,kr];rfl
theorem UF:∀{es:List Nat} {s:Nat},(∀x,x∈es->x<2^32)->s<2^32->es.foldl (λs x=>s|||x) s<2^32
 |[],s,_,h=>h
 |x::es,s,hx,h=>by
  rw[List.foldl_cons];exact UF (λy a=>hx y (RL _ a)) (Nat.or_lt_two_pow h (hx x (rg ..)))
theorem WM(h:∀s,s∈es->s<2^32)(k:Nat):D7 es k<2^32:=UF (λx a=>h x (List.mem_of_mem_take a)) (Nat.two_pow_pos 32)
def xT(es:List Nat):Nat:=D7 es (O es)
theorem QJ(v:Nat):∀(es:List Nat) (s:Nat),(es.foldl (λs x=>s|||x) s).testBit v=(s.testBit v||es.any λx=>x.testBit v)
 |[],s=>X
 |x::es,s=>by rw[List.foldl_cons,QJ v es,Nat.testBit_or,List.any_cons,Bool.or_assoc]
theorem Uw(v1:aF)(es:List Nat)(aR:Nat)(w:aA)(h:CI w v1 es)(m:oB es aR):
  aH prog 145 #[.agg #[i6 i7 aR,v1]] w λe w'=>e=i5 (i6 kd (xT es))/\U w [] w' []:=by
 obtain⟨ad,cap,rfl,-⟩:=h.len;have r:=m.hm;have n:=Z m.dM;go_in;go_wp2;let⟨wa,j⟩:=E (e8 w (h8 #[J aR,hY ad (O es) cap] 133));have p:=Za j;have z:e7 wa ⟨w,1,K⟩=H (hY ad (O es) cap):=j▸aL (lK w _) rfl;rw[j];go_loopg [3,4] (O es) (λg s i wr=>wa=wr/\∃k:Nat,k<=O es/\g=O es-k/\i=J k/\s=i6 kd (D7 es k:Int))
 .exact⟨rfl,0,Y,rfl,rfl,rfl⟩
 obtain⟨rfl,k,A,rfl,rfl,rfl⟩:=hrel;by_cases l:k<O es
 .let⟨g,o,cap',q,e0⟩:=(h.on p).DR l;injection q with x1 x2 x3;subst x1 x3;simp only[EN]at e0;have b:=(n.o _ (bM (d:=0) l));have c:=(Jc l);have a:=(WM n k);let⟨t,u⟩:=E (ep es k 0);let⟨s,hs⟩:=E (D7 es k);rw[u]at e0 b c;rw[hs]at c a|-;go_wp2_with (go_at_call 109;apply(FG t s b a _).cL;rintro w2 rfl);go_roundg (O es-(k+1))
  .exact⟨rfl,k+1,Y,rfl,eO,by
   rw[c];have B:=(Gd a b);have y:=Xc (Nat.or_lt_two_pow a b) (by decide:2^32=4294967296);congr 1;omega⟩
  omega
 .obtain rfl:k=O es:=Y;go_wp2;go_ret;exact⟨rfl,p⟩
theorem a0Z:jM prog 131 134 1 4:=Yn.ok
theorem Mt(v1:aF)(es:List Nat)(aR head:Nat)(w:aA)(h:CI w v1 es)(F:oB es aR)(h6:O es<=6)(hh:head<2^32):
  aH prog 104 #[.agg #[i6 i7 aR,v1],i6 kd head] w λe w'=>∃u,e=i5 (i8 #[.agg #[i6 i7 aR,u],i6 i7 0])/\wY w w' u (es++[head&&&xT es])/\U w [] w' []:=by
 obtain⟨ad,cap,rfl,-⟩:=h.len;let⟨wa,o⟩:=E (e8 (e8 w (h8 #[J aR,hY ad (O es) cap] 133)) (h8 #[J 0,cH] 133));have q:U w [] wa []:=o▸((U.refl w []).alloc _).alloc _;have kB:rW wa w.heap.size #[J aR,hY ad (O es) cap] 133:=by rw[<-o];exact kV ..
 have eQ:rW wa (hJ w.heap+1) #[J 0,cH] 133:=by rw[<-o];exact kU ..
 have A1:hJ wa.heap=hJ w.heap+1+1:=by rw[<-o];simp
 go_in;go_upto_region 1 with(fail);have b0:=Zc kB 0;have b1:=Zc kB 1;go_wp2_with (first
  |(go_at_call 143;apply(ia _ es aR _ (h.on (q.dd g)) Y).cF;rintro e w3 ⟨u3,rfl,Oq,r⟩;obtain⟨a3,c3,rfl,-⟩:=Oq.len;have d0:=r.cell V X;have d1:=r.cell W X)
  |(go_at_call 142;apply(Uj _ es aR _ (h.on q) F h6).cL;intro w2 g;have V:=g.cell b0 X;have W:=g.cell b1 X))
 let⟨B,S⟩:=E (hJ w3.heap);let⟨w4,k⟩:=E (e8 w3 (h8 #[J aR,hY a3 (O es) c3] 133));have z:=Za k;have D1:rW w4 B #[J aR,hY a3 (O es) c3] 133:=by rw[<-k,<-S];exact lK ..
 have N:=(show hJ w2.heap<=B by rw[<-S];exact r.size);rw[k,S];have DY:=Z (Oq.on z);have kQ:=((q.dd g).dd (r.dd z));have p:=(r.dd z);have p0:=z.cell d0 X;have p1:=z.cell d1 X;have q1:=Zc D1 1;have GH:=Z (WM F.dM (O es));refine ee 9 (eb q1<|eb p0<|d7 p1) (λQ=> ?_);refine dw [0,1,2,3] ?_;refine Zo 4 λqL hK=> ?_;go_simp;go_at_call 145;apply(Uw _ es aR w4.drew (h.on kQ.drew) F).cF;rintro e w5 ⟨rfl,m⟩;dsimp only;have m:=(U.refl w4 []).drew.dd m;have Q:=dX (m.cell Q.1 X) (dX (m.cell Q.2.1 X) (m.cell Q.2.2 X));refine j8 ?_;clear hK qL;refine Zo 5 λqL hK=> ?_;go_simp;go_at_call 144;apply(Vj head (xT es) hh GH.out w5).cF;rintro e w5' ⟨rfl,rfl⟩;dsimp only;refine j8 ?_;clear hK qL;refine Zo 6 λqL hK=> ?_;go_simp;let⟨w6,iA⟩:=E (e8 w5 (h8 #[i6 kd ((head&&&xT es:Nat):Int)] 134));have L:=Za iA;have hN:rW w6 w5.heap.size [i6 kd ((head&&&xT es:Nat):Int)].toArray 134:=by rw[<-iA];exact lK ..
 have Q:=dX (L.cell Q.1 X) (dX (L.cell Q.2.1 X) (L.cell Q.2.2 X));rw[iA];refine j8 ?_;clear hK qL;refine Zo 7 λqL hK=> ?_;have n:=m.dd L;have hm:=F.hm;obtain⟨v',w7,dP,wW,fM,l,a7,G,rfl⟩:=jR (wb:=w2) (w:=w6) a0Z Y 131 (DY.on n) (p.dd n) (fV _) (p.dd n).size (E8 (f:=EN) (d:=0) hN rfl (head&&&xT es) (dH rfl)) (λy hy j hj=>rfl) (by simp;omega) (by unfold bw;simp;omega);refine dJ _ _ rfl Yr Yr dP ?_;have c:=DY.on n;have R:=n.aC D1 X;have pS:=(q.dd g).size;have aYM:=g.size;have Q:=dX (l.cell Q.1 (c.ne R D)) (dX (l.cell Q.2.1 (c.zW (by show hJ w.heap<_;omega))) (l.cell Q.2.2 (c.zW (by show hJ w.heap<_;omega))));have P:=l.aC R (c.ne R D);have q1:=Q.1;have qf:=aM P;have RH:=Z wW;refine j8 ?_;clear hK qL;refine I 8 ?_;refine Zo 9 λqL hK=> ?_;go_simp;refine MH ?_;clear hK qL;let⟨w8,wP⟩:=E (ey w7 (Ad B 1) (hY a7 (O es+1) G));have l:U w7 [B] w8 [B]:=wP▸pX w7 B 1 _;have Hn:rW w8 B #[J aR,hY a7 (O es+1) G] 133:=by rw[<-wP];exact aE (i:=1) _ P
 have OY:=Z (RH.set P D l);have G6:=(fM.aZ l (λb C=>by simp at C;subst C;exact N));have r0:=Zc Hn 0;have r1:=Zc Hn 1;have a:=G6.aC (g.aC eQ X) X;have t0:=Zc a 0;have t1:=Zc a 1;have tf:=aM a;rw[wP];go_wp2;have hS:=XB (x:=J aR) (y:=hY a7 (O es+1) G) a;refine mD (aT (A:=⟨hJ w.heap+1,0,K⟩) (T:=133) rfl Yr (v:= .agg #[J aR,hY a7 (O es+1) G]) (by go_simp)) rfl ?_;exact⟨_,rfl,(OY.set a D hS.2).eE Y,((q.dd g).dd G6).aZ hS.2 (λb C=>by simp at C;omega)⟩
theorem ZM145{P:Prop}(h:P:=by
  go_wp2;all_goals
   go_meet;exact⟨rfl,wJ j4 (by rw[HD.o])⟩):P:=h
def cnt(p:Nat->Bool)(k:Nat):Nat:=O ((List.range k).filter p)
theorem Ao(p:Nat->Bool)(k:Nat):cnt p (k+1)=cnt p k+if p k then 1 else 0:=QL
theorem ie(p:Nat->Bool)(k:Nat):cnt p k<=k:=IZ
def To(es:List Nat)(x i:Nat):Bool:=(ep es i 0).testBit x
def LC(es:List Nat)(x y i:Nat):Bool:=To es x i&&To es y i
def KQ(es:List Nat)(x y i:Nat):Bool:=To es x i&& !To es y i
def BK(es:List Nat)(x y i:Nat):Bool:= !To es x i&&To es y i
def tW(es:List Nat)(head x y:Nat):Bool:=
 (decide (0<cnt (LC es x y) (O es))&&decide (0<cnt (KQ es x y) (O es))&&decide (0<cnt (BK es x y) (O es))&&decide (x<y))||
 (decide (0<cnt (LC es x y) (O es))&&decide (cnt (KQ es x y) (O es)=0)&&decide (0<cnt (BK es x y) (O es))&&head.testBit x&& !head.testBit y)
def OJ(es:List Nat)(aR head:Nat):Bool:=(List.range aR).any λx=>(List.range aR).any λy=>tW es head x y
theorem AE{t u v x:Tmp}(h:fn.results=#[.tmp t,.tmp u,.tmp v,.tmp x])(tmps:Array aF)(P:cu)(w:aA):
  (results fn tmps).run P w= .ok (i8 #[tmps.getD t undef,tmps.getD u undef,tmps.getD v undef,tmps.getD x undef]) w:=by
 simp[results,h]
theorem zt(v1:aF)(es:List Nat)(aR head:Nat)(w:aA)(h:CI w v1 es)(N:oB es aR)(h6:O es<=6)(hh:head<2^32):
  aH prog 106 #[.agg #[i6 i7 aR,v1],i6 kd head] w λe w'=>∃x y:Int,e=i5 (i8 #[i6 i7 x,i6 i7 y,j4 (OJ es aR head),i6 i7 0])/\U w [] w' []:=by
 obtain⟨ad,cap,rfl,-⟩:=h.len;have hv:=N.hv;have HH:=Z hh;let⟨wa,dE⟩:=E (e8 w (h8 #[J aR,hY ad (O es) cap] 133));have cR:=Za dE;have b0:e7 wa ⟨w,0,K⟩=H (J aR):=dE▸aL (lK w _) rfl;have b1:e7 wa ⟨w,1,K⟩=H (hY ad (O es) cap):=dE▸aL (lK w _) rfl;go_in;go_wp2_with (go_at_call 142;apply(Uj _ es aR _ (h.on cR) N h6).cL;intro w2 bH;have c0:=bH.cell b0 X;have c1:=bH.cell b1 X;have eM:=(cR.dd bH));go_loopg [8] aR (λg i wr=>U w2 [] wr []/\∃k:Nat,k<=aR/\g=aR-k/\i=J k/\∀x,x<k->∀y,y<aR->tW es head x y=po)
 .exact⟨U.refl _ _,0,Y,rfl,rfl,λx hx=>Y⟩
 obtain⟨c,x,hx,rfl,rfl,fS⟩:=hrel;have d0:=c.cell c0 X;by_cases hxl:x<aR
 .go_wp2;go_loopg [9] aR (λg i wr=>U w2 [] wr []/\∃k:Nat,k<=aR/\g=aR-k/\i=J k/\∀y,y<k->tW es head x y=po)
  .exact⟨c,0,Y,rfl,rfl,λy hy=>Y⟩
  obtain⟨c,y,hy,rfl,rfl,m⟩:=hrel;have d0:=c.cell c0 X;have d1:=c.cell c1 X;by_cases SB:y<aR
  .go_wp2;go_loopg [10,11,12,13] (O es) (λg tb tx ty i wr=>U w2 [] wr []/\∃k:Nat,k<=O es/\g=O es-k/\i=J k/\tb=J (cnt (LC es x y) k:Int)/\tx=J (cnt (KQ es x y) k:Int)/\ty=J (cnt (BK es x y) k:Int))
   .exact⟨c,0,Y,rfl,rfl,rfl,rfl,rfl⟩
   obtain⟨c,k,hk,rfl,rfl,rfl,rfl,rfl⟩:=hrel;have d0:=c.cell c0 X;have d1:=c.cell c1 X;by_cases aV:k<O es
   .let⟨g,o,cap',Xk,e0⟩:=(h.on (eM.dd c)).DR aV;injection Xk with x1 x2 x3;subst x1 x3;simp only[EN]at e0;have hS:=N.dM _ (bM (d:=0) aV);have U6:=ie (LC es x y) k;have I8:=ie (KQ es x y) k;have T:=ie (BK es x y) k;have HB:=(Ao (LC es x y) k);have HX:=(Ao (KQ es x y) k);have HY:=(Ao (BK es x y) k);have qL:To es x k=(ep es k 0).testBit x:=rfl;have n:To es y k=(ep es k 0).testBit y:=rfl;have hm:=N.hm;obtain⟨S,Hm⟩:∃S,ep es k 0=S:=⟨_,rfl⟩;rw[Hm]at e0 hS qL n;obtain⟨B,hB'⟩:∃B,cnt (LC es x y) k=B:=⟨_,rfl⟩;obtain⟨a,V⟩:∃a,cnt (KQ es x y) k=a:=⟨_,rfl⟩;obtain⟨b,hY'⟩:∃b,cnt (BK es x y) k=b:=⟨_,rfl⟩;rw[hB']at HB U6|-;rw[V]at HX I8|-;rw[hY']at HY T|-;let⟨p,r⟩:=E (S.testBit x);let⟨q,v⟩:=E (S.testBit y);have L:dT (∀j:aA,tR 107 #[i6 kd (S:Int),It x] j λe w'=>e=i5 (j4 p)/\w'=j):=Z λj=>(iV S x hS j Y).mono λe w' h=>dX (h.1.dd (by rw[r])) h.2.symm;have Q:dT (∀j:aA,tR 107 #[i6 kd (S:Int),It y] j λe w'=>e=i5 (j4 q)/\w'=j):=Z λj=>(iV S y hS j Y).mono λe w' h=>dX (h.1.dd (by rw[v])) h.2.symm;have W:dT (LC es x y k=(p&&q)):=Z (by unfold LC;rw[qL,n,r,v]);have P:dT (KQ es x y k=(p&& !q)):=Z (by unfold KQ;rw[qL,n,r,v]);have R:dT (BK es x y k=(!p&&q)):=Z (by unfold BK;rw[qL,n,r,v]);rw[W.o]at HB;rw[P.o]at HX;rw[R.o]at HY;go_wp2;go_quiet ((go_at_call 107;first|with_reducible exact Calls.quiet_of_same (L.o _)|with_reducible exact Calls.quiet_of_same (Q.o _)));cases p<;>cases q
    all_goals
     go_wp2;go_roundg (O es-(k+1))
     .exact⟨c.drewN _,k+1,Y,rfl,eO,by rw[HB];go_num,by rw[HX];go_num,by rw[HY];go_num⟩
     omega
   .obtain rfl:k=O es:=Y;have l:dT (tW es head x y=((decide (0<cnt (LC es x y) (O es))&&decide (0<cnt (KQ es x y) (O es))&&decide (0<cnt (BK es x y) (O es))&&decide (x<y))||
     (decide (0<cnt (LC es x y) (O es))&&decide (cnt (KQ es x y) (O es)=0)&&decide (0<cnt (BK es x y) (O es))&&head.testBit x&& !head.testBit y))):=Z rfl
    let⟨B,z⟩:=E (cnt (LC es x y) (O es));let⟨a,u⟩:=E (cnt (KQ es x y) (O es));let⟨b,A⟩:=E (cnt (BK es x y) (O es));rw[z,u,A];rw[z,u,A]at l;let⟨p,r⟩:=E (head.testBit x);let⟨q,v⟩:=E (head.testBit y);have L:=Z λj=>(iV head x HH j Y).mono λe w' h=>dX (h.1.dd (by rw[r])) h.2;have Q:=Z λj=>(iV head y HH j Y).mono λe w' h=>dX (h.1.dd (by rw[v])) h.2;rw[r,v]at l;go_upto_region 20 with(fail);go_cut [101] (λs wx=>wr=wx/\s=j4 (tW es head x y))
    case first=>
     by_cases z:0<B
     .have g1:decide ((0:Int)<(B:Int))=oj:=kI Y;have g1':decide (0<B)=oj:=kI z;by_cases A:0<b
      .have g3:decide ((0:Int)<(b:Int))=oj:=kI Y;have g3':decide (0<b)=oj:=kI A;by_cases u:0<a
       .have g2:decide ((0:Int)<(a:Int))=oj:=kI Y;have g2':decide (0<a)=oj:=kI u;have g4:((a:Int)==0)=po:=(show((a:Int)==0)=decide (a=0)from dA a 0)▸jO Y;have g4':¬a=0:=Y;by_cases t:x<y
        .have g5:decide ((x:Int)<(y:Int))=oj:=kI Y;have g5':decide (x<y)=oj:=kI t;have HD:dT (tW es head x y=oj):=Z (by rw[l.o];simp[z,u,A,t]);exact ZM145
        .have g5:decide ((x:Int)<(y:Int))=po:=jO Y;have g5':decide (x<y)=po:=jO t;have HD:dT (tW es head x y=po):=Z (by rw[l.o];simp[t];intros;omega);exact ZM145
       .obtain rfl:a=0:=Y;have HD:dT (tW es head x y=(p&& !q)):=Z (by rw[l.o];simp[z,A]);cases p with
        |true=>
         go_wp2_with fail;apply(L.o _).cF;rintro e w2 ⟨rfl,rfl⟩;go_wp2_with fail;apply(Q.o _).cF;rintro e w2 ⟨rfl,rfl⟩;go_wp2;go_meet;exact⟨rfl,by rw[HD.o,Bt]⟩
        |false=>
         go_wp2_with fail;apply(L.o _).cF;rintro e w2 ⟨rfl,rfl⟩;go_wp2;go_meet;exact⟨rfl,by rw[HD.o,Bool.false_and]⟩
      .obtain rfl:b=0:=Y;have HD:dT (tW es head x y=po):=Z (by rw[l.o];simp);by_cases u:0<a
       .have g2:decide ((0:Int)<(a:Int))=oj:=kI Y;have g2':decide (0<a)=oj:=kI u;have g4:((a:Int)==0)=po:=(show((a:Int)==0)=decide (a=0)from dA a 0)▸jO Y;have g4':¬a=0:=Y;exact ZM145
       .obtain rfl:a=0:=Y;go_wp2;all_goals
         go_meet;exact⟨rfl,wJ j4 (by rw[HD.o])⟩
     .obtain rfl:B=0:=Y;have HD:dT (tW es head x y=po):=Z (by rw[l.o];simp);exact ZM145
    case rest=>
     obtain⟨rfl,rfl⟩:=hcut;let⟨C,hC⟩:=E (tW es head x y);rw[hC];have l:=Z hC;cases C with
     |true=>
      have HR:dT (OJ es aR head=oj):=Z (by
       unfold OJ;exact kq.2 ⟨x,yD.2 hxl,kq.2 ⟨y,yD.2 SB,l⟩⟩)
      go_wp2;(try simp only[Exit.inBlock,Exit.then])
      refine mD (AE rfl _ _ _) rfl ?_;exact⟨x,y,by rw[HR.o];rfl,eM.dd c⟩
     |false=>
      go_wp2;go_roundg (aR-(y+1))
      .exact⟨c,y+1,Y,rfl,eO,λF G=>by
       by_cases h:F=y
       .subst h;exact l.o
       .exact m F Y⟩
      omega
  .have m:dT (∀y,y<aR->tW es head x y=po):=Z λF h=>m F Y;go_wp2;go_roundg (aR-(x+1))
   .exact⟨c,x+1,Y,rfl,eO,λf Du=>by
    by_cases h:f=x
    .subst h;exact m
    .exact fS f Y⟩
   omega
 .have HR:dT (OJ es aR head=po):=Z (by
   unfold OJ;rw[List.any_eq_false];intro f Du;rw[Bool.not_eq_true,List.any_eq_false];intro F G;rw[fS f (nA (yD.1 Du)) F (yD.1 G)];decide)
  go_wp2;(try simp only[Exit.inBlock,Exit.then])
  refine mD (AE rfl _ _ _) rfl ?_;exact⟨0,0,by rw[HR.o];rfl,eM.dd c⟩
def AR(es:List Nat)(aR head:Nat):Bool:=jZ es aR&&jZ (es++[head&&&xT es]) aR
theorem oB.vP(h:oB es aR)(c:O es<=6)(head:Nat):oB (es++[head&&&xT es]) aR:=by
 refine⟨h.hv,by simp;omega,λs hs=> ?_⟩;rcases EY.1 hs with hs|hs
 .exact h.xD s hs
 .obtain rfl:=Yj.1 hs;refine Og Nat.and_le_right ?_;have:∀(l:List Nat) (s:Nat),(∀x,x∈l->x<2^aR)->s<2^aR->l.foldl (λs x=>s|||x) s<2^aR:=by
   intro l;induction l with
   |nil=>intro s _ h;exact h
   |cons x l ih=>intro s a h;exact ih _ (λy b=>a y (RL _ b)) (Nat.or_lt_two_pow h (a x (rg ..)))
  exact this _ 0 (λx a=>h.xD x (List.mem_of_mem_take a)) (Nat.two_pow_pos aR)
theorem QU(v1:aF)(es:List Nat)(aR head:Nat)(w:aA)(h:CI w v1 es)(b:oB es aR)(G:O es<=6)(L:head<2^32):
  aH prog 64 #[.agg #[i6 i7 aR,v1],i6 kd head] w λe w'=>e=i5 (i8 #[j4 (jZ es aR),j4 (AR es aR head),j4 (!OJ es aR head),i6 i7 0])/\U w [] w' []:=by
 obtain⟨ad,cap,rfl,-⟩:=h.len;have hv:=b.hv;let⟨wa,N⟩:=E (e8 w (h8 #[J aR,hY ad (O es) cap] 133));have i:=Za N;have k:rW wa w.heap.size #[J aR,hY ad (O es) cap] 133:=N▸lK ..;have b0:=Zc k 0;have r:=Zc k 1;have W:O es+1<=7:=Y;let⟨A,z⟩:=E (jZ es aR);have g:dT (AR es aR head=(A&&jZ (es++[head&&&xT es]) aR)):=Z (by unfold AR;rw[z]);have p:dT (∀a,U wa [] a []->tR 105 #[.agg #[J aR,hY ad (O es) cap]] a λe w'=>e=i5 (j4 A)/\U a [] w' []):=
  Z λa B=>(Af _ es aR a (h.on (i.dd B)) b.hm Y b.dM).mono λe w' h=>⟨h.1.dd (by rw[z]),h.2⟩
 rw[z];go_in;have T:dT (∀a,U wa [] a []->tR 106 #[.agg #[J aR,hY ad (O es) cap],i6 kd head] a λe w'=>∃x y:Int,e=i5 (i8 #[J x,J y,j4 (OJ es aR head),J 0])/\U a [] w' []):=
  Z λa B=>zt _ es aR head a (h.on (i.dd B)) b G L
 have j:=(b.vP G head);have v:O (es++[head&&&xT es])=O es+1:=X;go_upto_region 6 with(first
  |(go_at_call 106;apply(T.o _ l).cF;rintro e w5 ⟨cx,cy,rfl,c⟩;have Q:=(l.dd c).cell b0 X;have R:=(l.dd c).cell r X;have m0:=(d.dd c).cell P X;have m1:=(d.dd c).cell k1 X;have f:=(l.dd c);have q:=(d.dd c))
  |(go_at_call 105;apply(p.o _ n).cL;intro w4 d;have Q:=(n.dd d).cell b0 X;have R:=(n.dd d).cell r X;have l:=(n.dd d))
  |(go_at_call 104;apply(Mt _ es aR head _ (h.on i) b G L).cF;rintro e w2 ⟨u,rfl,C,F⟩;obtain⟨ua,uc,rfl,-⟩:=C.len;rw[v]at C|-;let⟨w3,qL⟩:=E (e8 w2 (h8 #[i6 i7 aR,hY ua (O es+1) uc] 133));have m:=Za qL;have S:rW w3 w2.heap.size #[i6 i7 aR,hY ua (O es+1) uc] 133:=(qL▸lK ..);obtain⟨P,k1⟩:=Z2 S;have c0:=(F.dd m).cell b0 X;have c1:=(F.dd m).cell r X;have n:=(F.dd m)))
 cases A with
 |false=>
  go_wp2;(try simp only[Exit.inBlock,Exit.then])
  refine mD (AE rfl _ _ _) rfl ?_;exact⟨by rw[g.o];rfl,i.dd f⟩
 |true=>
  have hE:=Af (hY ua (O es+1) uc) (es++[head&&&xT es]) aR w5 (by exact ((C.on m)).rd.on q) j.hm Y j.dM;go_wp2_with (go_at_call 105;apply hE.cL;intro w6 dK);(try simp only[Exit.inBlock,Exit.then])
  refine mD (AE rfl _ _ _) rfl ?_;exact⟨by rw[g.o];rfl,i.dd (f.dd dK)⟩
end Go.Proofs.YtbcooplfakebmaaGreatDoor
