/- Part of the proof that the tied card of a law of the tree holds; no condition is added. -/
import Derived.WalkKit
import Derived.WalkSpells
import Derived.WalkLawsBesides
import Derived.OneCell
import Derived.Deep.Draws
import Derived.KernelRfl
import Derived.Lib.Hide
import Init
import Derived.Test.YtohhhhfdpceppaaGreatDoorRows
import Derived.OrdersHeld
import Derived.Deep.RegionHeld3
import Derived.Laws.MakeOwn
import Derived.Laws.CopyRow
import Derived.Deep.AppendSrc
import Derived.BigQuiet
import Derived.IntWalk
import Derived.Deep.DeepCutAuto
import Derived.Deep.LoopGhost
import Derived.Shelf.Abstract
import Derived.Laws.BitsAllLaws
import Derived.BigRegion
import Derived.Deep.QuietTactic
import Derived.StillTailTactics
import Derived.Handy
import Derived.Maps.OwnSet
import Derived.Maps.Views
import Derived.Lib.SliceRun
import Derived.Laws.Bits64
import Derived.Laws.Bits64b
import Derived.Laws.BytesArg
import Derived.RangeFuncNested
import Derived.RangeFuncBound
import Derived.RangeFuncCalls
import Derived.RangeFuncLeaves
import Derived.Shelf.RegionOpen
import Derived.OwnWalkIn
import Derived.TacticsInMore
import Derived.LoopNIn
import Derived.LoopIn
import Derived.OrdersIn
import Derived.Lib.Bytealg
import Derived.ProofKit
import Derived.Deep.Slices
import Derived.ChangeSame
import Derived.Test.YtohhhhfdpceppaaGreatDoorTie
import Derived.Test.YtohhhhfdpceppaaGreatDoorCards
import Derived.OpenShut
import Derived.Deep.DeepHandedRow
import Derived.Lib.LaidTab
namespace Go.Proofs.YtohhhhfdpceppaaGreatDoor
set_option maxHeartbeats 4000000
set_option maxRecDepth 100000
set_option linter.all false
open Go.RowKit Go.Maps Go.Proofs.Tryz Tryz
open _root_.Array renaming size→i7,getElem?_toList→zn,getElem?_append_left→zo,getElem?_eq_getElem→Ct,size_append→H3
open _root_.Bool renaming false→rR,true→qT,and_assoc→oq,false_or→B2,not_eq_true'→EB,or_eq_true→Wj,false_and→Yo,and_true→Zn,not_and→a06
open _root_.Go.Ending renaming returned→mi
open _root_.Go.IntKind renaming i64→mn,u32→nr,u8→n9
open _root_.Go.Obj renaming cells→kd
open _root_.Go.Value renaming bool→nj,int→mj,ownBlock→i6,pointer→lr,slice→jS,string→mX,tuple→mr
open _root_.Go.World renaming alloc→i5,cell?→h8,setCell→hY
open _root_.Inhabited renaming default→sT
open _root_.List renaming getD→hJ,length→O,range→gz,findSome?_cons→oj,getElem?_toArray→vW,any_eq_false→x',not_all_eq_any_not→yo,map_congr_left→y',getElem?_take→zb,getElem?_append_left→z',ext_getElem→Bk,length_nil→B4,replicate→Co,take_add_one→F6,size_toArray→Ic,findIdx?_eq_some_iff_getElem→IF,range_succ→I3,takeWhile_cons→JJ,filter_filter→Lf,map_singleton→L1,mem_of_find?_eq_some→Ps,length_range→Qn,ext_getElem?→Qt,append_assoc→SN,flatMap_cons→S0,findIdx?_eq_none_iff→T1,all_eq_false→Uh,mem_or_eq_of_mem_set→U1,map_map→V7,not_of_lt_findIdx→Xd,findSome?_append→Xm,contains_iff_mem→Ye,mem_append_right→Yj,mem_erase_of_ne→Ys,filter_eq_self→YE,getD_cons_succ→YT,flatMap_append→Zh,ne_nil_of_mem→Zt,getElem_idxOf→a00,filter_congr→a07,getElem?_set→a0b
open _root_.Option renaming none→K,some→H,map_eq_none_iff→I2,none_or→KH
theorem _root_.Iff.ds{a b c:Prop}(h:a↔b)(k:b↔c):a↔c:=h.trans k
theorem _root_.Eq.ds{α:Sort _}{a b c:α}(h:a=b)(k:b=c):a=c:=h.trans k
open Go renaming World→aA,Value→aE,Calls→aK,TypeId→ap,maxLen→bH,Ending→cc,Addr→cg,Program→cj
open Go.RowKit renaming Hid→dT
open _root_.Nat renaming two_pow_pos→wn,testBit_and→zN,mod_eq_of_lt→B0,or_lt_two_pow→B5,testBit_or→B6,lt_of_lt_of_le→Dc,le_trans→El,testBit_mod_two_pow→EA,eq_zero_or_pos→L3,sub_mul→OM,zero_testBit→VL,mod_lt→V4,div_lt_iff_lt_mul→Yd,mul_comm→a02,succ_mul→a03,zero_add→a05
variable{c c' k':Nat}
theorem Z{p:Prop}(h:p):RowKit.Hid p:=h
theorem _root_.Go.RowKit.Hid.o{p:Prop}(h:RowKit.Hid p):p:=h
theorem D{α:Sort _}(e:α):∃x,e=x:=⟨e,rfl⟩
theorem Y{p:Prop}(h:p:=by omega):p:=h
theorem J{p:Prop}(h:p:=by simp):p:=h
theorem E{p:Prop}(h:p:=by decide):p:=h
theorem Yr{p:Prop}(h:p:=by rfl):p:=h
theorem eP{A P:Prop}(a:A)(h:A->P:=by intro a;simpa using a):P:=h a
theorem dJ{P:Prop}(h:P:=by kernel_rfl):P:=h
theorem eY{P:Prop}(h:P:=by go_num):P:=h
theorem BC{P:Prop}(h:P:=by grind):P:=h
theorem eI{a b:Prop}(h:a)(k:b):a/\b:=⟨h,k⟩
@[reducible,go_sem]def X(n:Int):aE:=mj mn n
@[reducible,go_sem]def cR:aE:=jS K 0 0
@[reducible]def eZ:Nat->Prop:=λ_=>False
theorem IK{a b:Option cg}{k:Nat}(h:(jS a k c)=jS b k' c'):a=b:=by injection h
abbrev gV:=@List.getD_eq_getElem?_getD
abbrev kU:=@List.getElem?_eq_getElem
abbrev kE:=@decide_eq_false
abbrev kY:=@decide_eq_true
abbrev fV:=@Nat.le_refl
abbrev O9:=@Nat.zero_le
abbrev j8:=@Nat.le_trans
abbrev xF:=@Nat.lt_of_lt_of_le
abbrev r8:=@List.length_map
abbrev E7:=@List.length_append
abbrev qZ:=@Nat.add_zero
abbrev UB:=@List.setIfInBounds_toArray
abbrev yC:=@Nat.mul_one
abbrev xZ:=@List.mem_cons
abbrev GD:=@beq_eq_false_iff_ne
abbrev UA:=@List.mem_cons_of_mem
abbrev TU:=@List.take_length
abbrev Nc:=@Bool.false_eq_true
abbrev yU:=@List.mem_append
abbrev Fk:=@Nat.pow_le_pow_right
abbrev QY:=@IntWalk.i64_in
abbrev O8:=@Option.getD_some
abbrev wW:=@List.mem_range
abbrev TT:=@List.length_cons
abbrev PI:=@List.length_take
abbrev Ty:=@List.length_singleton
abbrev Fj:=@Nat.eq_of_testBit_eq
abbrev QX:=@decide_eq_true_eq
abbrev QW:=@List.map_append
abbrev zbE:=@List.getElem?_append_left
abbrev Nb:=@List.nil_append
abbrev AE:=@List.mem_map
abbrev Fi:=@Bool.eq_iff_iff
abbrev TS:=@List.length_set
abbrev du:=@Nat.lt_of_lt_of_eq
abbrev Sq:=@Nat.mul_le_mul_right
abbrev Na:=@List.getElem_of_mem
abbrev Ge:=@List.drop_eq_getElem_cons
abbrev zbN:=@Nat.testBit_lt_two_pow
abbrev KR:=@List.map_cons
abbrev Sp:=@Nat.lt_of_le_of_lt
abbrev ic:=@List.length_replicate
abbrev So:=@List.getElem?_map
abbrev gu:=@List.getElem_mem
abbrev zbT:=@Classical.byContradiction
abbrev dt:=@List.length_eq_zero_iff
abbrev dr:=@List.range_succ
abbrev LC:=@List.mem_filter
abbrev zbX:=@Int.toNat_natCast
abbrev Fh:=@List.nodup_append
abbrev zbZ:=@List.cons_append
abbrev Gd:=@Nat.not_lt_zero
abbrev R:=@if_neg
abbrev bW:=@if_pos
abbrev dY:=@absurd
abbrev LQ:=@beq_iff_eq
abbrev xE:=@congrArg
abbrev yN:=@if_true
abbrev E6:=@if_false
abbrev U9:=@List.set_cons_zero
abbrev X9:=@List.set_cons_succ
abbrev Gc:=@List.mem_singleton
abbrev U8:=@List.nodup_cons
abbrev My:=@Bool.and_eq_true
abbrev Tx:=@List.getElem_cons_zero
abbrev Tw:=@List.getElem_cons_succ
abbrev um:=@List.foldl_append
abbrev zcV:=@List.append_assoc
abbrev zcW:=@List.mem_of_getLast?
abbrev ul:=@List.mem_of_getElem?
abbrev VN:=@Bool.true_and
abbrev uj:=@List.any_eq_true
abbrev Tv:=@List.all_eq_true
abbrev YB:=@Nat.lt_or_ge
abbrev zdC:=@List.mem_cons_self
abbrev ui:=@List.append_nil
abbrev zdE:=@List.filter_eq_nil_iff
abbrev zdF:=@List.filter_append
abbrev zdG:=@List.length_filter_le
abbrev zdH:=@List.take_of_length_le
theorem nZ{p:Nat->Prop}:∀x,eZ x->p x:=λ_ h=>h.elim
theorem vF{α:Sort _}{β:α->Sort _}{p:∀x,β x->Prop}:∀x y,p x y->p x y:=λ_ _ h=>h
theorem kX{A P:Prop}(a:A)(h:A->P:=by intro a;omega):P:=h a
theorem pN{A B P:Prop}(a:A)(b:B)(h:A->B->P:=by intro a b;omega):P:=h a b
theorem kG{A P:Prop}(a:A)(h:A->P:=by intro a;rw[a];omega):P:=h a
theorem GC{P:Prop}(h:P:=by unfold bH;omega):P:=h
@[reducible,go_sem]def zzR(v:aE):cc:=mi v
@[reducible,go_sem]def zzs(s:ByteArray):aE:=mX s
instance zzW:CoeOut aA Nat:=⟨λw=>i7 w.heap⟩
variable{e i:Nat}
section
theorem ZM170{P:Prop}(h:P:=by
  exact h.one v i j hi hj (this i hi ti) (this j hj tj)):P:=h
def Ig(S:Nat->Nat->Prop)(r:Nat)(dI:Nat->Nat)(v i:Nat):Prop:=S i v/\(i=r\/¬S (dI i) v)
structure KN(ns:List Nat)(S:Nat->Nat->Prop)(r:Nat)(dI rk:Nat->Nat):Prop where
 dQ:r∈ns
 up:∀i,i∈ns->i≠r->dI i∈ns/\rk (dI i)<rk i
 one:∀v i j,i∈ns->j∈ns->Ig S r dI v i->Ig S r dI v j->i=j
def pG(ns:List Nat)(S:Nat->Nat->Prop):Prop:=∃r dI rk,KN ns S r dI rk
section
variable{ns:List Nat}{S:Nat->Nat->Prop}{r:Nat}{dI rk:Nat->Nat}
theorem KN.aNZ(h:KN ns S r dI rk):∀n i,rk i<=n->i∈ns->i≠r->rk r<rk i
 |n,i,hn,hi,hr=>by
  let⟨b,a⟩:=h.up i hi hr;by_cases c:dI i=r
  .grind
  .match n,hn with
   |0,hn=>omega
   |n+1,hn=>exact Nat.lt_trans (h.aNZ n (dI i) Y b c) a
theorem KN.mL(h:KN ns S r dI rk)(v:Nat):∀n i,rk i<=n->i∈ns->S i v->∃t,t∈ns/\Ig S r dI v t/\(t=i\/∃c,c∈ns/\c≠r/\dI c=t)
 |n,i,hn,hi,hv=>by
  by_cases b:i=r
  .exact⟨i,hi,⟨hv,.inl b⟩,.inl rfl⟩
  .by_cases a:S (dI i) v
   .let⟨d,j⟩:=h.up i hi b;match n,hn with
    |0,hn=>omega
    |n+1,hn=>
     let⟨t,e,l,g⟩:=h.mL v n (dI i) Y d a;grind
   .exact⟨i,hi,⟨hv,.inr a⟩,.inl rfl⟩
theorem KN.down(h:KN ns S r dI rk)(G:c∈ns)(vm:c≠r)(f:dI c=r):
  KN ns S c (λi=>if i=r then c else dI i) (λi=>if i=c then 0 else rk i+1) where
 dQ:=G
 up:=λi n b=>by
  by_cases p:i=r
  .grind
  .let⟨u,a⟩:=h.up i n p;simp only[if_neg p,if_neg b];refine⟨u,?_⟩;split<;>omega
 one:=λv i j n B A C=>by
  have gP:∀x,x∈ns->Ig S c (λi=>if i=r then c else dI i) v x->x≠c->Ig S r dI v x/\(x=r->¬S c v):=by
   intro x N L m;obtain⟨u,a⟩:=L;by_cases w:x=r
   .subst w;rcases a with a|a
    .exact dY a m
    .simp only[yN]at a;exact⟨⟨u,.inl rfl⟩,λ_=>a⟩
   .rcases a with a|a
    .exact dY a m
    .simp only[R w]at a;exact⟨⟨u,.inr a⟩,λe=>dY e w⟩
  have q:∀y,y∈ns->Ig S c (λi=>if i=r then c else dI i) v y->S c v->y=c:=by
   intro y z ty hv;by_cases d:y=c
   .exact d
   .let⟨F,k2⟩:=gP y z ty d;by_cases g:S r v
    .have:=h.one v y r z h.dQ F ⟨g,.inl rfl⟩;grind
    .exact dY (h.one v y c z G F ⟨hv,.inr (f▸g)⟩) d
  by_cases b:i=c
  .subst b;exact(q j B C A.1).symm
  .by_cases l:j=c
   .subst l;exact q i n A C.1
   .exact h.one v i j n B (gP i n A b).1 (gP j B C l).1
theorem KN.Jg(h:KN ns S r dI rk):∀n i,rk i<=n->i∈ns->∃a b,KN ns S i a b/\∀j,j∈ns->rk i<rk j->a j=dI j
 |n,i,hn,hi=>by
  by_cases p:i=r
  .grind
  .let⟨q,m⟩:=h.up i hi p;match n,hn with
   |0,hn=>omega
   |n+1,hn=>
    let⟨a,b,d,g⟩:=h.Jg n (dI i) Y q;have l:=g i hi m;have c:i≠dI i:=λe=>by grind
    refine⟨_,_,d.down hi c l,λj u v=> ?_⟩;grind
theorem pG.at(h:pG ns S)(c:i∈ns):∃dI rk,KN ns S i dI rk:=by
 obtain⟨r,dI,rk,h⟩:=h;let⟨a,b,d,_⟩:=h.Jg _ i (fV _) c;grind
theorem pG.congr{S':Nat->Nat->Prop}(h:pG ns S)(c:∀i v,i∈ns->(S i v↔S' i v)):pG ns S':=by
 obtain⟨r,dI,rk,h⟩:=h;refine⟨r,dI,rk,h.dQ,h.up,λv i j hi hj ti tj=> ?_⟩;have:∀x,x∈ns->Ig S' r dI v x->Ig S r dI v x:=λx b d=>by
  refine⟨(c x v b).2 d.1,?_⟩;by_cases a:x=r
  .exact .inl a
  .exact .inr (λhs=>(d.2.resolve_left a) ((c _ v (h.up x b a).1).1 hs))
 exact ZM170
theorem pG.aT7{ms:List Nat}(h:pG ns S)(a:∀i,i∈ns↔i∈ms):pG ms S:=by
 obtain⟨r,dI,rk,h⟩:=h;exact⟨r,dI,rk,(a r).1 h.dQ,λi b c=>⟨(a _).1 (h.up i ((a i).2 b) c).1,(h.up i ((a i).2 b) c).2⟩,λv i j b d=>h.one v i j ((a i).2 b) ((a j).2 d)⟩
theorem pG.aEA{S':Nat->Nat->Prop}{C:Nat->Prop}(g:∀v,C v->∀j,j∈ns->j≠e->¬S j v)(m:∀i v,i∈ns->(S' i v↔S i v/\¬(i=e/\C v))):pG ns S↔pG ns S':=by
 have d:∀v,¬C v->∀i,i∈ns->(S' i v↔S i v):=λv hv i hi=>by
  grind
 constructor
 .rintro⟨r,dI,rk,h⟩;refine⟨r,dI,rk,h.dQ,h.up,λv i j hi hj ti tj=> ?_⟩;by_cases hv:C v
  .grind [Ig]
  .have:∀x,x∈ns->Ig S' r dI v x->Ig S r dI v x:=λx c b=>by
    refine⟨(d v hv x c).1 b.1,?_⟩;by_cases a:x=r
    .exact .inl a
    .exact .inr (λhs=>(b.2.resolve_left a) ((d v hv _ (h.up x c a).1).2 hs))
   exact ZM170
 .rintro⟨r,dI,rk,h⟩;refine⟨r,dI,rk,h.dQ,h.up,λv i j hi hj ti tj=> ?_⟩;by_cases hv:C v
  .have:∀x,x∈ns->Ig S r dI v x->x=e:=λx c b=>zbT λl=>g v hv x c l b.1;rw[this i hi ti,this j hj tj]
  .have:∀x,x∈ns->Ig S r dI v x->Ig S' r dI v x:=λx c b=>by
    refine⟨(d v hv x c).2 b.1,?_⟩;by_cases a:x=r
    .exact .inl a
    .exact .inr (λhs=>(b.2.resolve_left a) ((d v hv _ (h.up x c a).1).1 hs))
   exact ZM170
theorem pG.aGv{ms:List Nat}{k:Nat}(B:e∈ns)(l:k∈ns)(d:e≠k)(N:∀v,S e v->S k v)(a:∀i,i∈ms↔i∈ns/\i≠e):pG ns S↔pG ms S:=by
 constructor
 .intro h;let⟨dI,rk,h⟩:=h.at l;let⟨Q,m⟩:=h.up e B d;have T:dI e≠e:=λx=>by rw[x]at m;omega
  have P:∀v,S e v->S (dI e) v:=λv hv=>zbT λw=>d (h.one v e k B l ⟨hv,.inr w⟩ ⟨N v hv,.inl rfl⟩);refine⟨k,λi=>if dI i=e then dI e else dI i,rk,(a k).2 ⟨l,Ne.symm d⟩,λi b p=> ?_,λv i j b z u y=> ?_⟩
  .let⟨b,c⟩:=(a i).1 b;let⟨A,n⟩:=h.up i b p;grind
  .have:∀x,Ig S k (λi=>if dI i=e then dI e else dI i) v x->Ig S k dI v x:=λx g=>by
    refine⟨g.1,g.2.imp id λw=> ?_⟩;grind
   exact h.one v i j ((a i).1 b).1 ((a j).1 z).1 (this i u) (this j y)
 .rintro⟨r,dI,rk,h⟩;have V:k∈ms:=(a k).2 ⟨l,Ne.symm d⟩;have o:=((a r).1 h.dQ).2;refine⟨r,λi=>if i=e then k else dI i,λi=>if i=e then rk k+1 else rk i,((a r).1 h.dQ).1,λi b q=> ?_,λv i j b z u y=> ?_⟩
  .by_cases c:i=e
   .grind
   .let⟨A,n⟩:=h.up i ((a i).2 ⟨b,c⟩) q;grind
  .have:∀x,x∈ns->Ig S r (λi=>if i=e then k else dI i) v x->x∈ms/\Ig S r dI v x:=λx F g=>by
    obtain⟨A,n⟩:=g;by_cases L:x=e
    .grind
    .refine⟨(a x).2 ⟨F,L⟩,A,n.imp id λw=> ?_⟩;grind
   let⟨vm,G⟩:=this i b u;let⟨f,C⟩:=this j z y;exact h.one v i j vm f G C
theorem QI(f:Nat->Nat):∀(l:List Nat),l≠[]->∃i,i∈l/\∀j,j∈l->f j<=f i
 |[],h=>dY rfl h
 |[a],_=>⟨a,J,λj c=>by grind⟩
 |a::b::l,_=>by
  let⟨i,e,d⟩:=QI f (b::l) J;grind
theorem pG.stuck(h:pG ns S)(g:∀i v,i∈ns->S i v->∃j,j∈ns/\j≠i/\S j v)(y:∀i j,i∈ns->j∈ns->i≠j->∃v,S i v/\¬S j v):∀i v,i∈ns->¬S i v:=by
 obtain⟨r,dI,rk,h⟩:=h;let⟨i,d,A⟩:=QI rk ns (Zt h.dQ);have a:i=r:=zbT λa=>by
  let⟨q,z⟩:=h.up i d a;let⟨v,hv,x⟩:=y i (dI i) d q (λe=>by grind);let⟨j,p,l,n⟩:=g i v d hv;let⟨t,u,w,b⟩:=h.mL v _ j (fV _) p n;obtain rfl:t=i:=h.one v t i u d w ⟨hv,.inr x⟩;rcases b with b|⟨c,b,m,B⟩
  .exact l b.symm
  .have:=(h.up c b m).2;grind
 subst a;have QA:∀j,j∈ns->j=i:=λj p=>zbT λl=>by
  have q:=h.aNZ _ j (fV _) p l;grind
 grind
theorem pG.iu{vm:Nat->Prop}{hd:Nat}(h:pG (hd::ns) S)(l:hd∉ns)(hK:∀i v,i∈ns->S i v->(vm v↔S hd v))(n:∀i v,i∈ns->S i v->¬vm v->∃j,j∈ns/\j≠i/\S j v)(L:∀i j,i∈ns->j∈ns->i≠j->∃v,S i v/\¬S j v):∀i v,i∈ns->S i v->vm v:=by
 let⟨dI,rk,h⟩:=h.at (zdC ..);have F:∀i,i∈ns->i≠hd:=λi a e=>l (e▸a);have g:∀{i},i∈ns->i∈hd::ns:=λa=>UA _ a;have T:∀i,i∈ns->dI i=hd:=by
  intro Q C;refine zbT λm=> ?_;let⟨i,a,B⟩:=QI rk (ns.filter λi=>decide (dI i≠hd)) (Zt (LC.2 ⟨C,kY m⟩));let⟨a,q⟩:=LC.1 a;have q:=of_decide_eq_true q;let⟨N,P⟩:=h.up i (g a) (F i a);have p:=(xZ.1 N).resolve_left q;have f:∀c,c∈hd::ns->c≠hd->dI c≠i:=λc u x e=>by
   have r:=(xZ.1 u).resolve_left x;have:=B c (LC.2 ⟨r,kY BC⟩);have:=(h.up c u x).2;grind
  let⟨v,hv,G⟩:=L i (dI i) a p (λe=>by grind);have V:∀j,j∈hd::ns->S j v->j=i:=λj w b=>by
   let⟨t,y,A,u⟩:=h.mL v _ j (fV _) w b;obtain rfl:t=i:=h.one v t i y (g a) A ⟨hv,.inr G⟩;grind
  grind
 intro i v a hv;refine zbT λd=> ?_;let⟨j,w,z,b⟩:=n i v a hv d;have k:¬S hd v:=λhs=>d ((hK i v a hv).2 hs);exact z (h.one v j i (g w) (g a) ⟨b,.inr BC⟩ ⟨hv,.inr BC⟩)
theorem pG.aEU(i:Nat)(S:Nat->Nat->Prop):pG [i] S:=
 ⟨i,id,id,J,λj d e=>dY (eP d) e,λv a b ha c _ _=>by simp at ha c;rw[ha,c]⟩
end
end
variable{b j n:Nat}
abbrev ES:=Nat×Nat
def fS(a b:Nat):Nat:=a^^^(a&&&b)
theorem cH(a b v:Nat):(fS a b).testBit v=(a.testBit v&& !b.testBit v):=by
 unfold fS;rw[Nat.testBit_xor,zN];cases a.testBit v<;>cases b.testBit v<;>rfl
def part(a b:Nat):Bool:=fS a b==0
theorem jV{a:Nat}:part a b=qT↔∀v,a.testBit v=qT->b.testBit v=qT:=by
 unfold part;rw[LQ];constructor
 .intro h v hv;have:=cH a b v;grind
 .intro h;refine Fj λv=> ?_;grind [cH]
theorem DT{a:Nat}(h:a≠0):∃v,a.testBit v=qT:=by
 refine zbT λb=>h (Fj λv=> ?_);grind
theorem Bb{a:Nat}(h:part a b=rR):∃v,a.testBit v=qT/\b.testBit v=rR:=by
 have:fS a b≠0:=λe=>by grind [part]
 let⟨v,hv⟩:=DT this;grind [cH]
def AG(l:List ES):Nat:=l.foldr (λx s=>x.2|||s) 0
theorem rH(l:List ES)(v:Nat):(AG l).testBit v=l.any λx=>x.2.testBit v:=by
 induction l with
 |nil=>simp[AG]
 |cons x l ih=>
  show(x.2|||AG l).testBit v=_;rw[B6,ih,List.any_cons]
def vM(l:List ES)(e:Nat):Nat:=AG (l.filter λx=>x.1 !=e)
structure cU where
 aG:Nat
 bY:Nat
 eR:Nat
 cut:Nat
deriving DecidableEq,Inhabited
def kL(l:List ES)(eb:Nat)(x:ES):Nat:=fS (fS x.2 eb) (vM l x.1)
def iR(l:List ES)(eb:Nat):Option cU:=(l.find? λx=>kL l eb x !=0).map λx=>⟨1,x.1,0,kL l eb x⟩
def iK:List ES->Option cU
 |[]=>K
 |x::r=>((r.find? λy=>y.2==x.2).map λy=>⟨2,y.1,x.1,0⟩).or (iK r)
def pR(l:List ES):Option cU:=l.findSome? λx=>(l.find? λy=>x.2 !=y.2&&part x.2 y.2).map λy=>⟨3,x.1,y.1,0⟩
def next(l:List ES)(eb:Nat):Option cU:=(iR l eb).or ((iK l).or (pR l))
def make(l:List ES)(s:cU):List ES:=if s.aG=1 then l.map λx=>if x.1=s.bY then(x.1,fS x.2 s.cut)else x else l.filter λx=>x.1 !=s.bY
def Mem(l:List ES)(e v:Nat):Prop:=∃s,(e,s)∈l/\s.testBit v=qT
def mV(l:List ES):List Nat:=l.map (·.1)
def JT(l:List ES):Prop:=pG (mV l) (Mem l)
theorem D2{l:List ES}(hd:(mV l).Nodup){s t:Nat}(a:(e,s)∈l)(b:(e,t)∈l):s=t:=by
 induction l with
 |nil=>cases a
 |cons x l ih=>
  grind [mV]
theorem kR{l:List ES}:e∈mV l↔∃s,(e,s)∈l:=by
 grind [mV]
theorem J6{l:List ES}{v:Nat}:(vM l e).testBit v=qT↔∃j,j≠e/\Mem l j v:=by
 unfold vM;rw[rH,uj];constructor
 .rintro⟨x,a,hv⟩;let⟨a,b⟩:=LC.1 a;exact⟨x.1,by simpa using b,x.2,a,hv⟩
 .rintro⟨j,c,s,hs,hv⟩;exact⟨(j,s),LC.2 ⟨hs,by simpa using c⟩,hv⟩
def v8(l:List ES)(eb:Nat)(s:cU):Prop:=
 (s.aG=1/\s.eR=0/\∃t,(s.bY,t)∈l/\s.cut=kL l eb (s.bY,t)/\s.cut≠0)\/
 ((s.aG=2\/s.aG=3)/\s.cut=0/\s.bY≠s.eR/\∃a b,(s.bY,a)∈l/\(s.eR,b)∈l/\part a b=qT)
theorem uO{l:List ES}(hd:(mV l).Nodup){s:cU}(h:iK l=H s):s.aG=2/\s.cut=0/\s.bY≠s.eR/\∃a,(s.bY,a)∈l/\(s.eR,a)∈l:=by
 induction l with
 |nil=>cases h
 |cons x r ih=>
  rw[mV,KR,U8]at hd;unfold iK at h;cases b:r.find? λy=>y.2==x.2 with
  |none=>
   rw[b]at h;let⟨d,g,c,a,i,e⟩:=ih hd.2 (eP h);grind
  |some y=>
   grind
theorem A6{l:List ES}(h:iK l=K):l.Pairwise λx y=>y.2≠x.2:=by
 induction l with
 |nil=>simp_all
 |cons x r ih=>
  unfold iK at h;rw[Option.or_eq_none_iff]at h;refine List.Pairwise.cons (λy a b=> ?_) (ih h.2);grind [I2]
theorem D9{l:List ES}(hd:(mV l).Nodup){s:cU}(h:pR l=H s):s.aG=3/\s.cut=0/\s.bY≠s.eR/\∃a b,(s.bY,a)∈l/\(s.eR,b)∈l/\part a b=qT:=by
 unfold pR at h;let⟨x,c,h⟩:=List.exists_of_findSome?_eq_some h;grind [Option.map_eq_some_iff,D2]
theorem Bf{l:List ES}(h:pR l=K){x y:ES}(a:x∈l)(c:y∈l)(b:x.2≠y.2):part x.2 y.2=rR:=by
 grind [pR,I2]
theorem jG{l:List ES}(hd:(mV l).Nodup){eb:Nat}{s:cU}(h:next l eb=H s):v8 l eb s:=by
 unfold next at h;cases c:iR l eb with
 |some t=>
  rw[c]at h;obtain rfl:t=s:=eP h;unfold iR at c;obtain⟨x,e,rfl⟩:=Option.map_eq_some_iff.1 c;exact .inl ⟨rfl,rfl,x.2,Ps e,rfl,BC⟩
 |none=>
  rw[c]at h;cases d:iK l with
  |some t=>
   rw[d]at h;obtain rfl:t=s:=eP h;obtain⟨a1,a2,a3,a,a4,a5⟩:=uO hd d;exact .inr ⟨.inl a1,a2,a3,a,a,a4,a5,jV.2 λ_ hv=>hv⟩
  |none=>
   rw[d]at h;obtain⟨a1,a2,a3,a,b,a4,a5,a6⟩:=D9 hd (eP h);exact .inr ⟨.inr a1,a2,a3,a,b,a4,a5,a6⟩
theorem UP{l:List ES}{eb:Nat}(h:next l eb=K):iR l eb=K/\iK l=K/\pR l=K:=by
 grind [next]
theorem rJ{l:List ES}{s:cU}(h:s.aG=1):mV (make l s)=mV l:=by
 unfold make mV;rw[bW h,V7];refine y' λx _=> ?_;show(if x.1=s.bY then(x.1,fS x.2 s.cut)else x).1=x.1;split<;>rfl
theorem rK{l:List ES}{s:cU}(h:s.aG≠1):mV (make l s)=(mV l).filter λi=>i !=s.bY:=by
 unfold make mV;rw[R h,List.filter_map];rfl
theorem pU{l:List ES}(hd:(mV l).Nodup)(s:cU):(mV (make l s)).Nodup:=by
 grind [rJ,rK]
theorem OZ{l:List ES}{s:cU}(h:s.aG=1)(i v:Nat):Mem (make l s) i v↔Mem l i v/\¬(i=s.bY/\s.cut.testBit v=qT):=by
 grind [Mem,make,fS]
theorem P1{l:List ES}{s:cU}(h:s.aG≠1)(i v:Nat):Mem (make l s) i v↔Mem l i v/\i≠s.bY:=by
 grind [Mem,make]
theorem v8.jt{l:List ES}(hd:(mV l).Nodup){eb:Nat}{s:cU}(h:v8 l eb s):JT l↔JT (make l s):=by
 unfold JT;rcases h with⟨c,_,t,u,q,_⟩|⟨c,q,m,a,b,ha,d,r⟩
 .rw[rJ c];refine pG.aEA (e:=s.bY) (C:=λv=>s.cut.testBit v=qT) (λv hv j w p y=> ?_) (λi v _=>OZ c i v);grind [kL,cH,J6]
 .have z:s.aG≠1:=Y;refine(pG.aGv (e:=s.bY) (k:=s.eR) (ms:=mV (make l s)) (kR.2 ⟨a,ha⟩) (kR.2 ⟨b,d⟩) m (λv hv=> ?_) (λi=> ?_)).trans ?_
  .obtain⟨x,n,hv⟩:=hv;rw[D2 hd n ha]at hv;exact⟨b,d,jV.1 r v hv⟩
  .grind [rK]
  .have:∀i v,i∈mV (make l s)->(Mem l i v↔Mem (make l s) i v):=λi v g=>by
    grind [P1,rK]
   exact⟨λh=>h.congr this,λh=>h.congr λi v g=>(this i v g).symm⟩
theorem aBV{l:List ES}{s:cU}{x:ES}(h:x.1≠s.bY):make (x::l) s=x::make l s:=by
 grind [make]
theorem v8.aB5{l:List ES}{hd f:Nat}(j:(mV ((hd,f)::l)).Nodup){eb:Nat}(x:part f eb=qT){s:cU}(h:v8 l eb s):JT ((hd,f)::l)↔JT ((hd,f)::make l s):=by
 have w:∀{i t},(i,t)∈l->i≠hd:=λ{i t} m e=>by
  grind [mV]
 have r:(hd,f).1≠s.bY:=by
  rcases h with⟨_,_,t,g,_,_⟩|⟨_,_,_,a,_,ha,_,_⟩
  .grind
  grind
 rw[<-aBV r];rcases h with⟨c,m,t,g,d,n⟩|⟨c,d,p,a,b,ha,q,u⟩
 .refine v8.jt j (eb:=eb) (.inl ⟨c,m,t,UA _ g,?_,n⟩);rw[d];refine Fj λv=> ?_;grind [kL,cH,jV,vM,rH]
 .exact v8.jt j (eb:=eb) (.inr ⟨c,d,p,a,b,UA _ ha,UA _ q,u⟩)
def bits(s:Nat):Nat:=O ((List.range 32).filter λv=>s.testBit v)
def eS(l:List ES):Nat:=(l.map λx=>bits x.2+1).sum
theorem aLT{a:Nat}(i:a<2^32)(d:c≠0)(e:∀v,c.testBit v=qT->a.testBit v=qT):bits (fS a c)<bits a:=by
 unfold bits;let⟨v,hv⟩:=DT d;have b:v<32:=by
  rcases YB v 32 with h|h
  .exact h
  .have:=zbN (xF i (Fk E h));grind
 have g:((gz 32).filter λv=>(fS a c).testBit v)=((gz 32).filter λv=>a.testBit v).filter λv=> !c.testBit v:=by
  rw[Lf];refine a07 λx _=> ?_;rw[cH,Bool.and_comm]
 rw[g];refine List.length_filter_lt_length_iff_exists.2 ⟨v,LC.2 ⟨wW.2 b,e v hv⟩,?_⟩;rw[hv];simp
theorem mQ(x:ES)(l:List ES):eS (x::l)=bits x.2+1+eS l:=by
 unfold eS;rw[KR,List.sum_cons]
def kM(l:List ES):Prop:=∀x,x∈l->x.2<2^32
theorem C8(a b:Nat):fS a b<=a:=Nat.le_of_testBit λv hv=>by
 grind [cH]
theorem DA{l:List ES}(h:kM l)(s:cU):kM (make l s):=by
 intro x a;unfold make at a;split at a
 .obtain⟨y,b,rfl⟩:=AE.1 a;split
  .exact Sp (C8 _ _) (h y b)
  .exact h y b
 .exact h x (LC.1 a).1
theorem LR(l:List ES)(e c:Nat):eS (l.map λx=>if x.1=e then(x.1,fS x.2 c)else x)<=eS l:=by
 induction l with
 |nil=>exact fV _
 |cons x l ih=>
  rw[KR,mQ,mQ];have:bits (if x.1=e then(x.1,fS x.2 c)else x).2<=bits x.2:=by
   split
   .unfold bits;have a:((gz 32).filter λv=>(fS x.2 c).testBit v)=((gz 32).filter λv=>x.2.testBit v).filter λv=> !c.testBit v:=by
     rw[Lf];refine a07 λy _=> ?_;rw[cH,Bool.and_comm]
    grind
   omega
  omega
theorem ZB(l:List ES)(e:Nat):eS (l.filter λx=>x.1 !=e)<=eS l:=by
 induction l with
 |nil=>exact fV _
 |cons x l ih=>
  grind [mQ]
theorem qA{l:List ES}(hs:kM l){eb:Nat}{s:cU}(h:v8 l eb s):eS (make l s)<eS l:=by
 unfold make;rcases h with⟨g,_,t,e,n,j⟩|⟨g,n,q,a,b,ha,r,u⟩
 .rw[bW g];have m:∀v,s.cut.testBit v=qT->t.testBit v=qT:=λv hv=>by
   grind [kL,cH]
  have gP:∀l:List ES,(s.bY,t)∈l->eS (l.map λx=>if x.1=s.bY then(x.1,fS x.2 s.cut)else x)<eS l:=by
   intro l;induction l with
   |nil=>intro h;cases h
   |cons x l ih=>
    intro d;rw[KR,mQ,mQ];rcases xZ.1 d with d|d
    .subst d;have i:=LR l s.bY s.cut;have p:=aLT (a:=t) (c:=s.cut) (hs _ e) j m;grind
    .have i:=ih d;have p:=LR [x] s.bY s.cut;grind [mQ]
  exact gP l e
 .rw[R Y];have gP:∀l:List ES,(s.bY,a)∈l->eS (l.filter λx=>x.1 !=s.bY)<eS l:=by
   intro l;induction l with
   |nil=>intro h;cases h
   |cons x l ih=>
    intro d;rw[List.filter_cons];rcases xZ.1 d with d|d
    .subst d;have i:=ZB l s.bY;grind [mQ]
    grind [mQ]
  exact gP l ha
def run(eb:Nat):Nat->List ES->List cU×List ES
 |0,l=>([],l)
 |n+1,l=>match next l eb with
  |none=>([],l)
  |some s=>(s::(run eb n (make l s)).1,(run eb n (make l s)).2)
theorem M6{eb:Nat}{l:List ES}(h:next l eb=K):run eb n l=([],l):=by
 cases n with
 |zero=>rfl
 |succ n=>unfold run;rw[h]
theorem M5{eb:Nat}{l:List ES}{s:cU}(h:next l eb=H s):run eb (n+1) l=(s::(run eb n (make l s)).1,(run eb n (make l s)).2):=by
 rw[run,h]
theorem GK{eb:Nat}{p:List ES->Prop}(b:∀l s,(mV l).Nodup->kM l->p l->next l eb=H s->p (make l s)):∀n l,eS l<=n->(mV l).Nodup->kM l->p l->
  p (run eb n l).2/\(mV (run eb n l).2).Nodup/\kM (run eb n l).2/\next (run eb n l).2 eb=K
 |n,l,hw,hd,hs,h=>by
  cases a:next l eb with
  |none=>grind [M6]
  |some s=>
   have c:=qA hs (jG hd a);match n,hw with
   |0,hw=>omega
   |n+1,hw=>
    rw[M5 a];exact GK b n (make l s) Y (pU hd s) (DA hs s) (b l s hd hs h a)
theorem W7{l:List ES}{eb:Nat}{s:cU}(h:v8 l eb s):make l s≠[]:=by
 intro i;rcases h with⟨c,_,t,g,_,_⟩|⟨c,j,d,a,b,ha,m,e⟩
 .grind [make,List.map_eq_nil_iff]
 grind [make,List.filter_eq_nil_iff]
theorem ZT{l:List ES}{eb:Nat}(a:iR l eb=K){v:Nat}(n:Mem l i v)(g:eb.testBit v=rR):∃j,j∈mV l/\j≠i/\Mem l j v:=by
 obtain⟨t,e,hv⟩:=n;unfold iR at a;rw[I2,List.find?_eq_none]at a;have p:kL l eb (i,t)=0:=eP (a _ e);have d:(kL l eb (i,t)).testBit v=rR:=by rw[p,VL]
 rw[kL,cH,cH,hv,g]at d;have m:(vM l i).testBit v=qT:=eP d;let⟨j,q,c⟩:=J6.1 m;have b:=c;obtain⟨s,hs,_⟩:=b;grind [kR]
theorem Iz{l:List ES}(hd:(mV l).Nodup)(d:iK l=K)(r:pR l=K)(z:i∈mV l)(x:j∈mV l)(C:i≠j):∃v,Mem l i v/\¬Mem l j v:=by
 let⟨a,ha⟩:=kR.1 z;let⟨b,g⟩:=kR.1 x;have w:a≠b:=by
  intro e;subst e;have u:=A6 d;rw[List.pairwise_iff_forall_sublist]at u;let⟨p,n,F⟩:=Na ha;let⟨q,B,A⟩:=Na g;have m:=List.pairwise_iff_getElem.1 (A6 d);grind
 have:=Bf r ha g w;let⟨v,y,d⟩:=Bb this;refine⟨v,⟨a,ha,y⟩,λ⟨c,hc,hv⟩=> ?_⟩;grind [D2]
theorem au{l:List ES}(A:l≠[])(hd:(mV l).Nodup)(hs:kM l)(F:eS l<=n):JT l↔∀x,x∈(run 0 n l).2->x.2=0:=by
 let⟨⟨d,c⟩,B,L,C⟩:=GK (eb:=0) (p:=λf=>(JT l↔JT f)/\f≠[]) (λf s a _ q b=>⟨q.1.trans (v8.jt a (jG a b)),W7 (jG a b)⟩) n l F hd hs ⟨Iff.rfl,A⟩;let⟨k,g,G⟩:=UP C;rw[d];generalize (run 0 n l).2=f at*;constructor
 .intro h x e;refine zbT λm=> ?_;let⟨v,hv⟩:=DT m;exact pG.stuck h (λi v _ w=>ZT k w (VL v)) (λi j z d u=>Iz B g G z d u) x.1 v (kR.2 ⟨x.2,e⟩) ⟨x.2,e,hv⟩
 .intro h;match f,c with
  |[x],_=>exact pG.aEU x.1 _
  |x::y::r,_=>
   have vm:=A6 g;simp_all
theorem qy{l:List ES}(hd:(mV l).Nodup)(hs:kM l)(Q:eS l<=n)(eb:Nat)(G:e∉mV l):
  JT ((e,eb&&&AG l)::l)↔∀x,x∈(run eb n l).2->part x.2 eb=qT:=by
 have hH:part (eb&&&AG l) eb=qT:=jV.2 λv hv=>by grind
 let⟨⟨w,d,a⟩,Cx,Xb,z⟩:=GK (eb:=eb) (p:=λf=>(JT ((e,eb&&&AG l)::l)↔JT ((e,eb&&&AG l)::f))/\e∉mV f/\∀i v,Mem f i v->(AG l).testBit v=qT)
  (λf s N _ hf V=>by
   grind [jG,v8.aB5,mV,rJ,rK,OZ,P1]) n l Q hd hs ⟨Iff.rfl,G,λi v g=>by
   obtain⟨t,A,hv⟩:=g;grind [rH]⟩
 let⟨W,k,T⟩:=UP z;rw[w];generalize (run eb n l).2=f at*;generalize AG l=bEl at*;have b:(mV ((e,eb&&&bEl)::f)).Nodup:=by grind [mV]
 have eB:∀{i},i∈mV f->i≠e:=λm h=>d (h▸m);have u:∀i v,i∈mV f->(Mem ((e,eb&&&bEl)::f) i v↔Mem f i v):=λi v m=>by
  unfold Mem;grind
 have P:∀v,Mem ((e,eb&&&bEl)::f) e v↔(eb.testBit v=qT/\bEl.testBit v=qT):=λv=>by
  grind [Mem,D2]
 constructor
 .intro h x B;refine jV.2 λv hv=> ?_;have r:Mem f x.1 v:=⟨x.2,B,hv⟩;have c:x.1∈mV f:=kR.2 ⟨x.2,B⟩;refine pG.iu (vm:=λv=>eb.testBit v=qT) (hd:=e) (ns:=mV f) h d (λi v m g=> ?_) (λi v m g hk=> ?_) (λi j m w fd=> ?_) x.1 v c ((u _ _ c).2 r)
  .grind
  .grind [ZT]
  grind [Iz]
 .intro h;clear w W k T z;have gP:∀f:List ES,(mV ((e,eb&&&bEl)::f)).Nodup->(∀x,x∈f->part x.2 eb=qT)->(∀i v,Mem f i v->bEl.testBit v=qT)->JT ((e,eb&&&bEl)::f):=by
   intro f;induction f with
   |nil=>intro _ _ _;exact pG.aEU e _
   |cons x f ih=>
    intro b C a;have q:=b;rw[mV,KR,KR,U8,U8]at q;have S:x.1≠e:=λh=>q.1 BC;have L:v8 ((e,eb&&&bEl)::x::f) 0 ⟨2,x.1,e,0⟩:= .inr ⟨.inl rfl,rfl,S,x.2,eb&&&bEl,J,J,jV.2 λv hv=>by
     rw[zN,My];exact⟨jV.1 (C x J) v hv,a x.1 v ⟨x.2,J,hv⟩⟩⟩
    rw[v8.jt b L];have o:make ((e,eb&&&bEl)::x::f) ⟨2,x.1,e,0⟩=(e,eb&&&bEl)::f:=by
     grind [make,YE]
    rw[o];refine ih ?_ (λy F=>C y (UA _ F)) (λi v g=> ?_)
    .grind [mV]
    .obtain⟨t,A,hv⟩:=g;exact a i v ⟨t,UA _ A,hv⟩
  grind
variable{dI:List Int}{aU:Nat}
def tB(dI:List Int):Nat->Int->Int
 |0,a=>a
 |n+1,a=>if a<0 then a else tB dI n (hJ dI a.toNat 0)
def vA(dI:List Int):Bool:=(List.range (O dI)).all λi=>decide (tB dI (O dI) (i:Int)<0)
def KS(aJ:List Nat)(dI:List Int)(v i:Nat):Bool:=(hJ aJ i 0).testBit v&&(decide (hJ dI i 0<0)|| !(hJ aJ (hJ dI i 0).toNat 0).testBit v)
def CA(aJ:List Nat)(aU:Nat)(dI:List Int):Bool:=(List.range aU).all λv=>
 !((List.range (O aJ)).any λi=>(hJ aJ i 0).testBit v)||O ((List.range (O aJ)).filter λi=>KS aJ dI v i)==1
def DL(m:Nat)(test:List Int->Bool):Nat->List Int->Bool
 |0,pre=>test pre
 |k+1,pre=>(List.range m).any λp=>p !=O pre&&DL m test k (pre++[(p:Int)])
def kT(aJ:List Nat)(aU:Nat):Bool:=
 aJ.isEmpty||DL (O aJ) (λdI=>vA dI&&CA aJ aU dI) (O aJ-1) [-1]
def cD(aJ:List Nat):List ES:=(List.range (O aJ)).map λi=>(i,hJ aJ i 0)
theorem rL(aJ:List Nat):mV (cD aJ)=gz (O aJ):=by
 unfold mV cD;rw[V7];exact List.map_id' _
theorem pS{aJ:List Nat}{s:Nat}:(i,s)∈cD aJ↔i<O aJ/\s=hJ aJ i 0:=by
 grind [cD]
theorem zZ{aJ:List Nat}{v:Nat}:Mem (cD aJ) i v↔i<O aJ/\(hJ aJ i 0).testBit v=qT:=by
 grind [Mem,pS]
theorem VC(m:Nat)(a:List Int->Bool):∀k b,DL m a k b=qT↔∃c:List Int,O c=k/\(∀j,j<k->∃p:Nat,p<m/\p≠O b+j/\hJ c j 0=(p:Int))/\a (b++c)=qT
 |0,b=>by
  unfold DL;constructor
  .intro h;exact⟨[],rfl,λj l=>Y,by simpa using h⟩
  .rintro⟨c,hl,_,h⟩;rw[dt.1 hl]at h;simpa using h
 |k+1,b=>by
  unfold DL;rw[uj];constructor
  .rintro⟨p,v,h⟩;rw[My,bne_iff_ne]at h;let⟨c,hl,hs,d⟩:=(VC m a k _).1 h.2;refine⟨(p:Int)::c,by simp[hl],λj l=> ?_,by simpa using d⟩;cases j with
   |zero=>exact⟨p,wW.1 v,by simpa using h.1,rfl⟩
   |succ j=>
    let⟨q,g,i,e⟩:=hs j Y;refine⟨q,g,?_,by simpa using e⟩;simp at i;omega
  .rintro⟨c,hl,hs,d⟩;match c,hl with
   |x::c,hl=>
    let⟨p,g,i,e⟩:=hs 0 Y;have r:x=(p:Int):=eP e;subst r;refine⟨p,wW.2 g,?_⟩;rw[My,bne_iff_ne];refine⟨by simpa using i,(VC m a k _).2 ⟨c,by simpa using hl,λj l=> ?_,by simpa using d⟩⟩;let⟨q,u,k2,n⟩:=hs (j+1) Y;refine⟨q,u,?_,by simpa using n⟩;simp;omega
theorem Lu{a:Int}(h:a<0):tB dI n a=a:=by
 cases n with
 |zero=>rfl
 |succ n=>unfold tB;rw[bW h]
def depth(dI:List Int)(i:Nat):Nat:=((List.range (O dI+1)).find? λn=>decide (tB dI n (i:Int)<0)).getD 0
theorem Ed(h:vA dI=qT)(g:i<O dI):tB dI (depth dI i) (i:Int)<0/\∀n,tB dI n (i:Int)<0->depth dI i<=n:=by
 unfold vA at h;rw[Tv]at h;have q:tB dI (O dI) (i:Int)<0:=of_decide_eq_true (h i (wW.2 g));unfold depth;cases e:(gz (O dI+1)).find? λn=>decide (tB dI n (i:Int)<0)with
 |none=>
  grind
 |some d=>
  refine⟨of_decide_eq_true BC,λn l=> ?_⟩;rcases YB n (O dI+1)with m|j
  .show d<=n;let⟨_,a,bs,c,v⟩:=List.find?_eq_some_iff_append.1 e;rcases YB n d with b|b
   .exfalso;have u:(gz (O dI+1))[O a]? =H d:=by rw[c];simp
    have hd:O a=d:=by
     grind
    have r:n∈a:=by
     have hl:n<O a:=Y;have p:(gz (O dI+1))[n]? =H a[n]:=by rw[c,zbE hl,kU hl]
     grind
    grind
   .exact b
  grind
theorem qr{α:Type}{l:List α}{p:α->Bool}(h:O (l.filter p)=1){a b:α}(ha:a∈l)(j:b∈l)(g:p a=qT)(d:p b=qT):a=b:=by
 have c:a∈l.filter p:=LC.2 ⟨ha,g⟩;have e:b∈l.filter p:=LC.2 ⟨j,d⟩;let⟨x,i⟩:=List.length_eq_one_iff.1 h;rw[i]at c e;simp at c e;rw[c,e]
theorem Hc{α:Type}{l:List α}(hd:l.Nodup){p:α->Bool}{a:α}(ha:a∈l)(i:p a=qT)(h:∀b,b∈l->p b=qT->b=a):O (l.filter p)=1:=by
 have d:=hd.filter (p:=p);have g:a∈l.filter p:=LC.2 ⟨ha,i⟩;have c:∀b,b∈l.filter p->b=a:=λb e=>h b (LC.1 e).1 (LC.1 e).2;generalize l.filter p=f at*;match f,d,g,c with
 |[x],_,_,_=>rfl
 |x::y::r,d,_,c=>
  simp_all
theorem Zu{ns:List Nat}(rk:Nat->Nat)(a:i∈ns)(h:rk i<rk j):O (ns.filter λx=>decide (rk x<rk i))<O (ns.filter λx=>decide (rk x<rk j)):=by
 have:(ns.filter λx=>decide (rk x<rk i))=(ns.filter λx=>decide (rk x<rk j)).filter λx=>decide (rk x<rk i):=by
  rw[Lf];grind
 rw[this];refine List.length_filter_lt_length_iff_exists.2 ⟨i,LC.2 ⟨a,kY h⟩,?_⟩;simp
theorem WW{aJ:List Nat}(A:∀s,s∈aJ->s<2^aU)(eB:aJ≠[]):kT aJ aU=qT↔JT (cD aJ):=by
 have L:=List.length_pos_iff.2 eB;have y:∀i v,(hJ aJ i 0).testBit v=qT->i<O aJ/\v<aU:=λi v h=>by
  grind [Nat.testBit_lt_two_pow,Dc,Nat.pow_le_pow_right]
 unfold kT;rw[show aJ.isEmpty=rR by grind,B2,VC];unfold JT;rw[rL];constructor
 .rintro⟨c,hl,hs,r⟩;rw[My]at r;obtain⟨N,q⟩:=r;have l:O ([-1]++c)=O aJ:=by simp[hl];omega
  have S:∀i,i<O aJ->i≠0->∃p:Nat,p<O aJ/\hJ ([-1]++c) i 0=(p:Int):=λi a d=>by
   grind
  generalize hP:([-1]++c:List Int)=dI at*;have d:hJ dI 0 0= -1:=by rw[<-hP];rfl
  refine⟨0,λi=>(hJ dI i 0).toNat,depth dI,wW.2 L,λi a fe=> ?_,λv i j a W k tj=> ?_⟩
  .have a:=wW.1 a;let⟨p,hp,Q⟩:=S i a fe;show(hJ dI i 0).toNat∈_/\depth dI (hJ dI i 0).toNat<depth dI i;rw[Q,zbX];refine⟨wW.2 hp,?_⟩;let⟨g,u⟩:=Ed N (i:=i) Y;let⟨_,h4⟩:=Ed N (i:=p) Y;cases hd:depth dI i with
   |zero=>
    rw[hd]at g;exact dY (show(i:Int)<0 from g) Y
   |succ n=>
    grind [tB,Int.toNat_natCast]
  .have hi1:=wW.1 a;have hj1:=wW.1 W;let⟨_,z⟩:=y i v (zZ.1 k.1).2;unfold CA at q;rw[Tv]at q;have g:=q v (wW.2 z);have m:((gz (O aJ)).any λi=>(hJ aJ i 0).testBit v)=qT:=uj.2 ⟨i,a,(zZ.1 k.1).2⟩;rw[m,Bool.not_true,B2,LQ]at g;have aB7:∀x,x<O aJ->Ig (Mem (cD aJ)) 0 (λi=>(hJ dI i 0).toNat) v x->KS aJ dI v x=qT:=λx vm G=>by
    unfold KS;rw[(zZ.1 G.1).2,VN,Wj];by_cases V:x=0
    .grind
    .refine .inr ?_;have u:=G.2.resolve_left V;grind [zZ]
   grind [qr]
 .intro h;let⟨dI,rk,h⟩:=pG.at h (wW.2 L);let c:List Int:=(gz (O aJ-1)).map λj=>(dI (j+1):Int);have hl:O c=O aJ-1:=by simp[c]
  have nx:∀j,j<O aJ-1->hJ c j 0=(dI (j+1):Int):=λj q=>by
   grind
  have T:∀j,j<O aJ->j≠0->hJ ([-1]++c:List Int) j 0=(dI j:Int):=λj q d=>by
   grind
  have w:∀i,i<O aJ->i≠0->dI i<O aJ/\rk (dI i)<rk i:=λi a d=>by
   have:=h.up i (wW.2 a) d;grind
  refine⟨c,hl,λj q=> ?_,?_⟩
  .let⟨g,u⟩:=w (j+1) Y Y;refine⟨dI (j+1),g,λe=> ?_,nx j q⟩;simp at e;grind
  .rw[Bool.and_eq_true];have l:O ([-1]++c:List Int)=O aJ:=by simp[hl];omega
   constructor
   .unfold vA;rw[Tv,l];intro i a;have a:=wW.1 a;refine kY ?_;have gP:∀n i,i<O aJ->O ((gz (O aJ)).filter λx=>decide (rk x<rk i))<=n->tB ([-1]++c) (n+1) (i:Int)<0:=by
     intro n;induction n with
     |zero=>
      intro i a C;by_cases d:i=0
      .grind [tB]
      .let⟨g,u⟩:=w i a d;have:=Zu (ns:=gz (O aJ)) rk (wW.2 g) u;omega
     |succ n ih=>
      intro i a C;unfold tB;rw[R Y,zbX];by_cases d:i=0
      .subst d;rw[Lu (show([-1]++c:List Int).getD 0 0<0 from(by decide:(-1:Int)<0))];grind
      .let⟨g,u⟩:=w i a d;have:=Zu (ns:=gz (O aJ)) rk (wW.2 g) u;grind
    have C:O ((gz (O aJ)).filter λx=>decide (rk x<rk i))<=O aJ-1:=by
     have:O ((gz (O aJ)).filter λx=>decide (rk x<rk i))<O (gz (O aJ)):=
      List.length_filter_lt_length_iff_exists.2 ⟨i,wW.2 a,J⟩
     grind
    have:=gP (O aJ-1) i a C;rwa[show O aJ-1+1=O aJ by omega]at this
   .unfold CA;rw[Tv];intro v hv;cases m:(gz (O aJ)).any λi=>(hJ aJ i 0).testBit v with
    |false=>rfl
    |true=>
     rw[Bool.not_true,B2,LQ];let⟨i,a,B⟩:=uj.1 m;let⟨t,r,F,_⟩:=h.mL v _ i (fV _) a (zZ.2 ⟨wW.1 a,B⟩);have f:∀x,x<O aJ->(KS aJ ([-1]++c) v x=qT↔Ig (Mem (cD aJ)) 0 dI v x):=λx vm=>by
      unfold KS Ig;rw[My,zZ,Wj];by_cases d:x=0
      .grind
      .rw[T x vm d,Int.toNat_natCast];grind [zZ]
     refine Hc List.nodup_range r ((f t (wW.1 r)).2 F) λb A P=> ?_;exact h.one v b t A r ((f b (wW.1 A)).1 P) F
abbrev dO:=ByteArray
instance:LawfulBEq ByteArray where
 eq_of_beq {a b} h:=by
  have h:(a.data==b.data)=qT:=h;exact ByteArray.ext (eq_of_beq h)
 rfl {a}:=by
  show(a.data==a.data)=qT;exact beq_self_eq_true _
structure L4 where
 aG:Int
 num:Int
 dZ:dO
deriving DecidableEq,Inhabited
structure j6 where
 var:dO
 xW:L4
deriving DecidableEq,Inhabited
structure pB where
 rel:dO
 aV:List j6
deriving DecidableEq,Inhabited
structure bK where
 name:dO
 head:List dO
 aD:List pB
deriving DecidableEq,Inhabited
def bU:dO:=ByteArray.empty
def aR:L4:=⟨0,0,bU⟩
def jZ(c:UInt8):Bool:=(97<=c&&c<=122)||(65<=c&&c<=90)||c==95
def o7(c:UInt8):Bool:=48<=c&&c<=57
def jL(s:dO):Bool:=decide (1<=s.size)&&decide (s.size<=16)&&jZ (s.data.toList.headD 0)&&s.data.toList.all λc=>jZ c||o7 c
def gX(v:L4):Bool:=if v.aG=1 then decide (v.dZ=bU)else decide (v.aG=2)&&decide (v.num=0)&&decide (v.dZ.size<=64)
def i9(out:List dO)(v:dO):List dO:=if v∈out then out else out++[v]
def bL(ts:List j6)(out:List dO):List dO:=ts.foldl (λo t=>if t.var=bU then o else i9 o t.var) out
def cJ(a:pB):List dO:=bL a.aV []
def vars(q:bK):List dO:=q.aD.foldl (λo a=>(cJ a).foldl i9 o) []
def oO(l:List dO):Bool:=(List.range (O l)).any λi=>decide (hJ l i bU∈l.take i)
def DY(q:bK):Bool:= !jL q.name||q.head.any (λh=> !jL h)||q.aD.any λa=> !jL a.rel||a.aV.any λt=>decide (t.var≠bU)&& !jL t.var
def gJ(t:j6):Bool:=if t.var≠bU then decide (t.xW≠aR)else !gX t.xW
def fY(q:bK):Int:=
 if DY q then 72 else if q.aD.any (λa=>a.aV.any gJ)then 21 else if O q.aD=0\/6<O q.aD then 90
 else if q.aD.any (λa=>decide (5<O a.aV))then 91 else if oO q.head then 92 else if q.head.any (λh=>decide (h∉vars q))then 93 else 0
theorem Bo{out:List dO}{v x:dO}:x∈i9 out v↔x∈out\/x=v:=by
 grind [i9]
theorem UR{l out:List dO}{x:dO}:x∈l.foldl i9 out↔x∈out\/x∈l:=by
 induction l generalizing out<;>grind [Bo]
theorem On{out:List dO}(h:out.Nodup)(v:dO):(i9 out v).Nodup:=by
 grind [i9]
theorem sL(t:j6)(ts:List j6)(out:List dO):bL (t::ts) out=bL ts (if t.var=bU then out else i9 out t.var):=rfl
theorem tH(s t:List j6)(out:List dO):bL (s++t) out=bL t (bL s out):=by
 unfold bL;rw[um]
theorem XS(ts:List j6):∀a out:List dO,(bL ts a).foldl i9 out=bL ts (a.foldl i9 out):=by
 induction ts with
 |nil=>intro a out;rfl
 |cons t ts ih=>
  grind [sL,i9,UR]
theorem RI(q:bK):vars q=bL (q.aD.flatMap (·.aV)) []:=by
 unfold vars;have:∀(l:List pB) (out:List dO),l.foldl (λo a=>(cJ a).foldl i9 o) out=bL (l.flatMap (·.aV)) out:=by
  intro l;induction l with
  |nil=>intro out;rfl
  |cons a l ih=>
   grind [tH,cJ,XS]
 exact this q.aD []
theorem uP{ts:List j6}{out:List dO}{x:dO}:x∈bL ts out↔x∈out\/∃t,t∈ts/\t.var≠bU/\t.var=x:=by
 induction ts generalizing out<;>grind [bL,sL,Bo]
theorem XF{ts:List j6}{out:List dO}(h:out.Nodup):(bL ts out).Nodup:=by
 induction ts generalizing out with
 |nil=>exact h
 |cons t ts ih=>
  grind [sL,On]
theorem P3(out:List dO)(v:dO):O out<=O (i9 out v)/\O (i9 out v)<=O out+1:=by
 unfold i9;split<;>simp
theorem iB(ts:List j6)(out:List dO):O (bL ts out)<=O out+O ts:=by
 induction ts generalizing out<;>grind [bL,P3]
theorem PK(q:bK):(vars q).Nodup:=by grind [RI,XF]
theorem Vy{q:bK}{x:dO}:x∈vars q↔∃a,a∈q.aD/\x∈cJ a:=by
 rw[RI,uP];simp only[List.not_mem_nil,false_or,List.mem_flatMap];constructor
 .rintro⟨t,⟨a,ha,b⟩,h⟩;exact⟨a,ha,uP.2 (.inr ⟨t,b,h⟩)⟩
 .rintro⟨a,ha,h⟩;rcases uP.1 h with h|⟨t,b,h⟩<;>grind
def uE(vs cZ:List dO):Nat:=(List.range (O vs)).foldl (λs v=>if hJ vs v bU∈cZ then s+2^v else s) 0
theorem K5{s v:Nat}(h:s<2^v)(x:Nat):(s+2^v).testBit x=(s.testBit x||decide (x=v)):=by
 rw[Nat.add_comm,show 2^v+s=2^v*1+s by rw[yC],Nat.two_pow_add_eq_or_of_lt h,yC,B6,Nat.testBit_two_pow,Bool.or_comm];grind
theorem F2(vs cZ:List dO):∀n,∀s,s=(gz n).foldl (λs v=>if hJ vs v bU∈cZ then s+2^v else s) 0->s<2^n/\∀x,s.testBit x=(decide (x<n)&&decide (hJ vs x bU∈cZ))
 |0,s,h=>by
  grind
 |n+1,s,h=>by
  rw[I3,List.foldl_append,List.foldl_cons,List.foldl_nil]at h;let⟨b,a⟩:=F2 vs cZ n _ rfl;grind [K5]
theorem zD(vs cZ:List dO):uE vs cZ<2^O vs:=(F2 vs cZ _ _ rfl).1
theorem sK(vs cZ:List dO)(x:Nat):(uE vs cZ).testBit x=(decide (x<O vs)&&decide (hJ vs x bU∈cZ)):=(F2 vs cZ _ _ rfl).2 x
theorem Ox{vs:List dO}(hd:vs.Nodup){cZ:List dO}(a:∀x,x∈cZ->x∈vs):cZ.foldl (λs n=>s|||2^vs.idxOf n) 0=uE vs cZ:=by
 refine Fj λx=> ?_;rw[sK];have:∀(l:List dO) (s:Nat),(l.foldl (λs n=>s|||2^vs.idxOf n) s).testBit x=(s.testBit x||l.any λn=>decide (vs.idxOf n=x)):=by
  intro l;induction l<;>grind
 grind
def aJ(q:bK):List Nat:=q.aD.map λa=>uE (vars q) (cJ a)
def cL(q:bK):Nat:=uE (vars q) q.head
structure bE where
 aG:Nat
 qV:Nat
 vars:List Nat
 cM:Nat
 bP:Nat
 bS:Int
 mL:Bool
deriving DecidableEq,Inhabited
structure vZ where
 vars:List dO
 head:List Nat
 aI:List bE
 dQ:Nat
 tops:List Nat
deriving DecidableEq,Inhabited
def cB(s:Nat):List Nat:=(List.range 32).filter λv=>s.testBit v
def yO(l:List ES)(e:Nat):Nat:=((l.find? λx=>x.1==e).map (·.2)).getD 0
abbrev r6:=List bE×List Nat
def gK(pa:Int)(b:r6)(l:List ES)(s:cU):r6:=
 if s.aG=1 then(b.1++[⟨2,0,cB (fS (yO l s.bY) s.cut),hJ b.2 s.bY 0,0,pa,rR⟩],b.2.set s.bY (O b.1))
 else(b.1++[⟨3,0,cB (yO l s.eR),hJ b.2 s.eR 0,hJ b.2 s.bY 0,pa,rR⟩],b.2.set s.eR (O b.1))
def iN(l:List ES)(eb:Nat):Bool:=l.all λx=>part x.2 eb
def dA(pa:Int)(eb:Nat):Nat->r6->List ES->Option (r6×List ES)
 |0,b,l=>if iN l eb then H (b,l)else K
 |n+1,b,l=>if iN l eb then H (b,l)else match next l eb with
  |none=>K
  |some s=>dA pa eb n (gK pa b l s) (make l s)
def fH(pa:Int):Nat->r6->List ES->r6×List ES
 |0,b,l=>(b,l)
 |n+1,b,l=>match next l 0 with
  |none=>(b,l)
  |some s=>fH pa n (gK pa b l s) (make l s)
def cN(pa:Int)(es:List Nat):r6:=((List.range (O es)).map λi=>⟨1,i,cB (hJ es i 0),0,0,pa,rR⟩,List.range (O es))
def oP(l:List ES):List ES:=cD (l.map (·.2))
def eE(n:bE)(i:Nat):Bool:=((n.aG==2||n.aG==3)&&n.cM==i)||(n.aG==3&&n.bP==i)
def m8(ns:List bE)(i:Nat):Int:=(List.range (O ns)).foldl (λp j=>if eE (hJ ns j sT) i then(j:Int)else p) (-1)
def l9(ns:List bE)(low:Nat)(tops:List Nat):List bE:=
 (List.range (O ns)).map λi=>{hJ ns i sT with bS:=m8 ns i,mL:=decide (low<=i)||decide (i∈tops)}
def fO(ns:List bE):Nat->Nat->List Nat
 |0,_=>[]
 |n+1,i=>
  let p:=hJ ns i sT;if p.mL then i::((if p.aG=2\/p.aG=3 then fO ns n p.cM else[])++(if p.aG=3 then fO ns n p.bP else[]))else[]
def cI:Nat:=300
def aB(q:bK):Int×vZ:=
 if fY q≠0 then(fY q,sT)else
 if((run 0 cI (cD (aJ q))).2).any (λx=>decide (x.2≠0))then(161,sT)else
 match dA (-1) (cL q) cI (cN (-1) (aJ q)) (cD (aJ q))with
 |none=>(170,sT)
 |some (b,l)=>
  let now:=l.map λx=>hJ b.2 x.1 0;let (b2,l2):=fH (-1) cI (b.1,now) (oP l);let ns:=l9 b2.1 (O b.1) now;let dQ:=hJ b2.2 ((hJ l2 0 sT).1) 0;(0,⟨vars q,q.head.map λh=>(vars q).idxOf h,ns,dQ,fO ns (O ns) dQ⟩)
variable{pa pb:Int}{l:List ES}{es:List Nat}{vs:List dO}{x:Nat}{q:bK}
section
def mD(ns:List bE):Prop:=∀i,i<O ns->((hJ ns i sT).aG=1\/(hJ ns i sT).aG=2\/(hJ ns i sT).aG=3)/\((hJ ns i sT).aG≠1->(hJ ns i sT).cM<i)/\((hJ ns i sT).aG=3->(hJ ns i sT).bP<i)
theorem DD(ns:List bE):∀n i,O (fO ns n i)<=2^n-1
 |0,i=>by simp[fO]
 |n+1,i=>by
  unfold fO;dsimp only;have d:=DD ns n (hJ ns i sT).cM;have e:=DD ns n (hJ ns i sT).bP;have j:2^(n+1)=2*2^n:=by rw[Nat.pow_succ,a02]
  have g:=wn n;split
  .rw[TT,E7];have:∀(c:Prop) [Decidable c] (l:List Nat),O l<=2^n-1->O (if c then l else[])<=2^n-1:=λc _ l h=>by split<;>simp_all
   have a:=this ((hJ ns i sT).aG=2\/(hJ ns i sT).aG=3) _ d;have b:=this ((hJ ns i sT).aG=3) _ e;omega
  .simp
theorem C3{ns:List bE}(a:mD ns):∀i,i<O ns->∀n,i<n->fO ns n i=fO ns (i+1) i:=by
 intro i;induction i using Nat.strongRecOn with
 |_ i ih=>
  intro b n c;obtain⟨n,rfl⟩:∃m,n=m+1:=⟨n-1,Y⟩;let⟨d,hs,hd⟩:=a i b;grind [fO]
def core(n:bE):bE:={n with bS:=0,mL:=rR}
def kN(ns ms:List bE):Prop:=ns.map core=ms.map core
section
variable{ns ms:List bE}
theorem kN.len(h:kN ns ms):O ns=O ms:=eP (xE O h)
theorem Lt(ns:List bE)(i:Nat):hJ (ns.map core) i (core sT)=core (hJ ns i sT):=by
 rw[gV,gV,So];cases ns[i]? <;>rfl
theorem kN.aS(h:kN ns ms)(i:Nat):core (hJ ns i sT)=core (hJ ms i sT):=by
 rw[<-Lt,<-Lt,h]
theorem kN.refl(ns:List bE):kN ns ns:=rfl
theorem kN.yD(h:kN ns ms){x y:bE}(a:core x=core y):kN (ns++[x]) (ms++[y]):=by
 unfold kN at*;rw[QW,QW,h,L1,L1,a]
theorem CB(n:bE)(i:Nat):eE n i=eE (core n) i:=rfl
theorem kN.m8(h:kN ns ms)(i:Nat):m8 ns i=m8 ms i:=by
 unfold YtohhhhfdpceppaaGreatDoor.m8;rw[h.len];congr 1;funext p j;rw[CB,h.aS j,<-CB]
theorem Im{x y:bE}(h:core x=core y)(p:Int)(t:Bool):({x with bS:=p,mL:=t}:bE)={y with bS:=p,mL:=t}:=by
 have a:∀z:bE,({z with bS:=p,mL:=t}:bE)={core z with bS:=p,mL:=t}:=λ_=>rfl;rw[a,h,<-a]
theorem kN.l9(h:kN ns ms)(low:Nat)(tops:List Nat):l9 ns low tops=l9 ms low tops:=by
 unfold YtohhhhfdpceppaaGreatDoor.l9;rw[h.len];refine y' λi _=> ?_;rw[h.m8 i];exact Im (h.aS i) _ _
end
theorem J4{eb:Nat}{pa pb:Int}:∀(n:Nat) (b c:r6) (l:List ES),kN b.1 c.1->b.2=c.2->
  match dA pa eb n b l,dA pb eb n c l with
  |none,K=>True
  |some (b',l'),H (c',m')=>kN b'.1 c'.1/\b'.2=c'.2/\l'=m'
  |_,_=>False
 |0,b,c,l,h1,h2=>by
  unfold dA;cases iN l eb
  .trivial
  .exact⟨h1,h2,rfl⟩
 |n+1,b,c,l,h1,h2=>by
  unfold dA;cases iN l eb
  .cases next l eb with
   |none=>trivial
   |some s=>
    have:=J4 (eb:=eb) (pa:=pa) (pb:=pb) n (gK pa b l s) (gK pb c l s) (make l s)
     (by unfold gK;rw[h2];split<;>exact h1.yD rfl) (by unfold gK;rw[h2,h1.len];split<;>rfl)
    exact this
  .exact⟨h1,h2,rfl⟩
theorem RZ:∀(n:Nat) (b c:r6) (l:List ES),kN b.1 c.1->b.2=c.2->
  kN (fH pa n b l).1.1 (fH pb n c l).1.1/\(fH pa n b l).1.2=(fH pb n c l).1.2/\(fH pa n b l).2=(fH pb n c l).2
 |0,b,c,l,h1,h2=>⟨h1,h2,rfl⟩
 |n+1,b,c,l,h1,h2=>by
  unfold fH;cases next l 0 with
  |none=>exact⟨h1,h2,rfl⟩
  |some s=>
   exact RZ n (gK pa b l s) (gK pb c l s) (make l s)
    (by unfold gK;rw[h2];split<;>exact h1.yD rfl) (by unfold gK;rw[h2,h1.len];split<;>rfl)
structure BOk(b:r6):Prop where
 below:mD b.1
 C1:∀e,e<O b.2->hJ b.2 e 0<O b.1
theorem QF{α:Type}{l:List α}{x d:α}:hJ (l++[x]) i d=if i=O l then x else hJ l i d:=by
 grind
theorem mD.yD{ns:List bE}(h:mD ns){x:bE}(b:x.aG=1\/x.aG=2\/x.aG=3)(hs:x.aG≠1->x.cM<O ns)(hd:x.aG=3->x.bP<O ns):mD (ns++[x]):=by
 intro i a;rw[E7,Ty]at a;rw[QF];split
 .omega
 .exact h i Y
theorem mD.Mi{ns ms:List bE}(h:mD ns)(ha:kN ns ms):mD ms:=by
 intro i a;have:=h i (ha.len▸a);have b:=ha.aS i;grind [core]
theorem I5{l:List Nat}:hJ (l.set i x) e 0=if i=e/\i<O l then x else hJ l e 0:=by
 grind
theorem BOk.step{b:r6}(h:BOk b)(pa:Int)(l:List ES){s:cU}(d:s.bY<O b.2)(i:s.aG≠1->s.eR<O b.2):BOk (gK pa b l s):=by
 unfold gK;split
 .rename_i c;refine⟨h.below.yD (.inr (.inl rfl)) (λ_=>h.C1 _ d) (λg=>by cases g),λe a=> ?_⟩;simp only[TS]at a;dsimp only;rw[I5,E7,Ty];have:=h.C1 e a;split<;>omega
 .rename_i c;refine⟨h.below.yD (.inr (.inr rfl)) (λ_=>h.C1 _ (i c)) (λ_=>h.C1 _ d),λe a=> ?_⟩;simp only[TS]at a;dsimp only;rw[I5,E7,Ty];have:=h.C1 e a;split<;>omega
theorem aCT(pa:Int)(b:r6)(l:List ES)(s:cU):O (gK pa b l s).1=O b.1+1/\O (gK pa b l s).2=O b.2:=by
 unfold gK;split<;>simp
theorem aB1(pa:Int)(es:List Nat):BOk (cN pa es):=by
 refine⟨λi b=> ?_,λe a=> ?_⟩
 .grind [cN]
 grind [cN]
theorem v8.mem{eb:Nat}{s:cU}(h:v8 l eb s):(s.aG=1\/s.aG=2\/s.aG=3)/\s.bY∈mV l/\(s.aG≠1->s.eR∈mV l/\s.eR≠s.bY/\s.cut=0):=by
 rcases h with⟨c,d,t,g,_⟩|⟨c,i,e,a,b,ha,j,_⟩
 .grind [kR]
 grind [kR]
theorem wI(hd:(mV l).Nodup){t:Nat}(h:(e,t)∈l):yO l e=t:=by
 unfold yO;cases a:l.find? λx=>x.1==e with
 |none=>
  grind
 |some x=>
  grind [D2]
theorem Ue{eb:Nat}(h:iN l eb=qT)(s:cU):iN (make l s) eb=qT:=by
 grind [iN,make,jV,cH]
theorem VX{eb:Nat}:∀(n:Nat) (b:r6) (l:List ES),eS l<=n->(mV l).Nodup->kM l->(dA pa eb n b l=K↔iN (run eb n l).2 eb=rR)
 |n,b,l,hw,hd,hs=>by
  by_cases a:iN l eb=qT
  .have e:=(GK (eb:=eb) (p:=λl=>iN l eb=qT) (λl s _ _ h _=>Ue h s) n l hw hd hs a).1;have:dA pa eb n b l=H (b,l):=by cases n<;>(unfold dA;rw[bW a])
   rw[this,e];simp
  .have d:iN l eb=rR:=eP a;cases c:next l eb with
   |none=>
    rw[M6 c];have:dA pa eb n b l=K:=by
     cases n
     .unfold dA;rw[R a]
     .unfold dA;rw[R a,c]
    simp[this,d]
   |some s=>
    have g:=qA hs (jG hd c);match n,hw with
    |0,hw=>omega
    |n+1,hw=>
     rw[M5 c];unfold dA;rw[R a,c];exact VX n (gK pa b l s) (make l s) Y (pU hd s) (DA hs s)
theorem aLU(s:Nat):bits s<=32:=j8 (zdG _ _) J
theorem Io{k:Nat}(h:∀x,x∈l->bits x.2<=k):eS l<=O l*(k+1):=by
 induction l with
 |nil=>simp[eS]
 |cons x l ih=>
  grind [mQ,a03]
theorem tR(es:List Nat):O (cD es)=O es:=by simp[cD]
theorem lY(h:O es<=7):eS (cD es)<=cI:=by
 have:=Io (l:=cD es) (k:=32) λx _=>aLU _;grind [tR,cI]
theorem P2(f:Nat->dO):∀(l:List Nat) (cZ:List dO),l.Nodup->(∀x,x∈l->f x∈cZ)->(∀x y,x∈l->y∈l->f x=f y->x=y)->O l<=O cZ
 |[],cZ,_,_,_=>J
 |x::l,cZ,hd,hm,hi=>by
  rw[U8]at hd;have c:=hm x (zdC ..);have d:=P2 f l (cZ.erase (f x)) hd.2 (λy a=>(Ys λe=>hd.1 (hi y x (UA _ a) (zdC ..) e▸a)).2 (hm y (UA _ a)))
   (λy z a b=>hi y z (UA _ a) (UA _ b))
  grind
theorem O'(hd:vs.Nodup)(cZ:List dO):bits (uE vs cZ)<=O cZ:=by
 unfold bits;have b:∀x,x∈(gz 32).filter (λv=>(uE vs cZ).testBit v)->x<O vs/\hJ vs x bU∈cZ:=λx a=>by
  grind [sK]
 refine P2 (λv=>hJ vs v bU) _ cZ (List.nodup_range.filter _) (λx a=>(b x a).2) λx y a g e=> ?_;have c:=(b x a).1;have d:=(b y g).1;rw[gV,gV,kU c,kU d,O8,O8]at e;rw[<-hd.idxOf_getElem x c,<-hd.idxOf_getElem y d,e]
theorem IT(g:O q.aD<=6)(e:∀a,a∈q.aD->O a.aV<=5):eS (cD (aJ q))<=36:=by
 have:=Io (l:=cD (aJ q)) (k:=5) λx c=>by
  let⟨b,d⟩:=pS.1 (show(x.1,x.2)∈_ from c);rw[d];unfold aJ at b|-;rw[r8]at b;rw[gV,So,kU b];refine j8 (O' (PK q) _) ?_;refine j8 (iB _ _) ?_;grind
 grind [tR,aJ]
end
variable{keep' m:Nat}
theorem ZM143{P:Prop}(h:P:=by
  rename_i iD;injection e with e;injection e with e1 e2;subst e1 e2;exact⟨h,iD⟩):P:=h
theorem aRE{m:List ES}(h:∀x,x∈l↔x∈m):JT l↔JT m:=by
 have c:∀{l m:List ES},(∀x,x∈l↔x∈m)->∀i,i∈mV l↔i∈mV m:=λh i=>by
  simp_all [kR,exists_congr]
 have b:∀{l m:List ES},(∀x,x∈l↔x∈m)->∀i v,Mem l i v↔Mem m i v:=λh i v=>exists_congr λs=>and_congr_left λ_=>h _;unfold JT;constructor
 .intro a;exact(a.aT7 (c h)).congr λi v _=>b h i v
 .intro a;exact(a.aT7 λi=>(c h i).symm).congr λi v _=>(b h i v).symm
theorem oG(h:∀s,s∈es->s<2^32):kM (cD es):=λx a=>by
 grind [pS,List.getElem_mem]
theorem qD(es:List Nat):(mV (cD es)).Nodup:=by grind [rL]
theorem Dy(h:es≠[]):cD es≠[]:=λe=>h (by
 grind [tR])
theorem PB(a:∀s,s∈es->s<2^aU)(hv:aU<=30)(hl:O es<=7)(b:es≠[]):
  kT es aU= !((run 0 cI (cD es)).2).any (λx=>decide (x.2≠0)):=by
 have hs:∀s,s∈es->s<2^32:=λs h=>xF (a s h) (Fk E Y);grind [WW,au,Dy,qD,oG,lY]
theorem Bn{a:Nat}(x:ES):x∈cD (es++[a])↔x∈(O es,a)::cD es:=by
 grind [pS]
theorem aDx(h:∀x,x∈l->x.2<2^n):AG l<2^n:=by
 unfold AG;induction l<;>simp_all [wn,B5,zdC,UA]
theorem Ri{head:Nat}(b:∀s,s∈es->s<2^aU)(hv:aU<=30)(hl:O es<=6):
  kT (es++[head&&&AG (cD es)]) aU=iN (run head cI (cD es)).2 head:=by
 have hs:∀s,s∈es->s<2^32:=λs h=>xF (b s h) (Fk E Y);have d:AG (cD es)<2^aU:=aDx λx c=>by
  grind [pS,List.getElem_mem]
 have a:∀s,s∈es++[head&&&AG (cD es)]->s<2^aU:=λs h=>by
  grind [Nat.and_le_right]
 rw[Fi,WW a J,aRE (Bn (es:=es)),
  qy (qD es) (oG hs) (lY Y) head (e:=O es) (by rw[rL];simp)]
 unfold iN;rw[Tv]
structure GB(eb:Nat)(b:r6)(l:List ES)(m W:Nat):Prop where
 ok:BOk b
 pm:O b.2=m
 Kr:∀e,e∈mV l->e<m
 nd:(mV l).Nodup
 sm:kM l
 ne:l≠[]
 ml:O l<=m
 wt:O b.1+eS l<=W
theorem KB(l:List ES)(s:cU):O (make l s)<=O l:=by
 grind [make]
theorem GB.step{eb:Nat}{b:r6}{W:Nat}(h:GB eb b l m W)(pa:Int){k:Nat}{s:cU}(i:next l k=H s):GB eb (gK pa b l s) (make l s) m W:=by
 have c:=jG h.nd i;obtain⟨d,j,q⟩:=c.mem;have r:=qA h.sm c;let⟨n,p⟩:=aCT pa b l s;refine⟨h.ok.step pa l (h.pm▸h.Kr _ j) (λd=>by rw[h.pm];exact h.Kr _ (q d).1),p.ds h.pm,λe a=> ?_,pU h.nd s,DA h.sm s,W7 c,j8 (KB _ _) h.ml,by rw[n];have:=h.wt;omega⟩;by_cases g:s.aG=1
 .rw[rJ g]at a;exact h.Kr e a
 .rw[rK g]at a;exact h.Kr e (LC.1 a).1
theorem PJ(h:l≠[]):0<eS l:=by
 cases l<;>grind [mQ]
theorem GB.oE{eb:Nat}{b:r6}{W:Nat}(h:GB eb b l m (W+1)):O b.1<=W:=by
 have:=PJ h.ne;have:=h.wt;omega
theorem Uf:∀(l:List ES),eS (oP l)=eS l:=λl=>by
 unfold eS oP cD;rw[r8,V7];grind [Bk,List.length_map]
theorem GB.oP{eb:Nat}{b:r6}{W:Nat}(h:GB eb b l m W)(c:r6)(i:c.1=b.1\/kN b.1 c.1)(g:c.2=l.map λx=>hJ b.2 x.1 0):GB keep' c (oP l) (O l) W:=by
 have d:kN b.1 c.1:=i.elim (λe=>e▸kN.refl _) id;have n:mV (YtohhhhfdpceppaaGreatDoor.oP l)=gz (O l):=by unfold YtohhhhfdpceppaaGreatDoor.oP;rw[rL,r8]
 refine⟨⟨h.ok.below.Mi d,λe a=> ?_⟩,by rw[g,r8],λe a=>by grind,BC,?_,?_,?_,by rw[Uf,<-d.len];exact h.wt⟩
 .rw[g,r8]at a;rw[g,gV,So,kU a,<-d.len];exact h.ok.C1 _ (h.pm▸h.Kr _ (AE.2 ⟨_,gu a,rfl⟩))
 .exact oG λs hs=>by
   obtain⟨x,j,rfl⟩:=AE.1 hs;exact h.sm x j
 .exact Dy λe=>h.ne (List.map_eq_nil_iff.1 e)
 .unfold YtohhhhfdpceppaaGreatDoor.oP;rw[tR,r8];exact fV _
theorem GB.cN(pa:Int){eb:Nat}(hs:∀s,s∈es->s<2^32)(b:es≠[]){W:Nat}(c:O es+eS (cD es)<=W):GB eb (cN pa es) (cD es) (O es) W:=by
 refine⟨aB1 pa es,by simp[YtohhhhfdpceppaaGreatDoor.cN],λe a=>by rw[rL]at a;simpa using a,qD es,oG hs,Dy b,by rw[tR];exact fV _,by simpa[YtohhhhfdpceppaaGreatDoor.cN]using c⟩
theorem GB.dA{eb:Nat}{W:Nat}(pa:Int):∀(n:Nat) (b:r6) (l:List ES) (c:r6) (k:List ES),GB eb b l m W->dA pa eb n b l=H (c,k)->GB eb c k m W/\iN k eb=qT
 |0,b,l,c,k,h,e=>by
  unfold YtohhhhfdpceppaaGreatDoor.dA at e;split at e
  .exact ZM143
  .cases e
 |n+1,b,l,c,k,h,e=>by
  unfold YtohhhhfdpceppaaGreatDoor.dA at e;split at e
  .exact ZM143
  .cases a:next l eb with
   |none=>rw[a]at e;cases e
   |some s=>rw[a]at e;exact GB.dA pa n _ _ c k (h.step pa a) e
theorem GB.fH{eb:Nat}{W:Nat}(pa:Int):∀(n:Nat) (b:r6) (l:List ES),GB eb b l m W->GB eb (fH pa n b l).1 (fH pa n b l).2 m W
 |0,b,l,h=>h
 |n+1,b,l,h=>by
  unfold YtohhhhfdpceppaaGreatDoor.fH;cases a:next l 0 with
  |none=>exact h
  |some s=>exact GB.fH pa n _ _ (h.step pa a)
def j9{α:Type}(n:Nat)(f:Nat->Option α):Option α:=(List.range n).findSome? f
theorem NN{α:Type}(f:Nat->Option α):j9 0 f=K:=rfl
theorem n8{α:Type}(n:Nat)(f:Nat->Option α):j9 (n+1) f=(j9 n f).or (f n):=by
 unfold j9;rw[dr,Xm,oj];cases f n<;>simp
theorem NP{α:Type}(n:Nat)(f:Nat->Option α):j9 (n+1) f=(f 0).or (j9 n λi=>f (i+1)):=by
 unfold j9;rw[List.range_succ_eq_map,oj,List.findSome?_map];cases f 0<;>simp[Function.comp_def]
theorem AB{α β:Type}(l:List α)(d:α)(g:α->Option β):l.findSome? g=j9 (O l) λi=>g (hJ l i d):=by
 induction l with
 |nil=>rfl
 |cons x l ih=>
  rw[oj,TT,NP,ih];cases h:g x
  .simp[h]
  .simp[h]
theorem I8{α β:Type}(l:List α)(p:α->Bool)(f:α->β):(l.find? p).map f=l.findSome? λx=>if p x then H (f x)else K:=by
 induction l with
 |nil=>rfl
 |cons x l ih=>
  rw[List.find?_cons,oj];cases h:p x
  .simpa using ih
  .simp
def IW(l:List ES)(eb i:Nat):Option cU:=if kL l eb (hJ l i sT)≠0 then H ⟨1,(hJ l i sT).1,0,kL l eb (hJ l i sT)⟩else K
def qL(l:List ES)(i j:Nat):Option cU:=if i<j/\(hJ l i sT).2=(hJ l j sT).2 then H ⟨2,(hJ l j sT).1,(hJ l i sT).1,0⟩else K
def tG(l:List ES)(i j:Nat):Option cU:=if(hJ l i sT).2≠(hJ l j sT).2/\part (hJ l i sT).2 (hJ l j sT).2=qT then H ⟨3,(hJ l i sT).1,(hJ l j sT).1,0⟩else K
theorem Gx(l:List ES)(eb:Nat):iR l eb=j9 (O l) (IW l eb):=by
 unfold iR;rw[I8,AB _ sT];unfold IW;congr 1;funext i;simp
theorem Be(l:List ES):pR l=j9 (O l) λi=>j9 (O l) (tG l i):=by
 unfold pR;rw[AB _ sT];congr 1;funext i;rw[I8,AB _ sT];congr 1;funext j;unfold tG;simp
theorem Gy(l:List ES):iK l=j9 (O l) λi=>j9 (O l) (qL l i):=by
 induction l with
 |nil=>rfl
 |cons x r ih=>
  have b:∀i,qL (x::r) i 0=K:=λi=>by unfold qL;rw[R Y]
  have c:∀i j,qL (x::r) (i+1) (j+1)=qL r i j:=λi j=>by
   unfold qL;simp only[YT,Nat.add_lt_add_iff_right]
  unfold iK;rw[TT,NP,NP,b,KH,I8,AB _ sT,ih];congr 1
  .congr 1;funext j;unfold qL;simp only[List.getD_cons_zero,YT];by_cases a:(hJ r j sT).2=x.2
   .rw[bW (by rw[LQ];exact a),bW ⟨Y,a.symm⟩]
   .rw[R (by rw[LQ];exact a),R (λh=>a h.2.symm)]
  .congr 1;funext i;rw[NP,b,KH];congr 1;funext j;rw[c]
theorem aAd(b:j<i)(a:i<O l)(h:(hJ l i sT).2=(hJ l j sT).2)(eb:Nat):(next l eb).isSome=qT:=by
 cases c:next l eb with
 |some _=>rfl
 |none=>
  have d:=List.pairwise_iff_getElem.1 (A6 (UP c).2.1) j i Y a b;rw[gV,gV,kU a,kU (show j<O l by omega)]at h;exact dY h d
theorem NX{α:Type}(L:List α)(x:α):(L++[x]).head? =L.head?.or (H x):=by cases L<;>rfl
theorem Pc{a:Nat}(ha:a<2^32):fS a b<2^32:=Sp (C8 a b) ha
theorem aBC(hs:kM l)(e:Nat):vM l e<2^32:=by
 unfold vM;have:∀m:List ES,(∀x,x∈m->x.2<2^32)->AG m<2^32:=by
  intro m;induction m with
  |nil=>intro _;exact wn 32
  |cons x m ih=>
   intro a;exact B5 (a x J) (ih λy c=>a y (UA _ c))
 exact this _ λx b=>hs x (LC.1 b).1
section
def i8(ss:List Nat)(ts:List Bool)(n:Nat):List ES:=((List.range n).filter λi=>hJ ts i rR).map λi=>(i,hJ ss i 0)
section
variable(ss:List Nat)(ts:List Bool)
theorem CG(n:Nat):i8 ss ts (n+1)=i8 ss ts n++if hJ ts n rR then[(n,hJ ss n 0)]else[]:=by
 grind [i8,I3]
theorem W0{s:Nat}:(i,s)∈i8 ss ts n↔i<n/\hJ ts i rR=qT/\s=hJ ss i 0:=by
 grind [i8]
theorem Wq(n:Nat):mV (i8 ss ts n)=(gz n).filter λi=>hJ ts i rR:=by
 unfold mV i8;rw[V7];exact(y' λ_ _=>rfl).ds (List.map_id _)
theorem Bx(n:Nat):O (i8 ss ts n)<=n:=by
 grind [i8]
theorem mW{α:Type}(g:ES->Option α):∀n,(i8 ss ts n).findSome? g=j9 n λi=>if hJ ts i rR then g (i,hJ ss i 0)else K
 |0=>rfl
 |n+1=>by
  rw[CG,Xm,mW g n,n8];congr 1;cases hJ ts n rR
  .rfl
  .rw[bW rfl,bW rfl,oj];cases g (n,hJ ss n 0)<;>rfl
def jM(eb i k:Nat):Nat:=(List.range k).foldl (λc j=>if j≠i/\hJ ts j rR=qT then fS c (hJ ss j 0)else c) (fS (hJ ss i 0) eb)
theorem FT(eb i k:Nat):jM ss ts eb i (k+1)=if k≠i/\hJ ts k rR=qT then fS (jM ss ts eb i k) (hJ ss k 0)else jM ss ts eb i k:=by
 grind [jM,I3]
theorem MJ(eb i:Nat):∀k,jM ss ts eb i k<=hJ ss i 0
 |0=>C8 _ _
 |k+1=>by
  rw[FT];split
  .exact j8 (C8 _ _) (MJ eb i k)
  .exact MJ eb i k
theorem GG(eb i v:Nat):∀k,(jM ss ts eb i k).testBit v=qT↔((hJ ss i 0).testBit v=qT/\eb.testBit v=rR)/\∀j,j<k->j≠i->hJ ts j rR=qT->(hJ ss j 0).testBit v=rR
 |0=>by
  show(fS (hJ ss i 0) eb).testBit v=qT↔_;rw[cH,My,EB];exact⟨λh=>⟨h,λj c=>dY c Y⟩,λh=>h.1⟩
 |k+1=>by
  rw[FT];have ih:=GG eb i v k;split
  .rename_i g;rw[cH,My,EB,ih];constructor
   .rintro⟨⟨b,a⟩,l⟩;refine⟨b,λj c d e=> ?_⟩;rcases YB j k with h|h
    .exact a j h d e
    .obtain rfl:j=k:=Y;exact l
   .rintro⟨b,a⟩;exact⟨⟨b,λj c=>a j Y⟩,a k Y g.1 g.2⟩
  .rename_i g;rw[ih];constructor
   .rintro⟨b,a⟩;refine⟨b,λj c d e=> ?_⟩;rcases YB j k with h|h
    .exact a j h d e
    .obtain rfl:j=k:=Y;exact dY ⟨d,e⟩ g
   .rintro⟨b,a⟩;exact⟨b,λj c=>a j Y⟩
theorem aBY(eb:Nat):jM ss ts eb i n=kL (i8 ss ts n) eb (i,hJ ss i 0):=by
 refine Fj λv=> ?_;rw[Fi,GG,kL,cH,cH,My,My,EB,EB];refine and_congr_right λ_=> ?_;rw[<-Bool.not_eq_true,J6];constructor
 .rintro h ⟨j,a,s,hs,hv⟩;grind [W0]
 .intro h j b a c;cases hv:(hJ ss j 0).testBit v with
  |false=>rfl
  |true=>exact dY ⟨j,a,_,(W0 ss ts).2 ⟨b,c,rfl⟩,hv⟩ h
def kO(i j:Nat):Nat:=if i=j\/hJ ts i rR=rR\/hJ ts j rR=rR then 0 else if hJ ss i 0=hJ ss j 0 then 2 else if fS (hJ ss i 0) (hJ ss j 0)=0 then 3 else 0
def IV(eb n i:Nat):Option cU:=if hJ ts i rR=qT/\jM ss ts eb i n≠0 then H ⟨1,i,0,jM ss ts eb i n⟩else K
def FK(i j:Nat):Option cU:=if i<j/\kO ss ts j i=2 then H ⟨2,j,i,0⟩else K
def BX(i j:Nat):Option cU:=if kO ss ts i j=3 then H ⟨3,i,j,0⟩else K
theorem zA{α:Type}{f g:Nat->Option α}:∀{n:Nat},(∀i,i<n->f i=g i)->j9 n f=j9 n g
 |0,_=>rfl
 |n+1,h=>by rw[n8,n8,zA (n:=n) λi a=>h i Y,h n Y]
theorem NO{α:Type}{f:Nat->Option α}:∀{n:Nat},(∀i,i<n->f i=K)->j9 n f=K
 |0,_=>rfl
 |n+1,h=>by rw[n8,NO (n:=n) λi a=>h i Y,h n Y];rfl
theorem CN{α:Type}{f:Nat->Option α}{x:α}:∀{n:Nat},j9 n f=H x->∃i,i<n/\f i=H x
 |0,h=>by cases h
 |n+1,h=>by
  rw[n8]at h;cases hs:j9 n f with
  |none=>rw[hs]at h;exact⟨n,Y,by simpa using h⟩
  |some y=>
   rw[hs]at h;let⟨i,b,a⟩:=CN (n:=n) hs;exact⟨i,Y,a.ds (eP h)⟩
theorem DQ{α β:Type}{f g:α->Option β}:∀{l:List α},(∀x,x∈l->f x=g x)->l.findSome? f=l.findSome? g
 |[],_=>rfl
 |x::l,h=>by
  rw[oj,oj,h x (zdC ..),DQ λy a=>h y (UA _ a)]
theorem MG:∀{l:List ES},(mV l).Pairwise (·<·)->iK l=l.findSome? λx=>l.findSome? λy=>if x.1<y.1/\x.2=y.2 then H (⟨2,y.1,x.1,0⟩:cU)else K
 |[],_=>rfl
 |x::r,h=>by
  unfold mV at h;rw[KR,List.pairwise_cons]at h;have ih:=MG (l:=r) h.2;have d:∀y,y∈r->x.1<y.1:=λy b=>h.1 _ (AE.2 ⟨y,b,rfl⟩);rw[iK,oj,oj,R (λh=>Nat.lt_irrefl _ h.1),I8,ih];have c:(r.findSome? λy=>if(y.2==x.2)=qT then H (⟨2,y.1,x.1,0⟩:cU)else K)=r.findSome? λy=>if x.1<y.1/\x.2=y.2 then H ⟨2,y.1,x.1,0⟩else K:=DQ λy b=>by
   grind
  have e2:(r.findSome? λa=>r.findSome? λy=>if a.1<y.1/\a.2=y.2 then H (⟨2,y.1,a.1,0⟩:cU)else K)=r.findSome? λa=>(x::r).findSome? λy=>if a.1<y.1/\a.2=y.2 then H ⟨2,y.1,a.1,0⟩else K:=DQ λa e=>by
   rw[oj,if_neg (λh=>Nat.lt_asymm (d a e) h.1)]
  rw[c,e2];generalize r.findSome? (λy=>if x.1<y.1/\x.2=y.2 then H (⟨2,y.1,x.1,0⟩:cU)else K)=o;cases o<;>rfl
theorem Ac(n:Nat):(mV (i8 ss ts n)).Pairwise (·<·):=by rw[Wq];exact List.pairwise_lt_range.filter _
theorem SA(eb n:Nat):next (i8 ss ts n) eb=(j9 n (IV ss ts eb n)).or ((j9 n λi=>j9 n (FK ss ts i)).or (j9 n λi=>j9 n (BX ss ts i))):=by
 unfold next;congr 1
 .grind [iR,I8,mW,zA,IV,aBY]
 .congr 1
  .rw[MG (Ac ss ts n),mW];refine zA λi _=> ?_;dsimp only;rw[mW];grind [NO,FK,kO,zA]
  .unfold pR;rw[mW];refine zA λi _=> ?_;dsimp only;rw[I8,mW];cases a:hJ ts i rR
   .grind [NO,BX,kO]
   grind [zA,BX,kO,part]
def Ru(eb n:Nat)(s:cU):Prop:=
 (s.bY<n/\hJ ts s.bY rR=qT/\s.cut≠0/\s=⟨1,s.bY,0,jM ss ts eb s.bY n⟩)\/
 (s.bY<n/\s.eR<n/\hJ ts s.bY rR=qT/\kO ss ts s.bY s.eR≠0/\s=⟨kO ss ts s.bY s.eR,s.bY,s.eR,0⟩)
theorem Vt{eb:Nat}{s:cU}(h:next (i8 ss ts n) eb=H s):Ru ss ts eb n s:=by
 rw[SA]at h;have l:∀i j,kO ss ts i j≠0->hJ ts i rR=qT:=λi j h=>by
  grind [kO]
 cases g:j9 n (IV ss ts eb n)with
 |some x=>
  rw[g]at h;obtain rfl:x=s:=eP h;let⟨i,c,a⟩:=CN g;unfold IV at a;split at a
  .rename_i b;injection a with a;subst a;exact .inl ⟨c,b.1,b.2,rfl⟩
  .cases a
 |none=>
  rw[g,KH]at h;cases e:j9 n λi=>j9 n (FK ss ts i)with
  |some x=>
   rw[e]at h;obtain rfl:x=s:=eP h;let⟨i,c,a⟩:=CN e;let⟨j,d,a⟩:=CN a;unfold FK at a;split at a
   .rename_i b;injection a with a;subst a;refine .inr ⟨d,c,l j i (by rw[b.2];decide),by rw[b.2];decide,by rw[b.2]⟩
   .cases a
  |none=>
   rw[e,KH]at h;let⟨i,c,a⟩:=CN h;let⟨j,d,a⟩:=CN a;unfold BX at a;split at a
   .rename_i b;injection a with a;subst a;refine .inr ⟨c,d,l i j (by rw[b];decide),by rw[b];decide,by rw[b]⟩
   .cases a
def gB(s:cU):List Nat:=if s.aG=1 then ss.set s.bY (fS (hJ ss s.bY 0) s.cut)else ss
def vI(s:cU):List Bool:=if s.aG=1 then ts else ts.set s.bY rR
theorem T6{s:cU}(hs:s.bY<O ss)(g:s.bY<O ts):∀n,i8 (gB ss s) (vI ts s) n=make (i8 ss ts n) s
 |0=>by unfold i8 make;split<;>rfl
 |n+1=>by
  rw[CG,CG,T6 hs g n];have e:∀a b,make (a++b) s=make a s++make b s:=λa b=>by unfold make;split<;>simp
  rw[e];congr 1;unfold make gB vI;by_cases d:s.aG=1
  .rw[bW d,bW d,bW d];cases hJ ts n rR
   .rfl
   .rw[bW rfl,bW rfl,L1];dsimp only;rw[I5];by_cases c:n=s.bY
    .subst c;rw[bW ⟨rfl,hs⟩,bW rfl]
    .rw[R (λh=>c h.1.symm),R c]
  .rw[R d,R d,R d];have i:hJ (ts.set s.bY rR) n rR=if n=s.bY then rR else hJ ts n rR:=by
    rw[gV,a0b];by_cases c:n=s.bY
    .subst c;simp[g]
    .rw[R (Ne.symm c),R c,<-gV]
   rw[i];by_cases c:n=s.bY
   .rw[bW c];cases hJ ts n rR
    .rfl
    .rw[bW rfl,List.filter_cons_of_neg (eP c)];rfl
   .rw[R c];cases hJ ts n rR
    .rfl
    .rw[bW rfl,List.filter_cons_of_pos (eP c)];rfl
end
theorem Zi{ts:List Bool}{ss:List Nat}(hs:∀i,i<O es->hJ ss i 0=hJ es i 0)(a:∀i,i<O es->hJ ts i rR=qT):i8 ss ts (O es)=cD es:=by
 grind [i8,cD,YE,y']
end
variable{b2:r6}{ms:List bE}{dQ:Nat}
theorem kN.ds{a b c:List bE}(h:kN a b)(k:kN b c):kN a c:=Eq.ds h k
theorem SH(pa pb:Int)(es:List Nat):kN (cN pa es).1 (cN pb es).1:=by
 unfold kN cN;simp[core]
theorem DK(ns:List bE)(low:Nat)(tops:List Nat):kN ns (l9 ns low tops):=by
 unfold kN l9;apply Bk
 .simp
 .intro i a b;simp only[r8,Qn]at a b;simp[core,a]
theorem F3(ns:List bE)(low:Nat)(tops:List Nat):O (l9 ns low tops)=O ns:=(DK ns low tops).len.symm
def nK(q:bK):Bool:=((run 0 cI (cD (aJ q))).2).any (λx=>decide (x.2≠0))
theorem PU(h:fY q≠0):aB q=(fY q,sT):=by unfold aB;rw[bW h]
theorem OX(h:fY q=0)(a:nK q=qT):aB q=(161,sT):=by
 unfold aB;unfold nK at a;rw[R (by simp[h]),bW a]
theorem VV(h:fY q=0)(b:nK q=rR)(pa:Int)(c:dA pa (cL q) cI (cN pa (aJ q)) (cD (aJ q))=K):aB q=(170,sT):=by
 unfold aB;unfold nK at b;rw[R (by simp[h]),b,R E];have a:=J4 (eb:=cL q) (pa:= -1) (pb:=pa) cI (cN (-1) (aJ q)) (cN pa (aJ q)) (cD (aJ q)) (SH _ _ _) rfl;rw[c]at a;cases d:dA (-1) (cL q) cI (cN (-1) (aJ q)) (cD (aJ q))with
 |none=>rfl
 |some x=>rw[d]at a;exact a.elim
theorem aAw(h:fY q=0)(i:nK q=rR)(pa:Int){b:r6}(u:dA pa (cL q) cI (cN pa (aJ q)) (cD (aJ q))=H (b,l))(w:kN b.1 ms){g:List ES}(v:fH pa cI (ms,l.map λx=>hJ b.2 x.1 0) (oP l)=(b2,g)){ns:List bE}(d:ns=l9 b2.1 (O b.1) (l.map λx=>hJ b.2 x.1 0))(y:dQ=hJ b2.2 ((hJ g 0 sT).1) 0)(n:mD b2.1)(z:dQ<O b2.1):aB q=(0,⟨vars q,q.head.map λh=>(vars q).idxOf h,ns,dQ,fO ns (dQ+1) dQ⟩):=by
 unfold aB;unfold nK at i;rw[R (by simp[h]),i,R E];have a:=J4 (eb:=cL q) (pa:= -1) (pb:=pa) cI (cN (-1) (aJ q)) (cN pa (aJ q)) (cD (aJ q)) (SH _ _ _) rfl;rw[u]at a;cases j:dA (-1) (cL q) cI (cN (-1) (aJ q)) (cD (aJ q))with
 |none=>rw[j]at a;exact a.elim
 |some x=>
  obtain⟨c,k⟩:=x;rw[j]at a;obtain⟨a1,a2,rfl⟩:=a;dsimp only;have e:=RZ (pa:= -1) (pb:=pa) cI (c.1,k.map λx=>hJ c.2 x.1 0) (ms,k.map λx=>hJ c.2 x.1 0) (oP k) (a1.ds w) rfl;rw[a2,v]at e;obtain⟨p,e2,m⟩:=e;rw[a2,m,e2,a1.len,p.l9,<-d,<-y];have r:mD ns:=d▸n.Mi (DK _ _ _);have hl:O ns=O b2.1:=by rw[d,F3]
  rw[C3 r dQ Y (O ns) Y]
variable{bF:r6}{lF:List ES}{B8 tops:List Nat}{N b0:List bE}{low:Nat}
theorem ZM133{P:Prop}(h:P:=by
  rw[h1,Option.none_or]at h;cases h2:iK l with
  |some x=>
   grind [uO]
  |none=>
   grind [D9]):P:=h
theorem aBK{eb:Nat}(hd:(mV l).Nodup){s:cU}(h:next l eb=H s)(a:s.aG=1):s.eR=0:=by
 unfold next at h;cases h1:iR l eb with
 |some x=>
  rw[h1]at h;obtain rfl:x=s:=eP h;unfold iR at h1;cases h2:l.find? λx=>kL l eb x !=0 with
  |none=>grind
  |some y=>grind
 |none=>
  exact ZM133
theorem aEq{eb:Nat}(hd:(mV l).Nodup)(hs:kM l){s:cU}(h:next l eb=H s):s.cut<2^32:=by
 have a:=jG hd h;by_cases b:s.aG=1
 .unfold next at h;cases h1:iR l eb with
  |some x=>
   rw[h1]at h;obtain rfl:x=s:=eP h;unfold iR at h1;cases h2:l.find? λx=>kL l eb x !=0 with
   |none=>grind
   |some y=>
    rw[h2]at h1;injection h1 with h1;subst h1;exact Sp (j8 (C8 _ _) (C8 _ _)) (hs _ (Ps h2))
  |none=>
   exact ZM133
 .rw[((a.mem).2.2 b).2.2];omega
theorem aAo{k:Nat}(h:k<n):(gz k++Co (n-k) 0).set k k=gz (k+1)++Co (n-(k+1)) 0:=by
 rw[List.set_append_right _ _ J,Qn,Nat.sub_self,dr,zcV];congr 1;obtain⟨m,a⟩:∃m,n-k=m+1:=⟨n-k-1,Y⟩;grind
theorem zB{l:List dO}(h:oO l=rR):l.Nodup:=by
 rw[List.Nodup,List.pairwise_iff_getElem];intro i j d a b c;unfold oO at h;rw[x']at h;have:=h j (eP a);grind [List.mem_iff_getElem]
theorem A7:∀{l m:List dO},l.Nodup->(∀x,x∈l->x∈m)->O l<=O m
 |[],_,_,_=>O9 _
 |x::l,m,hd,h=>by
  rw[U8]at hd;have b:=h x (zdC ..);have c:=A7 (l:=l) (m:=m.erase x) hd.2 λy a=>(Ys (show y≠x from λe=>hd.1 (e▸a))).2 (h y (UA _ a));grind
theorem Js{eb f:Nat}{b c:r6}{k:List ES}(h:dA pa eb f b l=H (c,k)):
  (iN l eb=qT/\c=b/\k=l)\/(iN l eb=rR/\∃g s,f=g+1/\next l eb=H s/\dA pa eb g (gK pa b l s) (make l s)=H (c,k)):=by
 cases a:iN l eb with
 |true=>
  have:dA pa eb f b l=H (b,l):=by cases f<;>(unfold dA;rw[bW a])
  grind
 |false=>
  refine .inr ⟨rfl,?_⟩;cases f with
  |zero=>grind [dA]
  |succ g=>
   grind [dA]
theorem VQ{k:Nat}(h:k<O es)(pa:Int):(cN pa es).1.take (k+1)=(cN pa es).1.take k++[⟨1,k,cB (hJ es k 0),0,0,pa,rR⟩]:=by
 grind [cN,F6]
theorem uQ(pa:Int)(es:List Nat):O (cN pa es).1=O es:=by simp[cN]
def EX(l:List ES)(k:Nat):List ES:=(List.range (O l)).map λi=>if i<k then(i,(hJ l i sT).2)else hJ l i sT
theorem tP(l:List ES)(k:Nat):O (EX l k)=O l:=by simp[EX]
theorem Ao{k:Nat}(a:i<O l):hJ (EX l k) i sT=if i<k then(i,(hJ l i sT).2)else hJ l i sT:=by
 grind [EX]
theorem jo(l:List ES):EX l 0=l:=by
 grind [Bk,tP,EX]
theorem Jh(l:List ES):EX l (O l)=oP l:=by
 grind [EX,oP,cD,y']
theorem An(l:List ES)(k i:Nat):(EX l k)[i]? =if i<O l then H (if i<k then(i,(hJ l i sT).2)else hJ l i sT)else K:=by
 grind [EX]
theorem jp{k:Nat}(a:k<O l):EX l (k+1)=(EX l k).set k (k,(hJ l k sT).2):=by
 apply Qt;grind [An,tP]
theorem S3{eb:Nat}:∀(n:Nat) (b:r6) (l:List ES) (c:r6) (k:List ES),(∀x,x∈b.1->x.mL=rR)->dA pa eb n b l=H (c,k)->∀x,x∈c.1->x.mL=rR
 |n,b,l,c,k,h,e=>by
  rcases Js e with⟨_,rfl,rfl⟩|⟨_,g,s,rfl,d,e⟩
  .exact h
  .refine S3 g _ _ c k (λx a=> ?_) e;unfold gK at a;split at a
   .rcases yU.1 a with a|a
    .exact h x a
    .rw[Gc.1 a]
   .rcases yU.1 a with a|a
    .exact h x a
    .rw[Gc.1 a]
theorem Pg(pa:Int)(es:List Nat):∀x,x∈(cN pa es).1->x.mL=rR:=λx a=>by
 grind [cN]
def JX(b:List bE)(tops:List Nat)(ns:List bE):Prop:=kN b ns/\∀i,i<O ns->(hJ ns i sT).mL=decide (i∈tops)
theorem JX.start{b:List bE}(h:∀x,x∈b->x.mL=rR):JX b [] b:=⟨kN.refl _,λi a=>by
 grind⟩
theorem uW{l:List bE}{x:bE}:hJ (l.set i x) e sT=if i=e/\i<O l then x else hJ l e sT:=by
 grind
theorem JX.vO{b ns:List bE}(h:JX b tops ns){t:Nat}(c:t<O ns):JX b (tops++[t]) (ns.set t {hJ ns t sT with mL:=qT}):=by
 refine⟨h.1.ds ?_,λi a=> ?_⟩
 .unfold kN;apply Bk
  .simp
  grind [core]
 .rw[TS]at a;rw[uW];by_cases e:t=i
  .grind
  .rw[if_neg (λh=>e h.1),h.2 i a];simp[Ne.symm e]
theorem map_set{α β:Type}(f:α->β)(l:List α)(i:Nat)(x:α):(l.set i x).map f=(l.map f).set i (f x):=by rw[List.map_set]
theorem YF{α β:Type}{l:List (α×β)}{x:α}{d:α×β}(a:i<O l):(l.set i (x,(hJ l i d).2)).map (·.2)=l.map (·.2):=by
 apply Bk
 .simp
 grind
theorem Jp{f:Nat}{b:r6}(hd:(mV l).Nodup)(hs:kM l)(d:eS l<=f){bEs:r6×List ES}(h:fH pa f b l=bEs):
  (next l 0=K/\bEs=(b,l))\/∃g s,f=g+1/\next l 0=H s/\eS (make l s)<=g/\fH pa g (gK pa b l s) (make l s)=bEs:=by
 cases a:next l 0 with
 |none=>
  refine .inl ⟨rfl,?_⟩;rw[<-h];cases f with
  |zero=>rfl
  |succ g=>unfold fH;rw[a]
 |some s=>
  have c:=qA hs (jG hd a);cases f with
  |zero=>omega
  |succ g=>
   grind [fH]
theorem VW{pa:Int}:∀(n:Nat) (b:r6) (l:List ES),∃vO,(fH pa n b l).1.1=b.1++vO/\∀x,x∈vO->x.mL=rR
 |0,b,l=>⟨[],by simp[fH],J⟩
 |n+1,b,l=>by
  unfold fH;cases next l 0 with
  |none=>simp_all
  |some s=>
   let⟨vO,c,a⟩:=VW (pa:=pa) n (gK pa b l s) (make l s);grind [gK]
theorem ZA(h:eS l<=42):eS l<=cI:=by unfold cI;omega
def Yv(N:List bE)(low i:Nat):bE:={hJ N i sT with bS:=m8 N i,mL:=(hJ N i sT).mL||decide (low<=i)}
def BQ(N:List bE)(low k:Nat):List bE:=(List.range (O N)).map λi=>if i<k then Yv N low i else hJ N i sT
theorem tQ(N:List bE)(low k:Nat):O (BQ N low k)=O N:=by simp[BQ]
theorem DR(N:List bE)(low k i:Nat):(BQ N low k)[i]? =if i<O N then H (if i<k then Yv N low i else hJ N i sT)else K:=by
 grind [BQ]
theorem Dv{k:Nat}(a:i<O N):hJ (BQ N low k) i sT=if i<k then Yv N low i else hJ N i sT:=by
 grind [DR]
theorem qn(N:List bE)(low:Nat):BQ N low 0=N:=by
 apply Qt;grind [DR]
theorem qp{k:Nat}(a:k<O N):BQ N low (k+1)=(BQ N low k).set k (Yv N low k):=by
 apply Qt;grind [DR,tQ]
theorem aCF(h:∀i,i<O N->i<low->(hJ N i sT).mL=decide (i∈tops)):BQ N low (O N)=l9 N low tops:=by
 grind [BQ,l9,y',Yv]
def xM(N:List bE)(i j:Nat):Int:=(List.range j).foldl (λp j=>if eE (hJ N j sT) i then(j:Int)else p) (-1)
theorem FN(N:List bE)(i j:Nat):xM N i (j+1)=if eE (hJ N j sT) i then(j:Int)else xM N i j:=by
 grind [xM,I3]
def aFA(N:List bE)(low k j:Nat):bE:={hJ N k sT with bS:=xM N k j,mL:=(hJ N k sT).mL||decide (low<=k)}
def BO(N:List bE)(low k j:Nat):List bE:=(BQ N low k).set k (aFA N low k j)
theorem aBO{k:Nat}(a:k<O N):BO N low k (O N)=BQ N low (k+1):=by rw[qp a];rfl
theorem Pe(N:List bE)(low k j:Nat):O (BO N low k j)=O N:=by unfold BO;rw[TS,tQ]
theorem qw{k:Nat}(a:i<O N):core (hJ (BO N low k j) i sT)=core (hJ N i sT):=by
 unfold BO;rw[uW,tQ];by_cases h:k=i/\k<O N
 .rw[bW h];obtain⟨rfl,_⟩:=h;rfl
 .rw[R h,Dv a];split
  .rfl
  .rfl
theorem Vx{k:Nat}(a:i<O N)(c:Nat):eE (hJ (BO N low k j) i sT) c=eE (hJ N i sT) c:=by
 rw[CB,qw a,<-CB]
theorem aAW{vO:List bE}(h:JX b0 tops ms):∀i,i<O (ms++vO)->i<O b0->(hJ (ms++vO) i sT).mL=decide (i∈tops):=λi _ hl=>by
 have a:i<O ms:=h.1.len▸hl;rw[gV,zbE a,<-gV];exact h.2 i a
theorem aEx{k:Nat}(a:k<O N)(h:ms=(BQ N low k).set k {hJ N k sT with mL:=(hJ N k sT).mL||decide (low<=k)}):
  ms.set k {hJ ms k sT with bS:= -1}=BO N low k 0:=by
 subst h;rw[List.set_set,uW,bW ⟨rfl,by grind [tQ]⟩];rfl
theorem aEy{k:Nat}(a:k<O N)(b:eE (hJ N j sT) k=qT):
  (BO N low k j).set k {hJ (BO N low k j) k sT with bS:=(j:Int)}=BO N low k (j+1):=by
 grind [BO,List.set_set,tQ,aFA,FN]
theorem aEz{k:Nat}(a:eE (hJ N j sT) k=rR):BO N low k j=BO N low k (j+1):=by
 grind [BO,aFA,FN]
theorem aE9(hs:fY q=0)(c:nK q=rR){b:r6}(a:dA 0 (cL q) cI (cN 0 (aJ q)) (cD (aJ q))=H (bF,lF))(e:(lF.map λx=>hJ bF.2 x.1 0)=B8)(g:JX bF.1 B8 ms)(j:fH 0 cI (ms,B8) (oP lF)=(b,l))(n:dQ=hJ b.2 ((hJ l 0 sT).1) 0)(d:mD b.1)(m:dQ<O b.1):
  BQ b.1 (O bF.1) (O b.1)=l9 b.1 (O bF.1) B8/\mD (l9 b.1 (O bF.1) B8)/\
   aB q=(0,⟨vars q,q.head.map λh=>(vars q).idxOf h,l9 b.1 (O bF.1) B8,dQ,fO (l9 b.1 (O bF.1) B8) (dQ+1) dQ⟩):=by
 refine⟨aCF λi r hl=> ?_,d.Mi (DK _ _ _),?_⟩
 .obtain⟨vO,p,-⟩:=VW (pa:=0) cI (ms,B8) (oP lF);grind [aAW]
 .exact aAw hs c 0 a g.1 (e▸j) (by rw[e]) n d m
theorem Ee(hs:∀s,s∈aJ q->s<2^O (vars q))(hv:O (vars q)<=30)(hl:O (aJ q)<=7)(a:aJ q≠[])(h:kT (aJ q) (O (vars q))=qT):nK q=rR:=by
 grind [PB,nK]
def after(l:List ES)(S:List cU):List ES:=S.foldl make l
theorem o8(l:List ES)(S:List cU)(s:cU):after l (S++[s])=make (after l S) s:=by grind [after]
theorem Jb{eb:Nat}:∀(f:Nat) (l:List ES),eS l<=f->(mV l).Nodup->kM l->∀n,n<=O (run eb f l).1->next (after l ((run eb f l).1.take n)) eb=(run eb f l).1[n]?
 |f,l,hw,hd,hs,n,hn=>by
  cases a:next l eb with
  |none=>
   rw[M6 a]at hn|-;obtain rfl:n=0:=eP hn;simpa[after]using a
  |some s=>
   have b:=qA hs (jG hd a);match f,hw with
   |0,hw=>omega
   |f+1,hw=>
    rw[M5 a]at hn|-;cases n with
    |zero=>simpa[after]using a
    |succ n=>
     have:=Jb f (make l s) Y (pU hd s) (DA hs s) n (eP hn);simpa[after]using this
theorem Ny{eb:Nat}:∀(f:Nat) (l:List ES),after l (run eb f l).1=(run eb f l).2
 |0,l=>rfl
 |f+1,l=>by
  cases a:next l eb with
  |none=>rw[M6 a];rfl
  |some s=>
   rw[M5 a];have:=Ny (eb:=eb) f (make l s);simpa[after]using this
theorem RT{eb:Nat}:∀(f:Nat) (l:List ES),eS l<=f->(mV l).Nodup->kM l->O (run eb f l).1<=eS l
 |f,l,hw,hd,hs=>by
  cases a:next l eb with
  |none=>rw[M6 a];simp
  |some s=>
   have b:=qA hs (jG hd a);match f,hw with
   |0,hw=>omega
   |f+1,hw=>
    rw[M5 a];have:=RT (eb:=eb) f (make l s) Y (pU hd s) (DA hs s);simp only[TT];omega
theorem NQ{eb f:Nat}(b:eS l<=f)(hd:(mV l).Nodup)(hs:kM l)(a:n<=O (run eb f l).1):
  (n=O (run eb f l).1/\next (after l ((run eb f l).1.take n)) eb=K)\/(n<O (run eb f l).1/\∃s,(run eb f l).1[n]? =H s/\next (after l ((run eb f l).1.take n)) eb=H s/\(run eb f l).1.take (n+1)=(run eb f l).1.take n++[s]):=by
 grind [Jb,F6]
theorem Od{eb f:Nat}{b:r6}(a:eS l<=f)(hd:(mV l).Nodup)(hs:kM l){bEs:Option (r6×List ES)}(e:dA pa eb f b l=bEs):
  (iN l eb=qT/\bEs=H (b,l))\/(iN l eb=rR/\next l eb=K/\bEs=K)\/
  (iN l eb=rR/\∃g s,next l eb=H s/\eS (make l s)<=g/\dA pa eb g (gK pa b l s) (make l s)=bEs):=by
 subst e;cases d:iN l eb with
 |true=>exact .inl ⟨rfl,by cases f<;>(unfold dA;rw[bW d])⟩
 |false=>
  cases c:next l eb with
  |none=>
   refine .inr (.inl ⟨rfl,rfl,?_⟩);cases f<;>grind [dA]
  |some s=>
   have i:=qA hs (jG hd c);match f,a with
   |0,a=>omega
   |g+1,a=>
    refine .inr (.inr ⟨rfl,g,s,rfl,Y,?_⟩);conv=>rhs;unfold dA
    rw[R (by rw[d];decide),c]
def G2(xJ:List Nat)(l:List ES):Prop:=∀x,x∈l->hJ xJ x.1 0=x.2
theorem G2.aW5(es:List Nat):G2 es (cD es):=λx a=>((pS.1 (show(x.1,x.2)∈_ from a)).2).symm
theorem G2.set{xJ:List Nat}(h:G2 xJ l){s:cU}(e:s.bY<O xJ):G2 (gB xJ s) (make l s):=by
 intro x b;unfold gB;unfold make at b;by_cases d:s.aG=1
 .rw[bW d]at b|-;obtain⟨y,c,rfl⟩:=AE.1 b;rw[I5];by_cases a:y.1=s.bY
  .rw[bW a];dsimp only;rw[bW ⟨a.symm,e⟩,<-h y c,a]
  .rw[R a,R (λh=>a h.1.symm)];exact h y c
 .rw[R d]at b|-;exact h x (LC.1 b).1
def uM(xJ C1:List Nat)(s:cU):bE:=
 if s.aG=1 then⟨2,0,cB (fS (hJ xJ s.bY 0) s.cut),hJ C1 s.bY 0,0,-1,rR⟩else⟨3,0,cB (hJ xJ s.eR 0),hJ C1 s.eR 0,hJ C1 s.bY 0,-1,rR⟩
theorem rq{xJ:List Nat}{b:r6}{s:cU}{k:Nat}(h:G2 xJ l)(hd:(mV l).Nodup)(d:next l k=H s):
  gK (-1) b l s=(b.1++[uM xJ b.2 s],b.2.set (if s.aG=1 then s.bY else s.eR) (O b.1)):=by
 let⟨g,c,i⟩:=(jG hd d).mem;unfold gK uM;have gP:∀e,e∈mV l->yO l e=hJ xJ e 0:=λe c=>by
  let⟨t,a⟩:=kR.1 c;rw[wI hd a,h _ a]
 grind
def xG(x:bE)(p:Int):bE:={x with bS:=p}
theorem Gj(x:bE)(p q:Int):xG (xG x p) q=xG x q:=rfl
def pV(ns:List bE)(k:Nat):List bE:=(List.range (O ns)).map λi=>xG (hJ ns i sT) (xM ns i k)
theorem rI(ns:List bE)(k:Nat):O (pV ns k)=O ns:=by simp[pV]
theorem F9{ns:List bE}{k:Nat}(h:i<O ns):hJ (pV ns k) i sT=xG (hJ ns i sT) (xM ns i k):=by
 grind [pV]
theorem I9{a b:List bE}(hl:O a=O b)(h:∀i,i<O a->hJ a i sT=hJ b i sT):a=b:=by
 apply Bk hl;intro i c d;have:=h i c;rwa[gV,kU c,gV,kU d]at this
theorem Xx{ns:List bE}(h:∀x,x∈ns->x.bS= -1):pV ns 0=ns:=by
 refine I9 (rI ns 0) λi b=> ?_;rw[rI]at b;rw[F9 b];have a:=h (hJ ns i sT) BC;generalize hJ ns i sT=x at a;show({x with bS:= -1}:bE)=x;rw[<-a]
def xK(ns:List bE)(c k:Nat):List bE:=ns.set c (xG (hJ ns c sT) (k:Int))
theorem Hb(ns:List bE)(c k:Nat):O (xK ns c k)=O ns:=by simp[xK]
theorem Xy{ns:List bE}{k:Nat}(c:k<O ns)(d:mD ns):
  pV ns (k+1)=if(hJ ns k sT).aG=2 then xK (pV ns k) (hJ ns k sT).cM k
   else if(hJ ns k sT).aG=3 then xK (xK (pV ns k) (hJ ns k sT).cM k) (hJ ns k sT).bP k else pV ns k:=by
 let⟨b,e,a⟩:=d k c;refine I9 ?_ λi g=> ?_
 .grind [Hb,rI]
 grind [rI,F9,FN,eE,xK,uW,Gj]
theorem pq{ns:List bE}(ha:kN ns ms)(c:∀i,i<O ns->(hJ ms i sT).mL=(decide (low<=i)||decide (i∈tops))):pV ms (O ms)=l9 ns low tops:=by
 refine I9 (by rw[rI,F3,<-ha.len]) λi a=> ?_;rw[rI]at a;have b:i<O ns:=ha.len▸a;rw[F9 a];have e:hJ (l9 ns low tops) i sT={hJ ns i sT with bS:=m8 ns i,mL:=decide (low<=i)||decide (i∈tops)}:=by
  grind [l9]
 rw[e,ha.m8,<-c i b];have d:xM ms i (O ms)=m8 ms i:=rfl;rw[d];exact(Im (ha.aS i) (m8 ms i) (hJ ms i sT).mL).symm
variable{a0 a1 a2 a3 a4 a5 a6 a7:cg}{cs:Array aE}{Q':cc->aA->Prop}{S S' S1 S2:List Nat}{g:Nat}{P:cj}{v v0 v1 v2 v3 v4 v5 v6 v7 x0 x1 x2 x3 x4 x5 x6 x7:aE}{w w' w'' w1 w2:aA}
structure U(w:aA)(S:List Nat)(w':aA)(S':List Nat):Prop where
 os:w'.os=w.os
 tape:w'.tape=w.tape
 output:w'.output=w.output
 size:i7 w.heap<=i7 w'.heap
 block:∀k,k<i7 w.heap->k∉S->w'.heap[k]? =w.heap[k]?
 fresh:∀k,k∈S'->k∈S\/i7 w.heap<=k
theorem aEe{k:Nat}{p:Prop}(h:p\/n<=k)(a:¬p)(c:k<n):False:=h.elim a (λb=>by omega)
theorem U.refl(w:aA)(S:List Nat):U w S w S:=⟨rfl,rfl,rfl,Nat.le_refl _,λ_ _ _=>rfl,λ_ h=> .inl h⟩
theorem U.ds(h:U w S w1 S1)(k:U w1 S1 w2 S2):U w S w2 S2 where
 os:=k.os.ds h.os
 tape:=k.tape.ds h.tape
 output:=k.output.ds h.output
 size:=El h.size k.size
 block:=λi a c=>(k.block i (Dc a h.size) (λd=>aEe (h.fresh i d) c a)).ds (h.block i a c)
 fresh:=λi a=>by
  rcases k.fresh i a with b|b
  .exact h.fresh i b
  .exact .inr (El h.size b)
theorem U.aL{T:List Nat}(h:U w S w' S')(hs:∀k,k∈S->k∈T):U w T w' S':=
 ⟨h.os,h.tape,h.output,h.size,λk a b=>h.block k a (λc=>b (hs k c)),λk a=>(h.fresh k a).imp (hs k) id⟩
theorem U.to{T:List Nat}(h:U w S w' S')(hs:∀k,k∈T->k∈S\/i7 w.heap<=k):U w S w' T:=
 ⟨h.os,h.tape,h.output,h.size,h.block,hs⟩
theorem U.jT(h:U w S w' S')(T:List Nat):U w (S++T) w' (S'++T):=
 ⟨h.os,h.tape,h.output,h.size,λk a d=>h.block k a (λc=>d (List.mem_append.2 (.inl c))),
  λk a=>by
  rcases List.mem_append.1 a with b|b
  .exact(h.fresh k b).imp (λx=>List.mem_append.2 (.inl x)) id
  grind⟩
theorem U.drew(h:U w S w' S'):U w S w'.drew S':=⟨h.os,h.tape,h.output,h.size,h.block,h.fresh⟩
theorem U.drewN(h:U w S w' S')(n:Nat):U w S (w'.drewN n) S':=⟨h.os,h.tape,h.output,h.size,h.block,h.fresh⟩
theorem U.alloc(h:U w S w' S')(o:Obj):U w S (w'.alloc o) S':=
 ⟨h.os,h.tape,h.output,El h.size (by simp),λk a b=>(Below.heap_alloc w' o k (Dc a h.size)).ds (h.block k a b),h.fresh⟩
theorem U.setCell(h:U w S w' S'){a:cg}(ha:a.block∈S\/i7 w.heap<=a.block)(v:aE):U w S (hY w' a v) S':=
 ⟨h.os,h.tape,h.output,El h.size (by simp),λk b c=>(heap_setCell_other w' a k v (λe=>by grind)).ds (h.block k b c),h.fresh⟩
theorem U.setRow(h:U w S w' S')(c:g∈S\/i7 w.heap<=g)(cs:Array aE):U w S (w'.setRow g cs) S':=
 ⟨h.os,h.tape,h.output,El h.size (by simp),λk a b=>(setRow_other w' g k cs (λe=>by grind)).ds (h.block k a b),h.fresh⟩
theorem U.grown(h:U w S w' S'){row:Option Nat}(a:w'.grownBy w'' row)(d:∀k,row=H k->k∈S\/i7 w.heap<=k):U w S w'' S':=
 ⟨a.os.ds h.os,a.tape.ds h.tape,a.output.ds h.output,El h.size a.size,
  λk b c=>(a.block k (Dc b h.size) (λe=>aEe (d k e.symm) c b)).ds (h.block k b c),h.fresh⟩
theorem U.below(h:U w [] w' S'):Below w.heap.size w w':=⟨h.os,h.tape,h.output,h.size,λk a=>h.block k a (by simp)⟩
theorem U.aC(h:U w S w' S'){k:Nat}{o:Obj}(a:w.heap[k]? =H o)(b:k∉S):w'.heap[k]? =H o:=
 (h.block k (lt_of_block a) b).ds a
theorem U.cell(h:U w S w' S'){a:cg}(b:h8 w a=H v)(c:a.block∉S):h8 w' a=H v:=
 (World.cell?_of_block (h.block a.block (block_lt_of_cell b) c)).ds b
theorem U.Bc(h:U w S w' S'){k:Nat}(c:k<i7 w.heap)(b:k∉S):k∉S':=
 λa=>aEe (h.fresh k a) b c
theorem aP{t:ap}(a:w.heap[g]? =H (kd cs t (0,0)))(hv:cs[j]? =H v):h8 w ⟨g,j,K⟩=H v:=
 (cell_of_row w g j cs t _ a).ds hv
theorem aN{t:ap}(a:w.heap[g]? =H (kd cs t (0,0)))(j:Nat):w.frozen? ⟨g,j,K⟩=rR:=
 frozen_of_row w g j cs t a
theorem aF{t:ap}(v:aE)(a:w.heap[g]? =H (kd cs t (0,0))):
  (hY w ⟨g,i,K⟩ v).heap[g]? =H (kd (cs.setIfInBounds i v) t (0,0)):=by
 rw[heap_setCell_same w g i cs t v a]
theorem Zc{t:ap}(a:w.heap[g]? =H (kd cs t (0,0)))(j:Nat)(hv:cs[j]? =H v:=by rfl):h8 w ⟨g,j,K⟩=H v:=aP a hv
theorem Z2{t:ap}(h:w.heap[g]? =H (kd cs t (0,0)))(a:cs[0]? =H v0:=by rfl)(b:cs[1]? =H v1:=by rfl):h8 w ⟨g,0,K⟩=H v0/\h8 w ⟨g,1,K⟩=H v1:=⟨aP h a,aP h b⟩
theorem Z3{t:ap}(h:w.heap[g]? =H (kd cs t (0,0)))(a:cs[0]? =H v0:=by rfl)(c:cs[1]? =H v1:=by rfl)(b:cs[2]? =H v2:=by rfl):h8 w ⟨g,0,K⟩=H v0/\h8 w ⟨g,1,K⟩=H v1/\h8 w ⟨g,2,K⟩=H v2:=⟨aP h a,aP h c,aP h b⟩
theorem Z4{t:ap}(h:w.heap[g]? =H (kd cs t (0,0)))(a:cs[0]? =H v0:=by rfl)(c:cs[1]? =H v1:=by rfl)(d:cs[2]? =H v2:=by rfl)(b:cs[3]? =H v3:=by rfl):h8 w ⟨g,0,K⟩=H v0/\h8 w ⟨g,1,K⟩=H v1/\h8 w ⟨g,2,K⟩=H v2/\h8 w ⟨g,3,K⟩=H v3:=⟨aP h a,aP h c,aP h d,aP h b⟩
theorem Z5{t:ap}(h:w.heap[g]? =H (kd cs t (0,0)))(a:cs[0]? =H v0:=by rfl)(e:cs[1]? =H v1:=by rfl)(d:cs[2]? =H v2:=by rfl)(c:cs[3]? =H v3:=by rfl)(b:cs[4]? =H v4:=by rfl):h8 w ⟨g,0,K⟩=H v0/\h8 w ⟨g,1,K⟩=H v1/\h8 w ⟨g,2,K⟩=H v2/\h8 w ⟨g,3,K⟩=H v3/\h8 w ⟨g,4,K⟩=H v4:=⟨aP h a,aP h e,aP h d,aP h c,aP h b⟩
theorem Z6{t:ap}(h:w.heap[g]? =H (kd cs t (0,0)))(a:cs[0]? =H v0:=by rfl)(c:cs[1]? =H v1:=by rfl)(e:cs[2]? =H v2:=by rfl)(b:cs[3]? =H v3:=by rfl)(i:cs[4]? =H v4:=by rfl)(d:cs[5]? =H v5:=by rfl):h8 w ⟨g,0,K⟩=H v0/\h8 w ⟨g,1,K⟩=H v1/\h8 w ⟨g,2,K⟩=H v2/\h8 w ⟨g,3,K⟩=H v3/\h8 w ⟨g,4,K⟩=H v4/\h8 w ⟨g,5,K⟩=H v5:=⟨aP h a,aP h c,aP h e,aP h b,aP h i,aP h d⟩
theorem Z7{t:ap}(h:w.heap[g]? =H (kd cs t (0,0)))(a:cs[0]? =H v0:=by rfl)(c:cs[1]? =H v1:=by rfl)(e:cs[2]? =H v2:=by rfl)(b:cs[3]? =H v3:=by rfl)(j:cs[4]? =H v4:=by rfl)(d:cs[5]? =H v5:=by rfl)(i:cs[6]? =H v6:=by rfl):h8 w ⟨g,0,K⟩=H v0/\h8 w ⟨g,1,K⟩=H v1/\h8 w ⟨g,2,K⟩=H v2/\h8 w ⟨g,3,K⟩=H v3/\h8 w ⟨g,4,K⟩=H v4/\h8 w ⟨g,5,K⟩=H v5/\h8 w ⟨g,6,K⟩=H v6:=⟨aP h a,aP h c,aP h e,aP h b,aP h j,aP h d,aP h i⟩
theorem Z8{t:ap}(h:w.heap[g]? =H (kd cs t (0,0)))(a:cs[0]? =H v0:=by rfl)(j:cs[1]? =H v1:=by rfl)(i:cs[2]? =H v2:=by rfl)(e:cs[3]? =H v3:=by rfl)(d:cs[4]? =H v4:=by rfl)(b:cs[5]? =H v5:=by rfl)(c:cs[6]? =H v6:=by rfl)(l:cs[7]? =H v7:=by rfl):h8 w ⟨g,0,K⟩=H v0/\h8 w ⟨g,1,K⟩=H v1/\h8 w ⟨g,2,K⟩=H v2/\h8 w ⟨g,3,K⟩=H v3/\h8 w ⟨g,4,K⟩=H v4/\h8 w ⟨g,5,K⟩=H v5/\h8 w ⟨g,6,K⟩=H v6/\h8 w ⟨g,7,K⟩=H v7:=⟨aP h a,aP h j,aP h i,aP h e,aP h d,aP h b,aP h c,aP h l⟩
theorem Za{o:Obj}(h:w.alloc o=w1):U w [] w1 []:=h▸(U.refl w []).alloc o
theorem Zb{o:Obj}(h:w.alloc o=w1):w1.heap[i7 w.heap]? =H o:=by rw[<-h];exact heap_alloc_new w o
theorem Ze{o:Obj}(h:w.alloc o=w1)(a:i7 w.heap=b):w1.heap[b]? =H o:=by rw[<-h,<-a];exact heap_alloc_new w o
@[reducible,go_sem] def Ad (b o:Nat):cg:=⟨b,o,K⟩
@[reducible,go_sem] def It (n:Nat):aE:=mj mn (n:Int)
@[reducible,go_sem] def Pt (b:Nat):aE:=lr (H ⟨b,0,K⟩)
theorem qX(w:aA)(b j:Nat)(v:aE):U w [b] (hY w (Ad b j) v) [b]:=(U.refl w [b]).setCell (a:=Ad b j) (.inl (by simp)) v
theorem Sr(h:w.drewN n=w1):U w [] w1 []:=h▸(U.refl w []).drewN n
theorem A1(h:w.drew=w1):U w [] w1 []:=h▸(U.refl w []).drew
abbrev dG:=@lt_of_block
abbrev mE:=@heap_alloc_new
abbrev mY:=@bodyPost_ret
abbrev IL:=@block_lt_of_cell
abbrev Mz:=@heap_setCell_other
theorem _root_.Go.Calls.cX{f:FuncId}{a:Array aE}{bEr:cc->aA->Prop}(h:aK P f a w bEr)(k:∀e w',bEr e w'->Q' e w'):aK P f a w Q':=h.mono k
theorem _root_.Go.Calls.dC{f:FuncId}{a:Array aE}{v:cc}{bEs:aA->Prop}(h:aK P f a w λe w'=>e=v/\bEs w')(k:∀w',bEs w'->Q' v w'):aK P f a w Q':=h.mono λ_ w' x=>x.1▸k w' x.2
@[reducible,go_sem]def eC(b o n c:Nat):aE:=jS (H (Ad b o)) n c
@[reducible]def uD(w:aA)(b:Nat)(cs:Array aE)(t:ap):Prop:=w.heap[b]? =H (kd cs t (0,0))
@[reducible]def uJ(f:Nat)(a:Array aE)(w:aA)(bEr:cc->aA->Prop):Prop:=aK prog f a w bEr
theorem U.YZ(h:U w S w' S')(k:h8 w a0=H x0/\h8 w a1=H x1)(a:a0.block∉S:=by simp)(b:a1.block∉S:=by simp):h8 w' a0=H x0/\h8 w' a1=H x1:=⟨h.cell k.1 a,h.cell k.2 b⟩
theorem U.zc2(h:U w S w' S')(b:h8 w a0=H x0)(c:h8 w a1=H x1)(a:a0.block∉S:=by simp)(d:a1.block∉S:=by simp):h8 w' a0=H x0/\h8 w' a1=H x1:=⟨h.cell b a,h.cell c d⟩
theorem U.gm(h:U w S w' S')(k:h8 w a0=H x0/\h8 w a1=H x1/\h8 w a2=H x2)(a:a0.block∉S:=by simp)(c:a1.block∉S:=by simp)(b:a2.block∉S:=by simp):h8 w' a0=H x0/\h8 w' a1=H x1/\h8 w' a2=H x2:=⟨h.cell k.1 a,h.cell k.2.1 c,h.cell k.2.2 b⟩
theorem U.TR(h:U w S w' S')(d:h8 w a0=H x0)(e:h8 w a1=H x1)(k2:h8 w a2=H x2)(a:a0.block∉S:=by simp)(b:a1.block∉S:=by simp)(c:a2.block∉S:=by simp):h8 w' a0=H x0/\h8 w' a1=H x1/\h8 w' a2=H x2:=⟨h.cell d a,h.cell e b,h.cell k2 c⟩
theorem U.zh4(h:U w S w' S')(k:h8 w a0=H x0/\h8 w a1=H x1/\h8 w a2=H x2/\h8 w a3=H x3)(a:a0.block∉S:=by simp)(c:a1.block∉S:=by simp)(d:a2.block∉S:=by simp)(b:a3.block∉S:=by simp):h8 w' a0=H x0/\h8 w' a1=H x1/\h8 w' a2=H x2/\h8 w' a3=H x3:=⟨h.cell k.1 a,h.cell k.2.1 c,h.cell k.2.2.1 d,h.cell k.2.2.2 b⟩
theorem U.zc4(h:U w S w' S')(g:h8 w a0=H x0)(i:h8 w a1=H x1)(k2:h8 w a2=H x2)(b:h8 w a3=H x3)(a:a0.block∉S:=by simp)(d:a1.block∉S:=by simp)(e:a2.block∉S:=by simp)(c:a3.block∉S:=by simp):h8 w' a0=H x0/\h8 w' a1=H x1/\h8 w' a2=H x2/\h8 w' a3=H x3:=⟨h.cell g a,h.cell i d,h.cell k2 e,h.cell b c⟩
theorem U.zh5(h:U w S w' S')(k:h8 w a0=H x0/\h8 w a1=H x1/\h8 w a2=H x2/\h8 w a3=H x3/\h8 w a4=H x4)(a:a0.block∉S:=by simp)(e:a1.block∉S:=by simp)(d:a2.block∉S:=by simp)(c:a3.block∉S:=by simp)(b:a4.block∉S:=by simp):h8 w' a0=H x0/\h8 w' a1=H x1/\h8 w' a2=H x2/\h8 w' a3=H x3/\h8 w' a4=H x4:=⟨h.cell k.1 a,h.cell k.2.1 e,h.cell k.2.2.1 d,h.cell k.2.2.2.1 c,h.cell k.2.2.2.2 b⟩
theorem U.zc5(h:U w S w' S')(d:h8 w a0=H x0)(e:h8 w a1=H x1)(k2:h8 w a2=H x2)(b:h8 w a3=H x3)(c:h8 w a4=H x4)(a:a0.block∉S:=by simp)(l:a1.block∉S:=by simp)(j:a2.block∉S:=by simp)(i:a3.block∉S:=by simp)(g:a4.block∉S:=by simp):h8 w' a0=H x0/\h8 w' a1=H x1/\h8 w' a2=H x2/\h8 w' a3=H x3/\h8 w' a4=H x4:=⟨h.cell d a,h.cell e l,h.cell k2 j,h.cell b i,h.cell c g⟩
theorem U.zh6(h:U w S w' S')(k:h8 w a0=H x0/\h8 w a1=H x1/\h8 w a2=H x2/\h8 w a3=H x3/\h8 w a4=H x4/\h8 w a5=H x5)(a:a0.block∉S:=by simp)(c:a1.block∉S:=by simp)(e:a2.block∉S:=by simp)(b:a3.block∉S:=by simp)(g:a4.block∉S:=by simp)(d:a5.block∉S:=by simp):h8 w' a0=H x0/\h8 w' a1=H x1/\h8 w' a2=H x2/\h8 w' a3=H x3/\h8 w' a4=H x4/\h8 w' a5=H x5:=⟨h.cell k.1 a,h.cell k.2.1 c,h.cell k.2.2.1 e,h.cell k.2.2.2.1 b,h.cell k.2.2.2.2.1 g,h.cell k.2.2.2.2.2 d⟩
theorem U.zc6(h:U w S w' S')(e:h8 w a0=H x0)(g:h8 w a1=H x1)(k2:h8 w a2=H x2)(b:h8 w a3=H x3)(d:h8 w a4=H x4)(l:h8 w a5=H x5)(a:a0.block∉S:=by simp)(n:a1.block∉S:=by simp)(m:a2.block∉S:=by simp)(j:a3.block∉S:=by simp)(i:a4.block∉S:=by simp)(c:a5.block∉S:=by simp):h8 w' a0=H x0/\h8 w' a1=H x1/\h8 w' a2=H x2/\h8 w' a3=H x3/\h8 w' a4=H x4/\h8 w' a5=H x5:=⟨h.cell e a,h.cell g n,h.cell k2 m,h.cell b j,h.cell d i,h.cell l c⟩
theorem U.zh7(h:U w S w' S')(k:h8 w a0=H x0/\h8 w a1=H x1/\h8 w a2=H x2/\h8 w a3=H x3/\h8 w a4=H x4/\h8 w a5=H x5/\h8 w a6=H x6)(a:a0.block∉S:=by simp)(c:a1.block∉S:=by simp)(e:a2.block∉S:=by simp)(b:a3.block∉S:=by simp)(i:a4.block∉S:=by simp)(d:a5.block∉S:=by simp)(g:a6.block∉S:=by simp):h8 w' a0=H x0/\h8 w' a1=H x1/\h8 w' a2=H x2/\h8 w' a3=H x3/\h8 w' a4=H x4/\h8 w' a5=H x5/\h8 w' a6=H x6:=⟨h.cell k.1 a,h.cell k.2.1 c,h.cell k.2.2.1 e,h.cell k.2.2.2.1 b,h.cell k.2.2.2.2.1 i,h.cell k.2.2.2.2.2.1 d,h.cell k.2.2.2.2.2.2 g⟩
theorem U.zc7(h:U w S w' S')(e:h8 w a0=H x0)(g:h8 w a1=H x1)(k2:h8 w a2=H x2)(b:h8 w a3=H x3)(d:h8 w a4=H x4)(m:h8 w a5=H x5)(n:h8 w a6=H x6)(a:a0.block∉S:=by simp)(q:a1.block∉S:=by simp)(p:a2.block∉S:=by simp)(l:a3.block∉S:=by simp)(j:a4.block∉S:=by simp)(c:a5.block∉S:=by simp)(i:a6.block∉S:=by simp):h8 w' a0=H x0/\h8 w' a1=H x1/\h8 w' a2=H x2/\h8 w' a3=H x3/\h8 w' a4=H x4/\h8 w' a5=H x5/\h8 w' a6=H x6:=⟨h.cell e a,h.cell g q,h.cell k2 p,h.cell b l,h.cell d j,h.cell m c,h.cell n i⟩
theorem U.zh8(h:U w S w' S')(k:h8 w a0=H x0/\h8 w a1=H x1/\h8 w a2=H x2/\h8 w a3=H x3/\h8 w a4=H x4/\h8 w a5=H x5/\h8 w a6=H x6/\h8 w a7=H x7)(a:a0.block∉S:=by simp)(i:a1.block∉S:=by simp)(g:a2.block∉S:=by simp)(e:a3.block∉S:=by simp)(d:a4.block∉S:=by simp)(b:a5.block∉S:=by simp)(c:a6.block∉S:=by simp)(j:a7.block∉S:=by simp):h8 w' a0=H x0/\h8 w' a1=H x1/\h8 w' a2=H x2/\h8 w' a3=H x3/\h8 w' a4=H x4/\h8 w' a5=H x5/\h8 w' a6=H x6/\h8 w' a7=H x7:=⟨h.cell k.1 a,h.cell k.2.1 i,h.cell k.2.2.1 g,h.cell k.2.2.2.1 e,h.cell k.2.2.2.2.1 d,h.cell k.2.2.2.2.2.1 b,h.cell k.2.2.2.2.2.2.1 c,h.cell k.2.2.2.2.2.2.2 j⟩
theorem U.zc8(h:U w S w' S')(e:h8 w a0=H x0)(g:h8 w a1=H x1)(k2:h8 w a2=H x2)(b:h8 w a3=H x3)(d:h8 w a4=H x4)(n:h8 w a5=H x5)(p:h8 w a6=H x6)(i:h8 w a7=H x7)(a:a0.block∉S:=by simp)(r:a1.block∉S:=by simp)(q:a2.block∉S:=by simp)(m:a3.block∉S:=by simp)(l:a4.block∉S:=by simp)(c:a5.block∉S:=by simp)(j:a6.block∉S:=by simp)(u:a7.block∉S:=by simp):h8 w' a0=H x0/\h8 w' a1=H x1/\h8 w' a2=H x2/\h8 w' a3=H x3/\h8 w' a4=H x4/\h8 w' a5=H x5/\h8 w' a6=H x6/\h8 w' a7=H x7:=⟨h.cell e a,h.cell g r,h.cell k2 q,h.cell b m,h.cell d l,h.cell n c,h.cell p j,h.cell i u⟩
variable{a:Act}{ops:Array Oper}{cur:Array aE}{bEr:Exit->Act->aA->Prop}{news:List aE}{cap n2 sz2:Nat}
section
def eV(w:aA)(v:aE)(e:ap)(sz n:Nat)(c:Nat->Nat->aE):Prop:=
 (v=jS K 0 0/\n=0)\/
 ∃g cap cur,v=jS (H ⟨g,0,K⟩) n cap/\w.heap[g]? =H (kd cur e (0,0))/\n<=cap/\cap<=bH/\cur.size=cap*sz/\
  ∀i j,i<n->j<sz->cur[i*sz+j]? =H (c i j)
section
variable{w w':aA}{v:aE}{e:ap}{sz n:Nat}{c c':Nat->Nat->aE}
theorem eV.nil(w:aA)(e sz:Nat)(c:Nat->Nat->aE):eV w (jS K 0 0) e sz 0 c:= .inl ⟨rfl,rfl⟩
theorem eV.congr(h:eV w v e sz n c)(l:∀i j,i<n->j<sz->c i j=c' i j):eV w v e sz n c':=by
 rcases h with h|⟨g,cap,cur,hv,m,d,p,hs,q⟩
 .exact .inl h
 .exact .inr ⟨g,cap,cur,hv,m,d,p,hs,λi j b a=>by rw[q i j b a,l i j b a]⟩
theorem eV.len(h:eV w v e sz n c):∃a cap,v=jS a n cap/\n<=bH:=by
 rcases h with⟨rfl,rfl⟩|⟨g,cap,cur,hv,b,i,d,_⟩
 .grind
 grind
theorem eV.block(h:eV w v e sz n c)(m:0<n):∃g cap,v=jS (H ⟨g,0,K⟩) n cap/\i6 v=H g/\g<i7 w.heap/\
  (∀i j,i<n->j<sz->h8 w ⟨g,i*sz+j,K⟩=H (c i j))/\(∀k,w.frozen? ⟨g,k,K⟩=rR)/\(∃cur,w.heap[g]? =H (kd cur e (0,0))):=by
 rcases h with⟨rfl,rfl⟩|⟨g,cap,cur,hv,a,p,q,hs,d⟩
 .omega
 .exact⟨g,cap,hv,by rw[hv];rfl,dG a,λi j l b=>aP a (d i j l b),λk=>aN a k,cur,a⟩
theorem eV.free(h:eV w v e sz n c)(a:i6 v=H g)(k:Nat):w.frozen? ⟨g,k,K⟩=rR:=by
 rcases h with⟨rfl,rfl⟩|⟨g',cap,cur,rfl,b,_⟩
 .grind [i6]
 grind [i6,aN]
theorem eV.aC(h:eV w v e sz n c)(b:∀g,i6 v=H g->w'.heap[g]? =w.heap[g]?):eV w' v e sz n c:=by
 rcases h with h|⟨g,cap,cur,rfl,a,rest⟩
 .exact .inl h
 .exact .inr ⟨g,cap,cur,rfl,(b g rfl).ds a,rest⟩
theorem eV.eU(h:eV w v e sz n c)(b:U w S w' S')(d:∀g,i6 v=H g->g∉S):eV w' v e sz n c:=by
 rcases h with h|⟨g,cap,cur,rfl,a,rest⟩
 .exact .inl h
 .exact .inr ⟨g,cap,cur,rfl,b.aC a (d g rfl),rest⟩
theorem eV.lt(h:eV w v e sz n c):∀g,i6 v=H g->g<i7 w.heap:=by
 rcases h with⟨rfl,_⟩|⟨g,cap,cur,rfl,a,rest⟩
 .grind [i6]
 grind [i6]
theorem eV.ne(h:eV w v e sz n c){t:Nat}(i:w.heap[b]? =H (kd cs t (0,0)))(d:e≠t):i6 v≠H b:=by
 rcases h with⟨rfl,_⟩|⟨g,cap,cur,rfl,a,rest⟩
 .simp[i6]
 grind [i6]
theorem eV.KA(h:eV w v e sz n c){e2:Nat}{c2:Nat->Nat->aE}(d:eV w v2 e2 sz2 n2 c2)(a:e≠e2):∀g,i6 v=H g->i6 v2≠H g:=by
 intro g i;rcases h with⟨rfl,_⟩|⟨g',cap,cur,rfl,b,rest⟩
 .grind [i6]
 .have:g'=g:=by grind [i6]
  subst this;exact d.ne b (λe=>a e.symm)
theorem eV.set(h:eV w v e sz n c)(hv:v=jS (H ⟨g,0,K⟩) n cap)(i j:Nat)(x:j<sz)(u:aE):
  eV (hY w ⟨g,i*sz+j,K⟩ u) v e sz n (λb a=>if b=i/\a=j then u else c b a):=by
 rcases h with⟨rfl,_⟩|⟨g',cap',cur,rfl,d,l,m,hs,p⟩
 .simp at hv
 .obtain⟨rfl,rfl⟩:g'=g/\cap'=cap:=eP hv;refine .inr ⟨g',cap',_,rfl,aF u d,l,m,by simpa using hs,λb a q r=> ?_⟩;grind [a02,Nat.mul_add_div,Nat.div_eq_of_lt]
def yD(c:Nat->Nat->aE)(n:Nat)(news:List aE):Nat->Nat->aE:=λi j=>if i=n then hJ news j undef else c i j
theorem eV.Ol(b:w'.heap[g]? =H (kd cur e (0,0)))(m:n+1<=cap)(l:cap<=bH)(hs:cur.size=cap*sz)(hl:O news=sz)(a:∀i j,i<n->j<sz->cur[i*sz+j]? =H (c i j))(d:∀j,j<sz->cur[n*sz+j]? =news[j]?):
  eV w' (jS (H ⟨g,0,K⟩) (n+1) cap) e sz (n+1) (yD c n news):=by
 refine .inr ⟨g,cap,cur,rfl,b,m,l,hs,λi j q p=> ?_⟩;grind [yD]
end
def xk(w:aA)(a:cg):Nat:=match h8 w a with|some (jS _ k _)=>k|_=>0
theorem SG{w:aA}{a:cg}{p:Option cg}{k c:Nat}(h:h8 w a=H (jS p k c)):xk w a=k:=by simp[xk,h]
section
variable{P:cj}(w:aA)
theorem M7(t ty e:ap)(i:TypeInfo)(z:aE)(size bytes:Nat)(y:P.underlying t=H (.slice e))(r:P.info? e=H i)(N:i.zero=H z)(F5:i.size=size)(T:i.bytes=bytes)(f:z.cells.size=size)(v:aE)(n:Nat)(h:Nat->Nat->aE)(V:eV w v e size n h)(a:cg)(c:Nat)(news:List aE)(hl:O news=size)(A:∀j u,news[j]? =H u->h8 w (a.add j)=H u)(h1:∀u∈news,u.oneCell'=qT)(W:(n+1)*bytes<=140737488355328)(S:n+1<=bH):
  ∃v' w',(Builtin.append_ #[t,t] ty #[v,jS (H a) 1 c]).run P w= .ok v' w'/\eV w' v' e size (n+1) (yD h n news)/\w.grownBy w' (i6 v)/\
   (∀k,i6 v'=H k->i6 v=H k\/i7 w.heap<=k)/\∃g cap,v'=jS (H ⟨g,0,K⟩) (n+1) cap:=by
 subst F5;subst T;have Q:n+1<=9223372036854775807:=by grind [bH]
 rcases V with⟨rfl,rfl⟩|⟨g,cap,cur,rfl,vm,ni,B,zM,L⟩
 .have q:=run_append_nil (P:=P) w t ty e i z y r N a 1 c news Y A Y Y Y;refine⟨_,_,q,?_,⟨rfl,rfl,rfl,J,λk b _=>Below.heap_alloc w.drew _ k b⟩,λk b=> ?_,_,_,rfl⟩
  .have x:=grownCap_ge w 1 0 e;refine eV.Ol (mE w.drew _) Y (grownCap_le_maxLen w 1 0 e Y) ?_ hl (λi j r=>Y) (λj m=> ?_)
   .simp only[H3,Ic,size_zeroCells,f,hl];rw[OM,Nat.one_mul];have:=Sq i.size x;omega
   grind
  grind [i6]
 .by_cases C:n+1<=cap
  .have pZ:n*i.size+O news<=cur.size:=by rw[hl,zM,<-a03];exact Sq _ C
   have q:=run_append_room (P:=P) w t ty e i y r g n cap cur vm a 1 c news Y A h1 C pZ;refine⟨_,_,q,?_,⟨rfl,rfl,rfl,J,λk _ b=>setRow_other w g k _ (λe=>b (by simp[i6,e]))⟩,λk b=> .inl b,_,_,rfl⟩;refine eV.Ol (setRow_heap w g cur _ e _ vm) C B ?_ hl (λl j F m=> ?_) (λj m=> ?_)
   .grind
   .have G:l*i.size+j<n*i.size:=by
     calc l*i.size+j<(l+1)*i.size:=by grind
      _<=n*i.size:=Sq _ Y
    rw[<-L l j F m,vW,SN,z' BC,zb,if_pos G,zn]
   grind
  .have d:∀j u,(cur.toList.take (n*i.size))[j]? =H u->h8 w (((Ad g 0):cg).add j)=H u:=by
    grind [Addr.add,cell_of_row]
   have hle:n*i.size<=cur.size:=by grind
   have p:O (cur.toList.take (n*i.size))=n*i.size:=by simp;omega
   have q:=run_append_grow (P:=P) w t ty e i z y r N (Ad g 0) n cap _ p d a 1 c news Y A Y Y (growslice_fits Y W);refine⟨_,_,q,?_,⟨rfl,rfl,rfl,J,λk b _=>Below.heap_alloc w.drew _ k b⟩,λk b=> ?_,_,_,rfl⟩
   .have x:=grownCap_ge w (n+1) cap e;refine eV.Ol (mE w.drew _) x (grownCap_le_maxLen w (n+1) cap e S) ?_ hl (λl j F m=> ?_) (λj m=> ?_)
    .simp only[H3,Ic,size_zeroCells,f,hl,p];rw[OM,a03];have:=Sq i.size x;grind
    .have G:l*i.size+j<n*i.size:=by
      grind
     rw[<-L l j F m,zo (by simp;omega),zo (by simp;omega),vW,zb,if_pos G,zn]
    grind
   grind [i6]
theorem RD{rest:List Oper}{o:Oper}(S:o.guard=K)(s x:Operand)(t:ap)(y:o.op= .call {callee:= .builtin .append,args:=#[s,x],argTypes:=#[t,t]})(e:ap)(i:TypeInfo)(z:aE)(size bytes:Nat)(d:P.underlying t=H (.slice e))(G:P.info? e=H i)(V:i.zero=H z)(N:i.size=size)(r:i.bytes=bytes)(T:z.cells.size=size)(v:aE)(n:Nat)(b:Nat->Nat->aE)(A:eV w v e size n b)(hs:a.eval s=v)(ad:cg)(c:Nat)(news:List aE)(l:a.eval x=jS (H ad) 1 c)(hl:O news=size)(q:∀j u,news[j]? =H u->h8 w (ad.add j)=H u)(Q:∀u∈news,u.oneCell'=qT)(L:(n+1)*bytes<=140737488355328)(p:n+1<=bH)(h:∀v' w',eV w' v' e size (n+1) (yD b n news)->w.grownBy w' (i6 v)->(∀k,i6 v'=H k->i6 v=H k\/i7 w.heap<=k)->(∃g cap,v'=jS (H ⟨g,0,K⟩) (n+1) cap)->
   wpList P ops bEr rest (a.put o.dst v') w'):wpList P ops bEr (o::rest) a w:=by
 refine wpList_plain S λvm hK=> ?_;let⟨v',w',F,B,f,C,m⟩:=M7 (P:=P) w t o.type e i z size bytes d G V N r T v n b A ad c news hl q Q L p;unfold Oper.wp execOp;simp only[y,resolve,invoke,builtin,Sem.run_bind,Sem.run_pure,Result.andThen_ok,List.map_toArray,KR,List.map_nil,hs,l,F];exact hK _ _ (h v' w' B f C m)
theorem I4{w:aA}{o:Obj}{row:Option Nat}(h:(w.alloc o).grownBy w1 row):w.grownBy w1 row:=
 ⟨h.os,h.tape,h.output,by have:=h.size;simp at this;omega,λk b a=>(h.block k (by simp;omega) a).ds (Below.heap_alloc w o k b)⟩
theorem Ke(w:aA)(vs:List aE)(t:ap):∀j u,vs[j]? =H u->h8 (i5 w (kd vs.toArray t)) ((⟨w,0,K⟩:cg).add j)=H u:=by
 intro j u a;have b:(⟨w,0,K⟩:cg).add j=⟨w,j,K⟩:=by unfold Addr.add;split<;>simp_all
 simp_all
theorem rV{rest:List Oper}{o:Oper}(L:o.guard=K)(s x:Operand)(t:ap)(q:o.op= .call {callee:= .builtin .append,args:=#[s,x],argTypes:=#[t,t]})(e:ap)(i:TypeInfo)(z:aE)(size bytes:Nat)(j:P.underlying t=H (.slice e))(A:P.info? e=H i)(B:i.zero=H z)(f:i.size=size)(p:i.bytes=bytes)(N:z.cells.size=size)(v:aE)(n:Nat)(b:Nat->Nat->aE)(d:eV w v e size n b)(hs:a.eval s=v)(news:List aE)(l:a.eval x=jS (H ⟨w,0,K⟩) 1 1)(hl:O news=size)(c:news.all Value.oneCell'=qT)(G:(n+1)*bytes<=140737488355328)(m:n+1<=bH)(h:∀v' w',eV w' v' e size (n+1) (yD b n news)->w.grownBy w' (i6 v)->(∀k,i6 v'=H k->i6 v=H k\/i7 w.heap<=k)->(∃g cap,v'=jS (H ⟨g,0,K⟩) (n+1) cap)->
   wpList P ops bEr rest (a.put o.dst v') w'):wpList P ops bEr (o::rest) a (i5 w (kd news.toArray e)):=
 RD (i5 w (kd news.toArray e)) L s x t q e i z size bytes j A B f p N v n b (d.aC λg e=>Below.heap_alloc _ _ _ (d.lt g e)) hs ⟨w,0,K⟩ 1 news l hl
  (Ke w news e) (λu C=>Tv.1 c u C) G m λv' w' c r vm y=>h v' w' c (I4 r) (λk F=>(vm k F).imp id (λh=>by simp at h;omega)) y
end
end
variable{tmps:Array aE}{fn:Func}{bytes size sz:Nat}{u2:Tmp}{z:aE}
section
theorem ZM111{P:Prop}(h:P:=by
  have mu:tmps[p]?.getD undef=lr (H A):=eP hp;simp[results,h,mu,asAddr,hv,Result.andThen_ok]):P:=h
structure kD(P:cj)(t e:ap)(size bytes:Nat):Prop where
 ex:∃i z,P.underlying t=H (.slice e)/\P.info? e=H i/\i.zero=H z/\i.size=size/\i.bytes=bytes/\z.cells.size=size
theorem kD.QZ{P:cj}{t e:ap}(b:P.underlying t=H (.slice e))(h:(P.info? e).map (λi=>(i.zero,i.size,i.bytes))=H (H z,size,bytes))(c:z.cells.size=size):kD P t e size bytes:=by
 let⟨i,d,a⟩:=Option.map_eq_some_iff.1 h;simp only[Prod.mk.injEq]at a;exact⟨i,z,b,d,a.1,a.2.1,a.2.2,c⟩
section
variable{P:cj}{w:aA}
end
theorem eV.cell{w:aA}{c:Nat->Nat->aE}(h:eV w (jS (H ⟨g,0,K⟩) n cap) e sz n c)(d:i<n)(a:j<sz):h8 w ⟨g,i*sz+j,K⟩=H (c i j):=by
 let⟨g',cap',hv,_,_,b,_⟩:=h.block Y;obtain⟨rfl,rfl⟩:g=g'/\cap=cap':=eP hv;exact b i j d a
theorem U.nil{w:aA}(h:U w [] w' S'):U w [] w' []:=h.to J
theorem U.yx{w:aA}(h:U w S w' S'){k:Nat}(d:h8 w ⟨b,k,K⟩=H v)(c:b∉S)(e:∀j,w.frozen? ⟨b,j,K⟩=rR):∀j,w'.frozen? ⟨b,j,K⟩=rR:=
 λj=>(World.frozen?_of_block (a:=Ad b j) (h.block b (IL d) c)).ds (e j)
theorem aW{P:cj}{w:aA}{p u:Tmp}{T:ap}{A:cg}(h:fn.results=#[.cell p T,.tmp u])(hp:tmps.getD p undef=lr (H A))(hv:(loadVar T A).run P w= .ok v w):(results fn tmps).run P w= .ok (mr #[v,tmps.getD u undef]) w:=ZM111
theorem A4{P:cj}{w:aA}{p u:Tmp}{T:ap}{A:cg}(h:fn.results=#[.cell p T,.tmp u,.tmp u2])(hp:tmps.getD p undef=lr (H A))(hv:(loadVar T A).run P w= .ok v w):(results fn tmps).run P w= .ok (mr #[v,tmps.getD u undef,tmps.getD u2 undef]) w:=ZM111
theorem ig{P:cj}{c:Code}{w:aA}(h:∀w',w'=w->c.wp P bEr a w'):c.wp P bEr a w:=h w rfl
theorem iP{a:Nat}(h:a<b):a<b/\(∀n,a<b+n)/\(∀n m,a<b+n+m)/\(∀n m k,a<b+n+m+k)/\(∀n m k i,a<b+n+m+k+i)/\(∀n m k i j,a<b+n+m+k+i+j):=
 ⟨h,λ_=>Y,λ_ _=>Y,λ_ _ _=>Y,λ_ _ _ _=>Y,λ_ _ _ _ _=>Y⟩
end
variable{cap':Nat}{e2:ap}{wb:aA}
section
section
variable(w:aA)(a b c d:Obj)
theorem lP:((w.alloc a).alloc b).heap[i7 w.heap]? =H a:=(Below.heap_alloc (w.alloc a) b _ (by(try simp)<;>omega)).ds (mE w a)
theorem lO:((w.alloc a).alloc b).heap[i7 w.heap+1]? =H b:=eP (mE (w.alloc a) b)
theorem aq:(((w.alloc a).alloc b).alloc c).heap[i7 w.heap]? =H a:=(Below.heap_alloc _ c _ (by(try simp)<;>omega)).ds (lP w a b)
theorem ao:(((w.alloc a).alloc b).alloc c).heap[i7 w.heap+1]? =H b:=(Below.heap_alloc _ c _ (by(try simp)<;>omega)).ds (lO w a b)
end
theorem U.bJ{w:aA}(h:U w [] w1 S1)(k:U w1 S w2 S')(c:∀b,b∈S->i7 w.heap<=b):U w [] w2 []:=
 ⟨k.os.ds h.os,k.tape.ds h.tape,k.output.ds h.output,j8 h.size k.size,λi a _=>(k.block i (xF a h.size) (λd=>dY (c i d) Y)).ds (h.block i a J),J⟩
theorem UK{w:aA}{B:Nat}{a b x y:aE}{t:ap}(h:w.heap[B]? =H (kd #[a,b] t (0,0))):
  (hY (hY w ⟨B,0,K⟩ x) ⟨B,1,K⟩ y).heap[B]? =H (kd #[x,y] t (0,0))/\U w [B] (hY (hY w ⟨B,0,K⟩ x) ⟨B,1,K⟩ y) [B]:=
 ⟨by rw[aF _ (aF _ h)];rfl,(qX w B 0 x).setCell (a:=Ad B 1) (.inl J) y⟩
theorem PQ{w:aA}{B:Nat}{a b c x y:aE}{t:ap}(h:w.heap[B]? =H (kd #[a,b,c] t (0,0))):
  (hY (hY (hY w ⟨B,0,K⟩ x) ⟨B,1,K⟩ y) ⟨B,2,K⟩ z).heap[B]? =H (kd #[x,y,z] t (0,0))/\U w [B] (hY (hY (hY w ⟨B,0,K⟩ x) ⟨B,1,K⟩ y) ⟨B,2,K⟩ z) [B]:=
 ⟨by rw[aF _ (aF _ (aF _ h))];rfl,((qX w B 0 x).setCell (a:=Ad B 1) (.inl J) y).setCell (a:=Ad B 2) (.inl J) z⟩
theorem iI{w:aA}{p:Tmp}{T:ap}(A:cg){v:aE}(h:fn.results=#[.cell p T])(a:tmps.getD p undef=lr (H A))(hv:(loadVar T A).run P w= .ok v w):(results fn tmps).run P w= .ok v w:=by
 simp_all[undef,results,asAddr,Result.andThen_ok]
def Rd(w:aA)(v:aE)(sz n:Nat)(c:Nat->Nat->aE):Prop:=
 (n=0/\∃a cap,v=jS a 0 cap/\(a=K->cap=0))\/
 ∃g o cap,v=jS (H ⟨g,o,K⟩) n cap/\0<n/\n<=bH/\g<i7 w.heap/\∀i j,i<n->j<sz->h8 w ⟨g,o+i*sz+j,K⟩=H (c i j)
def Value.nL:aE->Option Nat
 |jS (H a) _ _=>H a.block
 |_=>K
section
variable{w w':aA}{v:aE}{sz n:Nat}{c c':Nat->Nat->aE}
theorem Rd.len(h:Rd w v sz n c):∃a cap,v=jS a n cap/\n<=bH:=by
 rcases h with⟨rfl,a,cap,rfl,_⟩|⟨g,o,cap,rfl,_,b,_⟩<;>grind
theorem Rd.aS(h:Rd w v sz n c)(a:0<n):∃g o cap,v=jS (H ⟨g,o,K⟩) n cap/\g<i7 w.heap/\∀i j,i<n->j<sz->h8 w ⟨g,o+i*sz+j,K⟩=H (c i j):=by
 rcases h with⟨rfl,_⟩|⟨g,o,cap,hv,_,_,b,d⟩<;>grind
theorem Rd.congr(h:Rd w v sz n c)(e:∀i j,i<n->j<sz->c i j=c' i j):Rd w v sz n c':=by
 rcases h with h|⟨g,o,cap,hv,d,m,l,h⟩
 .exact .inl h
 .exact .inr ⟨g,o,cap,hv,d,m,l,λi j b a=>by rw[h i j b a,e i j b a]⟩
theorem Rd.eU(h:Rd w v sz n c)(a:U w S w' S')(m:∀g,Value.nL v=H g->g∉S):Rd w' v sz n c:=by
 rcases h with h|⟨g,o,cap,rfl,b,l,d,h⟩
 .exact .inl h
 .have:=m g rfl;exact .inr ⟨g,o,cap,rfl,b,l,xF d a.size,λi j p e=>a.cell (h i j p e) this⟩
theorem Rd.on(h:Rd w v sz n c)(a:U w [] w' S'):Rd w' v sz n c:=h.eU a (λ_ _=>J)
theorem Rd.nil(w:aA)(sz:Nat)(c:Nat->Nat->aE):Rd w (jS K 0 0) sz 0 c:= .inl ⟨rfl,K,0,rfl,λ_=>rfl⟩
theorem eV.rd{e:ap}(h:eV w v e sz n c):Rd w v sz n c:=by
 rcases L3 n with rfl|b
 .rcases h with⟨rfl,_⟩|⟨g,cap,cur,rfl,_⟩
  .exact Rd.nil _ _ _
  .exact .inl ⟨rfl,_,cap,rfl,λh=>by cases h⟩
 .let⟨g,cap,hv,_,d,m,_,_⟩:=h.block b;obtain⟨a,cap',q,l⟩:=h.len;exact .inr ⟨g,0,cap,hv,b,l,d,λi j r p=>by grind⟩
theorem Rd.take{a:Option cg}{k:Nat}(h:Rd w (jS a n cap) sz n c)(p:k<=n)(ha:a=K->cap'=0):Rd w (jS a k cap') sz k c:=by
 rcases L3 k with rfl|b
 .exact .inl ⟨rfl,a,cap',rfl,ha⟩
 .rcases h with⟨rfl,_⟩|⟨g,o,cap,hv,_,m,e,d⟩
  .omega
  .injection hv with h1 _ _;subst h1;exact .inr ⟨g,o,cap',rfl,b,Y,e,λi j q l=>d i j Y l⟩
end
def bN{α:Type}(f:α->Nat->aE)(d:α)(e:ap)(sz:Nat)(w0 w:aA)(v:aE)(l:List α):Prop:=
 eV w v e sz (O l) (λi j=>f (hJ l i d) j)/\∀g,i6 v=H g->i7 w0.heap<=g
def fM{α:Type}(f:α->Nat->aE)(d:α)(sz:Nat)(w:aA)(v:aE)(l:List α):Prop:=Rd w v sz (O l) λi j=>f (hJ l i d) j
section
variable{α:Type}{f:α->Nat->aE}{d:α}{e:ap}{sz:Nat}{w0 w w':aA}{v:aE}{l:List α}
theorem bN.rd(h:bN f d e sz w0 w v l):fM f d sz w v l:=h.1.rd
theorem bN.nil(w0 w:aA):bN f d e sz w0 w (jS K 0 0) []:=⟨eV.nil _ _ _ _,λg a=>by cases a⟩
theorem bN.len(h:bN f d e sz w0 w v l):∃a cap,v=jS a (O l) cap/\O l<=bH:=h.1.len
theorem bN.eU(h:bN f d e sz w0 w v l)(a:U w S w' S')(b:∀g,i6 v=H g->g∉S):bN f d e sz w0 w' v l:=⟨h.1.eU a b,h.2⟩
theorem bN.on(h:bN f d e sz w0 w v l)(a:U w [] w' S'):bN f d e sz w0 w' v l:=h.eU a (λ_ _=>J)
theorem bN.eO(h:bN f d e sz w0 w v l)(hs:i7 wb.heap<=i7 w0.heap):bN f d e sz wb w v l:=⟨h.1,λg a=>j8 hs (h.2 g a)⟩
theorem bN.drew(h:bN f d e sz w0 w v l):bN f d e sz w0 w.drew v l:=⟨h.1,h.2⟩
theorem bN.ne(h:bN f d e sz w0 w v l){b:Nat}{t:ap}(g:w.heap[b]? =H (kd cs t (0,0)))(a:e≠t):b∉v.ownBlock.toList:=λc=>eV.ne h.1 g a (eP c)
theorem bN.set(h:bN f d e sz w0 w v l){b:Nat}{t:ap}(m:w.heap[b]? =H (kd cs t (0,0)))(a:e≠t)(i:U w [b] w' S'):bN f d e sz w0 w' v l:=
 h.eU i (λg c j=>by
  obtain rfl:g=b:=eP j;exact h.ne m a (eP c))
theorem bN.jT{β:Type}{i:β->Nat->aE}{c:β}{j:List β}(h:bN f d e sz w0 w v l)(n:bN i c e2 sz2 wb w v2 j)(a:e≠e2)(b:U w v2.ownBlock.toList w' S'):bN f d e sz w0 w' v l:=
 h.eU b (λg m p=>eV.KA h.1 n.1 a g m (eP p))
theorem bN.BJ(h:bN f d e sz w0 w v l){b:Nat}(c:b<i7 w0.heap):b∉v.ownBlock.toList:=λa=>by
 have:=h.2 b (eP a);omega
theorem fM.on(h:fM f d sz w v l)(a:U w [] w' S'):fM f d sz w' v l:=Rd.on h a
theorem fM.len(h:fM f d sz w v l):∃a cap,v=jS a (O l) cap/\O l<=bH:=Rd.len h
theorem fM.nil(w:aA):fM f d sz w (jS K 0 0) []:=Rd.nil w sz _
theorem fM.aS(h:fM f d sz w v l)(c:i<O l):∃g o cap,v=jS (H ⟨g,o,K⟩) (O l) cap/\g<i7 w.heap/\∀j,j<sz->h8 w ⟨g,o+i*sz+j,K⟩=H (f (hJ l i d) j):=by
 let⟨g,o,cap,hv,a,b⟩:=Rd.aS h Y;grind
theorem fM.ad(h:fM f d sz w v l)(a:0<O l):∃g o cap,v=jS (H ⟨g,o,K⟩) (O l) cap:=by
 let⟨g,o,cap,hv,_⟩:=Rd.aS h a;grind
theorem fM.cells{o n:Nat}(h:fM f d sz w (jS (H ⟨g,o,K⟩) n cap) l)(a:i<O l):∀j,j<sz->h8 w ⟨g,o+i*sz+j,K⟩=H (f (hJ l i d) j):=by
 let⟨g',b,cap',hv,_,c⟩:=h.aS a;grind
theorem iZ{l:List α}{x d:α}:hJ (l++[x]) i d=if i=O l then x else hJ l i d:=by
 grind
theorem bN.yD{x:α}(h:eV w v e sz (O l+1) (yD (λi j=>f (hJ l i d) j) (O l) news))(b:∀j,j<sz->hJ news j undef=f x j)(c:∀g,i6 v=H g->i7 w0.heap<=g):bN f d e sz w0 w v (l++[x]):=by
 refine⟨?_,c⟩;rw[E7,Ty];refine h.congr λi j m a=> ?_;unfold YtohhhhfdpceppaaGreatDoor.yD;rw[iZ];split
 .exact b j a
 .rfl
theorem cK{t:ap}(B:kD P t e sz bytes){rest:List Oper}{o:Oper}{a:Act}(W:o.guard=K)(s y:Operand)(G:o.op= .call {callee:= .builtin .append,args:=#[s,y],argTypes:=#[t,t]})(m:bN f d e sz w0 w v l)(n:U w0 [] w [])(hs:a.eval s=v)(news:List aE)(x:α)(r:a.eval y=jS (H ⟨w,0,K⟩) 1 1)(hl:O news=sz)(td:∀j,j<sz->hJ news j undef=f x j)(V:news.all Value.oneCell'=qT)(Q:(O l+1)*bytes<=140737488355328)(A:O l+1<=bH)(h:∀g cap w',bN f d e sz w0 w' (jS (H ⟨g,0,K⟩) (O l+1) cap) (l++[x])->U w0 [] w' []->U w v.ownBlock.toList w' [g]->i7 w0.heap<=g->
   wpList P ops bEr rest (a.put o.dst (jS (H ⟨g,0,K⟩) (O l+1) cap)) w'):wpList P ops bEr (o::rest) a (i5 w (kd news.toArray e)):=by
 obtain⟨i,z,u,L,N,T,F,mf⟩:=B.ex;refine rV w W s y t G e i z sz bytes u L N T F mf v (O l) _ m.1 hs news r hl V Q A ?_;rintro v' w' us q b ⟨g,cap,rfl⟩;have S:i7 w0.heap<=g:=by
  rcases b g rfl with c|c
  .exact m.2 g c
  .exact j8 n.size c
 have vm:bN f d e sz w0 w' (eC g 0 (O l+1) cap) (l++[x]):=bN.yD us td (λg' KG=>by grind [i6]);have C:U w v.ownBlock.toList w' [g]:=((U.refl w v.ownBlock.toList).grown q (λk b=> .inl (by rw[b];simp))).to (λk p=>by
  simp at p;subst p;rcases b k rfl with c|c<;>grind)
 exact h g cap w' vm (n.grown q (λk b=> .inr (m.2 k b))).nil C S
end
end
theorem aOX{p u:Tmp}{T:ap}{A:cg}(h:fn.results=#[.cell p T,.tmp u])(b:tmps.getD p undef=lr (H A))(a:tmps.getD u undef=v2)(hv:(loadVar T A).run P w= .ok v w):(results fn tmps).run P w= .ok (mr #[v,v2]) w:=by
 subst a;exact aW h b hv
variable{a':Act}{vm:Act->aA->Prop}{listed:Array Bool}{fuel id:Nat}{o1 o2 oi:Oper}
section
section
variable{P:cj}{ops:Array Oper}{bEr:Exit->Act->aA->Prop}{md:Region.Mode}{S:aA->Prop}{L:Nat}
def jC(P:cj)(md:Region.Mode)(ops:Array Oper)(bEr:Exit->Act->aA->Prop)(S:aA->Prop)(L:Nat):Nat->Array Bool->Act->aA->Prop
 |0,listed,a,w=>Region.ready md ops listed=[]/\bEr .normal a w
 |fuel+1,listed,a,w=>
  (Region.ready md ops listed=[]->bEr .normal a w)/\
  ∀i∈Region.ready md ops listed,wpOp P ops bEr i (λa' w'=>(i≠L->S w')/\jC P md ops bEr S L fuel (listed.setIfInBounds i qT) a' w') a w
theorem Z9:∀(fuel:Nat) (listed:Array Bool) (a:Act) (w:aA),jC P md ops bEr S L fuel listed a w->wpAny P md ops bEr fuel listed a w
 |0,_,_,_,h=>h
 |fuel+1,_,_,_,h=>⟨h.1,λi c=>wpOp_mono (λa' w' b=>Z9 fuel _ a' w' b.2) (h.2 i c)⟩
def waits(md:Region.Mode)(ops:Array Oper)(L i:Nat):Bool:=
 match ops[L]?with
 |some o=>o.after.any λe=>Region.binds md e&&e.on==i
 |none=>qT
theorem ME(a:waits md ops L i=qT)(b:i∈Region.ready md ops listed):L∉Region.ready md ops listed:=by
 grind [mem_ready,waits]
theorem RF(u:ops[i]? =H oi)(q:∀(j:Nat) (o:Oper) cs b,ops[j]? =H o->o.op≠ .select cs b)(hl:waits md ops L i=qT)(y:∀c a w,bEr (.panic c) (a.put oi.dst v) w->bEr (.panic c) a w):
  ∀(fuel:Nat) (listed:Array Bool) (a:Act) (w:aA),
   (∀j d,ops[j]? =H d->j≠i->listed.getD j qT=rR->(∀e∈d.after,Region.binds md e=qT->e.on≠i)->oi.apart ops d=qT)->
   i∈Region.ready md ops listed->YieldsIf P ops S oi v a->S w->
   jC P md ops bEr S L fuel (listed.setIfInBounds i qT) (a.put oi.dst v) w->jC P md ops bEr S L (fuel+1) listed a w
 |fuel,listed,a,w,hfree,hr,hy,hS,s=>by
  refine⟨λh=>(by grind),λj p=> ?_⟩;by_cases l:j=i
  .subst l;exact hy.wpOp u hS ⟨λ_=>hS,s⟩
  .have m:j≠L:=λe=>ME hl hr (e▸p);cases fuel with
   |zero=>
    have:=ready_mono p l;rw[s.1]at this;cases this
   |succ fuel=>
    have F:=s.2 j (ready_mono p l);obtain⟨r,d,g,QA⟩:=mem_ready.1 p;have x:∀e∈d.after,Region.binds md e=qT->e.on≠i:=λe f T A=>by
     grind [mem_ready]
    have B:=wpOp_putIf g (hfree j d g l r x) (λcs b=>q i oi cs b u) (λcs b=>q j d cs b g) y hy F;have G:∀k ok,ops[k]? =H ok->k≠i->(listed.setIfInBounds j qT).getD k qT=rR->
      (∀e∈ok.after,Region.binds md e=qT->e.on≠i)->oi.apart ops ok=qT:=λk ok C z Q vm=>by
     refine hfree k ok C z ?_ vm;by_cases N:j=k<;>simp_all
    refine wpOp_mono (λa' w' n=>⟨λ_=>n.2.1 m,RF u q hl y fuel (listed.setIfInBounds j qT) a' w' G (ready_mono hr (Ne.symm l)) n.1 (n.2.1 m) ?_⟩) B;rw[Array.setIfInBounds_comm _ _ l];exact n.2.2
theorem Ud(d:Option Tmp)(b:ops[i]? =H oi)(hd:oi.dst=d)(hs:Region.noSelect ops=qT)(m:Region.free md ops listed i=qT)(l:(Region.ready md ops listed).contains i=qT)(hl:waits md ops L i=qT)(e:∀c a w,bEr (.panic c) (a.put oi.dst v) w->bEr (.panic c) a w)(g:YieldsIf P ops S oi v a)(j:S w)(h:jC P md ops bEr S L fuel (listed.setIfInBounds i qT) (a.put d v) w):jC P md ops bEr S L (fuel+1) listed a w:=
 RF b (Region.noSelect_spec hs) hl e fuel listed a w (Region.free_spec b m) (by simpa using l) g j (hd▸h)
theorem I(i:Nat){d:Nat}(h:jC P md ops bEr S L fuel (listed.setIfInBounds i qT) a' w)(q:ops[i]? =H oi:=by rfl)(hd:oi.dst=H d:=by rfl)(hs:Region.noSelect ops=qT:=by kernel_rfl)(l:Region.free md ops listed i=qT:=by kernel_rfl)(p:(Region.ready md ops listed).contains i=qT:=by kernel_rfl)(hl:waits md ops L i=qT:=by kernel_rfl)(m:∀c a w,bEr (.panic c) (a.put oi.dst v) w->bEr (.panic c) a w:=by exact λ_ _ _ h=>h)(n:Region.wanted oi (yielded ops a.tmps)=qT:=by rfl)(g:∀w,S w->(execOp a.eval oi).run P w= .ok (.value v) w:=by(intro w b;(try dsimp only at b);(try obtain⟨r,b⟩:=b);(try obtain⟨x,b⟩:=b);(try obtain⟨u,b⟩:=b);(try obtain⟨A,b⟩:=b);(try obtain⟨z,b⟩:=b);(try obtain⟨y,b⟩:=b);(try obtain⟨e,b⟩:=b);go_simp;try with_reducible rfl))(j:S w:=by assumption)(ha:a.put (H d) v=a':=by(simp only[Act.put,List.setIfInBounds_toArray,List.set_cons_zero,List.set_cons_succ];try exact rfl)):jC P md ops bEr S L (fuel+1) listed a w:=
 Ud (H d) q hd hs l p hl m (.inl ⟨n,g⟩) j (ha▸h)
theorem ii{o:Oper}(c:Region.ready md ops listed=[i])(l:ops[i]? =H o)(m:o.guard=K)(h:∀vm:Act->aA->Prop,dT (∀a' w',(i≠L->S w')->jC P md ops bEr S L fuel (listed.setIfInBounds i qT) a' w'->vm a' w')->Oper.wp P o a w vm bEr):
  jC P md ops bEr S L (fuel+1) listed a w:=by
 refine⟨λh=>(by rw[c]at h;cases h),λj b=> ?_⟩;rw[c]at b;obtain rfl:j=i:=by simpa using b
 have g:Region.wanted o (yielded ops a.tmps)=qT:=by grind [Region.wanted]
 have:=h (λa' w'=>(j≠L->S w')/\jC P md ops bEr S L fuel (listed.setIfInBounds j qT) a' w') (Lib.hid λa' w' d e=>⟨d,e⟩);unfold wpOp;simp only[l,g,if_true];exact .inl this
theorem vG(l:Region.ready md ops listed=[i,j])(g:ops[i]? =H o1)(n:ops[j]? =H o2)(c:o1.guard=K)(p:o2.guard=K)(e:∀vm:Act->aA->Prop,dT (∀a' w',(i≠L->S w')->jC P md ops bEr S L fuel (listed.setIfInBounds i qT) a' w'->vm a' w')->Oper.wp P o1 a w vm bEr)(d:∀vm:Act->aA->Prop,dT (∀a' w',(j≠L->S w')->jC P md ops bEr S L fuel (listed.setIfInBounds j qT) a' w'->vm a' w')->Oper.wp P o2 a w vm bEr):
  jC P md ops bEr S L (fuel+1) listed a w:=by
 refine⟨λh=>(by rw[l]at h;cases h),λk b=> ?_⟩;rw[l]at b;have gP:∀{k:Nat} {o:Oper},ops[k]? =H o->o.guard=K->(∀vm:Act->aA->Prop,dT (∀a' w',(k≠L->S w')->jC P md ops bEr S L fuel (listed.setIfInBounds k qT) a' w'->vm a' w')->Oper.wp P o a w vm bEr)->
   wpOp P ops bEr k (λa' w'=>(k≠L->S w')/\jC P md ops bEr S L fuel (listed.setIfInBounds k qT) a' w') a w:=λ{k o} g hg h=>by
  have m:Region.wanted o (yielded ops a.tmps)=qT:=by grind [Region.wanted]
  have:=h (λa' w'=>(k≠L->S w')/\jC P md ops bEr S L fuel (listed.setIfInBounds k qT) a' w') (Lib.hid λa' w' e d=>⟨e,d⟩);unfold wpOp;simp only[g,m,if_true];exact .inl this
 rcases List.mem_cons.1 b with b|b
 .subst b;exact gP g c e
 .obtain rfl:k=j:=by simpa using b
  exact gP n p d
theorem bD(b:Region.ready md ops listed=[])(h:bEr .normal a w):∀fuel,jC P md ops bEr S L fuel listed a w
 |0=>⟨b,h⟩
 |_+1=>⟨λ_=>h,by rw[b];simp⟩
theorem aO(L:Nat)(S:aA->Prop)(b:P.follows .mixedOrders=qT)(c:S w.drew)(h:S w.drew->jC P .any ops bEr S L ops.size (Array.replicate ops.size rR) a w.drew):(Code.region id ops qT).wp P bEr a w:=
 wp_region_any b (Z9 _ _ _ _ (h c))
section
variable{P:cj}{md:Region.Mode}{ops:Array Oper}{bEr:Exit->Act->aA->Prop}{S:aA->Prop}{L:Nat}{w:aA}{a:Act}
def ee(P:cj)(md:Region.Mode)(ops:Array Oper)(bEr:Exit->Act->aA->Prop)(S:aA->Prop)(L:Nat)(_:List Nat)(fuel:Nat)(listed:Array Bool)(a:Act)(w:aA):Prop:=jC P md ops bEr S L fuel listed a w
theorem eh{i d:Nat}{ll:List Nat}(h:ee P md ops bEr S L ll fuel (listed.setIfInBounds i qT) a' w)(q:ops[i]? =H oi:=by rfl)(hd:oi.dst=H d:=by rfl)(hs:Region.noSelect ops=qT:=by kernel_rfl)(l:Region.free md ops listed i=qT:=by kernel_rfl)(p:(Region.ready md ops listed).contains i=qT:=by kernel_rfl)(hl:waits md ops L i=qT:=by kernel_rfl)(m:∀c a w,bEr (.panic c) (a.put oi.dst v) w->bEr (.panic c) a w:=by exact λ_ _ _ h=>h)(n:Region.wanted oi (yielded ops a.tmps)=qT:=by rfl)(g:∀w,S w->(execOp a.eval oi).run P w= .ok (.value v) w:=by(intro w b;(try dsimp only at b);(try obtain⟨r,b⟩:=b);(try obtain⟨x,b⟩:=b);(try obtain⟨u,b⟩:=b);(try obtain⟨A,b⟩:=b);(try obtain⟨z,b⟩:=b);(try obtain⟨y,b⟩:=b);(try obtain⟨e,b⟩:=b);go_simp;try with_reducible rfl))(j:S w:=by assumption)(ha:a.put (H d) v=a':=by(simp only[Act.put,List.setIfInBounds_toArray,List.set_cons_zero,List.set_cons_succ];try exact rfl)):ee P md ops bEr S L (i::ll) (fuel+1) listed a w:=
 Ud (H d) q hd hs l p hl m (.inl ⟨n,g⟩) j (ha▸h)
theorem ek(l:List Nat){m:Nat}{b:Array Bool}(h:jC P md ops bEr S L m b a' w)(c:jC P md ops bEr S L m b a' w->ee P md ops bEr S L l fuel listed a w:=by(intro h;(repeat refine eh ?_);exact h)):jC P md ops bEr S L fuel listed a w:=c h
def ep(S:aA->Prop)(w:aA):Prop:=S w
theorem ey{A:cg}{v:aE}(h:h8 w A=H v):ep (λw=>h8 w A=H v) w.drew:=h
theorem ez{A:cg}{v:aE}(h:h8 w A=H v)(g:ep S w.drew):ep (λw=>h8 w A=H v/\S w) w.drew:=⟨h,g⟩
theorem e7{id:Nat}(L:Nat)(c:ep S w.drew)(h:S w.drew->jC P .any ops bEr S L ops.size (Array.replicate ops.size rR) a w.drew)(b:P.follows .mixedOrders=qT:=by kernel_rfl):(Code.region id ops qT).wp P bEr a w:=aO L S b c h
theorem fj{id:Nat}(L:Nat)(c:ep S w.drew)(h:∀d,w.drew=d->U w [] d []->S d->jC P .any ops bEr S L ops.size (Array.replicate ops.size rR) a d)(b:P.follows .mixedOrders=qT:=by kernel_rfl):(Code.region id ops qT).wp P bEr a w:=aO L S b c λq=>h _ rfl (U.refl w []).drew q
end
def aY2(bEs:Act->aA->Prop):Exit->Act->aA->Prop
 | .normal,a,w=>bEs a w
 |_,_,_=>False
theorem Gg(L:Nat)(S:aA->Prop)(bEs:Act->aA->Prop)(d:P.follows .mixedOrders=qT)(g:S w.drew)(h:S w.drew->jC P .any ops (aY2 bEs) S L ops.size (Array.replicate ops.size rR) a w.drew)(c:∀a' w',bEs a' w'->bEr .normal a' w'):(Code.region id ops qT).wp P bEr a w:=by
 refine Code.wp_mono (λe a' w' b=> ?_) (aO L S d g h);cases e<;>first|exact c a' w' b|exact False.elim b
end
section
variable{P:cj}{ops:Array Oper}{bEr:Exit->Act->aA->Prop}{md:Region.Mode}{S:aA->Prop}{L:Nat}
theorem Zo(i:Nat){o:Oper}(h:∀vm:Act->aA->Prop,dT (∀a' w',(i≠L->S w')->jC P md ops bEr S L fuel (listed.setIfInBounds i qT) a' w'->vm a' w')->Oper.wp P o a w vm bEr)(c:Region.ready md ops listed=[i]:=by kernel_rfl)(d:ops[i]? =H o:=by(simp only[List.getElem?_toArray,List.getElem?_cons_succ,List.getElem?_cons_zero];try exact rfl))(b:o.guard=K:=by rfl):jC P md ops bEr S L (fuel+1) listed a w:=
 ii c d b h
theorem Zk(hK:dT (∀a' w',(i≠L->S w')->jC P md ops bEr S L fuel listed a' w'->vm a' w'))(b:S w)(h:jC P md ops bEr S L fuel listed a' w)(ha:a=a':=by(try simp only[Act.put,List.setIfInBounds_toArray,List.set_cons_zero,List.set_cons_succ])<;>try exact rfl):vm a w:=hK.out a w (λ_=>b) (ha▸h)
theorem Zl(hK:dT (∀a' w',(i≠i->S w')->jC P md ops bEr S i fuel listed a' w'->vm a' w'))(h:bEr .normal a' w)(b:Region.ready md ops listed=[]:=by kernel_rfl)(ha:a=a':=by(try simp only[Act.put,List.setIfInBounds_toArray,List.set_cons_zero,List.set_cons_succ])<;>try exact rfl):vm a w:=hK.out a w (λh=>absurd rfl h) (bD b (ha▸h) _)
theorem j5(h:jC P md ops bEr S L fuel listed a' w)(ha:a=a':=by(try simp only[Act.put,List.setIfInBounds_toArray,List.set_cons_zero,List.set_cons_succ])<;>try exact rfl)(hK:dT (∀a' w',(i≠L->S w')->jC P md ops bEr S L fuel listed a' w'->vm a' w'):=by exact hK)(b:S w:=by exact Q):vm a w:=hK.out a w (λ_=>b) (ha▸h)
theorem LP(h:bEr .normal a' w)(hK:dT (∀a' w',(i≠i->S w')->jC P md ops bEr S i fuel listed a' w'->vm a' w'):=by exact hK)(b:Region.ready md ops listed=[]:=by kernel_rfl)(ha:a=a':=by(try simp only[Act.put,List.setIfInBounds_toArray,List.set_cons_zero,List.set_cons_succ])<;>try exact rfl):vm a w:=hK.out a w (λh=>absurd rfl h) (bD b (ha▸h) _)
end
end
section
theorem ZM144{P:Prop}(h:P:=by
  rw[he]at h2;rw[h2]at hu;have h3:=TY _ _ hi hr;rw[Nat.add_assoc,he]at h3;rw[h3,hu]):P:=h
structure wV(P:cj)(t e:ap)(sz bytes:Nat)(zc:Array aE):Prop where
 ex:∃i z,P.underlying t=H (.slice e)/\P.info? e=H i/\i.zero=H z/\i.size=sz/\i.bytes=bytes/\z.cells=zc
 sz:zc.size=sz
theorem wV.ok{P:cj}{t e:ap}{sz bytes:Nat}{zc:Array aE}(h:wV P t e sz bytes zc):kD P t e sz bytes:=by
 obtain⟨i,z,b,d,a,j,c,g⟩:=h.ex;exact⟨i,z,b,d,a,j,c,g▸h.sz⟩
theorem wV.QZ{P:cj}{t e:ap}{bytes:Nat}{zc:Array aE}(b:P.underlying t=H (.slice e))(h:(P.info? e).map (λi=>(i.zero,i.size,i.bytes))=H (H z,size,bytes))(c:z.cells=zc)(hs:zc.size=size):wV P t e size bytes zc:=by
 let⟨i,d,a⟩:=Option.map_eq_some_iff.1 h;simp only[Prod.mk.injEq]at a;exact⟨⟨i,z,b,d,a.1,a.2.1,a.2.2,c⟩,hs⟩
theorem QE(z:Array aE)(n k:Nat)(b:k<n)(a:0<z.size):(madeCells z n)[k]? =z[k%z.size]? :=by
 grind [madeCells,V4]
section
variable{P:cj}{t e:ap}{sz bytes:Nat}{zc:Array aE}
theorem wV.xO(h:wV P t e sz bytes zc)(l c:Nat)(a:l<=c)(g:c*bytes<=281474976710656)(p:c<=bH)(u:aA):
  (Instr.makeSlice t (mj mn l) (mj mn c)).run P u= .ok (jS (H ⟨i7 u.heap,0,K⟩) l c) (i5 u (kd (madeCells zc (c*sz)) e)):=by
 obtain⟨i,z,q,n,m,j,b,d⟩:=h.ex;grind [run_make,bH,Int.toNat_natCast]
theorem wV.yY(h:wV P t e sz bytes zc)(l c:Nat)(a:l<=c)(m:c<=bH)(u:aA)(d:0<sz):
  eV (i5 u (kd (madeCells zc (c*sz)) e)) (jS (H ⟨i7 u.heap,0,K⟩) l c) e sz l (λ_ j=>zc.getD j undef):=by
 refine .inr ⟨i7 u.heap,c,_,rfl,mE u _,a,m,size_madeCells _ _,λi j n b=> ?_⟩;have g:i*sz+j<c*sz:=by
  calc i*sz+j<(i+1)*sz:=by grind
   _<=c*sz:=Sq _ Y
 rw[QE _ _ _ g (h.sz▸d),h.sz,a02 i sz,Nat.mul_add_mod,B0 b];simp[Array.getD_eq_getD_getElem?,h.sz,b]
theorem OU(w:aA)(l n ty b:ap)(g o d i:Nat)(a:cg)(c e:Nat)(cur:Array aE)(t:ap)(cs:List aE)(sz:Nat)(z:P.underlying l=H (.slice b))(hs:(P.info? b).map (·.size)=H sz)(p:w.heap[g]? =H (kd cur t (0,0)))(y:O cs=Nat.min c d*sz)(m:∀j v,cs[j]? =H v->h8 w (a.add j)=H v)(q:o+O cs<=cur.size)(r:∀v∈cs,v.oneCell'=qT):
  (Builtin.copy_ #[l,n] ty #[jS (H ⟨g,o,K⟩) d i,jS (H a) c e]).run P w=
   .ok (goInt (Nat.min c d)) (w.setRow g (cur.toList.take o++cs++cur.toList.drop (o+O cs)).toArray):=by
 have hl:=run_loadCells_list (P:=P) w a cs m;have x:=run_storeCells_at P g o t cs 0 cur w p (eP q) r;cases u:P.info? b<;>simp_all [Builtin.copy_,run_underlying,Builtin.lenOf,Builtin.firstCells,sizeOf,typeInfo]
end
def cellsOf{α:Type}(f:α->Nat->aE)(sz:Nat)(l:List α):List aE:=l.flatMap λx=>(List.range sz).map (f x)
theorem gY{α:Type}(f:α->Nat->aE)(sz:Nat)(l:List α):O (cellsOf f sz l)=O l*sz:=by
 induction l<;>grind [cellsOf]
theorem tW{α:Type}(f:α->Nat->aE)(d:α){sz:Nat}(l:List α)(a:i<O l)(b:j<sz):(cellsOf f sz l)[i*sz+j]? =H (f (hJ l i d) j):=by
 induction l generalizing i with
 |nil=>simp at a
 |cons x l ih=>
  show((gz sz).map (f x)++cellsOf f sz l)[i*sz+j]? =_;cases i<;>grind
section
variable{α:Type}{f:α->Nat->aE}{d:α}{e:ap}{sz:Nat}{w0 w:aA}{l:List α}
theorem T8{P:cj}{t:ap}{bytes:Nat}(he:kD P t e sz bytes)(m:0<sz)(ty:ap)(g:Nat){c:Nat->Nat->aE}(r:eV w (jS (H ⟨g,0,K⟩) (O l) (O l)) e sz (O l) c)(B:i7 w0.heap<=g)(o:U w0 [] w [])(L:fM f d sz w v l)(q:∀x,x∈l->∀j,j<sz->(f x j).oneCell'=qT):
  ∃w',(Builtin.copy_ #[t,t] ty #[jS (H ⟨g,0,K⟩) (O l) (O l),v]).run P w= .ok (goInt (O l)) w'/\bN f d e sz w0 w' (jS (H ⟨g,0,K⟩) (O l) (O l)) l/\U w0 [] w' []/\U w [g] w' [g]:=by
 obtain⟨i,z,vm,hi,hz,F5,yk,mf⟩:=he.ex;have Q:(P.info? e).map (·.size)=H sz:=by grind
 obtain⟨g',cap,cur,hv,n,hn,k,zM,T⟩:∃g' cap cur,eC g 0 (O l) (O l)=eC g' 0 (O l) cap/\uD w g' cur e/\O l<=cap/\cap<=bH/\cur.size=cap*sz/\∀i j,i<O l->j<sz->cur[i*sz+j]? =H (c i j):=by
  rcases r with⟨q,_⟩|q<;>grind
 injection hv with e1 e2 e3;injection e1 with e1;injection e1 with e1;subst e1 e3;clear e2;have done:∀w',w'=w.setRow g (cur.toList.take 0++cellsOf f sz l++cur.toList.drop (0+O (cellsOf f sz l))).toArray->bN f d e sz w0 w' (eC g 0 (O l) (O l)) l/\U w0 [] w' []/\U w [g] w' [g]:=by
  rintro w' rfl;refine⟨⟨.inr ⟨g,O l,_,rfl,setRow_heap w g cur _ e _ n,fV _,k,?_,λi j hi p=> ?_⟩,λg' S=>by grind [i6]⟩,o.setRow (.inr B) _,(U.refl w [g]).setRow (.inl J) _⟩
  .grind [gY]
  grind [gY,tW]
 rcases L with⟨N,a0,a,rfl,F⟩|⟨g2,o2,gW,rfl,A,V,F7,TY⟩
 .have hl:=dt.1 N;subst hl;have b:w.setRow g (cur.toList.take 0++cellsOf f sz ([]:List α)++cur.toList.drop (0+O (cellsOf f sz ([]:List α)))).toArray=w:=by
   grind [cellsOf,setRow_self]
  let⟨C,k2,G⟩:=done w b.symm;have W:(Builtin.copy_ #[t,t] ty #[eC g 0 0 0,jS a0 0 a]).run P w= .ok (goInt (0:Nat)) w:=by
   rcases a0 with _|ad
   .grind [run_copy_nil]
   .have:=OU (P:=P) w t t ty e g 0 0 0 ad 0 a cur e [] sz vm Q n J J J J;rw[this];congr 1
  grind
 .let⟨C,k2,G⟩:=done _ rfl;have GV:∀j u,(cellsOf f sz l)[j]? =H u->h8 w (((Ad g2 o2):cg).add j)=H u:=by
   intro j u hu;have p:j<O l*sz:=by
    grind [gY]
   have y:((Ad g2 o2):cg).add j=(Ad g2 (o2+j)):=by unfold Addr.add;split<;>simp_all
   have hi:=(Yd m).2 p;have hr:j%sz<sz:=V4 _ m;have he:j/sz*sz+j%sz=j:=by grind [Nat.div_add_mod]
   rw[y];have h2:=tW f d l hi hr;exact ZM144
  grind [cellsOf,OU,gY]
end
end
variable{u:aE}
section
section
variable{P:cj}{α:Type}{f:α->Nat->aE}{d:α}{e:ap}{sz:Nat}{wb w0 w:aA}{v:aE}{l m:List α}
theorem aA6{t:ap}(a:P.underlying t=H (.slice e))(i:0<sz)(p:fM f d sz w u m)(z:∀x,x∈m->∀j,j<sz->(f x j).oneCell'=qT):Src P sz t u (O m) (cellsOf f sz m) w:=by
 have b:∀u∈cellsOf f sz m,u.oneCell'=qT:=by
  grind [cellsOf]
 rcases p with⟨r,a0,c,rfl,g⟩|⟨g2,o2,n,rfl,l,A,y,TY⟩
 .have hl:=dt.1 r;subst hl;rcases a0 with _|ad
  .rw[g rfl];exact Src.ofNil w a 0
  .exact Src.ofSlice w a ad 0 c [] J J J
 .refine Src.ofSlice w a (Ad g2 o2) (O m) n _ (gY f sz m) (λj u hu=> ?_) b;have v:j<O m*sz:=by
   grind [gY]
  have q:((Ad g2 o2):cg).add j=(Ad g2 (o2+j)):=by unfold Addr.add;split<;>simp_all
  have hi:=(Yd i).2 v;have hr:j%sz<sz:=V4 _ i;have he:j/sz*sz+j%sz=j:=by grind [Nat.div_add_mod]
  rw[q];have h2:=tW f d m hi hr;exact ZM144
theorem AS:hJ (l++m) i d=if i<O l then hJ l i d else hJ m (i-O l) d:=by
 grind
theorem jX{t:ap}(he:kD P t e sz bytes)(h0:0<sz)(ty:ap)(hL:bN f d e sz w0 w v l)(s:U wb [] w [])(qG:i7 wb.heap<=i7 w0.heap)(hws:i7 w0.heap<=i7 w.heap)(hR:fM f d sz w u m)(h1:∀x,x∈m->∀j,j<sz->(f x j).oneCell'=qT)(rS:(O l+O m)*bytes<=140737488355328)(Tg:O l+O m<=bH):
  ∃v' w',(Builtin.append_ #[t,t] ty #[v,u]).run P w= .ok v' w'/\bN f d e sz w0 w' v' (l++m)/\U wb [] w' []/\U w v.ownBlock.toList w' v'.ownBlock.toList/\∃a cap,v'=jS a (O l+O m) cap:=by
 obtain⟨i,z,C,vm,W,F5,yk,mf⟩:=he.ex;subst F5 yk;have n:=aA6 (w:=w) C h0 hR h1;have c:O (l++m)=O l+O m:=E7;have nX:∀(cur:Array aE),(∀b j,b<O l->j<i.size->cur[b*i.size+j]? =H (f (hJ l b d) j))->(∀k,k<O m*i.size->cur[O l*i.size+k]? =(cellsOf f i.size m)[k]?)->
   ∀b j,b<O (l++m)->j<i.size->cur[b*i.size+j]? =H (f (hJ (l++m) b d) j):=λcur ho hn b j N q=>by
  rw[AS];split
  .grind
  .rename_i h;have r:b*i.size+j=O l*i.size+((b-O l)*i.size+j):=by
    rw[OM];have:=Sq i.size (show O l<=b by omega);omega
   rw[r,hn,tW f d m Y q];calc (b-O l)*i.size+j<(b-O l+1)*i.size:=by grind
    _<=O m*i.size:=Sq _ Y
 rcases hL with⟨Q2,hb⟩;rcases Q2 with⟨rfl,Fq⟩|⟨g,cap,cur,rfl,p,ni,o,S,V⟩
 .have hl:l=[]:=dt.1 Fq;subst hl;rcases L3 (O m) with F|F
  .have hm:m=[]:=dt.1 F;subst hm;have dK:(Builtin.append_ #[t,t] ty #[cR,u]).run P w= .ok cR w:=by
    have IQ:=n.len;have T:=n.cells;simp only[B4]at IQ T;simp[Builtin.append_,run_underlying C,sizeOf,typeInfo,vm,IQ,T]
   exact⟨_,w,dK,⟨eV.nil _ _ _ _,hb⟩,s,U.refl _ _,K,0,J⟩
  .have A:=run_append_grow_src (P:=P) w t t ty e i z C vm W K 0 0 [] Yr u (O m) _ n Y (by grind [bH]) (growslice_fits Y (eP rS));have L:=grownCap_ge w (0+O m) 0 e;refine⟨_,_,A,⟨.inr ⟨w,grownCap w (0+O m) 0 e,_,J,mE w.drew _,by simpa using L,grownCap_le_maxLen w (0+O m) 0 e (eP Tg),?_,?_⟩,λg p=> ?_⟩,(s.drew.alloc _),?_,H ⟨w,0,K⟩,grownCap w (0+O m) 0 e,J⟩
   .simp_all[H3,Ic,size_zeroCells,gY,B4,Nb,OM,Sq]
   .simp_all[B4,zo,gY]
   .grind [i6]
   .exact((U.refl w _).drew.alloc _).to (λk r=>by grind [i6])
 .have GY:i7 w0.heap<=g:=hb g rfl;by_cases nE:O l+O m<=cap
  .have Q:O l*i.size<=cur.size:=by rw[S];exact Sq _ ni
   have pZ:O l*i.size+O (cellsOf f i.size m)<=cur.size:=by rw[gY,S,<-Nat.add_mul];exact Sq _ nE
   have A:=run_append_room_src (P:=P) w t t ty e i C vm g 0 (O l) cap u (O m) _ n nE (λj q=>by
    rw[cell_of_row w g _ cur e (0,0) p,Ct Y];rfl) (λj _=>frozen_of_row w g _ cur e p)
   have GW:w.setCells g (0+O l*i.size) (cellsOf f i.size m)=w.setRow g (cur.toList.take (O l*i.size)++cellsOf f i.size m++cur.toList.drop (O l*i.size+O (cellsOf f i.size m))).toArray:=by
    rw[a05];have h1:=run_storeCells_at P g (O l*i.size) e (cellsOf f i.size m) 0 cur w p (eP pZ) n.one;have h2:=run_storeCells_cells (P:=P) g (O l*i.size) (cellsOf f i.size m) 0 w (by
     intro j q;rw[cell_of_row w g _ cur e (0,0) p,Ct Y];rfl) (λj _=>frozen_of_row w g _ cur e p) n.one
    grind
   rw[GW]at A;refine⟨_,_,A,⟨.inr ⟨g,cap,_,by rw[c],setRow_heap w g cur _ e _ p,Y,o,?_,?_⟩,λg' KG=>by grind [i6]⟩,(s.setRow (.inr (j8 qG GY)) _),?_,_,_,rfl⟩
   .grind
   .refine nX _ (λb j N q=> ?_) (λk r=> ?_)
    .have y:b*i.size+j<O l*i.size:=by
      calc b*i.size+j<(b+1)*i.size:=by grind
       _<=O l*i.size:=Sq _ Y
     rw[<-V b j N q,vW,SN,z' (l₁:=cur.toList.take (O l*i.size)) BC,zb,if_pos y,zn]
    .have y:O (cur.toList.take (O l*i.size))=O l*i.size:=by grind
     rw[vW,SN,List.getElem?_append_right (kG y),y,z' (by grind [gY])];grind
   .exact((U.refl w _).setRow (.inl (by simp[i6])) _).to (λk r=>by grind [i6])
  .have Q:O l*i.size<=cur.size:=by rw[S];exact Sq _ ni
   have B:O (cur.toList.take (O l*i.size))=O l*i.size:=by simp;omega
   have G:(Builtin.firstCells i.size (O l) (eC g 0 (O l) cap)).run P w.drew= .ok (cur.toList.take (O l*i.size)).toArray w.drew:=by
    refine run_firstCells_some w.drew i.size (O l) (Ad g 0) (O l) cap _ B (λj u hu=> ?_);have Ya:((Ad g 0):cg).add j=(Ad g j):=by unfold Addr.add;split<;>simp_all
    rw[Ya];show h8 w _=_;grind [cell_of_row]
   have A:=run_append_grow_src (P:=P) w t t ty e i z C vm W (H (Ad g 0)) (O l) cap _ G u (O m) _ n Y (by grind [bH]) (growslice_fits Y rS);have L:=grownCap_ge w (O l+O m) cap e;refine⟨_,_,A,⟨.inr ⟨w,_,_,by rw[c],mE w.drew _,by rw[c];exact L,grownCap_le_maxLen w _ _ e Tg,?_,?_⟩,λg' KG=> ?_⟩,s.drew.alloc _,?_,_,_,rfl⟩
   .simp only[H3,Ic,size_zeroCells,mf,gY,B,E7];rw[OM,<-Nat.add_mul];have:=Sq i.size L;omega
   .refine nX _ (λb j N q=> ?_) (λk r=> ?_)
    .have y:b*i.size+j<O l*i.size:=by
      calc b*i.size+j<(b+1)*i.size:=by grind
       _<=O l*i.size:=Sq _ Y
     rw[<-V b j N q,zo BC,vW,z' Y,zb,if_pos y,zn]
    grind [gY]
   .grind [i6]
   .exact((U.refl w _).drew.alloc _).to (λk r=>by grind [i6])
end
theorem FM{α:Type}{f:α->Nat->aE}{d:α}{sz:Nat}{w:aA}{e:ap}(a:w.heap[b]? =H (kd news.toArray e (0,0)))(hl:O news=sz)(x:α)(g:∀j,j<sz->hJ news j undef=f x j):
  fM f d sz w (jS (H ⟨b,0,K⟩) 1 1) [x]:=by
 refine .inr ⟨b,0,1,rfl,Nat.zero_lt_one,(by decide:1<=bH),dG a,λi j l c=> ?_⟩;grind [aP]
end
variable{ts:List j6}
theorem ZM88{P:Prop}(h:P:=by
  go_wp2;go_ret;obtain rfl:k=O ts:=Y;obtain rfl:bL ts []=L:=by rw[<-R4,TU]
  exact⟨_,rfl,HL.eO cT.size,cT.ds hU⟩):P:=h
def yK(s:dO):Nat->aE:=λ_=>mX s
abbrev JV(w:aA)(v:aE)(l:List dO):Prop:=fM yK bU 1 w v l
abbrev wU(w0 w:aA)(v:aE)(l:List dO):Prop:=bN yK bU 9 1 w0 w v l
theorem fM.FC{α:Type}{f:α->Nat->aE}{d:α}{l:List α}(h:fM f d 1 w v l)(b:i<O l):∃g o cap,v=jS (H ⟨g,o,K⟩) (O l) cap/\h8 w ⟨g,o+i,K⟩=H (f (hJ l i d) 0):=by
 let⟨g,o,cap,hv,_,a⟩:=fM.aS h b;refine⟨g,o,cap,hv,?_⟩;simpa using a 0 Y
theorem dE{x:aE}{f:Nat->aE}(h:x=f 0):∀j,j<1->hJ [x] j undef=f j:=λj a=>by
 obtain rfl:j=0:=Y;exact h
theorem aLC:kD prog 22 9 1 16:= .QZ (z:=mX {data:=#[]}) underlying22 dJ rfl
theorem A2(a b:dO):(a.toList==b.toList)=decide (a=b):=by
 rw[ByteArray.toList_eq,ByteArray.toList_eq];rw[Fi,LQ,QX];exact⟨λh=>ByteArray.ext (Array.ext' h),λh=>h▸rfl⟩
theorem oV{x:dO}(h:x=bU):x.toList=[]:=by subst h;rw[ByteArray.toList_eq];rfl
theorem jJ{x:dO}(h:x≠bU):¬x.toList=[]:=λe=>h (by
 have:=A2 x bU;rw[e,oV rfl]at this;exact of_decide_eq_true this.symm)
theorem qE{x:dO}(h:x≠bU):x.toList.isEmpty=rR:=by
 cases a:x.toList with
 |nil=>exact dY a (jJ h)
 |cons=>rfl
theorem ZV{a b:dO}(h:a≠b):(a.toList==b.toList)=rR:=by rw[A2];exact kE h
def aj(l:List dO)(s:dO):Int:=if s∈l then(l.idxOf s:Int)else-1
theorem Mf{l:List dO}{s:dO}{k:Nat}(b:k<O l)(hs:hJ l k bU=s)(e:∀j,j<k->hJ l j bU≠s):aj l s=k:=by
 rw[gV,kU b,O8]at hs;have d:s∈l:=hs▸gu b;unfold aj;rw[bW d];have c:=List.idxOf_lt_length_iff.2 d;have g:=a00 c;rcases Nat.lt_trichotomy (l.idxOf s) k with h|h|h
 .exact dY (by rw[gV,kU c,O8];exact g) (e _ h)
 .omega
 .have a:=Xd (p:=(·==s)) (xs:=l) h;rw[hs]at a;simp at a
theorem ai{l:List dO}{s:dO}(d:∀j,j<O l->hJ l j bU≠s):aj l s= -1:=by
 unfold aj;rw[R];intro b;let⟨i,a,c⟩:=Na b;exact d i a (by rw[gV,kU a];exact c)
theorem rx(v:aE)(l:List dO)(s:dO)(w:aA)(h:JV w v l):
  aK prog 88 #[v,mX s] w λe w'=>e=mi (mj mn (aj l s))/\U w [] w' []:=by
 obtain⟨a,cap,rfl,q⟩:=h.len;unfold bH at q;go_in;go_wp2;go_loopw [5] (λi wr=>U w [] wr []/\∃k:Nat,k<=O l/\i=X k/\∀j,j<k->hJ l j bU≠s) (λi _=>O l-(intOf i).toNat)
 .exact⟨U.refl _ _,0,Y,rfl,λj n=>Y⟩
 obtain⟨b,k,y,rfl,d⟩:=hrel;by_cases m:k<O l
 .let⟨g,o,cap',hv,u⟩:=(h.on b).FC m;injection hv with h1 h2 h3;subst h1 h3;let⟨x,c⟩:=D (hJ l k bU);simp only[yK,c]at u;by_cases hs:x=s
  .subst hs;go_wp2;go_ret;exact⟨xE (λz=>mi (X z)) (Mf m c d).symm,b⟩
  .have r:=Z hs;have A:=ZV hs;go_wp2;go_roundw
   .exact⟨b,k+1,Y,eY,λj n=>by
    by_cases p:j=k
    .subst p;rw[c];exact r.o
    .exact d j Y⟩
   simp[intOf];omega
 .go_wp2;go_ret;exact⟨xE (λz=>mi (X z)) (ai λj n=>d j Y).symm,b⟩
theorem Er(l:List dO)(s:dO):decide (0<=aj l s)=decide (s∈l):=by
 unfold aj;split
 .rename_i h;simp[h]
 .rename_i h;simp[h]
theorem Q0(v:aE)(l:List dO)(s:dO)(w:aA)(h:JV w v l):
  aK prog 49 #[v,mX s] w λe w'=>e=mi (nj (decide (s∈l)))/\U w [] w' []:=by
 go_in;go_wp2_with (go_at_call 88;apply(rx v l s w h).dC;intro w' a);go_ret;exact⟨by rw[<-Er];rfl,a⟩
def j6.cell(t:j6):Nat->aE
 |0=>mX t.var
 |1=>mj mn t.xW.aG
 |2=>mj mn t.xW.num
 |_=>mX t.xW.dZ
abbrev AW(w:aA)(v:aE)(l:List j6):Prop:=fM j6.cell sT 4 w v l
theorem dH(a b:Nat):((a:Int)==(b:Int))=decide (a=b):=by
 rw[Fi,LQ,QX];omega
theorem bO{α:Type}{l:List α}{d:α}{k:Nat}(a:k<O l):hJ l k d∈l:=by
 rw[gV,kU a];exact gu a
theorem fW{α:Type}{l:List α}{d:α}(h:i<O l):l.take (i+1)=l.take i++[hJ l i d]:=by
 rw[F6,gV,kU h];rfl
theorem LY(h:i<O ts)(out:List dO):
  bL (ts.take (i+1)) out=if(hJ ts i sT).var=bU then bL (ts.take i) out else i9 (bL (ts.take i) out) (hJ ts i sT).var:=by
 rw[fW (d:=sT) h,tH];rfl
theorem OW(v:aE)(rel:dO)(ts:List j6)(w:aA)(h:AW w v ts)(P:O ts<=1048576):
  aK prog 48 #[.agg #[mX rel,v]] w λe w'=>∃u,e=mi u/\wU w w' u (bL ts [])/\U w [] w' []:=by
 obtain⟨a,cap,rfl,z⟩:=h.len;go_in;go_wp2;let⟨w1,l⟩:=D (i5 w (kd #[mX rel,jS a (O ts) cap] 87));have cT:=Za l;have B:h8 w1 ⟨w,1,K⟩=H (jS a (O ts) cap):=l▸aP (mE w _) rfl;rw[l];clear l;unfold bH at z;go_loopw [3,4] (λp i wr=>U w1 [] wr []/\∃(k:Nat) (L:List dO),k<=O ts/\i=X k/\bL (ts.take k) []=L/\wU w1 wr p L) (λ_ i _=>O ts-(intOf i).toNat)
 .exact⟨U.refl _ _,0,[],Y,rfl,rfl,bN.nil _ _⟩
 obtain⟨hU,k,L,s,rfl,R4,m⟩:=hrel;have j:=iB (ts.take k) [];rw[PI,B4,R4]at j;have c1:=hU.cell B J;obtain⟨a3,f,rfl,Q⟩:=m.len;have HL:=Z m;clear m;by_cases q:k<O ts
 .let⟨g,o,cap',hv,_,y⟩:=(h.on (cT.ds hU)).aS q;injection hv with h1 h2 h3;subst h1 h3;clear h2;have c2:h8 wr (Ad g (o+k*4))=H (mX (hJ ts k sT).var):=y 0 Y;have b:=Z (LY q []);clear y;generalize r:(hJ ts k sT).var=x at c2;rw[r]at b;clear r;rw[R4]at b;by_cases hs:x=bU
  .have b:dT (bL (ts.take (k+1)) []=L):=Z (by rw[b.o,bW hs]);have A:=oV hs;clear hs;go_wp2;go_roundw
   .exact⟨hU,k+1,_,Y,eY,b,HL⟩
   simp[intOf];omega
  .have b:dT (bL (ts.take (k+1)) []=i9 L x):=Z (by rw[b.o,R hs]);have A:=jJ hs;have G:=qE hs;clear hs;by_cases d:x∈L
   .have b:dT (bL (ts.take (k+1)) []=L):=Z (b.o▸bW d);have hd:=kY d;clear d;go_wp2_with (go_at_call 49;apply(Q0 _ _ _ _ HL.rd).dC;intro w2 c);go_roundw
    .exact⟨hU.ds c,k+1,_,Y,eY,b,HL.on c⟩
    simp[intOf];omega
   .have b:dT (bL (ts.take (k+1)) []=L++[x]):=Z (b.o▸R d);have hd:=kE d;clear d;go_wp2_with (first
     |(at_builtin;refine cK aLC rfl _ _ rfl (HL.on c) (hU.ds c) Yr [mX x] x Yr rfl (dE rfl) rfl Y GC ?_;rintro g2 vm w3 n C- -;have F:=Z n;clear n)
     |(go_at_call 49;apply(Q0 _ _ _ _ HL.rd).dC;intro w2 c;have c3:=c.cell c1 J;have N:=c.cell c2 J))
    go_roundw
    .exact⟨C,k+1,_,Y,eY,b,F⟩
    simp[intOf];omega
 .exact ZM88
theorem ZM127{P:Prop}(h:P:=by
  go_wp2;go_quiet (fail);go_wp2;go_roundw
  .exact⟨hU.drewN _,k+1,Y,eY⟩
  simp[intOf];omega):P:=h
theorem ZM154{P:Prop}(h:P:=by
  have HL:=Z hL;unfold bH at iQ;go_in;go_wp2;go_ret;exact⟨_,rfl,HL,hU⟩):P:=h
theorem aNx:wV prog 22 9 1 16 #[mX {data:=#[]}]:= .QZ (z:=mX {data:=#[]}) underlying22 dJ rfl rfl
theorem Ua:wV prog 85 92 4 48 #[mX {data:=#[]},mj mn 0,mj mn 0,mX {data:=#[]}]:=
 .QZ (z:= .agg #[mX {data:=#[]},X 0,X 0,mX {data:=#[]}]) underlying85 dJ rfl rfl
theorem Iv(v:aE)(l:List dO)(w:aA)(h:JV w v l)(d:O l<=1048576):
  aK prog 40 #[v] w λe w'=>∃u,e=mi u/\wU w w' u l/\U w [] w' []:=by
 obtain⟨a,cap,hv,iQ⟩:=h.len;subst hv;have c:=aNx.xO (O l) (O l) (fV _) Y iQ;obtain⟨w2,b,hL,hU,-⟩:=T8 (w0:=w) aLC Y 3 w.heap.size (aNx.yY (O l) (O l) (fV _) iQ w Y) (fV _) ((U.refl w []).alloc _) (h.on ((U.refl w []).alloc _)) (λ_ _ _ _=>rfl);simp only[yC]at c b;exact ZM154
theorem Nx(v1 v2:aE)(l:List dO)(w:aA)(g:JV w v1 l)(d:JV w v2 l):
  aK prog 54 #[v1,v2] w λe w'=>e=mi (nj qT)/\U w [] w' []:=by
 obtain⟨a1,u,rfl,j⟩:=g.len;obtain⟨a2,q,rfl,-⟩:=d.len;unfold bH at j;go_in;go_wp2;go_loopw [5] (λi wr=>U w [] wr []/\∃k:Nat,k<=O l/\i=X k) (λi _=>O l-(intOf i).toNat)
 .exact⟨U.refl _ _,0,Y,rfl⟩
 obtain⟨hU,k,r,rfl⟩:=hrel;by_cases c:k<O l
 .let⟨n,o1,c1,hv,b⟩:=(g.on hU).FC c;let⟨g2,o2,c2,m,a⟩:=(d.on hU).FC c;injection hv with e1 e2 e3;subst e1 e3;injection m with e1 e2 e3;subst e1 e3;simp only[yK]at b a;generalize p:hJ l k bU=x at b a;exact ZM127
 .go_wp2;go_ret;exact⟨rfl,hU⟩
def xV(p:dO×aE):Nat->aE
 |0=>mX p.1
 |_=>p.2
theorem Rh(v:aE)(rel:dO)(l:List j6)(w:aA)(h:AW w v l)(L:O l<=1048576):
  aK prog 41 #[.agg #[mX rel,v]] w λe w'=>∃u,e=mi (.agg #[mX rel,u])/\bN j6.cell sT 92 4 w w' u l/\U w [] w' []:=by
 obtain⟨a,cap,hv,b⟩:=h.len;subst hv;have G:=Ua.xO (O l) (O l) (fV _) Y b;go_in;have c:=b;unfold bH at b;go_wp2;have m:=(((U.refl w []).alloc (kd #[mX rel,jS a (O l) cap] 87)).alloc (kd #[mX {data:=#[]},cR] 87));have n:=Ua.yY (O l) (O l) (fV _) c ((w.alloc (kd #[mX rel,jS a (O l) cap] 87)).alloc (kd #[mX {data:=#[]},cR] 87)) Y;have i:i7 ((w.alloc (kd #[mX rel,jS a (O l) cap] 87)).alloc (kd #[mX {data:=#[]},cR] 87)).heap=i7 w.heap+1+1:=J;rw[i]at n;let⟨w2,C,y,q,p⟩:=T8 (w0:=w) Ua.ok Y 3 (i7 w.heap+1+1) n Y (m.alloc _) (h.on (m.alloc _)) (λx _ j F=>by
  match j,F with
  |0,_=>rfl
  |1,_=>rfl
  |2,_=>rfl
  |3,_=>rfl)
 simp only[C,Result.andThen_ok];have B:=Z y;have A:uD w2 w.heap.size #[mX rel,jS a (O l) cap] 87:=p.aC (aq _ _ _ _) (by simp;omega);have d:uD w2 (i7 w.heap+1) #[mX {data:=#[]},cR] 87:=p.aC (ao _ _ _ _) J;have f:=Zc A 0;have e0:=Zc d 0;have vm:=Zc d 1;have N:=aN d;go_wp2;refine mY (iI ⟨i7 w.heap+1,0,K⟩ rfl Yr (v:= .agg #[mX rel,jS (H ⟨i7 w.heap+1+1,0,K⟩) (O l) (O l)]) (by go_simp)) rfl ?_;have r:=((q.setCell (a:=⟨i7 w.heap+1,0,K⟩) (.inr J) (mX rel)).setCell (a:=⟨i7 w.heap+1,1,K⟩) (.inr J) (jS (H ⟨i7 w.heap+1+1,0,K⟩) (O l) (O l)));refine⟨_,rfl,?_,r⟩;exact B.eU (((U.refl w2 [i7 w.heap+1]).setCell (a:=⟨i7 w.heap+1,0,K⟩) (.inl J) (mX rel)).setCell (a:=⟨i7 w.heap+1,1,K⟩) (.inl J) (jS (H ⟨i7 w.heap+1+1,0,K⟩) (O l) (O l))) (λg z=>by
  simp[i6]at z;simp;omega)
variable{ps:List (dO×aE)}{av hv v':aE}
def pB.EF(a:pB):List dO:=a.rel::a.aV.flatMap λt=>[t.var,t.xW.dZ]
def bK.EF(q:bK):List dO:=q.name::(q.head++q.aD.flatMap pB.EF)
structure bK.kM(q:bK):Prop where
 head:O q.head<=1048576
 aD:O q.aD<=1048576
 aV:O (q.aD.flatMap (·.aV))<=1048576
 EF:∀s,s∈q.EF->s.size<=1048576
structure ED(w:aA)(hv av:aE)(ps:List (dO×aE))(q:bK):Prop where
 head:JV w hv q.head
 aD:fM xV sT 2 w av ps
 len:O ps=O q.aD
 lD:∀i,i<O q.aD->(hJ ps i sT).1=(hJ q.aD i sT).rel/\AW w (hJ ps i sT).2 (hJ q.aD i sT).aV
 eD:q.kM
theorem ED.on(h:ED w hv av ps q)(a:U w [] w' S'):ED w' hv av ps q:=
 ⟨h.head.on a,h.aD.on a,h.len,λi b=>⟨(h.lD i b).1,(h.lD i b).2.on a⟩,h.eD⟩
theorem ED.qV(h:ED w hv av ps q){k:Nat}(b:k<O q.aD):
  ∃g o cap ta a,g<i7 w.heap/\av=jS (H ⟨g,o,K⟩) (O q.aD) cap/\h8 w ⟨g,o+k*2,K⟩=H (mX (hJ q.aD k sT).rel)/\h8 w ⟨g,o+k*2+1,K⟩=H (jS ta (O (hJ q.aD k sT).aV) a)/\
   AW w (jS ta (O (hJ q.aD k sT).aV) a) (hJ q.aD k sT).aV:=by
 have i:k<O ps:=h.len▸b;let⟨g,o,cap,hv,j,d⟩:=h.aD.aS i;let⟨l,e⟩:=h.lD k b;obtain⟨ta,a,c,_⟩:=e.len;refine⟨g,o,cap,ta,a,j,by rw[hv,h.len],?_,?_,c▸e⟩
 .have:=d 0 Y;rw[<-l];exact this
 .have:=d 1 Y;rw[<-c];exact this
theorem GH{k:Nat}(c:k<O q.aD):O (hJ q.aD k sT).aV<=O (q.aD.flatMap (·.aV)):=by
 have b:hJ q.aD k sT∈q.aD:=by rw[gV,kU c];exact gu c
 generalize hJ q.aD k sT=a at b;let⟨s,t,d⟩:=List.append_of_mem b;rw[d];simp;omega
theorem aEE:∀{l:List j6} (x:j6),x∈l->∀j,j<4->(x.cell j).oneCell'=qT:=λx _ j a=>by
 match j,a with
 |0,_=>rfl
 |1,_=>rfl
 |2,_=>rfl
 |3,_=>rfl
theorem dL{o:Oper}{t:ap}(s x:Operand)(d:o.op= .call {callee:= .builtin .append,args:=#[s,x],argTypes:=#[t,t]})(hs:a.eval s=v)(b:a.eval x=u)(c:(Builtin.append_ #[t,t] o.type #[v,u]).run P w= .ok v' w')(h:vm (a.put o.dst v') w'):Oper.wp P o a w vm bEr:=by
 unfold Oper.wp execOp;simp only[d,resolve,invoke,builtin,Sem.run_bind,Sem.run_pure,Result.andThen_ok,List.map_toArray,KR,List.map_nil,hs,b,c];exact h
theorem JO{α β:Type}(f:α->List β){l:List α}{d:α}{k:Nat}(a:k<O l):(l.take (k+1)).flatMap f=(l.take k).flatMap f++f (hJ l k d):=by
 rw[fW (d:=d) a,Zh];simp
theorem vD{α β:Type}(f:α->List β){l:List α}{k:Nat}:O ((l.take k).flatMap f)<=O (l.flatMap f):=by
 conv=>rhs;rw[<-List.take_append_drop k l]
 rw[Zh,E7];omega
theorem aW8:kD prog 85 92 4 48:=Ua.ok
theorem UL(hv av:aE)(ps:List (dO×aE))(q:bK)(w:aA)(h:ED w hv av ps q):
  aK prog 47 #[.agg #[mX q.name,hv,av]] w λe w'=>∃u,e=mi u/\wU w w' u (vars q)/\U w [] w' []:=by
 obtain⟨ha,hc,rfl,-⟩:=h.head.len;obtain⟨aa,s,rfl,-⟩:=h.aD.len;have v:=h.len;rw[v]at h|-;have f:=h.eD;go_in;go_wp2;let⟨wa,C⟩:=D (i5 w (kd #[mX q.name,jS ha (O q.head) hc,jS aa (O q.aD) s] 25));have P:i7 wa.heap=i7 w.heap+1:=by rw[<-C];simp
 have y:=Za C;have b2:h8 wa ⟨w,2,K⟩=H (jS aa (O q.aD) s):=by rw[<-C];exact aP (mE w _) rfl
 rw[C];let⟨w1,A⟩:=D (i5 wa (kd #[mX {data:=#[]},cR] 87));have cT:=Za A;have d1:uD w1 (i7 w.heap+1) #[mX {data:=#[]},cR] 87:=by rw[<-A,<-P];exact mE wa _
 have St:i7 w1.heap=i7 w.heap+1+1:=by rw[<-A];simp[P]
 rw[A];have m:=Z (eI P St);have a1R:=f.aD;go_loopw [4] (λi wr=>U wa [] wr []/\∃(k:Nat) (ta:Option cg) (n p:Nat),k<=O q.aD/\i=X k/\uD wr (i7 w.heap+1) #[mX {data:=#[]},jS ta n p] 87/\
  bN j6.cell sT 92 4 w1 wr (jS ta n p) ((q.aD.take k).flatMap (·.aV))) (λi _=>O q.aD-(intOf i).toNat)
 .exact⟨cT,0,K,0,0,Y,rfl,d1,bN.nil _ _⟩
 obtain⟨j,k,ta,n,p,hk,rfl,r,hL⟩:=hrel;have c2:=j.cell b2 (by simp);have T:=Zc r 1;have e0:=Zc r 0;have ef:=aN r;have G:=Z hL;by_cases aY:k<O q.aD
 .let⟨g,o,cap,ga,gc,hg,hv,a0,a1,z⟩:=h.qV aY;have a1:=(y.ds j).cell a1 (by simp);have z:=z.on (y.ds j);injection hv with x1 x2 x3;subst x1 x3;have F:=Z (JO (λx:pB=>x.aV) (d:=sT) aY);have c:=vD (λx:pB=>x.aV) (l:=q.aD) (k:=k+1);rw[F.out,E7]at c;have hle:=f.aV;let⟨ts,et⟩:=D ((hJ q.aD k sT).aV);rw[et]at a1 z F c;let⟨L,R4⟩:=D ((q.aD.take k).flatMap (·.aV));rw[R4]at G F c;go_wp2;refine e7 10 (ez T<|ez c2<|ey a1) (λQ=> ?_);refine ek [0,1,2,3,4,5,6,7] ?_;refine Zo 8 λvm hK=> ?_;obtain⟨v',w2,dK,EL,S,B,a2,N,rfl⟩:=jX (w:=wr.drew) aW8 (by omega) 85 G.drew j.drew (by rw[m.o.1,m.o.2];omega) (by have:=cT.size;have:=dG r;show i7 w1.heap<=i7 wr.heap;rw[m.o.2];omega) (z.on (U.refl _ []).drew) aEE (by omega) GC;refine dL _ _ rfl (by rfl) (by rfl) dK ?_;have BJ:∀b,b<i7 w.heap+1+1->b∉(jS ta n p).ownBlock.toList:=λb hb=>G.BJ (by rw[m.o.2];exact hb);have Q:=eI (B.cell Q.1 (BJ (i7 w.heap+1) (by omega))) (eI (B.cell Q.2.1 (BJ w.heap.size (by omega))) (B.cell Q.2.2 (BJ g (by omega))));have V:=Z (B.aC (show wr.drew.heap[i7 w.heap+1]? =_ from r) (BJ (i7 w.heap+1) (by omega)));have W:=Z EL;have T:=Q.1;have ef:=aN V.out;refine j5 ?_;clear hK vm;refine I 9 ?_;refine Zo 10 λvm hK=> ?_;go_simp;refine LP ?_;clear hK vm;have tV:=aF (i:=1) (jS a2 (O L+O ts) N) V.out;have qY:=W.eU ((U.refl w2 [i7 w.heap+1]).setCell (a:=⟨i7 w.heap+1,1,K⟩) (.inl (by simp)) (jS a2 (O L+O ts) N)) (λg' KG hm=>by
   have:=W.2 g' KG;rw[m.o.2]at this;simp at hm;omega)
  go_wp2;go_roundw
  .exact⟨S.setCell (a:=⟨i7 w.heap+1,1,K⟩) (.inr (by rw[m.o.1];exact fV _)) _,k+1,a2,_,N,by omega,eY,tV,by rw[F.out];exact qY⟩
  simp[intOf];omega
 .go_wp2_with (go_at_call 48;apply(OW _ _ _ _ G.rd (j8 (vD _) f.aV)).cX;rintro e w2 ⟨u,rfl,hO,S⟩);go_ret;obtain rfl:k=O q.aD:=by omega
  have h1:=hO;rw[TU,<-RI]at h1;exact⟨_,rfl,h1.eO (j8 (y.ds j).size (fV _)),y.ds (j.ds S)⟩
section
def mU(w:aA)(k:Nat):Option ap:=match w.heap[k]?with|some (kd _ t _)=>H t|_=>K
section
variable{w w' w0:aA}{k b:Nat}{t e:ap}{cs:Array aE}
theorem fB(h:w.heap[k]? =H (kd cs t (0,0))):mU w k=H t:=by unfold mU;rw[h]
theorem bN.ty{α:Type}{f:α->Nat->aE}{d:α}{l:List α}(h:bN f d e sz w0 w v l)(a:i6 v=H k):mU w k=H e:=by
 rcases h.1 with⟨rfl,_⟩|⟨g,cap,cur,rfl,b,_⟩<;>grind [i6,fB]
theorem bN.Fl{α:Type}{f:α->Nat->aE}{d:α}{l:List α}(h:bN f d e sz w0 w v l):∀k,k∈v.ownBlock.toList->mU w k=H e:=λk a=>h.ty (eP a)
theorem bN.eb{α:Type}{f:α->Nat->aE}{d:α}{l:List α}(h:bN f d e sz w0 w v l)(b:U w S w' S')(g:∀k,k∈S->mU w k≠H e):bN f d e sz w0 w' v l:=
 h.eU b λ_ a c=>g _ c (h.ty a)
theorem U.cF(a:U w S w' S')(h:w.heap[b]? =H (kd cs t (0,0)))(d:∀k,k∈S->mU w k≠H t):w'.heap[b]? =H (kd cs t (0,0)):=
 a.aC h λc=>d b c (fB h)
theorem bN.ge{α:Type}{f:α->Nat->aE}{d:α}{l:List α}(h:bN f d e sz w0 w v l):∀k,k∈v.ownBlock.toList->i7 w0.heap<=k:=λk a=>h.2 k (eP a)
theorem iT{α:Type}{f:α->Nat->aE}{d:α}{l:List α}{t:ap}(B:kD P t e sz bytes)(i:0<sz)(ty:ap)(z:bN f d e sz w0 w v l)(r:U wb [] w [])(k:i7 wb.heap<=i7 w0.heap)(n:i7 w0.heap<=i7 w.heap){T:ap}(x:α)(hl:O news=sz)(vm:∀j,j<sz->hJ news j undef=f x j)(Q:∀j,j<sz->(f x j).oneCell'=qT)(L:(O l+1)*bytes<=140737488355328)(A:O l+1<=bH):
  ∃g cap w',(Builtin.append_ #[t,t] ty #[v,jS (H ⟨w,0,K⟩) 1 1]).run P (i5 w (kd news.toArray T))= .ok (jS (H ⟨g,0,K⟩) (O l+1) cap) w'/\bN f d e sz w0 w' (jS (H ⟨g,0,K⟩) (O l+1) cap) (l++[x])/\U wb [] w' []/\
   U w v.ownBlock.toList w' [g]/\i7 w0.heap<=g:=by
 have a:U w [] (i5 w (kd news.toArray T)) []:=(U.refl w []).alloc _;obtain⟨v',w6,q,b,C,p,a6,u,rfl⟩:=jX (m:=[x]) B i ty (z.on a) (r.ds a) k (j8 n a.size) (FM (f:=f) (d:=d) (mE w _) hl x vm) (λy h=>by grind) (eP L) (eP A);obtain⟨g,cap',hv,F⟩:∃g c,jS a6 (O l+O [x]) u=eC g 0 (O l+1) c/\i7 w0.heap<=g:=by
  rcases b.1 with⟨hv,i⟩|⟨g,cap,cur,hv,_⟩
  .simp at i
  .refine⟨g,cap,by rw[hv];simp,b.2 g (by rw[hv];rfl)⟩
 rw[hv]at q b p;refine⟨g,cap',w6,q,b,C,?_,F⟩;have G:U w v.ownBlock.toList (i5 w (kd news.toArray T)) v.ownBlock.toList:=(a.aL (T:=v.ownBlock.toList) J).to λ_ N=> .inl N;exact G.ds p
theorem C2{α:Type}{f:α->Nat->aE}{d:α}{l:List α}{t:ap}(B:kD P t e sz bytes){rest:List Oper}{o:Oper}(fg:o.guard=K)(s y:Operand)(G:o.op= .call {callee:= .builtin .append,args:=#[s,y],argTypes:=#[t,t]})(m:bN f d e sz w0 w v l)(r:U wb [] w [])(td:i7 wb.heap<=i7 w0.heap)(W:i7 w0.heap<=i7 w.heap)(hs:a.eval s=v)(news:List aE)(x:α)(q:a.eval y=jS (H ⟨w,0,K⟩) 1 1)(hl:O news=sz)(Q:∀j,j<sz->hJ news j undef=f x j)(h1:news.all Value.oneCell'=qT)(S:(O l+1)*bytes<=140737488355328)(A:O l+1<=bH)(h:∀g cap w',bN f d e sz w0 w' (jS (H ⟨g,0,K⟩) (O l+1) cap) (l++[x])->U wb [] w' []->U w v.ownBlock.toList w' [g]->i7 w0.heap<=g->
   wpList P ops bEr rest (a.put o.dst (jS (H ⟨g,0,K⟩) (O l+1) cap)) w'):wpList P ops bEr (o::rest) a (i5 w (kd news.toArray e)):=by
 obtain⟨i,z,u,L,N,V,F,mf⟩:=B.ex;refine rV w fg s y t G e i z sz bytes u L N V F mf v (O l) _ m.1 hs news q hl h1 S A ?_;rintro v' w' us p b ⟨g,cap,rfl⟩;have T:i7 w0.heap<=g:=by
  rcases b g rfl with c|c
  .exact m.2 g c
  omega
 have vm:bN f d e sz w0 w' (eC g 0 (O l+1) cap) (l++[x]):=bN.yD us Q (λg' KG=>by grind [i6]);have C:U w v.ownBlock.toList w' [g]:=((U.refl w v.ownBlock.toList).grown p (λk b=> .inl (by rw[b];simp))).to (λk n=>by
  simp at n;subst n;rcases b k rfl with c|c<;>grind)
 exact h g cap w' vm (r.grown p (λk b=> .inr (j8 td (m.2 k b)))).nil C T
theorem bN.EW{α:Type}{f:α->Nat->aE}{d:α}{l:List α}(h:bN f d e sz w0 w (jS (H ⟨g,0,K⟩) n cap) l)(v:i<O l)(c:j<sz)(x:α)(u:aE)(m:∀a,a<sz->f x a=if a=j then u else f (hJ l i d) a):
  bN f d e sz w0 (hY w ⟨g,i*sz+j,K⟩ u) (jS (H ⟨g,0,K⟩) n cap) (l.set i x):=by
 obtain⟨a',cap',hv,_⟩:=h.len;injection hv with h1 h2 h3;subst h1 h2 h3;refine⟨?_,h.2⟩;have b:=h.1.set rfl i j c u;rw[TS];refine b.congr λr a p q=> ?_;grind
end
end
theorem ZM83{P:Prop}(h:P:=by
  go_roundw
  .exact⟨trivial,k+1,Y,eY,λj hj AO=>by
   by_cases h:j=k
   .subst h;exact HE.o
   .exact fX j hj Y⟩
  simp[intOf];omega):P:=h
theorem ZM173{P:Prop}(h:P:=by
  have h:=this ⟨c.toNat,c.toNat_lt⟩;simpa using h):P:=h
def GO(c:UInt8)(s:dO):Bool:=s.data.toList.contains c
theorem H'(a c:UInt8):((a.toNat:Int)==(c.toNat:Int))=decide (a=c):=by
 rw[Fi,LQ,QX];exact⟨λh=>UInt8.toNat_inj.1 Y,λh=>by rw[h]⟩
theorem sN(s:dO):O s.data.toList=s.size:=by rw[Array.length_toList];rfl
theorem DN(s:dO){k:Nat}(h:k<s.size):s.data.toList[k]? =H s[k]:=by
 rw[zn];exact Ct h
theorem lh{c:UInt8}{s:dO}{k:Nat}(h:k<s.size)(a:s[k]=c):GO c s=qT:=by
 unfold GO;rw[Ye];exact ul (by rw[DN s h,a])
theorem aBP{c:UInt8}{s:dO}(h:∀j,(e:j<s.size)->s[j]≠c):GO c s=rR:=by
 cases a:GO c s
 .rfl
 .unfold GO at a;rw[Ye]at a;let⟨i,b,d⟩:=Na a;rw[sN]at b;exact dY d (h i b)
theorem O3(c:UInt8)(s:dO)(w:aA)(m:s.size<=1048576):
  aK prog 134 #[mj n9 c.toNat,mX s] w λe w'=>e=mi (nj (GO c s))/\w=w':=by
 go_in;go_wp2;go_loopw [5] (λi wr=>w=wr/\∃k:Nat,k<=s.size/\i=X k/\∀j,(hj:j<s.size)->j<k->s[j]≠c) (λi _=>s.size-(intOf i).toNat)
 .exact⟨rfl,0,Y,rfl,λj _ hj=>Y⟩
 obtain⟨rfl,k,l,rfl,fX⟩:=hrel;by_cases d:k<s.size
 .by_cases a:s[k]=c
  .have b:((s[k].toNat:Int)==(c.toNat:Int))=qT:=by rw[H'];exact kY a
   have g:=(lh d a);go_wp2;go_ret;exact⟨by rw[g];rfl,rfl⟩
  .have b:((s[k].toNat:Int)==(c.toNat:Int))=rR:=by rw[H'];exact kE a
   have HE:=Z a;go_wp2;exact ZM83
 .go_wp2;go_ret;exact⟨by rw[aBP λj hj=>fX j hj Y];rfl,rfl⟩
def FL(s set:dO):Nat:=O (s.data.toList.takeWhile λc=>GO c set)
theorem NR{s set:dO}{k:Nat}(b:k<=s.size)(h:∀j,(d:j<s.size)->j<k->GO s[j] set=qT)(e:(b:k<s.size)->GO s[k] set=rR):FL s set=k:=by
 unfold FL;have gP:∀(l:List UInt8) (k:Nat),k<=O l->(∀j,(d:j<O l)->j<k->GO l[j] set=qT)->((b:k<O l)->GO l[k] set=rR)->O (l.takeWhile λc=>GO c set)=k:=by
  intro l;induction l with
  |nil=>intro k b _ _;simp at b|-;omega
  |cons a l ih=>
   intro k b h e;cases k with
   |zero=>
    have:=e J;simp only[Tx]at this;simp[JJ,this]
   |succ k=>
    have i:=h 0 J Y;simp only[Tx]at i;simp only[JJ,i,yN,TT];rw[ih k (eP b) (λj d m=>by have:=h (j+1) (eP d) Y;rwa[Tw]at this) (λg=>by have:=e (eP g);rwa[Tw]at this)]
 exact gP s.data.toList k (by rw[sN];exact b) (λj d m=>h j (by rw[sN]at d;exact d) m) (λg=>e (by rw[sN]at g;exact g))
theorem vr(s set:dO)(w:aA)(hs:s.size<=1048576)(c:set.size<=1048576):
  aK prog 135 #[mX s,mj mn 0,mX set] w λe w'=>e=mi (mj mn (FL s set))/\w=w':=by
 go_in;go_wp2;go_loopw [7] (λi wr=>w=wr/\∃k:Nat,k<=s.size/\i=X k/\∀j,(hj:j<s.size)->j<k->GO s[j] set=qT) (λi _=>s.size-(intOf i).toNat)
 .exact⟨rfl,0,Y,rfl,λj _ hj=>Y⟩
 obtain⟨rfl,k,a,rfl,fX⟩:=hrel;by_cases d:k<s.size
 .cases b:GO s[k] set with
  |true=>
   have HE:=Z b;go_wp2_with (go_at_call 134;apply(O3 s[k] set _ c).dC;rintro w2 rfl);exact ZM83
  |false=>
   have HE:=Z b;go_wp2_with (go_at_call 134;apply(O3 s[k] set _ c).dC;rintro w2 rfl);go_ret;exact⟨by rw[NR a fX (λ_=>HE.o)];rfl,rfl⟩
 .go_wp2;go_ret;exact⟨by rw[NR a fX (λh=>dY h d)];rfl,rfl⟩
def YP:dO:={data:=#[48,49,50,51,52,53,54,55,56,57]}
def rD:dO:={data:=#[97,98,99,100,101,102,103,104,105,106,107,108,109,110,111,112,113,114,115,116,117,118,119,120,121,122,65,66,67,68,69,70,71,72,73,74,75,76,77,78,79,80,81,82,83,84,85,86,87,88,89,90,95,48,49,50,51,52,53,54,55,56,57]}
theorem Vz(c:UInt8):GO c YP=o7 c:=by
 have:∀n:Fin 256,GO (UInt8.ofNat n) YP=o7 (UInt8.ofNat n):=by decide+kernel
 exact ZM173
theorem SB(c:UInt8):GO c rD=(jZ c||o7 c):=by
 have:∀n:Fin 256,GO (UInt8.ofNat n) rD=(jZ (UInt8.ofNat n)||o7 (UInt8.ofNat n)):=by decide+kernel
 exact ZM173
theorem aEo(c:UInt8):(jZ c&&o7 c)=rR:=by
 have:∀n:Fin 256,(jZ (UInt8.ofNat n)&&o7 (UInt8.ofNat n))=rR:=by decide+kernel
 exact ZM173
theorem Gn{p:UInt8->Bool}{l:List UInt8}:decide (O (l.takeWhile p)=O l)=l.all p:=by
 induction l with
 |nil=>rfl
 |cons a l ih=>
  rw[JJ,List.all_cons];cases ha:p a
  .simp
  .simp only[yN,TT,Nat.add_right_cancel_iff,VN];exact ih
theorem Al(s:dO):decide (FL s rD=s.size)=s.data.toList.all λc=>jZ c||o7 c:=by
 unfold FL;rw[<-sN,Gn];congr 1;funext c;exact SB c
theorem aEu(s:dO)(d:0<s.size)(e:s.size<=16):jL s=(!o7 s[0]&&s.data.toList.all λc=>jZ c||o7 c):=by
 unfold jL;rw[kY (show 1<=s.size from d),kY e,VN,VN];have b:=DN s d;cases hl:s.data.toList with
 |nil=>rw[hl]at b;simp at b
 |cons a l=>
  rw[hl]at b;have ha:a=s[0]:=eP b;rw[List.headD_cons,List.all_cons,<-ha];have g:=aEo a;clear ha b hl;generalize l.all (λc=>jZ c||o7 c)=r;revert g;cases jZ a<;>cases o7 a<;>cases r<;>decide
theorem EY(s:dO)(w:aA)(hs:s.size<=1048576):
  aK prog 87 #[mX s] w λe w'=>e=mi (nj (jL s))/\w=w':=by
 by_cases i:0<s.size
 .by_cases g:s.size<=16
  .have c:=aEu s i g;rw[<-Al]at c;have b:=Z c;have a:=Vz s[0];have d:decide ((1:Int)<=(s.size:Int))=qT:=kY Y;have g2:decide ((s.size:Int)<=16)=qT:=kY Y;cases hd:o7 s[0]with
   |true=>
    rw[hd]at a;have a:=Z a;go_in;go_wp2_with (first
     |(go_at_call 134;apply(O3 s[0] YP _ E).dC;rintro w2 rfl;rw[a.o])
     |(go_at_call 135;apply(vr s rD _ hs E).dC;rintro w2 rfl))
    go_ret;exact⟨by rw[b.out,hd];rfl,rfl⟩
   |false=>
    rw[hd]at a;have a:=Z a;go_in;go_wp2_with (first
     |(go_at_call 134;apply(O3 s[0] YP _ E).dC;rintro w2 rfl;rw[a.o])
     |(go_at_call 135;apply(vr s rD _ hs E).dC;rintro w2 rfl))
    go_ret;exact⟨by rw[b.out,hd,<-dH];rfl,rfl⟩
  .have c:jL s=rR:=by unfold jL;rw[kE g];simp
   have d:decide ((1:Int)<=(s.size:Int))=qT:=kY Y;have g2:decide ((s.size:Int)<=16)=rR:=kE Y;have b:=Z c;go_in;go_wp2;go_ret;exact⟨by rw[b.out];rfl,rfl⟩
 .have c:jL s=rR:=by unfold jL;rw[kE (show¬1<=s.size from i)];simp
  have d:decide ((1:Int)<=(s.size:Int))=rR:=kE Y;have b:=Z c;go_in;go_wp2;go_ret;exact⟨by rw[b.out];rfl,rfl⟩
theorem ZM165{P:Prop}(h:P:=by
  go_in;go_wp2;go_ret;exact⟨by rw[hv];rfl,(U.refl w []).alloc _⟩):P:=h
theorem UH{s:dO}:s.size=0↔s=bU:=by
 constructor
 .intro h;refine ByteArray.ext (Array.eq_empty_of_size_eq_zero h)
 .rintro rfl;rfl
theorem Aq(v:L4)(w:aA)(hs:v.dZ.size<=1048576):
  aK prog 66 #[.agg #[mj mn v.aG,mj mn v.num,mX v.dZ]] w λe w'=>e=mi (nj (gX v))/\U w [] w' []:=by
 by_cases c:v.aG=1
 .have i:(v.aG==1)=qT:=by rw[LQ];exact c
  have hv:gX v=((v.dZ.size:Int)==0):=by
   unfold gX;rw[bW c,Fi,LQ,QX,<-UH];omega
  exact ZM165
 .have i:(v.aG==1)=rR:=by rw[GD];exact c
  have hv:gX v=(decide (v.aG=2)&&decide (v.num=0)&&decide (v.dZ.size<=64)):=by unfold gX;rw[R c]
  by_cases b:v.aG=2
  .have d:(v.aG==2)=qT:=by rw[LQ];exact b
   by_cases a:v.num=0
   .have g:(v.num==0)=qT:=by rw[LQ];exact a
    have hv:gX v=decide ((v.dZ.size:Int)<=64):=by
     rw[hv,kY b,kY a,VN,VN,Fi,QX,QX];omega
    exact ZM165
   .have g:(v.num==0)=rR:=by rw[GD];exact a
    have hv:gX v=rR:=by rw[hv,kE a];simp
    exact ZM165
  .have d:(v.aG==2)=rR:=by rw[GD];exact b
   have hv:gX v=rR:=by rw[hv,kE b];simp
   exact ZM165
theorem ZM48{P:Prop}(h:P:=by
  go_wp2_with (first|(go_at_call 217;apply(tS s[k] _).dC;rintro w2 rfl;rw[HL.o])|(go_at_call 236;apply(MO s[k] _).dC;rintro w2 rfl;rw[HD.o]));go_roundw
  .exact⟨trivial,k+1,Y,eY,λj hj AO=>by
   by_cases h:j=k
   .subst h;rw[Ov,HL.o];first|rfl|(rw[HD.o];rfl)
   .exact fX j hj Y⟩
  simp[intOf];omega):P:=h
theorem ZM78{P:Prop}(h:P:=by
  have d5:((n:Int)==95)=rR:=GD.2 Y;have HB:=(show jZ c=rR by rw[hB];simp;omega);go_in;go_wp2;go_ret;exact⟨by rw[HB];rfl,rfl⟩):P:=h
theorem ZM175{P:Prop}(h:P:=by
  go_in;go_wp2;go_ret;exact⟨by rw[HB];rfl,rfl⟩):P:=h
theorem lq(c:UInt8):jZ c=((decide (97<=c.toNat)&&decide (c.toNat<=122))||(decide (65<=c.toNat)&&decide (c.toNat<=90))||decide (c.toNat=95)):=by
 have:∀n:Fin 256,jZ (UInt8.ofNat n)=((decide (97<=(UInt8.ofNat n).toNat)&&decide ((UInt8.ofNat n).toNat<=122))||(decide (65<=(UInt8.ofNat n).toNat)&&decide ((UInt8.ofNat n).toNat<=90))||decide ((UInt8.ofNat n).toNat=95)):=by decide+kernel
 exact ZM173
theorem aCJ(c:UInt8):o7 c=(decide (48<=c.toNat)&&decide (c.toNat<=57)):=by
 have:∀n:Fin 256,o7 (UInt8.ofNat n)=(decide (48<=(UInt8.ofNat n).toNat)&&decide ((UInt8.ofNat n).toNat<=57)):=by decide+kernel
 exact ZM173
theorem tS(c:UInt8)(w:aA):aK prog 217 #[mj n9 c.toNat] w λe w'=>e=mi (nj (jZ c))/\w=w':=by
 have hB:=lq c;let⟨n,a⟩:=D (c.toNat);have m:n<256:=a▸c.toNat_lt;rw[a]at hB|-;by_cases g:97<=n
 .have l:decide ((97:Int)<=(n:Int))=qT:=kY Y;by_cases g2:n<=122
  .have j:decide ((n:Int)<=122)=qT:=kY Y;have HB:=(show jZ c=qT by rw[hB];simp[g,g2]);exact ZM175
  .have j:decide ((n:Int)<=122)=rR:=kE Y;have d:decide ((65:Int)<=(n:Int))=qT:=kY Y;have b:decide ((n:Int)<=90)=rR:=kE Y;exact ZM78
 .have l:decide ((97:Int)<=(n:Int))=rR:=kE Y;by_cases g3:65<=n
  .have d:decide ((65:Int)<=(n:Int))=qT:=kY Y;by_cases i:n<=90
   .have b:decide ((n:Int)<=90)=qT:=kY Y;have HB:=(show jZ c=qT by rw[hB];simp[g3,i]);exact ZM175
   .have b:decide ((n:Int)<=90)=rR:=kE Y;by_cases g5:n=95
    .have d5:((n:Int)==95)=qT:=LQ.2 Y;have HB:=(show jZ c=qT by rw[hB];simp[g5]);exact ZM175
    .exact ZM78
  .have d:decide ((65:Int)<=(n:Int))=rR:=kE Y;have d5:((n:Int)==95)=rR:=GD.2 Y;have HB:=(show jZ c=rR by rw[hB];simp;omega);exact ZM175
theorem MO(c:UInt8)(w:aA):aK prog 236 #[mj n9 c.toNat] w λe w'=>e=mi (nj (o7 c))/\w=w':=by
 have a:=aCJ c;let⟨n,b⟩:=D (c.toNat);have j:n<256:=b▸c.toNat_lt;rw[b]at a|-;by_cases d:48<=n
 .have i:decide ((48:Int)<=(n:Int))=qT:=kY Y;by_cases g2:n<=57
  .have g:decide ((n:Int)<=57)=qT:=kY Y;have HB:=(show o7 c=qT by rw[a];simp[d,g2]);exact ZM175
  .have g:decide ((n:Int)<=57)=rR:=kE Y;have HB:=(show o7 c=rR by rw[a];simp;omega);exact ZM175
 .have i:decide ((48:Int)<=(n:Int))=rR:=kE Y;have HB:=(show o7 c=rR by rw[a];simp;omega);exact ZM175
theorem Ov(c:UInt8):GO c rD=(jZ c||o7 c):=SB c
theorem VZ(s:dO)(w:aA)(hs:s.size<=1048576):
  aK prog 218 #[mX s,mj mn 0] w λe w'=>e=mi (mj mn (FL s rD))/\w=w':=by
 go_in;go_wp2;go_loopw [1] (λi wr=>w=wr/\∃k:Nat,k<=s.size/\i=X k/\∀j,(hj:j<s.size)->j<k->GO s[j] rD=qT) (λi _=>s.size-(intOf i).toNat)
 .exact⟨rfl,0,Y,rfl,λj _ hj=>Y⟩
 obtain⟨rfl,k,a,rfl,fX⟩:=hrel;by_cases b:k<s.size
 .cases hl:jZ s[k]with
  |true=>
   have HL:=Z hl;have HD:=HL;exact ZM48
  |false=>
   have HL:=Z hl;cases hd:o7 s[k]with
   |true=>
    have HD:=Z hd;exact ZM48
   |false=>
    have HD:=Z hd;go_wp2_with (first|(go_at_call 217;apply(tS s[k] _).dC;rintro w2 rfl;rw[HL.o])|(go_at_call 236;apply(MO s[k] _).dC;rintro w2 rfl;rw[HD.o]));go_ret;exact⟨by rw[NR a fX (λ_=>by rw[Ov,HL.o,HD.o];rfl)];rfl,rfl⟩
 .go_wp2;go_ret;exact⟨by rw[NR a fX (λh=>dY h b)];rfl,rfl⟩
theorem ku{s:dO}(h:0<s.size):jL s=(jZ s[0]&&(decide (FL s rD=s.size)&&decide (s.size<=16))):=by
 rw[Al];unfold jL;rw[kY (show 1<=s.size from h),VN];have b:=DN s h;have hd:s.data.toList.headD 0=s[0]:=by
  cases hl:s.data.toList with
  |nil=>rw[hl]at b;simp at b
  |cons a l=>rw[hl]at b;simpa using b
 rw[hd];cases jZ s[0]<;>cases decide (s.size<=16)<;>simp
theorem DF(s:dO)(w:aA)(hs:s.size<=1048576):
  aK prog 193 #[mX s] w λe w'=>e=mi (nj (jL s))/\w=w':=by
 by_cases d:0<s.size
 .have g:s≠bU:=λe=>by rw[UH.2 e]at d;exact dY d (by decide)
  have j:=jJ g;have l:=qE g;have a:=Z (ku d);cases hl:jZ s[0]with
  |false=>
   have b:=Z hl;go_in;go_wp2_with (go_at_call 217;apply(tS s[0] _).dC;rintro w2 rfl;rw[b.o]);go_ret;exact⟨by rw[a.o,b.o];rfl,rfl⟩
  |true=>
   have b:=Z hl;by_cases c:FL s rD=s.size
   .have i:((FL s rD:Int)==(s.size:Int))=qT:=by rw[dH];exact kY c
    have a:dT (jL s=decide (s.size<=16)):=Z (by rw[a.o,b.o,kY c];simp);go_in;go_wp2_with (first|(go_at_call 217;apply(tS s[0] _).dC;rintro w2 rfl;rw[b.o])|(go_at_call 218;apply(VZ s _ hs).dC;rintro w2 rfl));go_ret;have hd:decide (s.size<=16)=decide ((s.size:Int)<=16):=by
     rw[Fi,QX,QX];omega
    exact⟨by rw[a.o,hd];rfl,rfl⟩
   .have i:((FL s rD:Int)==(s.size:Int))=rR:=by rw[dH];exact kE c
    have a:dT (jL s=rR):=Z (by rw[a.o,kE c];simp);go_in;go_wp2_with (first|(go_at_call 217;apply(tS s[0] _).dC;rintro w2 rfl;rw[b.o])|(go_at_call 218;apply(VZ s _ hs).dC;rintro w2 rfl));go_ret;exact⟨by rw[a.o];rfl,rfl⟩
 .have c:s=bU:=UH.1 (by omega);subst c;have j:=oV (x:=bU) rfl;have a:dT (jL bU=rR):=Z rfl;go_in;go_wp2;go_ret;exact⟨by rw[a.o];rfl,rfl⟩
theorem D4(v:aE)(l:List dO)(s:dO)(w:aA)(h:JV w v l):
  aK prog 36 #[v,mX s] w λe w'=>e=mi (mj mn (aj l s))/\w=w':=by
 obtain⟨a,cap,rfl,p⟩:=h.len;unfold bH at p;go_in;go_wp2;go_loopw [8] (λi wr=>w=wr/\∃k:Nat,k<=O l/\i=X k/\∀j,j<k->hJ l j bU≠s) (λi _=>O l-(intOf i).toNat)
 .exact⟨rfl,0,Y,rfl,λj m=>Y⟩
 obtain⟨rfl,k,u,rfl,c⟩:=hrel;by_cases d:k<O l
 .let⟨g,o,cap',hv,r⟩:=h.FC d;injection hv with x1 x2 x3;subst x1;let⟨x,b⟩:=D (hJ l k bU);simp only[yK,b]at r;by_cases hs:s=x
  .subst hs;go_wp2;go_ret;exact⟨xE (λz=>mi (X z)) (Mf d b c).symm,rfl⟩
  .have q:=Z hs;have y:=ZV hs;go_wp2;go_roundw
   .exact⟨trivial,k+1,Y,eY,λj m=>by
    by_cases n:j=k
    .subst n;rw[b];exact λe=>q.o e.symm
    .exact c j Y⟩
   simp[intOf];omega
 .go_wp2;go_ret;exact⟨xE (λz=>mi (X z)) (ai λj m=>c j Y).symm,rfl⟩
theorem oW(v:aE)(l:List dO)(s:dO)(w:aA)(h:JV w v l):
  aK prog 78 #[v,mX s] w λe w'=>e=mi (nj (decide (s∈l)))/\w=w':=by
 go_in;go_wp2_with (go_at_call 36;apply(D4 v l s w h).dC;rintro w' rfl);go_ret;exact⟨by rw[<-Er];rfl,rfl⟩
theorem CJ(v:aE)(rel:dO)(ts:List j6)(w:aA)(h:AW w v ts)(hm:O ts<=1048576):
  aK prog 37 #[.agg #[mX rel,v]] w λe w'=>∃u,e=mi u/\wU w w' u (bL ts [])/\U w [] w' []:=by
 obtain⟨a,cap,rfl,G⟩:=h.len;unfold bH at G;let⟨w1,y⟩:=D (i5 w (kd #[mX rel,jS a (O ts) cap] 87));have cT:=Za y;have T:h8 w1 ⟨w,1,K⟩=H (jS a (O ts) cap):=y▸aP (mE w _) rfl;go_in;go_wp2;go_loopg [3,9] (O ts) (λs p i wr=>U w1 [] wr []/\∃(k:Nat) (L:List dO),k<=O ts/\s=O ts-k/\i=X k/\bL (ts.take k) []=L/\wU w1 wr p L)
 .exact⟨U.refl _ _,0,[],Y,rfl,rfl,rfl,bN.nil _ _⟩
 obtain⟨hU,k,L,S,rfl,rfl,R4,n⟩:=hrel;have d:=iB (ts.take k) [];rw[PI,B4,R4]at d;obtain⟨a3,W,rfl,NV⟩:=n.len;have HL:=Z n;clear n;by_cases B:k<O ts
 .let⟨g,o,cap',hv,_,j⟩:=(h.on (cT.ds hU)).aS B;obtain rfl:=IK hv;have b:=Z (LY B []);have c0:=j 0 E;have c1:=j 1 E;have c2:=j 2 E;have c3:=j 3 E;simp only[j6.cell,qZ]at c0 c1 c2 c3;clear j;let⟨t,C⟩:=D (hJ ts k sT);rw[C]at c0 c1 c2 c3 b;rw[R4]at b;clear C;go_upto_region 5 with(fail);let⟨w5,m⟩:=D (i5 wr (kd #[mX t.var,X t.xW.aG,X t.xW.num,mX t.xW.dZ] 92));have r:=Za m;have P:h8 w5 ⟨wr,0,K⟩=H (mX t.var):=m▸aP (mE wr _) rfl;rw[m];have A:=HL.on r;have q:=(hU.ds r);have l:=Z A;clear m r A c0 c1 c2 c3;let⟨x,F⟩:=D (t.var);rw[F]at P b;clear F;by_cases hs:x=bU
  .have b:dT (bL (ts.take (k+1)) []=L):=Z (by rw[b.o,bW hs]);have vm:=oV hs;clear hs;go_wp2;go_roundg (O ts-(k+1))
   .exact⟨q,k+1,_,Y,rfl,eY,b,l⟩
   omega
  .have b:dT (bL (ts.take (k+1)) []=i9 L x):=Z (by rw[b.o,R hs]);have vm:=jJ hs;have Q:=qE hs;clear hs;by_cases c:x∈L
   .have b:dT (bL (ts.take (k+1)) []=L):=Z (b.o▸bW c);have hd:=kY c;clear c;go_wp2_with (go_at_call 78;apply(oW _ _ _ _ l.rd).dC;rintro w2 rfl);go_roundg (O ts-(k+1))
    .exact⟨q,k+1,_,Y,rfl,eY,b,l⟩
    omega
   .have b:dT (bL (ts.take (k+1)) []=L++[x]):=Z (b.o▸R c);have hd:=kE c;clear c;go_wp2_with (first
     |(at_builtin;refine cK aLC rfl _ _ rfl l q Yr [mX x] x Yr rfl (dE rfl) rfl Y GC ?_;rintro g2 V w3 z N- -;have f:=Z z;clear z)
     |(go_at_call 78;apply(oW _ _ _ _ l.rd).dC;rintro w2 rfl))
    go_roundg (O ts-(k+1))
    .exact⟨N,k+1,_,Y,rfl,eY,b,f⟩
    omega
 .exact ZM88
theorem ZM155{P:Prop}(h:P:=by
  go_wp2;go_roundw
  .exact⟨trivial,k+1,Y,eY,by rw[HS.o]⟩
  simp[intOf];omega):P:=h
theorem J3{v:Nat}(h:v<32):(2:Int)^v%4294967296=((2^v:Nat):Int):=by
 have b:2^v<4294967296:=du (Nat.pow_lt_pow_right (by decide) h:2^v<2^32) (by decide);have a:(2:Int)^v=((2^v:Nat):Int):=(Int.natCast_pow 2 v).symm;rw[a];generalize 2^v=n at*;omega
theorem Uo(S:Nat){v:Nat}(h:v<32):S.testBit v=((S:Int)/((2:Int)^v%4294967296)%2==1):=by
 rw[J3 h,Nat.testBit_eq_decide_div_mod_eq,Fi,QX,LQ,<-Int.natCast_ediv];generalize S/2^v=x;omega
theorem jN(S v:Nat)(c:S<2^32)(w:aA)(hv:v<2147483648):
  aK prog 51 #[mj nr S,mj mn v] w λe w'=>e=mi (nj (S.testBit v))/\w=w':=by
 have d:decide ((0:Int)<=(v:Int))=qT:=kY Y;by_cases h:v<32
 .have b:decide ((v:Int)<32)=qT:=kY Y;have g2:¬((2:Int)^v%4294967296=0):=by rw[J3 h];have:=wn v;omega
  have a:=(Uo S h);go_in;go_wp2;go_ret;exact⟨by rw[a];rfl,rfl⟩
 .have b:decide ((v:Int)<32)=rR:=kE Y;go_in;go_wp2;go_ret;exact⟨by rw[zbN (xF c (Fk E Y))];rfl,rfl⟩
theorem aQr{S v:Nat}(b:S<2^32)(h:S.testBit v=qT):v<32:=by
 rcases YB v 32 with a|a
 .exact a
 .rw[zbN (xF b (Fk E a))]at h;cases h
theorem IS(a b:Nat)(ha:a<2^32)(q:b<2^32)(w:aA):
  aK prog 145 #[mj nr a,mj nr b] w λe w'=>e=mi (nj (part a b))/\w=w':=by
 go_in;go_wp2;go_loopw [5] (λi wr=>w=wr/\∃k:Nat,k<=32/\i=X k/\∀v,v<k->a.testBit v=qT->b.testBit v=qT) (λi _=>32-(intOf i).toNat)
 .exact⟨rfl,0,Y,rfl,λv hv=>Y⟩
 obtain⟨rfl,k,r,rfl,m⟩:=hrel;by_cases u:k<32
 .cases p:a.testBit k with
  |true=>
   have d:=Z p;cases n:b.testBit k with
   |true=>
    have j:=Z n;go_wp2_with fail;apply(jN a k ha _ Y).dC;rintro w2 rfl;rw[d.out];go_wp2_with fail;apply(jN b k q _ Y).dC;rintro w2 rfl;rw[j.out];go_wp2;go_roundw
    .exact⟨trivial,k+1,Y,eY,λv hv g=>by
     by_cases c:v=k
     .subst c;exact j.out
     .exact m v Y g⟩
    simp[intOf];omega
   |false=>
    have j:=Z n;go_wp2_with fail;apply(jN a k ha _ Y).dC;rintro w2 rfl;rw[d.out];go_wp2_with fail;apply(jN b k q _ Y).dC;rintro w2 rfl;rw[j.out];go_wp2;go_ret;have l:part a b=rR:=by
     cases l:part a b
     .rfl
     .exact dY (jV.1 l k d.out) (by rw[j.out];decide)
    exact⟨by rw[l];rfl,rfl⟩
  |false=>
   have d:=Z p;go_wp2_with fail;apply(jN a k ha _ Y).dC;rintro w2 rfl;rw[d.out];go_wp2;go_roundw
   .exact⟨trivial,k+1,Y,eY,λv hv g=>by
    by_cases c:v=k
    .subst c;rw[d.out]at g;cases g
    .exact m v Y g⟩
   simp[intOf];omega
 .go_wp2;go_ret;have l:part a b=qT:=jV.2 λv hv=>m v (kX (aQr ha hv)) hv;exact⟨by rw[l];rfl,rfl⟩
theorem Ot(x k:Nat):x%2^(k+1)=if x.testBit k then x%2^k+2^k else x%2^k:=by
 refine Fj λi=> ?_;have b:x%2^k<2^k:=V4 _ (wn k);rw[EA];split
 .rename_i h;rw[K5 b,EA];by_cases a:i=k
  .subst a;simp[h]
  .have:i<k+1↔i<k:=Y;simp[a,this]
 .rename_i h;rw[EA];by_cases a:i=k
  .subst a;simp[h]
  .have:i<k+1↔i<k:=Y;simp[this]
theorem ar{a:Nat}(ha:a<2^32):(a&&&b)+fS a b=a:=by
 have hl:fS a b<2^32:=Sp (C8 a b) ha;have d:a&&&b<2^32:=Sp Nat.and_le_left ha;have c:BitVec.ofNat 32 (a&&&b)&&&BitVec.ofNat 32 (fS a b)=0#32:=by
  apply BitVec.eq_of_toNat_eq;rw[BitVec.toNat_and,BitVec.toNat_ofNat,BitVec.toNat_ofNat,B0 d,B0 hl];refine Fj λi=> ?_;rw[zN,zN,cH];cases a.testBit i<;>cases b.testBit i<;>simp
 have e:=BitVec.toNat_add_of_and_eq_zero c;rw[BitVec.add_eq_or_of_and_eq_zero _ _ c,BitVec.toNat_or,BitVec.toNat_ofNat,BitVec.toNat_ofNat,B0 d,B0 hl]at e;rw[<-e];refine Fj λi=> ?_;rw[B6,zN,cH];cases a.testBit i<;>cases b.testBit i<;>rfl
theorem M'(a b:Nat)(ha:a<2^32)(m:b<2^32)(w:aA):
  aK prog 184 #[mj nr a,mj nr b] w λe w'=>e=mi (mj nr ((a&&&b:Nat):Int))/\w=w':=by
 have n:a&&&b<2^32:=Sp Nat.and_le_left ha;go_in;go_wp2;go_loopw [5,6] (λs i wr=>w=wr/\∃k:Nat,k<=32/\i=X k/\s=mj nr (((a&&&b)%2^k:Nat):Int)) (λ_ i _=>32-(intOf i).toNat)
 .exact⟨rfl,0,Y,rfl,by simp[Nat.mod_one]⟩
 obtain⟨rfl,k,v,rfl,rfl⟩:=hrel;by_cases q:k<32
 .have HS:=Z (Ot (a&&&b) k);have c:=zN a b k;let⟨s,hs⟩:=D ((a&&&b)%2^k);have r:s<2^k:=hs▸V4 _ (wn k);rw[hs]at HS|-;cases d:a.testBit k with
  |true=>
   have g:=Z d;cases j:b.testBit k with
   |true=>
    have l:=Z j;have HS:dT ((a&&&b)%2^(k+1)=s+2^k):=Z (by rw[HS.o,c,d,j];rfl);have u:s+2^k<4294967296:=HS.o▸Sp (Nat.mod_le _ _) (du n E);go_wp2_with fail;apply(jN a k ha _ Y).dC;rintro w2 rfl;rw[g.out];go_wp2_with fail;apply(jN b k m _ Y).dC;rintro w2 rfl;rw[l.out];go_wp2;go_roundw
    .exact⟨trivial,k+1,Y,eY,by
     rw[HS.o,J3 q];generalize 2^k=p at*;congr 1;omega⟩
    simp[intOf];omega
   |false=>
    have l:=Z j;have HS:dT ((a&&&b)%2^(k+1)=s):=Z (by rw[HS.o,c,d,j];rfl);go_wp2_with fail;apply(jN a k ha _ Y).dC;rintro w2 rfl;rw[g.out];go_wp2_with fail;apply(jN b k m _ Y).dC;rintro w2 rfl;rw[l.out];exact ZM155
  |false=>
   have g:=Z d;have HS:dT ((a&&&b)%2^(k+1)=s):=Z (by rw[HS.o,c,d];rfl);go_wp2_with fail;apply(jN a k ha _ Y).dC;rintro w2 rfl;rw[g.out];exact ZM155
 .obtain rfl:k=32:=Y;rw[B0 n];go_wp2;go_ret;exact⟨rfl,rfl⟩
theorem GP(a b:Nat)(ha:a<2^32)(i:b<2^32)(w:aA):
  aK prog 146 #[mj nr a,mj nr b] w λe w'=>e=mi (mj nr (fS a b))/\w=w':=by
 have hs:=ar (b:=b) ha;have d:a<4294967296:=du ha (by decide);generalize j:a&&&b=c at hs;have g:=Z j;go_in;go_wp2_with (go_at_call 184;apply(M' a b ha i _).dC;rintro w2 rfl;rw[g.o]);go_ret;refine⟨xE (λz=>mi (mj nr z)) ?_,rfl⟩;omega
theorem ZM138{P:Prop}(h:P:=by
  go_roundg (O l-(k+1))
  .exact⟨cW,k+1,Y,rfl,eY,by rw[HX.o];exact pM.o⟩
  omega):P:=h
theorem ZM180{P:Prop}(h:P:=by
  exact⟨U.refl _ _,0,Y,rfl,rfl,bN.nil _ _⟩):P:=h
def wP(x:ES):Nat->aE
 |0=>mj mn (x.1:Int)
 |_=>mj nr (x.2:Int)
abbrev Mo(w:aA)(v:aE)(l:List ES):Prop:=fM wP sT 2 w v l
abbrev ND(w0 w:aA)(v:aE)(l:List ES):Prop:=bN wP sT 220 2 w0 w v l
theorem kM.aS(h:kM l)(i:Nat):(hJ l i sT).2<2^32:=by
 rw[gV];cases a:l[i]?with
 |none=>exact wn 32
 |some x=>exact h x (ul a)
theorem fM.zm{α:Type}{f:α->Nat->aE}{d:α}{l:List α}(h:fM f d 2 w v l)(c:i<O l):
  ∃g o cap,v=jS (H ⟨g,o,K⟩) (O l) cap/\g<i7 w.heap/\h8 w ⟨g,o+i*2,K⟩=H (f (hJ l i d) 0)/\h8 w ⟨g,o+i*2+1,K⟩=H (f (hJ l i d) 1):=by
 let⟨g,o,cap,hv,b,a⟩:=fM.aS h c;exact⟨g,o,cap,hv,b,a 0 Y,a 1 Y⟩
def rC(l:List ES)(a k:Nat):Nat:=(List.range k).foldl (λs i=>if i=a then s else s|||(hJ l i sT).2) 0
theorem FO(l:List ES)(a k:Nat):rC l a (k+1)=if k=a then rC l a k else rC l a k|||(hJ l k sT).2:=by
 unfold rC;rw[dr,um];rfl
theorem MC(hs:kM l)(a:Nat):∀k,rC l a k<2^32
 |0=>wn 32
 |k+1=>by
  rw[FO];split
  .exact MC hs a k
  .exact B5 (MC hs a k) (hs.aS k)
theorem yX(l:List ES)(a v:Nat):∀k,(rC l a k).testBit v=qT↔∃i,i<k/\i≠a/\(hJ l i sT).2.testBit v=qT
 |0=>by simp[rC]
 |k+1=>by
  rw[FO];split
  .rename_i h;rw[yX l a v k];constructor
   .rintro⟨i,c,b⟩;exact⟨i,Y,b⟩
   .rintro⟨i,c,b⟩;exact⟨i,Y,b⟩
  .rename_i h;rw[B6,Wj,yX l a v k];constructor
   .rintro(⟨i,c,b⟩|b)
    .exact⟨i,Y,b⟩
    .exact⟨k,Y,h,b⟩
   .rintro⟨i,c,b,e⟩;by_cases d:i=k
    .subst d;exact .inr e
    .exact .inl ⟨i,Y,b,e⟩
theorem aBD(hd:(mV l).Nodup){a:Nat}(ha:a<O l):rC l a (O l)=vM l (hJ l a sT).1:=by
 refine Fj λv=> ?_;rw[Fi,yX,J6];have e:∀i,(b:i<O l)->hJ l i sT=l[i]:=λi b=>by rw[gV,kU b];rfl
 have g:∀i,(b:i<O l)->(mV l)[i]'(by simpa[mV]using b)=(hJ l i sT).1:=λi b=>by rw[e i b];simp[mV]
 constructor
 .rintro⟨i,m,q,n⟩;refine⟨(hJ l i sT).1,λc=>q ?_,(hJ l i sT).2,bO (d:=sT) m,n⟩;rw[<-g i m,<-g a ha]at c;exact(List.getElem_inj hd).1 c
 .rintro⟨j,p,s,hs,hv⟩;let⟨i,b,c⟩:=Na hs;refine⟨i,b,λh=>p ?_,?_⟩
  .subst h;rw[e i b,c]
  .rw[e i b,c];exact hv
theorem Ju{s t:Nat}(hs:s<2^32)(c:t<2^32):s+fS t s=s|||t:=by
 have h:=ar (a:=s|||t) (b:=s) (B5 hs c);have e:(s|||t)&&&s=s:=by
  refine Fj λi=> ?_;rw[zN,B6];cases s.testBit i<;>simp
 have d:fS (s|||t) s=fS t s:=by
  refine Fj λi=> ?_;rw[cH,cH,B6];cases s.testBit i<;>simp
 rw[e,d]at h;exact h
theorem kg(v:aE)(l:List ES)(a:Nat)(w:aA)(h:Mo w v l)(hs:kM l)(hl:O l<=7)(ha:a<O l)(hd:(mV l).Nodup):
  aK prog 147 #[v,mj mn a] w λe w'=>e=mi (mj nr (vM l (hJ l a sT).1))/\w=w':=by
 obtain⟨ad,cap,rfl,-⟩:=h.len;have m:=Z hs;have y:=Z (aBD hd ha);go_in;go_wp2;go_loopg [5,6] (O l) (λg s i wr=>w=wr/\∃k:Nat,k<=O l/\g=O l-k/\i=X k/\s=mj nr (rC l a k))
 .exact⟨rfl,0,Y,rfl,rfl,rfl⟩
 obtain⟨rfl,k,A,rfl,rfl,rfl⟩:=hrel;by_cases x:k<O l
 .let⟨g,o,cap',hv,_,c0,c1⟩:=h.zm x;injection hv with n z h3;subst n h3;have j:=(m.aS k);have c:=(MC m a k);have b:=Z (FO l a k);simp only[wP]at c1;let⟨t,q⟩:=D ((hJ l k sT).2);let⟨s,hs⟩:=D (rC l a k);rw[q]at c1 j b;rw[hs]at c b|-;by_cases d:k=a
  .have r:((k:Int)!=(a:Int))=rR:=by rw[bne,dH,kY d];rfl
   have b:dT (rC l a (k+1)=s):=Z (by rw[b.o,bW d]);go_wp2;go_roundg (O l-(k+1))
   .exact⟨rfl,k+1,Y,rfl,eY,by rw[b.o]⟩
   omega
  .have r:((k:Int)!=(a:Int))=qT:=by rw[bne,dH,kE d];rfl
   have b:dT (rC l a (k+1)=s|||t):=Z (by rw[b.o,R d]);have u:=(Ju c j);have p:=Z (du (B5 c j) (by decide:2^32=4294967296));go_wp2_with (go_at_call 146;apply(GP t s j c _).dC;rintro w2 rfl);go_roundg (O l-(k+1))
   .exact⟨rfl,k+1,Y,rfl,eY,by
    rw[b.o];have n:=u;have z:=p.o;congr 1;omega⟩
   omega
 .obtain rfl:k=O l:=Y;rw[y.o];go_wp2;go_ret;exact⟨rfl,rfl⟩
def FY(x:Nat):Nat->aE:=λ_=>mj nr (x:Int)
abbrev E0(w:aA)(v:aE)(l:List Nat):Prop:=fM FY 0 1 w v l
abbrev yS(w0 w:aA)(v:aE)(l:List Nat):Prop:=bN FY 0 65 1 w0 w v l
theorem aGt:kD prog 211 220 2 16:= .QZ (z:= .agg #[X 0,mj nr 0]) underlying211 dJ rfl
def QK(es:List Nat)(k:Nat):List ES:=(List.range k).map λi=>(i,hJ es i 0)
theorem Zg(es:List Nat)(k:Nat):QK es (k+1)=QK es k++[(k,hJ es k 0)]:=by
 unfold QK;rw[dr,QW];rfl
theorem He(es:List Nat)(k:Nat):O (QK es k)=k:=by simp[QK]
theorem YC{x y:aE}{f:Nat->aE}(a:x=f 0)(c:y=f 1):∀j,j<2->hJ [x,y] j undef=f j:=λj b=>by
 match j,b with
 |0,_=>exact a
 |1,_=>exact c
theorem jy(v:aE)(es:List Nat)(n:Int)(w:aA)(h:E0 w v es)(hl:O es<=1048576):
  aK prog 100 #[.agg #[mj mn n,v]] w λe w'=>∃u,e=mi u/\ND w w' u (cD es)/\U w [] w' []:=by
 obtain⟨ad,cap,rfl,-⟩:=h.len;go_in;go_wp2;let⟨wa,l⟩:=D (i5 w (kd #[X n,jS ad (O es) cap] 64));have j:=Za l;have q:h8 wa ⟨w,1,K⟩=H (jS ad (O es) cap):=l▸aP (mE w _) rfl;rw[l];go_loopg [3,4] (O es) (λg p i wr=>U wa [] wr []/\∃k:Nat,k<=O es/\g=O es-k/\i=X k/\ND wa wr p (QK es k))
 .exact ZM180
 obtain⟨b,k,C,rfl,rfl,m⟩:=hrel;have c1:=b.cell q J;obtain⟨a3,f,rfl,-⟩:=m.len;have d:=Z m;by_cases r:k<O es
 .let⟨g,o,cap',hv,c2⟩:=(h.on (j.ds b)).FC r;injection hv with h1 h2 h3;subst h1 h3;simp only[FY]at c2;have c:=(Zg es k);have a:=He es k;generalize B:hJ es k 0=x at c2 c;generalize G:QK es k=L at d c a|-;go_wp2_with (at_builtin;refine cK aGt rfl _ _ rfl d b Yr [X k,mj nr x] (k,x) Yr rfl (YC rfl rfl) rfl Y GC ?_;rintro g2 F w3 z y- -;have A:=Z z);go_roundg (O es-(k+1))
  .exact⟨y,k+1,Y,rfl,eY,by rw[c];have h:=A.o;rw[a]at h;exact h⟩
  omega
 .obtain rfl:k=O es:=Y;go_wp2;go_ret;exact⟨_,rfl,d.eO j.size,j.ds b⟩
def J8(s:cU)(x:ES):List ES:=if x.1=s.bY then(if s.aG=1 then[(x.1,fS x.2 s.cut)]else[])else[x]
theorem Oy(l:List ES)(s:cU):make l s=l.flatMap (J8 s):=by
 unfold make;by_cases a:s.aG=1
 .rw[bW a];induction l with
  |nil=>rfl
  |cons x l ih=>
   rw[KR,S0,ih];unfold J8;split<;>simp[a]
 .rw[R a];induction l with
  |nil=>rfl
  |cons x l ih=>
   rw[List.filter_cons,S0,ih];unfold J8;by_cases b:x.1=s.bY<;>simp[b,a]
theorem Bw(l:List ES)(s:cU):O (make l s)<=O l:=by
 unfold make;split
 .simp
 .exact zdG _ _
def kQ(s:cU):aE:= .agg #[mj mn (s.aG:Int),mj mn (s.bY:Int),mj mn (s.eR:Int),mj nr (s.cut:Int)]
theorem NS(v:aE)(l:List ES)(s:cU)(w:aA)(h:Mo w v l)(hs:kM l)(hl:O l<=7)(hc:s.cut<2^32):
  aK prog 104 #[v,kQ s] w λe w'=>∃u,e=mi u/\ND w w' u (make l s)/\U w [] w' []:=by
 obtain⟨ad,cap,rfl,-⟩:=h.len;have HS:=Z hs;clear hs;unfold kQ;go_in;go_wp2;let⟨wa,q⟩:=D (i5 w (kd #[X (s.aG:Int),X (s.bY:Int),X (s.eR:Int),mj nr (s.cut:Int)] 218));have G:=Za q;have b0:h8 wa ⟨i7 w.heap,0,K⟩=H (X (s.aG:Int)):=by rw[<-q];exact aP (mE w _) rfl
 have b1:h8 wa ⟨i7 w.heap,1,K⟩=H (X (s.bY:Int)):=by rw[<-q];exact aP (mE w _) rfl
 have b3:h8 wa ⟨i7 w.heap,3,K⟩=H (mj nr (s.cut:Int)):=by rw[<-q];exact aP (mE w _) rfl
 rw[q];clear q;go_loopg [5,6] (O l) (λg p i wr=>U wa [] wr []/\∃k:Nat,k<=O l/\g=O l-k/\i=X k/\ND wa wr p (make (l.take k) s))
 .exact⟨U.refl _ _,0,Y,rfl,rfl,by rw[Oy];exact bN.nil _ _⟩
 obtain⟨a,k,hk,rfl,rfl,t⟩:=hrel;have c0:=a.cell b0 J;have c1:=a.cell b1 J;have c3:=a.cell b3 J;obtain⟨a3,G0,rfl,-⟩:=t.len;have m:=Z t;clear t;by_cases Q:k<O l
 .let⟨g,o,cap',hv,_,e0,P⟩:=(h.on (G.ds a)).zm Q;injection hv with h1 h2 h3;subst h1 h3;clear h2;simp only[wP]at e0 P;have HX:dT (make (l.take (k+1)) s=make (l.take k) s++J8 s (hJ l k sT)):=Z (by rw[Oy,Oy,JO _ (d:=sT) Q]);have j:=Bw (l.take k) s;rw[PI]at j;have S:=(HS.o.aS k);generalize hx:hJ l k sT=x at e0 P HX S;clear hx;generalize V:make (l.take k) s=L at m HX j|-;clear V;go_upto_region 5 with(fail);go_cut [7] (λs7 wx=>∃B,s7= Pt B/\i7 wr.heap<=B/\U wr [] wx []/\uD wx B #[X (x.1:Int),mj nr (x.2:Int)] 220)
  case first=>
   go_wp2;go_meet;exact⟨_,rfl,fV _,(U.refl _ _).alloc _,mE ..⟩
  case rest=>
   obtain⟨B,rfl,z,n,C⟩:=hcut;have TW:∀g',i6 (jS a3 (O L) G0)=H g'->g'∉[B]:=λg' T hm=>by
    have:=m.o.1.lt g' T;simp at hm;omega
   let⟨c0,c1,c3⟩:=n.TR c0 c1 c3;have d0:=Zc C 0;have W:=Zc C 1;have df:=aN C;have vm:=(show i7 wa.heap<=B from j8 a.size z);clear z;by_cases c:x.1=s.bY
   .have A:((x.1:Int)==(s.bY:Int))=qT:=by rw[dH];exact kY c
    by_cases r:s.aG=1
    .have oC:((s.aG:Int)!=1)=rR:=by rw[r];rfl
     have HX:dT (make (l.take (k+1)) s=L++[(x.1,fS x.2 s.cut)]):=Z (by rw[HX.o];unfold J8;rw[bW c,bW r]);clear c r;go_upto_region 9 with(go_at_call 146;apply(GP x.2 s.cut S hc _).dC;rintro w2 rfl);let⟨wd,F⟩:=D (hY wc (Ad B 1) (mj nr (fS x.2 s.cut:Int)));have cW:U wc [B] wd [B]:=F▸qX wc B 1 _;have N:uD wd B #[X (x.1:Int),mj nr (fS x.2 s.cut:Int)] 220:=by rw[<-F];exact aF (i:=1) _ C
     have f0:=Zc N 0;have f1:=Zc N 1;have f:=((m.o.on n).eU cW TW);have O4:=((a.ds n).bJ cW (λb A=>by simp at A;subst A;exact vm));rw[F];clear F N d0 W;go_wp2_with (at_builtin;refine cK aGt rfl _ _ rfl f O4 Yr [X (x.1:Int),mj nr (fS x.2 s.cut:Int)] (x.1,fS x.2 s.cut) Yr rfl (YC rfl rfl) rfl Y GC ?_;rintro g2 gW w3 y cW- -;have pM:=Z y;clear y);exact ZM138
    .have oC:((s.aG:Int)!=1)=qT:=by rw[bne,show((s.aG:Int)==1)=decide (s.aG=1)from dH s.aG 1,kE r];rfl
     have HX:dT (make (l.take (k+1)) s=L):=Z (by rw[HX.o];unfold J8;rw[bW c,R r,ui]);clear c r;go_wp2;go_roundg (O l-(k+1))
     .exact⟨a.ds n,k+1,Y,rfl,eY,by rw[HX.o];exact m.o.on n⟩
     omega
   .have A:((x.1:Int)==(s.bY:Int))=rR:=by rw[dH];exact kE c
    have HX:dT (make (l.take (k+1)) s=L++[x]):=Z (by rw[HX.o];unfold J8;rw[R c]);clear c;go_wp2_with (at_builtin;refine cK aGt rfl _ _ rfl (m.o.on n) (a.ds n) Yr [X (x.1:Int),mj nr (x.2:Int)] x Yr rfl (YC rfl rfl) rfl Y GC ?_;rintro g2 gW w3 y cW- -;have pM:=Z y;clear y);exact ZM138
 .obtain rfl:k=O l:=Y;rw[TU]at m|-;go_wp2;go_ret;exact⟨_,rfl,m.o.eO G.size,G.ds a⟩
theorem ZM193{P:Prop}(h:P:=by
  rw[hb]at EI;go_wp2_with (first
   |(go_at_fn g;apply EI.dC;intro w2 bM))
  go_roundg (O l-(k+1))
  .exact⟨hU.ds bM,k+1,Y,rfl,eY,λj hj=>by
   by_cases AO:j=k
   .subst AO;rw[hx];exact hb
   .exact fX j Y⟩
  omega):P:=h
theorem ZM34{P:Prop}(h:P:=by
  clear hc;cases hb:p x with
  |true=>
   rw[hb]at EI;go_wp2_with (first
    |(go_at_fn g;apply EI.dC;intro w2 bM))
   go_ret;exact⟨xE (λz=>mi (X z)) (vU (d:=sT) aY (by rw[hx];exact hb) fX).symm,hU.ds bM⟩
  |false=>
   exact ZM193):P:=h
theorem ZM54{P:Prop}(h:P:=by
  exact ZM193):P:=h
theorem ZM109{P:Prop}(h:P:=by
  go_wp2;go_ret;exact⟨xE (λz=>mi (X z)) (zI (d:=sT) λj hj=>fX j Y).symm,hU⟩):P:=h
theorem ZM179{P:Prop}(h:P:=by
  exact⟨U.refl _ _,0,Y,rfl,rfl,λj hj=>Y⟩):P:=h
theorem ZM185{P:Prop}(h:P:=by
  go_ret;exact⟨by rw[<-qF];rfl,hU⟩):P:=h
def UZ{α:Type}(p:α->Bool)(l:List α):Int:=match l.findIdx? p with
 |some i=>i
 |none=> -1
theorem vU{α:Type}{p:α->Bool}{l:List α}{d:α}{k:Nat}(a:k<O l)(hs:p (hJ l k d)=qT)(c:∀j,j<k->p (hJ l j d)=rR):UZ p l=k:=by
 have:l.findIdx? p=H k:=by
  rw[IF];refine⟨a,by rwa[gV,kU a]at hs,λj b=> ?_⟩;have:=c j b;rw[gV,kU Y]at this;simpa using this
 unfold UZ;rw[this]
theorem zI{α:Type}{p:α->Bool}{l:List α}{d:α}(c:∀j,j<O l->p (hJ l j d)=rR):UZ p l= -1:=by
 have:l.findIdx? p=K:=by
  rw[T1];intro x b;obtain⟨i,a,rfl⟩:=Na b;have:=c i a;rwa[gV,kU a]at this
 unfold UZ;rw[this]
theorem qF{α:Type}(p:α->Bool)(l:List α):decide (0<=UZ p l)=l.any p:=by
 unfold UZ;cases h:l.findIdx? p with
 |none=>
  rw[T1]at h;symm;rw[kE E,x'];intro x a;rw[h x a];decide
 |some i=>
  rw[IF]at h;obtain⟨c,b,_⟩:=h;dsimp only;rw[kY Y];exact(uj.2 ⟨_,gu c,b⟩).symm
def ID{α:Type}(g:Nat)(caps:Array aE)(arg:α->aE)(p:α->Bool)(l:List α)(w:aA):Prop:=
 ∀x,x∈l->∀wz,U w [] wz []->aK prog g (#[arg x]++caps) wz λe w'=>e=mi (nj (p x))/\U wz [] w' []
theorem Cm(v:aE)(l:List dO)(g:Nat)(m:Array aE)(p:dO->Bool)(w:aA)(A:∀args w,(callFunc g args).run prog w= .ok (.enter g args) w)(h:JV w v l)(q:ID g m (λx=>mX x) p l w):
  aK prog 197 #[v,.func (.func g) #[] m] w λe w'=>e=mi (mj mn (UZ p l))/\U w [] w' []:=by
 obtain⟨a,cap,rfl,n⟩:=h.len;unfold bH at n;go_in;go_wp2;go_loopg [8] (O l) (λr i wr=>U w [] wr []/\∃k:Nat,k<=O l/\r=O l-k/\i=X k/\∀j,j<k->p (hJ l j bU)=rR)
 .exact ZM179
 obtain⟨hU,k,y,rfl,rfl,fX⟩:=hrel;by_cases b:k<O l
 .let⟨u,o,cap',hv,c⟩:=(h.on hU).FC b;obtain rfl:=IK hv;have EI:=q _ (bO (d:=bU) b) wr hU;generalize hx:hJ l k bU=x at c EI;simp only[yK,FY]at c;cases hb:p x with
  |true=>
   rw[hb]at EI;go_wp2_with (first
    |(go_at_fn g;apply EI.dC;intro w2 bM))
   go_ret;exact⟨xE (λz=>mi (X z)) (vU (d:=bU) b (by rw[hx];exact hb) fX).symm,hU.ds bM⟩
  |false=>
   exact ZM54
 .go_wp2;go_ret;exact⟨xE (λz=>mi (X z)) (zI (d:=bU) λj hj=>fX j Y).symm,hU⟩
theorem lz(v:aE)(l:List Nat)(g:Nat)(m:Array aE)(p:Nat->Bool)(w:aA)(A:∀args w,(callFunc g args).run prog w= .ok (.enter g args) w)(h:E0 w v l)(q:ID g m (λ(x:Nat)=>mj nr (x:Int)) p l w):
  aK prog 202 #[v,.func (.func g) #[] m] w λe w'=>e=mi (mj mn (UZ p l))/\U w [] w' []:=by
 obtain⟨a,cap,rfl,n⟩:=h.len;unfold bH at n;go_in;go_wp2;go_loopg [8] (O l) (λr i wr=>U w [] wr []/\∃k:Nat,k<=O l/\r=O l-k/\i=X k/\∀j,j<k->p (hJ l j 0)=rR)
 .exact ZM179
 obtain⟨hU,k,y,rfl,rfl,fX⟩:=hrel;by_cases b:k<O l
 .let⟨u,o,cap',hv,c⟩:=(h.on hU).FC b;obtain rfl:=IK hv;have EI:=q _ (bO (d:=0) b) wr hU;generalize hx:hJ l k 0=x at c EI;simp only[yK,FY]at c;cases hb:p x with
  |true=>
   rw[hb]at EI;go_wp2_with (first
    |(go_at_fn g;apply EI.dC;intro w2 bM))
   go_ret;exact⟨xE (λz=>mi (X z)) (vU (d:=0) b (by rw[hx];exact hb) fX).symm,hU.ds bM⟩
  |false=>
   exact ZM54
 .go_wp2;go_ret;exact⟨xE (λz=>mi (X z)) (zI (d:=0) λj hj=>fX j Y).symm,hU⟩
theorem Wm(v:aE)(l:List j6)(g:Nat)(b:Array aE)(p:j6->Bool)(w:aA)(u:∀args w,(callFunc g args).run prog w= .ok (.enter g args) w)(h:AW w v l)(m:ID g b (λ(x:j6)=> .agg #[mX x.var,mj mn x.xW.aG,mj mn x.xW.num,mX x.xW.dZ]) p l w):
  aK prog 196 #[v,.func (.func g) #[] b] w λe w'=>e=mi (mj mn (UZ p l))/\U w [] w' []:=by
 skip
 obtain⟨a,cap,rfl,c⟩:=h.len;unfold bH at c;go_in;go_wp2;go_loopg [8] (O l) (λn i wr=>U w [] wr []/\∃k:Nat,k<=O l/\n=O l-k/\i=X k/\∀j,j<k->p (hJ l j sT)=rR)
 .exact ZM179
 obtain⟨hU,k,r,rfl,rfl,fX⟩:=hrel;by_cases aY:k<O l
 .let⟨q,o,cap',hv,_,hc⟩:=(h.on hU).aS aY;obtain rfl:=IK hv;have EI:=m _ (bO (d:=sT) aY) wr hU;have c0:=hc 0 E;have c1:=hc 1 E;have c2:=hc 2 E;have c3:=hc 3 E;generalize hx:hJ l k sT=x at c0 c1 c2 c3 EI;simp only[j6.cell,qZ]at c0 c1 c2 c3;skip
  exact ZM34
 .exact ZM109
theorem Wo(v:aE)(l:List ES)(g:Nat)(b:Array aE)(p:ES->Bool)(w:aA)(u:∀args w,(callFunc g args).run prog w= .ok (.enter g args) w)(h:fM wP sT 2 w v l)(m:ID g b (λ(x:ES)=> .agg #[mj mn (x.1:Int),mj nr (x.2:Int)]) p l w):
  aK prog 201 #[v,.func (.func g) #[] b] w λe w'=>e=mi (mj mn (UZ p l))/\U w [] w' []:=by
 skip
 obtain⟨a,cap,rfl,c⟩:=h.len;unfold bH at c;go_in;go_wp2;go_loopg [8] (O l) (λn i wr=>U w [] wr []/\∃k:Nat,k<=O l/\n=O l-k/\i=X k/\∀j,j<k->p (hJ l j sT)=rR)
 .exact ZM179
 obtain⟨hU,k,r,rfl,rfl,fX⟩:=hrel;by_cases aY:k<O l
 .let⟨q,o,cap',hv,_,hc⟩:=(h.on hU).aS aY;obtain rfl:=IK hv;have EI:=m _ (bO (d:=sT) aY) wr hU;have c0:=hc 0 E;have c1:=hc 1 E;generalize hx:hJ l k sT=x at c0 c1 EI;simp only[wP,qZ]at c0 c1;skip
  exact ZM34
 .exact ZM109
theorem pk(v:aE)(l:List dO)(g:Nat)(a:Array aE)(p:dO->Bool)(w:aA)(b:∀args w,(callFunc g args).run prog w= .ok (.enter g args) w)(h:JV w v l)(c:ID g a (λx=>mX x) p l w):
  aK prog 194 #[v,.func (.func g) #[] a] w λe w'=>e=mi (nj (l.any p))/\U w [] w' []:=by
 go_in;go_wp2_with (go_at_call 197;apply(Cm v l g a p w b h c).dC;intro w' hU);exact ZM185
theorem pj(v:aE)(l:List Nat)(g:Nat)(a:Array aE)(p:Nat->Bool)(w:aA)(b:∀args w,(callFunc g args).run prog w= .ok (.enter g args) w)(h:E0 w v l)(c:ID g a (λ(x:Nat)=>mj nr (x:Int)) p l w):
  aK prog 167 #[v,.func (.func g) #[] a] w λe w'=>e=mi (nj (l.any p))/\U w [] w' []:=by
 go_in;go_wp2_with (go_at_call 202;apply(lz v l g a p w b h c).dC;intro w' hU);exact ZM185
theorem Xu(v:aE)(l:List j6)(g:Nat)(a:Array aE)(p:j6->Bool)(w:aA)(b:∀args w,(callFunc g args).run prog w= .ok (.enter g args) w)(h:AW w v l)(c:ID g a (λ(x:j6)=> .agg #[mX x.var,mj mn x.xW.aG,mj mn x.xW.num,mX x.xW.dZ]) p l w):
  aK prog 159 #[v,.func (.func g) #[] a] w λe w'=>e=mi (nj (l.any p))/\U w [] w' []:=by
 go_in;go_wp2_with (go_at_call 196;apply(Wm v l g a p w b h c).dC;intro w' hU);exact ZM185
theorem Xv(v:aE)(l:List ES)(g:Nat)(a:Array aE)(p:ES->Bool)(w:aA)(b:∀args w,(callFunc g args).run prog w= .ok (.enter g args) w)(h:fM wP sT 2 w v l)(c:ID g a (λ(x:ES)=> .agg #[mj mn (x.1:Int),mj nr (x.2:Int)]) p l w):
  aK prog 165 #[v,.func (.func g) #[] a] w λe w'=>e=mi (nj (l.any p))/\U w [] w' []:=by
 go_in;go_wp2_with (go_at_call 201;apply(Wo v l g a p w b h c).dC;intro w' hU);exact ZM185
def Rq(g:Nat)(caps:Array aE)(l:List (dO×aE))(p:Nat->Bool)(w:aA):Prop:=
 ∀i,i<O l->∀wz,U w [] wz []->aK prog g (#[.agg #[mX (hJ l i sT).1,(hJ l i sT).2]]++caps) wz λe w'=>e=mi (nj (p i))/\U wz [] w' []
theorem Ap{k d:Nat}(h:k<n):hJ (gz n) k d=k:=by rw[gV,List.getElem?_range h];rfl
theorem Wp(v:aE)(l:List (dO×aE))(g:Nat)(F:Array aE)(p:Nat->Bool)(w:aA)(P:∀args w,(callFunc g args).run prog w= .ok (.enter g args) w)(h:fM xV sT 2 w v l)(vm:∀x,x∈l->∃a n c,x.2=jS a n c)(f:Rq g F l p w):
  aK prog 192 #[v,.func (.func g) #[] F] w λe w'=>e=mi (mj mn (UZ p (gz (O l))))/\U w [] w' []:=by
 obtain⟨a,cap,rfl,G⟩:=h.len;unfold bH at G;go_in;go_wp2;go_loopg [8] (O l) (λs i wr=>U w [] wr []/\∃k:Nat,k<=O l/\s=O l-k/\i=X k/\∀j,j<k->p j=rR)
 .exact ZM179
 obtain⟨r,k,Q,rfl,rfl,y⟩:=hrel;by_cases q:k<O l
 .let⟨T,o,cap',hv,_,B⟩:=(h.on r).aS q;obtain rfl:=IK hv;have m:=f k q wr r;have c0:=B 0 E;have c1:=B 1 E;let⟨V,S,W,b⟩:=vm _ (bO (d:=sT) q);generalize N:hJ l k sT=x at c0 c1 m b;simp only[xV,qZ]at c0 c1;rw[b]at c1 m;clear N B b;have C:=Z λj (hj:j<O l)=>Ap (d:=0) hj;cases u:p k with
  |true=>
   rw[u]at m;go_wp2_with (first
    |(go_at_fn g;apply m.dC;intro w2 A))
   go_ret;exact⟨xE (λz=>mi (X z)) (vU (d:=0) (eP q) (by rw[C.o _ q];exact u) λj hj=>by rw[C.o _ Y];exact y j hj).symm,r.ds A⟩
  |false=>
   rw[u]at m;go_wp2_with (first
    |(go_at_fn g;apply m.dC;intro w2 A))
   go_roundg (O l-(k+1))
   .exact⟨r.ds A,k+1,Y,rfl,eY,λj hj=>by
    by_cases L:j=k
    .subst L;exact u
    .exact y j Y⟩
   omega
 .go_wp2;go_ret;refine⟨xE (λz=>mi (X z)) (zI (d:=0) λj hj=> ?_).symm,r⟩;rw[Qn]at hj;rw[Ap hj];exact y j Y
theorem Xw(v:aE)(l:List (dO×aE))(g:Nat)(b:Array aE)(p:Nat->Bool)(w:aA)(i:∀args w,(callFunc g args).run prog w= .ok (.enter g args) w)(h:fM xV sT 2 w v l)(d:∀x,x∈l->∃a n c,x.2=jS a n c)(j:Rq g b l p w):
  aK prog 156 #[v,.func (.func g) #[] b] w λe w'=>e=mi (nj ((gz (O l)).any p))/\U w [] w' []:=by
 go_in;go_wp2_with (go_at_call 192;apply(Wp v l g b p w i h d j).dC;intro w' hU);exact ZM185
theorem N7{α:Type}(p:α->Bool){l:List α}(d:α){k:Nat}(a:k<O l):(l.take (k+1)).all p=((l.take k).all p&&p (hJ l k d)):=by
 rw[fW (d:=d) a,List.all_append];simp
theorem Et{α:Type}(p:α->Bool){l:List α}(d:α){k:Nat}(a:k<O l):(l.take (k+1)).any p=((l.take k).any p||p (hJ l k d)):=by
 rw[fW (d:=d) a,List.any_append];simp
theorem bK.kM.h(h:q.kM){k:Nat}(a:k<O q.head):(hJ q.head k bU).size<=1048576:=h.EF _ (by simp[bK.EF];exact .inr (.inl (eP (bO (d:=bU) a))))
theorem bK.kM.rel(h:q.kM){k:Nat}(a:k<O q.aD):(hJ q.aD k sT).rel.size<=1048576:=h.EF _ (by
 unfold bK.EF pB.EF;refine UA _ (Yj _ (List.mem_flatMap.2 ⟨_,bO (d:=sT) a,zdC ..⟩)))
theorem bK.kM.aOI(h:q.kM){k:Nat}(b:k<O q.aD)(a:j<O (hJ q.aD k sT).aV):
  ((hJ (hJ q.aD k sT).aV j sT).var.size<=1048576)/\(hJ (hJ q.aD k sT).aV j sT).xW.dZ.size<=1048576:=by
 refine⟨h.EF _ ?_,h.EF _ ?_⟩;all_goals
  unfold bK.EF pB.EF;refine UA _ (Yj _ (List.mem_flatMap.2 ⟨_,bO (d:=sT) b,UA _ (List.mem_flatMap.2 ⟨_,bO (d:=sT) a,?_⟩)⟩));simp
def tI(t:j6):Bool:=decide (t.var=bU)||jL t.var
def zT(a:pB):Bool:=jL a.rel&&a.aV.all tI
def PX(q:bK):Bool:=jL q.name&&q.head.all jL&&q.aD.all zT
theorem ZN{s:dO}:s.toList=[]↔s=bU:=⟨λh=>zbT λa=>jJ a h,oV⟩
theorem X'{t:j6}(h:t.var≠bU):(!gJ t)=(decide (t.xW.aG=0)&&(decide (t.xW.num=0)&&decide (t.xW.dZ.toList=[]))):=by
 unfold gJ;rw[bW h,Fi];cases a:t.xW with
 |mk k n s=>
  simp[aR,ZN]
theorem Y'{t:j6}(h:t.var=bU):(!gJ t)=gX t.xW:=by
 unfold gJ;rw[R (eP h)];simp
theorem Uu(q:bK):fY q=if PX q=rR then 72 else if(q.aD.all λa=>a.aV.all λt=> !gJ t)=rR then 21 else if O q.aD=0\/6<O q.aD then 90 else
  if(q.aD.any λa=>decide (5<O a.aV))then 91 else if oO q.head then 92 else if q.head.any (λh=>decide (h∉vars q))then 93 else 0:=by
 have c:DY q= !PX q:=by
  unfold DY PX;rw[a06,a06,yo,yo];congr 1;congr 1;funext a;unfold zT;rw[a06,yo];congr 1;congr 1;funext t;unfold tI;rw[Bool.not_or];by_cases h:t.var=bU<;>simp[h]
 have b:(q.aD.any λa=>a.aV.any gJ)= !(q.aD.all λa=>a.aV.all λt=> !gJ t):=by
  rw[yo];congr 1;funext a;rw[yo];congr 1;funext t;rw[Bool.not_not]
 unfold fY;rw[c,b];cases PX q<;>cases(q.aD.all λa=>a.aV.all λt=> !gJ t)<;>simp
theorem Ou{l:List dO}{k:Nat}{x:dO}(d:k<=O l):x∈l.take k↔∃j,j<k/\hJ l j bU=x:=by
 rw[List.mem_iff_getElem?];constructor
 .rintro⟨i,a⟩;rw[zb]at a;split at a
  .rename_i h;exact⟨i,h,by rw[gV,a];rfl⟩
  .cases a
 .rintro⟨j,b,c⟩;refine⟨j,?_⟩;rw[zb,bW b,<-c,gV,kU Y];rfl
theorem aQs{l:List dO}{k:Nat}(d:k<O l):decide (aj l (hJ l k bU)<(k:Int))=decide (hJ l k bU∈l.take k):=by
 have c:hJ l k bU∈l:=bO d;unfold aj;rw[bW c,Fi,QX,QX,Ou Y];have g:l.idxOf (hJ l k bU)<O l:=List.idxOf_lt_length_iff.2 c;constructor
 .intro h;refine⟨l.idxOf (hJ l k bU),Y,?_⟩;rw[gV (i:=l.idxOf _),kU g,O8,a00]
 .rintro⟨j,m,a⟩;have n:l.idxOf (hJ l k bU)<=j:=by
   refine Nat.le_of_not_lt λe=> ?_;have b:=Xd (p:=(·==hJ l k bU)) (xs:=l) e;rw[gV (i:=j),kU Y,O8]at a;rw[a]at b;simp at b
  omega
theorem Ea{l:List dO}{k:Nat}(a:k<O l)(h:hJ l k bU∈l.take k):oO l=qT:=by
 unfold oO;rw[uj];exact⟨k,wW.2 a,kY h⟩
theorem Eb{l:List dO}(h:∀j,j<O l->hJ l j bU∉l.take j):oO l=rR:=by
 unfold oO;rw[x'];intro j a;simpa using h j (wW.1 a)
theorem Ar(hv av:aE)(ps:List (dO×aE))(q:bK)(w:aA)(h:ED w hv av ps q):
  aK prog 46 #[.agg #[mX q.name,hv,av]] w λe w'=>e=mi (mj mn (fY q))/\U w [] w' []:=by
 obtain⟨ha,hc,rfl,-⟩:=h.head.len;obtain⟨aa,ac,rfl,-⟩:=h.aD.len;have G:=h.len;rw[G]at h|-;have oB:=h.eD;have Su:q.name.size<=1048576:=oB.EF _ (zdC ..);have aUE:=oB.head;have aPH:=oB.aD;clear G;go_in;go_wp2_with (go_at_call 87;apply(EY _ _ Su).dC;rintro wx rfl);let⟨wa,dM⟩:=D (i5 w (kd #[mX q.name,jS ha (O q.head) hc,jS aa (O q.aD) ac] 25));have A:=Za dM;have b0:h8 wa ⟨i7 w.heap,0,K⟩=H (mX q.name):=by rw[<-dM];exact aP (mE w _) rfl
 have b1:h8 wa ⟨i7 w.heap,1,K⟩=H (jS ha (O q.head) hc):=by rw[<-dM];exact aP (mE w _) rfl
 have b2:h8 wa ⟨i7 w.heap,2,K⟩=H (jS aa (O q.aD) ac):=by rw[<-dM];exact aP (mE w _) rfl
 rw[dM];clear dM;go_loopw [3,4] (λnm i wr=>U wa [] wr []/\∃k:Nat,k<=O q.head/\i=X k/\nm=nj (jL q.name&&(q.head.take k).all jL)) (λ_ i _=>O q.head-(intOf i).toNat)
 .exact⟨U.refl _ _,0,Y,rfl,J⟩
 obtain⟨hU,k,hk,rfl,rfl⟩:=hrel;have c1:=hU.cell b1 J;by_cases c:k<O q.head
 .let⟨g,o,cap',hv,d⟩:=(h.head.on (A.ds hU)).FC c;injection hv with l n z;subst l z;clear n;simp only[yK]at d;have hsx:=oB.h c;have HA:=(N7 jL bU c);generalize F:hJ q.head k bU=x at d hsx HA;clear F;let⟨N,hN⟩:=D ((jL q.name&&(q.head.take k).all jL));rw[hN];have HN:=Z hN;clear hN;cases N with
  |true=>
   go_wp2_with (go_at_call 87;apply(EY _ _ hsx).dC;rintro wx rfl);go_roundw
   .exact⟨hU,k+1,Y,eY,by rw[HA,<-oq,HN.o,VN]⟩
   simp[intOf];omega
  |false=>
   go_wp2;go_roundw
   .exact⟨hU,k+1,Y,eY,by rw[HA,<-oq,HN.o,Yo]⟩
   simp[intOf];omega
 .obtain rfl:k=O q.head:=Y;rw[TU];let⟨N1,I0⟩:=D ((jL q.name&&q.head.all jL));rw[I0];have tD:=Z I0;clear I0;go_wp2;clear c1 c hk;go_loopg [3,5,6,7] (O q.aD) (λg nm vd wd i wx=>U wa [] wx []/\∃k:Nat,k<=O q.aD/\g=O q.aD-k/\i=X k/\nm=nj (N1&&(q.aD.take k).all zT)/\vd=nj ((q.aD.take k).all λa=>a.aV.all λt=> !gJ t)/\wd=nj ((q.aD.take k).any λa=>decide (5<O a.aV)))
  .exact⟨hU,0,Y,rfl,rfl,J,rfl,rfl⟩
  obtain⟨p,k,hk,rfl,rfl,rfl,rfl,rfl⟩:=hrel;have c2:=p.cell b2 J;by_cases c:k<O q.aD
  .let⟨g,o,cap',ga,gc,hg,hv,a0,a1,hT⟩:=h.qV c;have a0:=(A.ds p).cell a0 J;have a1:=(A.ds p).cell a1 J;have hT:=hT.on (A.ds p);injection hv with l n z;subst l z;have hsr:=oB.rel c;have AY:=(λj=>oB.aOI (j:=j) c);have Cp:=j8 (GH c) oB.aV;have HA1:=(N7 zT sT c);have HA2:=(N7 (λa:pB=>a.aV.all λt=> !gJ t) sT c);have HA3:=(Et (λa:pB=>decide (5<O a.aV)) sT c);generalize F:hJ q.aD k sT=x at a0 a1 hT hsr Cp HA1 HA2 HA3 AY;clear F n;let⟨N,hN⟩:=D ((N1&&(q.aD.take k).all zT));let⟨V,hV⟩:=D (((q.aD.take k).all λa=>a.aV.all λt=> !gJ t));let⟨W,hW⟩:=D (((q.aD.take k).any λa=>decide (5<O a.aV)));rw[hN,hV,hW];have HN:=Z hN;have HW:=Z hW;clear hN hW;go_upto_region 10 with(fail);go_cut [3] (λs3 wx=>wr=wx/\s3=nj (N&&jL x.rel))
   case first=>
    cases N with
    |true=>
     go_wp2_with (go_at_call 87;apply(EY _ _ hsr).dC;rintro wx rfl);go_meet;exact⟨rfl,by rw[VN]⟩
    |false=>
     go_wp2;go_meet;exact⟨rfl,rfl⟩
   case rest=>
    obtain⟨rfl,rfl⟩:=hcut;go_upto_region 11 with(fail);go_cut [6] (λs6 wx=>wr=wx/\s6=nj (W||decide (5<O x.aV)))
    case first=>
     cases W with
     |true=>
      go_wp2;go_meet;exact⟨rfl,rfl⟩
     |false=>
      go_wp2;go_meet;exact⟨rfl,by rw[B2];congr 1;rw[Fi,QX,QX];omega⟩
    case rest=>
     obtain⟨rfl,rfl⟩:=hcut;go_wp2;go_loopg [3,5,8] (O x.aV) (λg nm vd i wx=>U wr [] wx []/\∃j:Nat,j<=O x.aV/\g=O x.aV-j/\i=X j/\nm=nj (N&&jL x.rel&&(x.aV.take j).all tI)/\vd=nj (V&&(x.aV.take j).all λt=> !gJ t))
     .exact⟨U.refl _ _,0,Y,rfl,rfl,J,J⟩
     obtain⟨m,j,hj,rfl,rfl,rfl,rfl⟩:=hrel;have c3:=m.cell c2 J;have d1:=m.cell a1 J;by_cases SP:j<O x.aV
     .let⟨g2,o2,gW,hv,_,d⟩:=(hT.on m).aS SP;injection hv with l n z;subst l z;have hty:=AY j SP;have j7:=(N7 tI sT SP);have JZ:=(N7 (λt:j6=> !gJ t) sT SP);generalize hy:hJ x.aV j sT=y at d hty j7 JZ;have t0:h8 wr (Ad g2 (o2+j*4))=H (mX y.var):=d 0 Y;have t1:h8 wr (Ad g2 (o2+j*4+1))=H (X y.xW.aG):=d 1 Y;have t2:h8 wr (Ad g2 (o2+j*4+2))=H (X y.xW.num):=d 2 Y;have t3:h8 wr (Ad g2 (o2+j*4+3))=H (mX y.xW.dZ):=d 3 Y;clear d hy n;go_upto_region 15 with(fail);go_cut [9] (λs9 wx=>∃B,s9= Pt B/\U wr [] wx []/\uD wx B #[mX y.var,X y.xW.aG,X y.xW.num,mX y.xW.dZ] 92)
      case first=>
       go_wp2;go_meet;exact⟨_,rfl,(U.refl _ _).alloc _,mE ..⟩
      case rest=>
       obtain⟨B,rfl,s,hB⟩:=hcut;have e0:=Zc hB 0;have e1:=Zc hB 1;have e2:=Zc hB 2;have e3:=Zc hB 3;have f:=Z (m.ds s);clear s hB;let⟨N2,hN2⟩:=D ((N&&jL x.rel&&(x.aV.take j).all tI));obtain⟨V2,r⟩:∃V',(V&&(x.aV.take j).all λt=> !gJ t)=V':=⟨_,rfl⟩;rw[hN2,r];have Fy:=Z hN2;clear hN2;by_cases hs:y.var=bU
       .have hb:=oV hs;have HS:=Z hs;clear hs;have v:dT (tI y=qT):=Z (by unfold tI;rw[kY HS.o,Bool.true_or]);have KX:=Z (Y' HS.o);cases V2 with
        |true=>
         go_wp2_with (go_at_call 66;apply(Aq y.xW _ hty.2).dC;intro w5 cO);go_roundg (O x.aV-(j+1))
         .exact⟨f.o.ds cO,j+1,Y,rfl,eY,by rw[j7,v.out,Zn,Fy.o],by rw[JZ,<-oq,r,KX.out,VN]⟩
         omega
        |false=>
         go_wp2;go_roundg (O x.aV-(j+1))
         .exact⟨f.o,j+1,Y,rfl,eY,by rw[j7,v.out,Zn,Fy.o],by rw[JZ,<-oq,r,Yo]⟩
         omega
       .have hb:=jJ hs;have qP:=qE hs;have HS:=Z hs;clear hs;go_upto_region 17 with(fail);go_cut [3] (λs3 wx=>wc=wx/\s3=nj (N2&&jL y.var))
        case first=>
         cases N2 with
         |true=>
          go_wp2_with (go_at_call 87;apply(EY _ _ hty.1).dC;rintro wx rfl);go_meet;exact⟨rfl,by rw[VN]⟩
         |false=>
          go_wp2;go_meet;exact⟨rfl,rfl⟩
        case rest=>
         obtain⟨rfl,rfl⟩:=hcut;have v:dT (tI y=jL y.var):=Z (by unfold tI;rw[kE HS.o,B2]);cases V2 with
         |true=>
          have KX:=Z (X' HS.o);go_wp2;all_goals
           go_roundg (O x.aV-(j+1))
           .refine⟨f.o,j+1,Y,rfl,eY,by rw[j7,<-oq,Fy.o,v.out],xE nj ?_⟩;rw[JZ,<-oq,r,KX.out];first
             |(rename_i l n z;simp[l,n,z];done)
             |(rename_i l n;simp[l,n];done)
             |(rename_i l;simp[l];done)
           omega
         |false=>
          go_wp2;go_roundg (O x.aV-(j+1))
          .exact⟨f.o,j+1,Y,rfl,eY,by rw[j7,<-oq,Fy.o,v.out],by rw[JZ,<-oq,r,Yo]⟩
          omega
     .obtain rfl:j=O x.aV:=Y;rw[TU];go_wp2;go_roundg (O q.aD-(k+1))
      .exact⟨p.ds m,k+1,Y,rfl,eY,by rw[HA1,<-oq,HN.o];unfold zT;rw[oq],by rw[HA2,hV],by rw[HA3,HW.o]⟩
      omega
  .obtain rfl:k=O q.aD:=Y;rw[TU];have T:=(Uu q);have hnm:(N1&&q.aD.all zT)=PX q:=by rw[<-tD.o];rfl
   rw[hnm];let⟨NM,hNM⟩:=D (PX q);let⟨VD,hVD⟩:=D ((q.aD.all λa=>a.aV.all λt=> !gJ t));let⟨WD,L⟩:=D ((q.aD.any λa=>decide (5<O a.aV)));rw[hNM,hVD,L];have b:=Z (eI hNM (eI hVD L));clear hNM hVD L hnm c hk;cases NM with
   |false=>
    go_wp2;go_ret;exact⟨by rw[T,b.o.1];rfl,A.ds p⟩
   |true=>
    cases VD with
    |false=>
     go_wp2;go_ret;exact⟨by rw[T,b.o.1,b.o.2.1];rfl,A.ds p⟩
    |true=>
     by_cases hz:O q.aD=0
     .have g1:decide ((O q.aD:Int)<1)=qT:=kY Y;go_wp2;go_ret;exact⟨by rw[T,b.o.1,b.o.2.1,bW (Or.inl hz)];rfl,A.ds p⟩
     .have g1:decide ((O q.aD:Int)<1)=rR:=kE Y;by_cases h6:6<O q.aD
      .have g2:decide ((6:Int)<(O q.aD:Int))=qT:=kY Y;go_wp2;go_ret;exact⟨by rw[T,b.o.1,b.o.2.1,bW (Or.inr h6)];rfl,A.ds p⟩
      .have g2:decide ((6:Int)<(O q.aD:Int))=rR:=kE Y;have P:¬(O q.aD=0\/6<O q.aD):=Y;cases WD with
       |true=>
        go_wp2;go_ret;exact⟨by rw[T,b.o.1,b.o.2.1,b.o.2.2,R P];rfl,A.ds p⟩
       |false=>
        have aXS:dT (fY q=if oO q.head then 92 else if q.head.any (λh=>decide (h∉vars q))then 93 else 0):=Z (by rw[T,b.o.1,b.o.2.1,b.o.2.2,R P];rfl);clear T b P;go_wp2;have k0:=p.cell b0 J;have k1:=p.cell b1 J;have HW:=Z (A.ds p);go_loopg [10] (O q.head) (λg i wx=>U wr [] wx []/\∃k:Nat,k<=O q.head/\g=O q.head-k/\i=X k/\∀j,j<k->hJ q.head j bU∉q.head.take j)
        .exact ZM179
        obtain⟨m,k,hk,rfl,rfl,fX⟩:=hrel;have m1:=m.cell k1 J;by_cases c:k<O q.head
        .let⟨g,o,cap',hv,d⟩:=(h.head.on (HW.o.ds m)).FC c;injection hv with l n z;subst l z;clear n;simp only[yK]at d;have YW:=(aQs c);generalize F:hJ q.head k bU=x at d YW;have b:=Z F;clear F;go_wp2;refine e7 99 (ez m1<|ey d) (λQ=> ?_);refine ek [0,1,2,3,4,5,6,8] ?_;refine Zo 7 λvm hK=> ?_;go_simp;go_at_call 88;apply(rx _ q.head x wr.drew ((h.head.on (HW.o.ds m)).on (U.refl _ []).drew)).cX;rintro e w4 ⟨rfl,s⟩;dsimp only;have s:U wr [] w4 []:=(U.refl wr []).drew.ds s;have Q:=eI (s.cell m1 J) (s.cell d J);have f:=Z s;refine j5 ?_;clear hK vm;refine I 9 ?_;refine bD dJ ?_ _;try simp only[Act.put,UB,U9,X9]
         by_cases C:x∈q.head.take k
         .have g3:decide (aj q.head x<(k:Int))=qT:=by rw[YW];exact kY C
          have g4:aj q.head x<(k:Int):=of_decide_eq_true g3;have HD:=(Ea c (b.o.symm▸C));go_wp2;go_ret;exact⟨by rw[aXS.o,HD];rfl,HW.o.ds (m.ds f.o)⟩
         .have g3:decide (aj q.head x<(k:Int))=rR:=by rw[YW];exact kE C
          have g4:(k:Int)<=aj q.head x:=kX (of_decide_eq_false g3);go_wp2;go_roundg (O q.head-(k+1))
          .exact⟨m.ds f.o,k+1,Y,rfl,eY,λj hj=>by
           by_cases AO:j=k
           .subst AO;rw[b.o];exact C
           .exact fX j Y⟩
          omega
        .obtain rfl:k=O q.head:=Y;have aXR:dT (fY q=if q.head.any (λh=>decide (h∉vars q))then 93 else 0):=Z (by rw[aXS.o,Eb fX];rfl);have n0:=m.cell k0 J;have n2:=m.cell c2 J;have ft:=(HW.o.ds m);have hpv:=(h.on ft);go_wp2_with (go_at_call 47;apply(UL _ _ ps q _ hpv).cX;rintro e w5 ⟨u,rfl,hO,cO⟩;obtain⟨ua,uc,rfl,-⟩:=hO.len;have m5:=cO.cell m1 J);go_loopg [12] (O q.head) (λg i wx=>U w5 [] wx []/\∃k:Nat,k<=O q.head/\g=O q.head-k/\i=X k/\∀j,j<k->hJ q.head j bU∈vars q)
         .exact ZM179
         obtain⟨S,k,hk,rfl,rfl,fX⟩:=hrel;have p1:=S.cell m5 J;by_cases c:k<O q.head
         .let⟨g,o,cap',hv,d⟩:=(h.head.on (ft.ds (cO.ds S))).FC c;injection hv with l n z;subst l z;clear n;simp only[yK]at d;generalize F:hJ q.head k bU=x at d;have b:=Z F;clear F;by_cases C:x∈vars q
          .have g3:=kY C;go_wp2_with (go_at_call 49;apply(Q0 _ (vars q) x _ (hO.rd.on S)).dC;intro w7 gD);go_roundg (O q.head-(k+1))
           .exact⟨S.ds gD,k+1,Y,rfl,eY,λj hj=>by
            by_cases AO:j=k
            .subst AO;rw[b.o];exact C
            .exact fX j Y⟩
           omega
          .have g3:=kE C;have HD:=(show q.head.any (λh=>decide (h∉vars q))=qT from uj.2 ⟨x,by rw[<-b.o];exact bO c,kY C⟩);go_wp2_with (go_at_call 49;apply(Q0 _ (vars q) x _ (hO.rd.on S)).dC;intro w7 gD);go_ret;exact⟨by rw[aXR.o,HD];rfl,ft.ds (cO.ds (S.ds gD))⟩
         .obtain rfl:k=O q.head:=Y;have HD:=(show q.head.any (λh=>decide (h∉vars q))=rR from by
           rw[x'];intro y hy;let⟨i,hi,he⟩:=Na hy;have:=fX i hi;rw[gV,kU hi,O8,he]at this;simpa using this)
          go_wp2;go_ret;exact⟨by rw[aXR.o,HD];rfl,ft.ds (cO.ds S)⟩
theorem ZM199{P:Prop}(h:P:=by
  go_in;go_wp2;go_ret;exact⟨by rw[HV.o];rfl,(U.refl w []).alloc _⟩):P:=h
theorem ZM112{P:Prop}(h:P:=by
  have HV:=Z hv;clear hv h1 h2 h3;exact ZM199):P:=h
theorem ZM148{P:Prop}(h:P:=by
  clear h1 ht;exact ZM199):P:=h
theorem Ir(v:L4)(w:aA)(hs:v.dZ.size<=1048576):
  aK prog 150 #[.agg #[mj mn v.aG,mj mn v.num,mX v.dZ]] w λe w'=>e=mi (nj (gX v))/\U w [] w' []:=by
 by_cases h1:v.aG=1
 .have b:(v.aG==1)=qT:=by rw[LQ];exact h1
  by_cases ht:v.dZ=bU
  .have hl:=oV ht;have HV:=Z (show gX v=qT by unfold gX;rw[bW h1];exact kY ht);exact ZM148
  .have hl:=jJ ht;have d:=qE ht;have HV:=Z (show gX v=rR by unfold gX;rw[bW h1];exact kE ht);exact ZM148
 .have b:(v.aG==1)=rR:=by rw[GD];exact h1
  have hv:gX v=(decide (v.aG=2)&&decide (v.num=0)&&decide (v.dZ.size<=64)):=by unfold gX;rw[R h1]
  by_cases h2:v.aG=2
  .have a:(v.aG==2)=qT:=by rw[LQ];exact h2
   by_cases h3:v.num=0
   .have c:(v.num==0)=qT:=by rw[LQ];exact h3
    have hv:gX v=decide ((v.dZ.size:Int)<=64):=by
     rw[hv,kY h2,kY h3,VN,VN,Fi,QX,QX];omega
    exact ZM112
   .have c:(v.num==0)=rR:=by rw[GD];exact h3
    have hv:gX v=rR:=by rw[hv,kE h3];simp
    exact ZM112
  .have a:(v.aG==2)=rR:=by rw[GD];exact h2
   have hv:gX v=rR:=by rw[hv,kE h2];simp
   have HV:=Z hv;clear hv h1 h2;exact ZM199
theorem Rl(x:dO)(w:aA)(hs:x.size<=1048576):aK prog 195 #[mX x] w λe w'=>e=mi (nj (!jL x))/\U w [] w' []:=by
 go_in;go_wp2_with (go_at_call 193;apply(DF _ _ hs).dC;rintro wx rfl);go_ret;exact⟨rfl,U.refl _ _⟩
theorem aHG(v:L4):v=aR↔v.aG=0/\v.num=0/\v.dZ.toList=[]:=by
 rw[ZN];obtain⟨k,n,s⟩:=v;constructor
 .intro h;injection h with h1 h2 h3;exact⟨h1,h2,h3⟩
 .rintro⟨rfl,rfl,h⟩;dsimp only at h;rw[h];rfl
theorem Z'(t:j6)(w:aA)(hs:t.xW.dZ.size<=1048576):
  aK prog 160 #[.agg #[mX t.var,mj mn t.xW.aG,mj mn t.xW.num,mX t.xW.dZ]] w λe w'=>e=mi (nj (gJ t))/\U w [] w' []:=by
 by_cases hv:t.var=bU
 .have hl:=oV hv;have a:=Z (show gJ t= !gX t.xW by unfold gJ;rw[R (λh=>h hv)]);clear hv;go_in;go_wp2_with (go_at_call 150;apply(Ir t.xW _ hs).dC;intro wx b);go_ret;exact⟨by rw[a.o];rfl,((U.refl w []).alloc _).ds b⟩
 .have hl:=jJ hv;have g:=qE hv;have a:=Z (show gJ t=decide (t.xW≠aR) by unfold gJ;rw[bW hv]);clear hv;go_in;have d:=Z (aHG t.xW);go_wp2;all_goals
   go_ret;refine⟨?_,(U.refl w []).alloc _⟩;rw[a.o];refine xE (λz=>mi (nj z)) ?_;have c:=d.o;rw[decide_not,Fi];simp[c, *]
theorem ZM181{P:Prop}(h:P:=by
  go_wp2;go_ret;exact⟨by rw[HR.o];rfl,rfl⟩):P:=h
theorem ZM183{P:Prop}(h:P:=by
  exact⟨rfl,0,Y,rfl,rfl,λj hj=>Y⟩):P:=h
def fN(x:Nat):Nat->aE:=λ_=>mj mn (x:Int)
abbrev a4B(w:aA)(v:aE)(l:List Nat):Prop:=fM fN 0 1 w v l
abbrev iC(w0 w:aA)(v:aE)(l:List Nat):Prop:=bN fN 0 3 1 w0 w v l
theorem QL:kD prog 50 3 1 8:= .QZ (z:=X 0) underlying50 dJ rfl
def N5(s k:Nat):List Nat:=(List.range k).filter λv=>s.testBit v
theorem P'(s k:Nat):N5 s (k+1)=N5 s k++if s.testBit k then[k]else[]:=by
 unfold N5;rw[dr,zdF];cases h:s.testBit k<;>simp[h]
theorem Hf(s k:Nat):O (N5 s k)<=k:=j8 (zdG _ _) J
theorem Jk(s:Nat)(w:aA)(hs:s<2^32):
  aK prog 99 #[mj nr s] w λe w'=>∃u,e=mi u/\iC w w' u (cB s)/\U w [] w' []:=by
 go_in;go_wp2;go_loopg [3,4] 32 (λg p i wr=>U w [] wr []/\∃k:Nat,k<=32/\g=32-k/\i=X k/\iC w wr p (N5 s k))
 .exact ZM180
 obtain⟨j,k,x,rfl,rfl,n⟩:=hrel;obtain⟨a3,B,rfl,-⟩:=n.len;have c:=Z n;by_cases z:k<32
 .have a:=Z (P' s k);have b:=Hf s k;generalize A:N5 s k=L at c a b|-;cases d:s.testBit k with
  |false=>
   have m:=Z λl=>(jN s k hs l Y).mono λe w' h=>eI (h.1.ds (by rw[d])) h.2;have a:dT (N5 s (k+1)=L):=Z (by rw[a.o,d];simp);go_wp2_with (go_at_call 51;apply(m.o _).dC;rintro w2 rfl);go_roundg (32-(k+1))
   .exact⟨j,k+1,Y,rfl,eY,a.o▸c⟩
   omega
  |true=>
   have m:=Z λl=>(jN s k hs l Y).mono λe w' h=>eI (h.1.ds (by rw[d])) h.2;have a:dT (N5 s (k+1)=L++[k]):=Z (by rw[a.o,d];simp);go_wp2_with (first
    |(go_at_call 51;apply(m.o _).dC;rintro w2 rfl)
    |(at_builtin;refine cK QL rfl _ _ rfl c j Yr [mj mn k] k Yr rfl (dE rfl) rfl Y GC ?_;rintro g2 y w3 r q- -;have v:=Z r))
   go_roundg (32-(k+1))
   .exact⟨q,k+1,Y,rfl,eY,a.o▸v⟩
   omega
 .obtain rfl:k=32:=Y;go_wp2;go_ret;exact⟨_,rfl,c,j⟩
theorem aE4(v:aE)(l:List ES)(eb:Nat)(w:aA)(h:Mo w v l)(hs:kM l)(hl:O l<=7)(q:eb<2^32):
  aK prog 101 #[v,mj nr eb] w λe w'=>e=mi (nj (iN l eb))/\w=w':=by
 obtain⟨ad,cap,rfl,-⟩:=h.len;have A:=Z hs;go_in;go_wp2;go_loopg [5] (O l) (λg i wr=>w=wr/\∃k:Nat,k<=O l/\g=O l-k/\i=X k/\∀j,j<k->part (hJ l j sT).2 eb=qT)
 .exact ZM183
 obtain⟨rfl,k,B,rfl,rfl,u⟩:=hrel;by_cases r:k<O l
 .let⟨g,o,cap',hv,_,c0,c1⟩:=h.zm r;injection hv with h1 h2 h3;subst h1 h3;simp only[wP]at c1;have c:=A.aS k;have p:=bO (d:=sT) r;generalize b:hJ l k sT=x at c1 c p;cases a:part x.2 eb with
  |true=>
   have m:=Z λn=>(IS x.2 eb c q n).mono λe w' h=>eI (h.1.ds (by rw[a])) h.2;go_wp2_with (go_at_call 145;apply(m.o _).dC;rintro w2 rfl);go_roundg (O l-(k+1))
   .exact⟨rfl,k+1,Y,rfl,eY,λj hj=>by
    by_cases y:j=k
    .subst y;rw[b];exact a
    .exact u j Y⟩
   omega
  |false=>
   have m:=Z λn=>(IS x.2 eb c q n).mono λe w' h=>eI (h.1.ds (by rw[a])) h.2;have HR:dT (iN l eb=rR):=Z (by
    unfold iN;rw[Uh];exact⟨x,p,by rw[a];decide⟩)
   go_wp2_with (go_at_call 145;apply(m.o _).dC;rintro w2 rfl);go_ret;exact⟨by rw[HR.o];rfl,rfl⟩
 .have HR:dT (iN l eb=qT):=Z (by
   unfold iN;rw[Tv];intro x b;let⟨j,hj,z⟩:=Na b;have:=u j Y;rw[gV,kU hj,O8,z]at this;exact this)
  exact ZM181
variable{ns:List (bE×aE)}
theorem ZM200{P:Prop}(h:P:=by
  go_wp2;go_ret;exact⟨by rw[HC.o];rfl,cV.ds cW⟩):P:=h
theorem ZM150{P:Prop}(h:P:=by
  clear q2 q3 qs qd h2 hs h3;exact ZM200):P:=h
theorem ZM156{P:Prop}(h:P:=by
  clear q2 q3 qs qd h2 hs;exact ZM200):P:=h
def nS(x:bE×aE):Nat->aE
 |0=>mj mn (x.1.aG:Int)
 |1=>mj mn (x.1.qV:Int)
 |2=>x.2
 |3=>mj mn (x.1.cM:Int)
 |4=>mj mn (x.1.bP:Int)
 |5=>mj mn x.1.bS
 |_=>nj x.1.mL
def N8(w:aA)(ns:List (bE×aE)):Prop:=∀x,x∈ns->a4B w x.2 x.1.vars
theorem N8.on(h:N8 w ns)(b:U w [] w' S'):N8 w' ns:=λx a=>(h x a).on b
theorem fM.at7{l:List (bE×aE)}(h:fM nS sT 7 w v l)(c:i<O l):
  ∃g o cap,v=jS (H ⟨g,o,K⟩) (O l) cap/\g<i7 w.heap/\h8 w ⟨g,o+i*7,K⟩=H (mj mn ((hJ l i sT).1.aG:Int))/\h8 w ⟨g,o+i*7+1,K⟩=H (mj mn ((hJ l i sT).1.qV:Int))/\
   h8 w ⟨g,o+i*7+2,K⟩=H (hJ l i sT).2/\h8 w ⟨g,o+i*7+3,K⟩=H (mj mn ((hJ l i sT).1.cM:Int))/\h8 w ⟨g,o+i*7+4,K⟩=H (mj mn ((hJ l i sT).1.bP:Int))/\
   h8 w ⟨g,o+i*7+5,K⟩=H (mj mn (hJ l i sT).1.bS)/\h8 w ⟨g,o+i*7+6,K⟩=H (nj (hJ l i sT).1.mL):=by
 let⟨g,o,cap,hv,b,a⟩:=fM.aS h c;exact⟨g,o,cap,hv,b,a 0 Y,a 1 Y,a 2 Y,a 3 Y,a 4 Y,a 5 Y,a 6 Y⟩
theorem jx(L A N:Option cg)(B f P G k F:Nat)(nv:aE)(dQ:Int)(ns:List (bE×aE))(j i:Nat)(w:aA)(h:fM nS sT 7 w nv ns)(C:N8 w ns)(Q:j<O ns):
  aK prog 105 #[.agg #[jS L B G,jS A f k,nv,mj mn dQ,jS N P F],mj mn j,mj mn i] w λe w'=>e=mi (nj (eE (hJ ns j sT).1 i))/\U w [] w' []:=by
 obtain⟨ad,cap,rfl,z⟩:=h.len;unfold bH at z;let⟨g,o,cap',hv,T,l,p,n2,r,q,m,u⟩:=h.at7 Q;injection hv with x1 x2 x3;clear x2 x3;subst x1;obtain⟨va,vc,c,-⟩:=(C _ (bO (d:=sT) Q)).len;rw[c]at n2;obtain⟨⟨x,xv⟩,vm⟩:∃x,hJ ns j sT=x:=⟨_,rfl⟩;rw[vm]at l p n2 r q m u|-;clear vm h C c;dsimp only at*;let⟨wa,v⟩:=D (i5 w (kd #[jS L B G,jS A f k,eC g o (O ns) cap,X dQ,jS N P F] 53));have cV:=Za v;have b2:h8 wa ⟨i7 w.heap,2,K⟩=H (eC g o (O ns) cap):=by rw[<-v];exact aP (mE w _) rfl
 let⟨l,p,n2,r,q,m,u⟩:=cV.zc7 l p n2 r q m u;have HC:dT (eE x i=(((x.aG==2||x.aG==3)&&x.cM==i)||(x.aG==3&&x.bP==i))):=Z rfl;go_in;go_upto_region 2 with(fail);let⟨w3,y⟩:=D (i5 wa (kd #[X (x.aG:Int),X (x.qV:Int),jS va (O x.vars) vc,X (x.cM:Int),X (x.bP:Int),X x.bS,nj x.mL] 132));have cW:=Za y;have n:uD w3 wa.heap.size #[X (x.aG:Int),X (x.qV:Int),jS va (O x.vars) vc,X (x.cM:Int),X (x.bP:Int),X x.bS,nj x.mL] 132:=by rw[<-y];exact mE ..
 have e0:=Zc n 0;have S:=Zc n 3;have V:=Zc n 4;try rw[y]
 clear n v l p n2 r q m u;have kb:∀a b:Nat,((a:Int)==(b:Int))=decide (a=b):=dH;have q2:=kb x.aG 2;have q3:=kb x.aG 3;have qs:=kb x.cM i;have qd:=kb x.bP i;clear kb;by_cases h2:x.aG=2
 .have g2:((x.aG:Int)==2)=qT:=by rw[h2];rfl
  have g3:((x.aG:Int)==3)=rR:=by rw[h2];rfl
  by_cases hs:x.cM=i
  .have gs:((x.cM:Int)==(i:Int))=qT:=by rw[qs];exact kY hs
   have HC:dT (eE x i=qT):=Z (by rw[HC.o,h2,hs];simp);exact ZM156
  .have gs:((x.cM:Int)==(i:Int))=rR:=by rw[qs];exact kE hs
   have HC:dT (eE x i=rR):=Z (by rw[HC.o,h2];simp[hs]);exact ZM156
 .have g2:((x.aG:Int)==2)=rR:=by rw[show((x.aG:Int)==2)=decide (x.aG=2)from q2];exact kE h2
  by_cases h3:x.aG=3
  .have g3:((x.aG:Int)==3)=qT:=by rw[h3];rfl
   by_cases hs:x.cM=i
   .have gs:((x.cM:Int)==(i:Int))=qT:=by rw[qs];exact kY hs
    have HC:dT (eE x i=qT):=Z (by rw[HC.o,h3,hs];simp);exact ZM150
   .have gs:((x.cM:Int)==(i:Int))=rR:=by rw[qs];exact kE hs
    have HC:dT (eE x i=((x.bP:Int)==(i:Int))):=Z (by rw[HC.o,h3,qd,show(x.cM==i)=rR from by rw[GD];exact hs];rfl);exact ZM150
  .have g3:((x.aG:Int)==3)=rR:=by rw[show((x.aG:Int)==3)=decide (x.aG=3)from q3];exact kE h3
   have HC:dT (eE x i=rR):=Z (by rw[HC.o];simp[h2,h3]);clear q2 q3 qs qd h2 h3;exact ZM200
theorem gQ(ns:List (bE×aE))(i:Nat):hJ (ns.map (·.1)) i sT=(hJ ns i sT).1:=by
 rw[gV,gV,So];cases ns[i]? <;>rfl
variable{w0:aA}
theorem YH{α:Type}{f:α->Nat->aE}{d:α}{e:ap}(c:w.heap[b]? =H (kd news.toArray e (0,0)))(hl:O news=sz)(x:α)(n:∀j,j<sz->hJ news j undef=f x j)(p:i7 w0.heap<=b):
  bN f d e sz w0 w (jS (H ⟨b,0,K⟩) 1 1) [x]:=by
 refine⟨.inr ⟨b,1,news.toArray,rfl,c,fV _,(by decide:1<=bH),by simp[hl],λi j a m=> ?_⟩,λg l=>by simp[i6]at l;omega⟩;obtain rfl:i=0:=by simp at a;exact a
 rw[Nat.zero_mul,a05,vW,kU Y];have:=n j m;rw[gV,kU Y,O8]at this;rw[this];rfl
theorem S5(a:mD (ns.map (·.1)))(e:i<O ns){x:bE}(b:(hJ ns i sT).1=x):
  fO (ns.map (·.1)) (i+1) i=if x.mL then i::((if x.aG=2\/x.aG=3 then fO (ns.map (·.1)) (x.cM+1) x.cM else[])++(if x.aG=3 then fO (ns.map (·.1)) (x.bP+1) x.bP else[]))else[]:=by
 have c:i<O (ns.map (·.1)):=eP e;let⟨d,hs,hd⟩:=a i c;rw[gQ,b]at d hs hd;rw[show fO (ns.map (·.1)) (i+1) i=(let p:=hJ (ns.map (·.1)) i sT
  if p.mL then i::((if p.aG=2\/p.aG=3 then fO (ns.map (·.1)) i p.cM else[])++(if p.aG=3 then fO (ns.map (·.1)) i p.bP else[]))else[])from rfl]
 dsimp only;rw[gQ,b];split
 .congr 1;congr 1
  .split
   .rename_i h;have:=hs Y;exact C3 a _ Y _ this
   .rfl
  .split
   .rename_i h;have:=hd h;exact C3 a _ Y _ this
   .rfl
 .rfl
theorem FP{ns:List bE}(d:i<41):O (fO ns (i+1) i)<=2199023255551:=by
 have b:=DD ns (i+1) i;have c:2^(i+1)<=2^41:=Fk E Y;have a:(2:Nat)^41=2199023255552:=E;omega
theorem jv(p0 p1 p4:Option cg)(l0 l1 l4 k0 k1 k4:Nat)(nv:aE)(dQ:Int)(ns:List (bE×aE))(hl:O ns<=41)(f:mD (ns.map (·.1))):∀(i:Nat),i<O ns->∀(w:aA),fM nS sT 7 w nv ns->N8 w ns->
  aK prog 106 #[.agg #[jS p0 l0 k0,jS p1 l1 k1,nv,mj mn dQ,jS p4 l4 k4],mj mn i] w λe w'=>∃u,e=mi u/\iC w w' u (fO (ns.map (·.1)) (i+1) i)/\U w [] w' []:=by
 intro i;induction i using Nat.strongRecOn with
 |_ i ih=>
 intro hi w h hV;obtain⟨ad,cap,rfl,hmx⟩:=h.len;have IH:=Z ih;clear ih;let⟨g,o,cap',hv,hg,n0,n1,n2,n3,n4,n5,V⟩:=h.at7 hi;injection hv with x1 x2 x3;clear x2 x3;subst x1;have k:=Z h;have HV:=Z hV;have rX:=S5 f hi rfl;let⟨A,hs,hd⟩:=f i (eP hi);rw[gQ]at A hs hd;let⟨x,hx⟩:=D ((hJ ns i sT).1);rw[hx]at n0 n3 n4 V rX A hs hd;clear n1 n2 n5 hx h hV;have l:=Z rX;clear rX;let⟨wa,dM⟩:=D (i5 w (kd #[jS p0 l0 k0,jS p1 l1 k1,eC g o (O ns) cap,X dQ,jS p4 l4 k4] 53));have cV:=Za dM;have CD:i7 wa.heap=i7 w.heap+1:=by rw[<-dM];simp
 have r:=Zb dM;have b0:=Zc r 0;have b1:=Zc r 1;have b2:=Zc r 2;have b3:=Zc r 3;have b4:=Zc r 4;let⟨n0,n3,n4,V⟩:=cV.zc4 n0 n3 n4 V;have S:=Z cV;have QP:=Z CD;have uY:=Z r;clear cV CD r;go_in;cases n:x.mL with
 |false=>
  rw[n]at V;have l:dT (fO (ns.map (·.1)) (i+1) i=[]):=Z (by rw[l.o,n];rfl);clear n A hs hd;go_wp2;go_ret;exact⟨_,rfl,by rw[l.o];exact bN.nil _ _,S.o⟩
 |true=>
  rw[n]at V;let⟨wb,qG⟩:=D (i5 wa (kd #[X i] 3));have m:=Za qG;have HN:dT (iC w wb (jS (H ⟨i7 wa.heap,0,K⟩) 1 1) [i]):=Z (YH (news:=[It i]) (by rw[<-qG];exact mE wa _) rfl i (dE rfl) (kG QP.o));have q0:=m.cell b0 J;have q1:=m.cell b1 J;have q2:=m.cell b2 J;have q3:=m.cell b3 J;have q4:=m.cell b4 J;have m0:=m.cell n0 J;have m3:=m.cell n3 J;have m4:=m.cell n4 J;have tE:=Z (m.aC uY.o J);have EO:=Z m;clear m;by_cases v:x.aG=1
  .have l:dT (fO (ns.map (·.1)) (i+1) i=[i]):=Z (by rw[l.o,n];simp[v]);have g1:((x.aG:Int)!=1)=rR:=by rw[v];rfl
   have g3:((x.aG:Int)==3)=rR:=by rw[v];rfl
   clear n A hs hd v;go_wp2;go_ret;exact⟨_,rfl,by rw[l.o];exact HN.o,S.o.ds EO.o⟩
  .have hs:=hs v;have IN:x.cM<O ns:=Y;have HI:=Z (IH.out x.cM hs IN);have P:=FP (ns:=ns.map (·.1)) (show x.cM<41 by omega);let⟨p,BP⟩:=D (fO (ns.map (·.1)) (x.cM+1) x.cM);have g1:((x.aG:Int)!=1)=qT:=by
    rw[bne_iff_ne];omega
   have l:dT (fO (ns.map (·.1)) (i+1) i=i::(p++if x.aG=3 then fO (ns.map (·.1)) (x.bP+1) x.bP else[])):=Z (by
    rw[l.o,n,BP,bW rfl,bW Y])
   rw[BP]at HI P;have HK:=Z A;have HD:=Z hd;have H1:=Z v;have HS:=Z hs;clear BP n A hd v hs;go_upto_region 5 with(fail);refine e7 10 (ez q0<|ez q1<|ez q2<|ez q3<|ez q4<|ey m3) (λQ=> ?_);refine ek [0,1,2,3,4,5,6,7] ?_;refine Zo 8 λvm hK=> ?_;go_simp;go_at_call 106;have c:U w [] wb.drew []:=(S.o.ds EO.o).drew;refine(HI.o wb.drew (k.o.on c) (HV.o.on c)).mono ?_;rintro e w4 ⟨u,rfl,Hq,d⟩;dsimp only;obtain⟨ua,uc,rfl,-⟩:=Hq.len;have d:U wb [] w4 []:=(U.refl wb []).drew.ds d;have Q:=eI (d.cell Q.1 J) (eI (d.cell Q.2.1 J) (eI (d.cell Q.2.2.1 J) (eI (d.cell Q.2.2.2.1 J) (eI (d.cell Q.2.2.2.2.1 J) (d.cell Q.2.2.2.2.2 J)))));refine Zk hK Q<|Zo 9 λvm hK=> ?_;obtain⟨v',w6,F,nR,dR,a,a6,QM,rfl⟩:=jX (wb:=w) (w:=w4) QL Y 50 (HN.o.on d) ((S.o.ds EO.o).ds d) (fV _) ((S.o.ds EO.o).ds d).size Hq.rd (λy hy j hj=>rfl) (by simp;omega) (by unfold bH;simp;omega);refine dL _ _ rfl Yr Yr F ?_;have BJ:∀b,b<=i7 w.heap->b∉(jS (H ⟨i7 wa.heap,0,K⟩) 1 1).ownBlock.toList:=λb f hm=>by
    have:=QP.o;simp[i6]at hm;omega
   have Q:=eI (a.cell Q.1 (BJ _ (fV _))) (eI (a.cell Q.2.1 (BJ _ (fV _))) (eI (a.cell Q.2.2.1 (BJ _ (fV _))) (eI (a.cell Q.2.2.2.1 (BJ _ (fV _))) (eI (a.cell Q.2.2.2.2.1 (BJ _ (fV _))) (a.cell Q.2.2.2.2.2 (BJ g Y))))));have m0:=a.cell (d.cell m0 J) (BJ g Y);have m4:=a.cell (d.cell m4 J) (BJ g Y);let⟨M,G⟩:=D (O [i]+O p);rw[G]at nR|-;have BU:=Z (a.aC (d.aC tE.o J) (BJ _ (fV _)));have HM:=Z G;have C:=Z nR;have N:=Z dR;have q0:=Q.1;have q1:=Q.2.1;have q2:=Q.2.2.1;have q3:=Q.2.2.2.1;have q4:=Q.2.2.2.2.1;clear F nR dR a G d Hq c;refine Zk hK Q<|Zo 10 λvm hK=> ?_;go_simp;refine LP ?_;clear hK vm;by_cases B:x.aG=3
   .have hd:=HD.o B;have hdl:x.bP<O ns:=Y;have Mu:=Z (IH.out x.bP hd hdl);have Le:=FP (ns:=ns.map (·.1)) (show x.bP<41 by omega);let⟨L2,EL⟩:=D (fO (ns.map (·.1)) (x.bP+1) x.bP);have g3:((x.aG:Int)==3)=qT:=by rw[B];rfl
    have l:dT (fO (ns.map (·.1)) (i+1) i=[i]++p++L2):=Z (by rw[l.o,EL,bW B];simp);rw[EL]at Mu Le;clear EL B hd HI;have H6:=Z ((k.o).on N.o);have sq:=Z ((HV.o).on N.o);go_upto_region 7 with(fail);refine e7 10 (ez q0<|ez q1<|ez q2<|ez q3<|ez q4<|ey m4) (λQ=> ?_);refine ek [0,1,2,3,4,5,6,7] ?_;refine Zo 8 λvm hK=> ?_;go_simp;go_at_call 106;have c:U w6 [] w6.drew []:=(U.refl w6 []).drew;refine(Mu.o w6.drew (H6.o.on c) (sq.o.on c)).mono ?_;rintro e w7 ⟨u2,rfl,eo,a⟩;dsimp only;obtain⟨ub,uc2,rfl,-⟩:=eo.len;have a:U w6 [] w7 []:=c.ds a;have Q:=eI (a.cell Q.1 J) (eI (a.cell Q.2.1 J) (eI (a.cell Q.2.2.1 J) (eI (a.cell Q.2.2.2.1 J) (eI (a.cell Q.2.2.2.2.1 J) (a.cell Q.2.2.2.2.2 J)))));refine Zk hK Q<|Zo 9 λvm hK=> ?_;have G:=HM.o;have z:O ([i]++p)=M:=by rw[E7];exact G
    have C:dT (iC w w6 (jS a6 (O ([i]++p)) QM) ([i]++p)):=Z (by rw[z];exact C.o);obtain⟨v',w8,F,W,jB,q,a8,bBs,rfl⟩:=jX (wb:=w) (w:=w7) QL Y 50 (C.o.on a) (N.o.ds a) (fV _) (N.o.ds a).size eo.rd (λy hy j hj=>rfl) (by simp;omega) (by unfold bH;simp;omega);rw[z]at F W;refine dL _ _ rfl Yr Yr F ?_;have T:∀b,b<i7 w.heap->b∉(jS a6 (O ([i]++p)) QM).ownBlock.toList:=λb f=>C.o.BJ f;have FX:=a.aC (show w6.heap[i7 w.heap]? =_ from BU.o) J;have L:=(C.o.on a).ne FX E;have Q:=eI (q.cell Q.1 L) (eI (q.cell Q.2.1 L) (eI (q.cell Q.2.2.1 L) (eI (q.cell Q.2.2.2.1 L) (eI (q.cell Q.2.2.2.2.1 L) (q.cell Q.2.2.2.2.2 (T g hg))))));let⟨M2,EC⟩:=D (M+O L2);rw[EC];rw[EC]at W;have Y8:=Z W;have LJ:=Z jB;clear F W jB q EC z G a eo c FX L T;refine Zk hK Q<|Zo 10 λvm hK=> ?_;go_simp;refine LP ?_;clear hK vm;go_wp2;go_ret;exact⟨_,rfl,by rw[l.o];exact Y8.o,LJ.o⟩
   .have g3:((x.aG:Int)==3)=rR:=by
     rw[GD];omega
    have l:dT (fO (ns.map (·.1)) (i+1) i=[i]++p):=Z (by rw[l.o,R B];simp);clear B;go_wp2;go_ret;exact⟨_,rfl,by rw[l.o];exact C.o,N.o⟩
theorem ZM96{P:Prop}(h:P:=by
  go_wp2;go_roundg (O es-(n+1))
  .exact⟨bM.drewN _,n+1,Y,rfl,eY,by rw[HF,HT.o];go_num,by rw[HA.o]⟩
  omega):P:=h
theorem ZM110{P:Prop}(h:P:=by
  have:=xE (List.take i) hp5;rw[List.take_take,Nat.min_eq_left Y,List.take_left' aFf]at this;exact this):P:=h
theorem ZM113{P:Prop}(h:P:=by
  rw[ic];refine hT.congr λi j hi hj=> ?_;obtain rfl:j=0:=Y;rw[gV,List.getElem?_replicate,bW hi];rfl):P:=h
def fZ(x:Int):Nat->aE:=λ_=>mj mn x
abbrev Zs(w:aA)(v:aE)(l:List Int):Prop:=fM fZ 0 1 w v l
abbrev OZs(w0 w:aA)(v:aE)(l:List Int):Prop:=bN fZ 0 3 1 w0 w v l
theorem ri{a:Int}(h:0<=a):tB dI (n+1) a=tB dI n (hJ dI a.toNat 0):=by
 show(if a<0 then a else tB dI n (hJ dI a.toNat 0))=_;rw[R Y]
theorem yw{l:List Int}{b:Int}(h:∀x,x∈l->x<b)(a:i<O l):hJ l i 0<b:=h _ (bO a)
theorem jm(v:aE)(dI:List Int)(w:aA)(h:Zs w v dI)(Q:O dI<=7)(G:∀x,x∈dI->x<O dI)(r:∀x,x∈dI->-1<=x):
  aK prog 212 #[v] w λe w'=>e=mi (nj (vA dI))/\w=w':=by
 obtain⟨ad,cap,rfl,-⟩:=h.len;have B:=Z r;go_in;go_wp2;go_loopg [3] (O dI) (λg i wr=>w=wr/\∃k:Nat,k<=O dI/\g=O dI-k/\i=X k/\∀j,j<k->tB dI (O dI) (j:Int)<0)
 .exact ZM183
 obtain⟨rfl,k,f,rfl,rfl,u⟩:=hrel;by_cases s:k<O dI
 .go_wp2;go_loopg [4,5] (O dI) (λg a i wr=>w=wr/\∃(n:Nat) (x:Int),n<=O dI/\g=O dI-n/\i=X n/\a=X x/\-1<=x/\x<O dI/\tB dI (O dI-n) x=tB dI (O dI) (k:Int))
  .exact⟨rfl,0,(k:Int),Y,rfl,rfl,rfl,Y,Y,rfl⟩
  obtain⟨rfl,n,x,r,rfl,rfl,rfl,S,P,q⟩:=hrel;by_cases p:0<=x
  .have C:decide ((0:Int)<=x)=qT:=kY p;by_cases F:n<O dI
   .have g2:decide ((n:Int)<(O dI:Int))=qT:=kY Y;obtain⟨b,rfl⟩:∃b:Nat,x=(b:Int):=⟨x.toNat,Y⟩;let⟨g,o,cap',hv,z⟩:=h.FC (show b<O dI by omega);injection hv with h1 h2 h3;subst h1 h3;simp only[fZ]at z;have m:=B.o _ (bO (d:=0) (show b<O dI by omega));have l:=yw G (show b<O dI by omega);have c:dT (tB dI (O dI-(n+1)) (hJ dI b 0)=tB dI (O dI) (k:Int)):=Z (by
     rw[<-q,show O dI-n=(O dI-(n+1))+1 by omega,ri p,zbX])
    generalize N:hJ dI b 0=y at z m l c;go_wp2;go_roundg (O dI-(n+1))
    .exact⟨rfl,n+1,y,Y,rfl,eY,rfl,m,l,c⟩
    omega
   .have g2:decide ((n:Int)<(O dI:Int))=rR:=kE Y;have L:¬tB dI (O dI) (k:Int)<0:=by
     rw[<-q,show O dI-n=0 by omega];show¬x<0;omega
    have HR:dT (vA dI=rR):=Z (by
     unfold vA;rw[Uh];exact⟨k,wW.2 s,by simpa using L⟩)
    exact ZM181
  .have C:decide ((0:Int)<=x)=rR:=kE p;have A:dT (tB dI (O dI) (k:Int)<0):=Z (by rw[<-q,Lu Y];omega);go_wp2;go_roundg (O dI-(k+1))
   .exact⟨rfl,k+1,Y,rfl,eY,λj hj=>by
    by_cases vm:j=k
    .subst vm;exact A.o
    .exact u j Y⟩
   omega
 .have HR:dT (vA dI=qT):=Z (by
   unfold vA;rw[Tv];intro j hj;exact kY (u j (kX (wW.1 hj))))
  exact ZM181
theorem Kp(es:List Nat)(aU:Nat)(dI:List Int):CA es aU dI=(gz aU).all λv=> !((gz (O es)).any λi=>(hJ es i 0).testBit v)||O ((gz (O es)).filter (KS es dI v))==1:=rfl
theorem aC2{p:Nat->Bool}{k:Nat}:(gz (k+1)).any p=((gz k).any p||p k):=by
 rw[dr,List.any_append];simp
theorem T4{p:Nat->Bool}{k:Nat}:O ((gz (k+1)).filter p)=O ((gz k).filter p)+if p k then 1 else 0:=by
 rw[dr,zdF,E7];cases h:p k<;>simp[h]
theorem KJ{p:Nat->Bool}{k:Nat}:O ((gz k).filter p)<=k:=j8 (zdG _ _) J
theorem lx(v1 v2:aE)(es:List Nat)(aU:Nat)(dI:List Int)(w:aA)(h1:E0 w v1 es)(W:Zs w v2 dI)(hm:O es<=7)(hl:O dI=O es)(hv:aU<=1048576)(hs:∀s,s∈es->s<2^32)(t:∀x,x∈dI->x<O dI):
  aK prog 213 #[.agg #[mj mn aU,v1],v2] w λe w'=>e=mi (nj (CA es aU dI))/\U w [] w' []:=by
 obtain⟨ad,cap,rfl,-⟩:=h1.len;obtain⟨ad2,gW,rfl,-⟩:=W.len;rw[hl]at W t|-;have HS:=Z hs;clear hs;go_in;go_wp2;let⟨wa,v⟩:=D (i5 w (kd #[X aU,jS ad (O es) cap] 64));have m:=Za v;have b0:h8 wa ⟨i7 w.heap,0,K⟩=H (X aU):=by rw[<-v];exact aP (mE w _) rfl
 have b1:h8 wa ⟨i7 w.heap,1,K⟩=H (jS ad (O es) cap):=by rw[<-v];exact aP (mE w _) rfl
 rw[v];clear v;go_loopg [5] aU (λg i wr=>U wa [] wr []/\∃k:Nat,k<=aU/\g=aU-k/\i=X k/\∀j,j<k->(!((gz (O es)).any λi=>(hJ es i 0).testBit j)||O ((gz (O es)).filter (KS es dI j))==1)=qT)
 .exact ZM179
 obtain⟨c,k,hk,rfl,rfl,P⟩:=hrel;have c0:=c.cell b0 J;have c1:=c.cell b1 J;by_cases aY:k<aU
 .go_wp2;go_loopg [6,7,8] (O es) (λg tp an i wx=>U wr [] wx []/\∃n:Nat,n<=O es/\g=O es-n/\i=X n/\tp=X (O ((gz n).filter (KS es dI k)):Int)/\an=nj ((gz n).any λi=>(hJ es i 0).testBit k))
  .exact⟨U.refl _ _,0,Y,rfl,rfl,rfl,rfl⟩
  obtain⟨bM,n,hn,rfl,rfl,rfl,rfl⟩:=hrel;have d1:=bM.cell c1 J;by_cases vm:n<O es
  .let⟨g,o,cap',hv,e0⟩:=(h1.on (m.ds (c.ds bM))).FC vm;let⟨g2,o2,G0,A8,f0⟩:=(W.on (m.ds (c.ds bM))).FC (show n<O dI by rw[hl];exact vm);injection hv with x1 x2 x3;subst x1 x3;injection A8 with x1 x2 x3;subst x1 x3;clear x2;simp only[FY,fZ]at e0 f0;have T:=HS.o _ (bO (d:=0) vm);have hz:=yw t (show n<O dI by rw[hl];exact vm);have HA:=Z (aC2 (p:=λi=>(hJ es i 0).testBit k) (k:=n));have HF:=(T4 (p:=KS es dI k) (k:=n));have R3:=KJ (p:=KS es dI k) (k:=n);have HT:dT (KS es dI k n=((hJ es n 0).testBit k&&(decide (hJ dI n 0<0)|| !(hJ es (hJ dI n 0).toNat 0).testBit k))):=Z rfl;obtain⟨S,fk⟩:∃S,hJ es n 0=S:=⟨_,rfl⟩;obtain⟨z,q⟩:∃z,hJ dI n 0=z:=⟨_,rfl⟩;rw[fk]at e0 T HA HT;rw[q]at f0 hz HT;clear fk q;generalize y:O ((gz n).filter (KS es dI k))=C at HF R3|-;clear y;generalize r:((gz n).any λi=>(hJ es i 0).testBit k)=A at HA|-;clear r;cases l:S.testBit k with
   |false=>
    have F:=Z λb=>(jN S k T b Y).mono λe w' h=>eI (h.1.ds (by rw[l])) h.2;have HT:dT (KS es dI k n=rR):=Z (by rw[HT.o,l];rfl);have HA:dT (((gz (n+1)).any λi=>(hJ es i 0).testBit k)=A):=Z (by rw[HA.o,l,Bool.or_false]);clear l;go_wp2_with (go_at_call 51;apply(F.o _).dC;rintro w2 rfl);go_roundg (O es-(n+1))
    .exact⟨bM,n+1,Y,rfl,eY,by rw[HF,HT.o];rfl,by rw[HA.o]⟩
    omega
   |true=>
    have F:=Z λb=>(jN S k T b Y).mono λe w' h=>eI (h.1.ds (by rw[l])) h.2;have HA:dT (((gz (n+1)).any λi=>(hJ es i 0).testBit k)=qT):=Z (by rw[HA.o,l,Bool.or_true]);rw[l,VN]at HT;clear l;by_cases Wt:z<0
    .have f:decide (z<0)=qT:=kY Wt;have HT:dT (KS es dI k n=qT):=Z (by rw[HT.o,f,Bool.true_or]);go_wp2_with (go_at_call 51;apply(F.o _).dC;rintro w2 rfl);go_quiet (fail);exact ZM96
    .have f:decide (z<0)=rR:=kE Wt;rw[f,B2]at HT;obtain⟨u,rfl⟩:∃u:Nat,z=(u:Int):=⟨z.toNat,Y⟩;let⟨g',o',bBu,hv,p0⟩:=(h1.on (m.ds (c.ds bM))).FC (show u<O es by omega);injection hv with x1 x2 x3;clear x2 x3;injection x1 with x1;injection x1 with x1 x4;subst x1 x4;simp only[FY]at p0;have V:=HS.o _ (bO (d:=0) (show u<O es by omega));rw[zbX]at HT;obtain⟨bEr,B⟩:∃bEr,hJ es u 0=bEr:=⟨_,rfl⟩;rw[B]at p0 V HT;clear B;cases a:bEr.testBit k with
     |true=>
      have Mu:dT (∀b:aA,uJ 51 #[mj nr (bEr:Int),It k] b λe w'=>e=mi (nj qT)/\w'=b):=Z λb=>(jN bEr k V b Y).mono λe w' h=>eI (h.1.ds (by rw[a])) h.2.symm;have HT:dT (KS es dI k n=rR):=Z (by rw[HT.o,a];rfl);clear a;go_wp2_with (go_at_call 51;apply(F.o _).dC;rintro w2 rfl);go_quiet ((go_at_call 51;exact Calls.quiet_of_same (Mu.o _)));go_wp2;go_roundg (O es-(n+1))
      .exact⟨bM.drewN _,n+1,Y,rfl,eY,by rw[HF,HT.o];rfl,by rw[HA.o]⟩
      omega
     |false=>
      have Mu:dT (∀b:aA,uJ 51 #[mj nr (bEr:Int),It k] b λe w'=>e=mi (nj rR)/\w'=b):=Z λb=>(jN bEr k V b Y).mono λe w' h=>eI (h.1.ds (by rw[a])) h.2.symm;have HT:dT (KS es dI k n=qT):=Z (by rw[HT.o,a];rfl);clear a;go_wp2_with (go_at_call 51;apply(F.o _).dC;rintro w2 rfl);go_quiet ((go_at_call 51;exact Calls.quiet_of_same (Mu.o _)));exact ZM96
  .obtain rfl:n=O es:=Y;let⟨C,y⟩:=D (O ((gz (O es)).filter (KS es dI k)));let⟨A,r⟩:=D (((gz (O es)).any λi=>(hJ es i 0).testBit k));rw[y,r];have L:dT ((!((gz (O es)).any λi=>(hJ es i 0).testBit k)||O ((gz (O es)).filter (KS es dI k))==1)=(!A||C==1)):=Z (by rw[y,r]);clear y r;cases A with
   |false=>
    go_wp2;go_roundg (aU-(k+1))
    .exact⟨c.ds bM,k+1,Y,rfl,eY,λj hj=>by
     by_cases Q:j=k
     .subst Q;rw[L.o];rfl
     .exact P j Y⟩
    omega
   |true=>
    by_cases G:C=1
    .have t:((C:Int)!=1)=rR:=by rw[G];rfl
     go_wp2;go_roundg (aU-(k+1))
     .exact⟨c.ds bM,k+1,Y,rfl,eY,λj hj=>by
      by_cases Q:j=k
      .subst Q;rw[L.o,G];rfl
      .exact P j Y⟩
     omega
    .have t:((C:Int)!=1)=qT:=by rw[bne,show((C:Int)==1)=decide (C=1)from dH C 1,kE G];rfl
     have N:dT (CA es aU dI=rR):=Z (by
      rw[Kp,Uh];refine⟨k,wW.2 aY,?_⟩;rw[L.o];simpa using G)
     clear G;go_wp2;go_ret;exact⟨by rw[N.o];rfl,m.ds (c.ds bM)⟩
 .have N:dT (CA es aU dI=qT):=Z (by
   rw[Kp,Tv];intro j hj;exact P j (kX (wW.1 hj)))
  go_wp2;go_ret;exact⟨by rw[N.o];rfl,m.ds c⟩
theorem Gm{l:List Int}{p:Int}(a:i<O l):(l.set i p).take (i+1)=l.take i++[p]:=by
 rw[F6,List.take_set_of_le (fV i)];simp[a]
theorem bN.vq{α:Type}{f:α->Nat->aE}{d:α}{e:ap}{l:List α}(h:bN f d e 1 w0 w (jS (H ⟨g,0,K⟩) n cap) l)(m:i<O l)(x:α):
  bN f d e 1 w0 (hY w ⟨g,i,K⟩ (f x 0)) (jS (H ⟨g,0,K⟩) n cap) (l.set i x):=by
 obtain⟨a',cap',hv,_⟩:=h.len;injection hv with h1 h2 h3;subst h1 h2 h3;refine⟨?_,h.2⟩;have b:=h.1.set rfl i 0 Y (f x 0);rw[yC,qZ]at b;rw[TS];refine b.congr λc j p q=> ?_;obtain rfl:j=0:=Y;rw[gV (l:=l.set i x),a0b];by_cases a:i=c
 .subst a;simp[m]
 .rw[R a,R (λh=>a h.1.symm),<-gV]
def LX(es:List Nat)(aU:Nat)(dI:List Int):Bool:=vA dI&&CA es aU dI
theorem Ym(v1:aE)(es:List Nat)(aU g:Nat)(cap:Nat)(w0:aA)(hm:O es<=7)(hv:aU<=1048576)(hs:∀s,s∈es->s<2^32)(h0:0<O es):∀(k:Nat) (dI:List Int) (w:aA),
  k<=O es->E0 w v1 es->(∀b,Value.nL v1=H b->b<i7 w0.heap)->OZs w0 w (jS (H ⟨g,0,K⟩) (O es) cap) dI->O dI=O es->(∀x,x∈dI->-1<=x/\x<O es)->
  aK prog 186 #[.agg #[mj mn aU,v1],jS (H ⟨g,0,K⟩) (O es) cap,mj mn ((O es-k:Nat):Int)] w λe w'=>
   e=mi (nj (DL (O es) (LX es aU) k (dI.take (O es-k))))/\U w [g] w' [g]/\∃c,OZs w0 w' (jS (H ⟨g,0,K⟩) (O es) cap) c/\O c=O es/\(∀x,x∈c->-1<=x/\x<O es)/\c.take (O es-k)=dI.take (O es-k)
 |0,dI,w,G,h1,B,l,hl,m=>by
  have hT:DL (O es) (LX es aU) 0 (dI.take (O es-0))=LX es aU dI:=by rw[Nat.sub_zero,<-hl,TU];rfl
  rw[hT];rw[Nat.sub_zero];obtain⟨ad,N,rfl,-⟩:=h1.len;have XN:∀x,x∈dI->x<O dI:=λx h=>by rw[hl];exact(m x h).2
  have hr:=jm _ dI _ (l.rd.on ((U.refl w []).alloc (kd #[X aU,jS ad (O es) N] 64))) Y XN (λx h=>(m x h).1);have hj:=lx _ _ es aU dI _ (h1.on ((U.refl w []).alloc (kd #[X aU,jS ad (O es) N] 64))) (l.rd.on ((U.refl w []).alloc (kd #[X aU,jS ad (O es) N] 64))) hm hl hv hs XN;have C:=Z hr;have HJ:=Z hj;have HL:=Z l;have A:=Z (eI hl m);have HT:dT (LX es aU dI=(vA dI&&CA es aU dI)):=Z rfl;clear hT hr hj l hl m XN hs B h1;generalize hR:vA dI=bEs at C HT;clear hR;cases bEs with
  |true=>
   go_in;go_wp2_with (first
    |(go_at_call 212;apply C.dC;rintro w2 rfl)
    |(go_at_call 213;apply HJ.dC;intro w2 P;have vm:=Z P;clear P))
   go_ret;exact⟨by rw[HT.o,VN];rfl,(((U.refl w []).alloc _).ds vm).aL J|>.to (λk G=> .inl G),dI,HL.on (((U.refl w []).alloc _).ds vm),A.1,A.2,rfl⟩
  |false=>
   go_in;go_wp2_with (go_at_call 212;apply C.dC;rintro w2 rfl);go_ret;exact⟨by rw[HT.o];rfl,((U.refl w []).alloc _).aL J|>.to (λk G=> .inl G),dI,HL.on ((U.refl w []).alloc _),A.1,A.2,rfl⟩
 |k+1,dI,w,G,h1,B,l,hl,m=>by
  let⟨i,hi⟩:=D (O es-(k+1));have IH:=Ym v1 es aU g cap w0 hm hv hs h0 k;have hik:O es-k=i+1:=Y;have f:i<O es:=Y;rw[hi];rw[hik,Int.natCast_add,Int.natCast_one]at IH;let⟨a,L⟩:=D (dI.take i);have aFf:O a=i:=by rw[<-L,PI];omega
  have HG:dT (DL (O es) (LX es aU) (k+1) a=(gz (O es)).any λp=>p !=i&&DL (O es) (LX es aU) k (a++[(p:Int)])):=Z (by rw[DL,aFf]);rw[L];have IH:=Z IH;have hgw:=l.1.lt g rfl;have GY:i7 w0.heap<=g:=l.2 g rfl;obtain⟨ad,N,rfl,-⟩:=h1.len;have H1:=Z h1;have V:=Z B;have HL:=Z l;have A:=Z (eI hl (eI m L));clear h1 B l hl m L hs hi hik;have y:i7 w.heap∉[g]:=by simp;omega
  have hie:((i:Int)==(O es:Int))=rR:=by rw[dH];exact kE Y
  have o:dT (∀b,Value.nL (jS ad (O es) N)=H b->b∉[g]):=Z λb B hm=>by
   have:=V.o b B;simp at hm;omega
  go_in;go_wp2;let⟨wa,dM⟩:=D (i5 w (kd #[X aU,jS ad (O es) N] 64));have cV:=Za dM;have b0:h8 wa ⟨w,0,K⟩=H (X aU):=by rw[<-dM];exact aP (mE w _) rfl
  have b1:h8 wa ⟨w,1,K⟩=H (jS ad (O es) N):=by rw[<-dM];exact aP (mE w _) rfl
  have yM:=Z ((cV.aL (T:=[g]) J).to (T:=[g]) (λk G=> .inl G));have HLa:=Z (HL.on cV);rw[dM];clear dM cV;go_loopg [7] (O es) (λgh j wr=>U wa [g] wr [g]/\∃(p:Nat) (pl:List Int),p<=O es/\gh=O es-p/\j=X p/\OZs w0 wr (eC g 0 (O es) cap) pl/\O pl=O es/\(∀x,x∈pl->-1<=x/\x<O es)/\pl.take i=a/\
   ∀d,d<p->(d !=i&&DL (O es) (LX es aU) k (a++[(d:Int)]))=rR)
  .exact⟨U.refl _ _,0,dI,Y,rfl,rfl,HLa,A.1,A.2.1,A.2.2,λd hp=>Y⟩
  obtain⟨P,p,pl,hp,rfl,rfl,l,hl,m,L,fX⟩:=hrel;have c0:=P.cell b0 y;have c1:=P.cell b1 y;have vm:=Z P;have q:=Z l;have n:=Z (eI hl (eI m L));have NH:=Z fX;clear P l hl m L fX;by_cases aY:p<O es
  .by_cases S:p=i
   .have B:((p:Int)!=(i:Int))=rR:=by rw[bne,dH,kY S];rfl
    have Q:=Z S;clear S;go_wp2;go_roundg (O es-(p+1))
    .exact⟨vm,p+1,pl,Y,rfl,eY,q,n.1,n.2.1,n.2.2,λd mu=>by
     by_cases h:d=p
     .subst h;rw[Q.o];simp
     .exact NH d Y⟩
    omega
   .have B:((p:Int)!=(i:Int))=qT:=by rw[bne,dH,kE S];rfl
    let⟨g',o',cap',yP,e0⟩:=q.rd.FC (show i<O pl by rw[n.o.1];exact f);injection yP with x1 x2 x3;clear x2 x3;injection x1 with x1;injection x1 with x1 x4;subst x1 x4;rw[a05]at e0;have ef:=q.1.free (g:=g) rfl i;simp only[fZ]at e0;have Q:=Z S;clear S;go_upto_region 8 with(fail);let⟨wd,fF⟩:=D (hY wr (Ad g i) (It p));have W:U wr [g] wd [g]:=fF▸qX wr g i _;have qY:OZs w0 wd (eC g 0 (O es) cap) (pl.set i (p:Int)):=fF▸q.vq (by rw[n.o.1];exact f) (p:Int);have hE3:=((H1.eU yM o).eU vm o).eU W o.o;have aMm:O (pl.set i (p:Int))=O es:=by rw[TS];exact n.1
    have hx3:∀x,x∈pl.set i (p:Int)->-1<=x/\x<O es:=λx m=>by
     rcases U1 m with h|h
     .exact n.2.1 x h
     .subst h;omega
    have aMf:(pl.set i (p:Int)).take (i+1)=a++[(p:Int)]:=by rw[Gm (by rw[n.o.1];exact f),n.o.2.2]
    have WL:=IH.out (pl.set i (p:Int)) wd Y hE3 V qY aMm hx3;rw[aMf]at WL;have d0:=W.cell c0 y;have d1:=W.cell c1 y;have HC:=Z WL;have iF:=Z (vm.ds W);rw[fF];clear fF W qY hE3 aMm hx3 aMf WL e0 ef;generalize hR:DL (O es) (LX es aU) k (a++[(p:Int)])=bEs at HC;have C:=Z hR;clear hR;cases bEs with
    |true=>
     go_wp2_with (go_at_call 186;apply HC.dC;rintro w5 ⟨u,F,z,v,r,hp5⟩;have HE:=Z (eI u (eI z (eI v (eI r hp5))));clear u z v r hp5);go_ret;obtain⟨u,z,v,r,hp5⟩:=HE.o;refine⟨?_,yM.ds (iF.ds u),F,z,v,r,?_⟩
     .rw[HG.o,show((gz (O es)).any λp=>p !=i&&DL (O es) (LX es aU) k (a++[(p:Int)]))=qT from uj.2 ⟨p,wW.2 aY,by rw[C.o,Zn];simpa using Q.o⟩];rfl
     .exact ZM110
    |false=>
     go_wp2_with (go_at_call 186;apply HC.dC;rintro w5 ⟨u,F,z,v,r,hp5⟩;have HE:=Z (eI u (eI z (eI v (eI r hp5))));clear u z v r hp5);go_roundg (O es-(p+1))
     .obtain⟨u,z,v,r,hp5⟩:=HE.o;refine⟨iF.ds u,p+1,F,Y,rfl,eY,z,v,r,?_,λd mu=> ?_⟩
      .exact ZM110
      .by_cases h:d=p
       .subst h;rw[C.o,Bool.and_false]
       .exact NH d Y
     omega
  .have C:dT (((gz (O es)).any λp=>p !=i&&DL (O es) (LX es aU) k (a++[(p:Int)]))=rR):=Z (by
    rw[x'];intro d mu;have:=NH.o d (kX (wW.1 mu));rw[this];decide)
   go_wp2;go_ret;exact⟨by rw[HG.o,C.o];rfl,yM.ds vm,pl,q,n.1,n.2.1,n.2.2⟩
theorem aIp:wV prog 50 3 1 8 #[mj mn 0]:= .QZ (z:=X 0) underlying50 dJ rfl rfl
theorem Dx(v1:aE)(es:List Nat)(aU:Nat)(w:aA)(h:E0 w v1 es)(hm:O es<=7)(hv:aU<=1048576)(hs:∀s,s∈es->s<2^32):
  aK prog 144 #[.agg #[mj mn aU,v1]] w λe w'=>e=mi (nj (kT es aU))/\U w [] w' []:=by
 obtain⟨ad,cap,rfl,-⟩:=h.len;by_cases d:O es=0
 .have c:((O es:Int)==0)=qT:=by rw[d];rfl
  have m:es=[]:=dt.1 d;have y:dT (kT es aU=qT):=Z (by rw[m];rfl);clear d m;go_in;go_wp2;go_ret;exact⟨by rw[y.o];rfl,(U.refl w []).alloc _⟩
 .have c:((O es:Int)==0)=rR:=by rw[show((O es:Int)==0)=decide (O es=0)from dH (O es) 0];exact kE d
  have aKP:(0:Int)<(O es:Int):=Y;have W:=aIp.xO (O es) (O es) (fV _) Y GC;simp only[yC]at W;let⟨wa,C⟩:=D (i5 w (kd #[X aU,jS ad (O es) cap] 64));have z:=Za C;have f:i7 wa.heap=i7 w.heap+1:=by rw[<-C];simp
  have u:uD wa w.heap.size #[X aU,jS ad (O es) cap] 64:=by rw[<-C];exact mE ..
  have hT:=aIp.yY (O es) (O es) (fV _) GC wa Y;simp only[yC]at hT;generalize S:i5 wa (kd (madeCells #[X 0] (O es)) 3)=wb at hT;have P:=Za S;have q:OZs wa wb (jS (H ⟨i7 wa.heap,0,K⟩) (O es) (O es)) (Co (O es) 0):=by
   refine⟨?_,λg N=>by simp[i6]at N;omega⟩;exact ZM113
  have L:=q.vq (i:=0) (kG ic) (-1);obtain⟨c0,MU⟩:∃c0,h8 wb ⟨i7 wa.heap,0,K⟩=H c0:=by
   let⟨g',o',cap',B,e0⟩:=q.rd.FC (i:=0) (kG ic);injection B with x1 _ _;injection x1 with x1;injection x1 with x1 x4;subst x1 x4;exact⟨_,e0⟩
  have hf0:=q.1.free (g:=i7 wa.heap) rfl 0;let⟨wc,l⟩:=D (hY wb ⟨i7 wa.heap,0,K⟩ (X (-1)));have k:OZs wa wc (jS (H ⟨i7 wa.heap,0,K⟩) (O es) (O es)) ((Co (O es) 0).set 0 (-1)):=l▸L;have vm:U wb [i7 wa.heap] wc [i7 wa.heap]:=l▸(U.refl wb [i7 wa.heap]).setCell (a:=⟨i7 wa.heap,0,K⟩) (.inl J) _;have r:U wa [] wc []:=P.bJ vm (λb c=>by simp at c;omega);have v:=Ym (jS ad (O es) cap) es aU wa.heap.size (O es) wa hm hv hs Y (O es-1) ((Co (O es) 0).set 0 (-1)) wc Y (h.on (z.ds r)) (λb c=>by
    have:∀b,Value.nL (jS ad (O es) cap)=H b->b<i7 w.heap:=λb c=>by
     rcases h with⟨Q,_⟩|⟨g,o,cap',B,_,_,N,_⟩
     .exact dY Q d
     .injection B with x1 _ _;subst x1;simp[Value.nL]at c;omega
    have:=this b c;omega) k J (λx hx=>by
    rcases U1 hx with F|F
    .have:=(List.mem_replicate.1 F).2;omega
    .omega)
  have p:O es-(O es-1)=1:=Y;rw[p,show(((1:Nat):Int))=1 from rfl]at v;have G:((Co (O es) (0:Int)).set 0 (-1)).take 1=[-1]:=by
   obtain⟨n,T⟩:∃n,O es=n+1:=⟨O es-1,Y⟩;rw[T];rfl
  rw[G]at v;have y:dT (kT es aU=DL (O es) (LX es aU) (O es-1) [-1]):=Z (by
   unfold kT;rw[show es.isEmpty=rR by cases es;exact dY rfl d;rfl,B2];rfl)
  have HC:=Z v;have A:=(z.ds r);have d0:=r.cell (aP u (j:=0) rfl) J;have d1:=r.cell (aP u (j:=1) rfl) J;have e1:=Zc u 1;have Wz:=f.symm;clear h q L k vm v hT P z u d G p f;go_in;go_wp2_with (go_at_call 186;apply HC.o.dC;rintro w5 ⟨V,-⟩);go_ret;exact⟨by rw[y.o];rfl,A.bJ V (λb c=>by simp at c;omega)⟩
variable{gp:Nat}
theorem ZM105{P:Prop}(h:P:=by
  clear wO;go_wp2;go_meet;rw[HA.o,HX.o,<-QP.o];exact⟨rfl,((U.refl _ _).alloc _).drew,mE _ _,rfl,rfl⟩):P:=h
abbrev G3(w0 w:aA)(v:aE)(ns:List (bE×aE)):Prop:=bN nS sT 132 7 w0 w v ns
theorem yz:kD prog 51 132 7 72:= .QZ (z:= .agg #[X 0,X 0,cR,X 0,X 0,X 0,nj rR]) underlying51 dJ rfl
def OV(w0 w:aA)(gp:Nat)(ns:List (bE×aE)):Prop:=∀x,x∈ns->iC w0 w x.2 x.1.vars/\i6 x.2≠H gp
theorem OV.eU(h:OV w0 w gp ns){ms:List (bE×aE)}(l:G3 wb w v ms)(j:U w S w' S')(e:∀k,k∈S->k=gp\/i6 v=H k):OV w0 w' gp ns:=λx i=>by
 let⟨d,c⟩:=h x i;refine⟨d.eU j λg b m=> ?_,c⟩;rcases e g m with a|a
 .subst a;exact c b
 .exact eV.KA d.1 l.1 E g b a
theorem OV.on(h:OV w0 w gp ns)(b:U w [] w' S'):OV w0 w' gp ns:=λx a=>⟨(h x a).1.on b,(h x a).2⟩
def oF(pa:Int)(b:List Nat)(l:List ES)(s:cU):bE:=
 if s.aG=1 then⟨2,0,cB (fS (yO l s.bY) s.cut),hJ b s.bY 0,0,pa,rR⟩else⟨3,0,cB (yO l s.eR),hJ b s.eR 0,hJ b s.bY 0,pa,rR⟩
def CY(s:cU):Nat:=if s.aG=1 then s.bY else s.eR
theorem aHJ(pa:Int)(b:r6)(l:List ES)(s:cU):gK pa b l s=(b.1++[oF pa b.2 l s],b.2.set (CY s) (O b.1)):=by
 unfold gK oF CY;split<;>rfl
theorem aBZ(a:Nat):fS a 0=a:=Fj λv=>by rw[cH,VL];simp
theorem Gq{b:List Nat}{s:cU}(hd:(mV l).Nodup)(d:s.aG≠1->s.cut=0){t:Nat}(a:(CY s,t)∈l):(oF pa b l s).vars=cB (fS t s.cut):=by
 unfold oF;unfold CY at a;by_cases c:s.aG=1
 .rw[bW c]at a|-;rw[wI hd a]
 .rw[R c]at a|-;rw[wI hd a,d c,aBZ]
theorem aFB{k:Nat}(a:k<O l):((hJ l k sT).1,(hJ l k sT).2)∈l:=bO a
theorem U.quiet(h:U w [] w' S')(S:List Nat):U w S w' S:=(h.aL (T:=S) J).to λ_ a=> .inl a
theorem UJ{f:Nat->aE}{a b c d e g i:aE}(l:a=f 0)(v:b=f 1)(u:c=f 2)(q:d=f 3)(p:e=f 4)(m:g=f 5)(n:i=f 6):∀j,j<7->hJ [a,b,c,d,e,g,i] j undef=f j:=λj r=>by
 match j,r with
 |0,_=>exact l
 |1,_=>exact v
 |2,_=>exact u
 |3,_=>exact q
 |4,_=>exact p
 |5,_=>exact m
 |6,_=>exact n
theorem aAr(nv lv:aE)(gp pc:Nat)(ns:List (bE×aE))(pr:List Nat)(l:List ES)(s:cU)(w0 w:aA)(mw:G3 w0 w nv ns)(B:iC w0 w (jS (H ⟨gp,0,K⟩) (O pr) pc) pr)(hl:Mo w lv l)(hs:kM l)(hd:(mV l).Nodup)(Sv:O l<=7)(hp7:O pr<=7)(bA9:O ns<=41)(p:∀x,x∈pr->x<64)(us:s.aG=1\/s.aG=2\/s.aG=3)(q:s.bY<O pr)(hi:s.eR<O pr)(hc:s.aG≠1->s.cut=0)(F8:s.cut<2^32)(F:CY s∈mV l)(W:U w0 [] w []):
  aK prog 103 #[nv,jS (H ⟨gp,0,K⟩) (O pr) pc,lv,.agg #[mj mn s.aG,mj mn s.bY,mj mn s.eR,mj nr s.cut]] w λe w'=>
   ∃u x,e=mi u/\G3 w0 w' u (ns++[(oF 0 pr l s,x)])/\iC w0 w' (jS (H ⟨gp,0,K⟩) (O pr) pc) (pr.set (CY s) (O ns))/\iC w w' x (oF 0 pr l s).vars/\U w (gp::nv.ownBlock.toList) w' (gp::u.ownBlock.toList)/\U w0 [] w' []:=by
 obtain⟨na,nc,rfl,-⟩:=mw.len;obtain⟨la,lc,rfl,-⟩:=hl.len;let⟨wa,dM⟩:=D (i5 w (kd #[X s.aG,X s.bY,X s.eR,mj nr s.cut] 218));have cV:=Za dM;have CD:i7 wa.heap=i7 w.heap+1:=by rw[<-dM];simp
 have lC:=Zb dM;obtain⟨b0,b1,b2,b3⟩:=Z4 lC;have m:=B.on cV;have r:=(show eV _ _ _ _ _ _ from m.1).cell (i:=s.bY) (j:=0) q Y;have e2:=(show eV _ _ _ _ _ _ from m.1).cell (i:=s.eR) (j:=0) hi Y;rw[yC,qZ]at r e2;simp only[fN]at r e2;have rP:=p _ (bO (d:=0) q);have NW:=p _ (bO (d:=0) hi);have HP:=Z B;have HN:=Z mw;have HL:=Z hl;have HU0:=Z W;have HS:=Z hs;have HD:=Z hd;have HC:=Z hc;have yM:=Z cV;have U7:=Z lC;have HPB:=Z p;let⟨pe,Xf⟩:=D (hJ pr s.bY 0);let⟨pi,Lb⟩:=D (hJ pr s.eR 0);rw[Xf]at r rP;rw[Lb]at e2 NW;have v:=Z (show oF 0 pr l s=if s.aG=1 then⟨2,0,cB (fS (yO l s.bY) s.cut),pe,0,0,rR⟩else⟨3,0,cB (yO l s.eR),pi,pe,0,rR⟩ by unfold oF;rw[Xf,Lb]);let⟨x,hx⟩:=D (oF 0 pr l s);have sp:dT (∀t,(CY s,t)∈l->x.vars=cB (fS t s.cut)):=Z λt ht=>by rw[<-hx];exact Gq hd hc ht
 have FH:=Z (show CY s=if s.aG=1 then s.bY else s.eR from rfl);let⟨a,p8⟩:=D (CY s);rw[hx]at v|-;rw[p8]at FH sp F|-;have KY:a<O pr:=by rw[FH.o];split<;>assumption
 generalize fR:i7 w.heap+1=B1 at CD;have QP:=Z CD;have bBa:i7 w.heap<B1:=Y;clear B Xf Lb hx p8 mw hl W hs hd hc cV lC CD p m fR;go_in;have l1:=iP (IL b0);have l2:=iP (IL r);go_wp2;go_region;go_upto_if 27 with(fail);go_cut [10] (λs10 wx=>s10= It a/\U wa [] wx []/\uD wx B1 #[X x.aG,X x.qV,cR,X x.cM,X x.bP,X 0,nj rR] 132/\x.bS=0/\x.mL=rR)
 case first=>
  by_cases wO:s.aG=1
  .have g1:((s.aG:Int)==1)=qT:=by rw[wO];rfl
   have HX:dT (x=⟨2,0,cB (fS (yO l s.bY) s.cut),pe,0,0,rR⟩):=Z (by rw[v.o,bW wO]);have HA:dT (a=s.bY):=Z (by rw[FH.o,bW wO]);exact ZM105
  .have g1:((s.aG:Int)==1)=rR:=kG GD;have HX:dT (x=⟨3,0,cB (yO l s.eR),pi,pe,0,rR⟩):=Z (by rw[v.o,R wO]);have HA:dT (a=s.eR):=Z (by rw[FH.o,R wO]);exact ZM105
 case rest=>
  obtain⟨rfl,P7,hBc,hxp,dz⟩:=hcut;rw[QP.o];have HUC:=Z P7;have HBC:=Z hBc;have HXP:=Z hxp;have Tk:=Z dz;clear P7 hBc hxp dz r e2 dM l1 l2;go_wp2;go_loopg [11] (O l) (λg i wr=>U wa [] wr []/\∃(k:Nat) (va:Option cg) (vl vc:Nat),k<=O l/\g=O l-k/\i=X k/\
   uD wr B1 #[X x.aG,X x.qV,jS va vl vc,X x.cM,X x.bP,X 0,nj rR] 132/\((∃j,j<k/\(hJ l j sT).1=a)->iC wa wr (jS va vl vc) x.vars))
  .exact⟨HUC,0,K,0,0,Y,rfl,rfl,HBC,λ⟨j,V,_⟩=>dY V Y⟩
  obtain⟨hU,k,va,vl,vc,us,rfl,rfl,hB,hV⟩:=hrel;have A:=Z hU;have f:=Z hB;have HV:=Z hV;clear hU hB hV;by_cases aY:k<O l
  .let⟨g,o,cap,hv,hg,c0,c1⟩:=(HL.on (yM.ds A)).zm aY;obtain rfl:=IK hv;simp only[wP]at c0 c1;have jW:=aFB aY;have KV:=HS.aS k;generalize hy:hJ l k sT=y at c0 c1 jW KV;have ue:=Z jW;have HY:=Z hy;clear jW hy;by_cases C:y.1=a
   .have g1:((y.1:Int)==(a:Int))=qT:=by rw[C];simp
    have sp:dT (x.vars=cB (fS y.2 s.cut)):=Z (sp.o y.2 (C▸ue));have d3:=(A.o).cell b3 J;go_upto_region 10 with(fail);refine e7 10 (ez c1<|ey d3) (λQ=> ?_);refine ek [0,1,5,2,6,3,4] ?_;refine Zo 7 λvm hK=> ?_;go_simp;go_at_call 146;apply(GP y.2 s.cut KV F8 _).cX;rintro e w4 ⟨rfl,rfl⟩;dsimp only;refine j5 ?_;clear hK vm;refine Zo 8 λvm hK=> ?_;go_simp;go_at_call 99;apply(Jk _ _ (Pc KV)).cX;rintro e w5 ⟨u,rfl,Ky,n⟩;dsimp only;obtain⟨ua,uc,rfl,-⟩:=Ky.len;have n:U wr [] w5 []:=(U.refl wr []).drew.ds n;have Q:=eI (n.cell Q.1 J) (n.cell Q.2 J);have N:=n.aC f J;have gN:=Z n;have c:=Z N;have lM:=Z Ky;clear n N Ky;have f2:=Zc c 2;have ff:=aN c.o;refine j5 ?_;clear hK vm;refine I 9 ?_;refine Zo 10 λvm hK=> ?_;go_simp;refine LP ?_;clear hK vm;go_wp2;have Yl:=aF (i:=2) (jS ua (O (cB (fS y.2 s.cut))) uc) c.o;have jB:=qX w5 B1 2 (jS ua (O (cB (fS y.2 s.cut))) uc);have hV8:=lM.set c E jB;go_roundg (O l-(k+1))
    .exact⟨(A.ds gN).bJ jB (λb L=>by simp at L;subst L;rw[QP.o];exact fV _),k+1,ua,_,uc,Y,rfl,eY,Yl,λ_=>by rw[sp.o];exact hV8.eO A.size⟩
    omega
   .have g1:((y.1:Int)==(a:Int))=rR:=kG GD;go_wp2;go_roundg (O l-(k+1))
    .exact⟨A,k+1,va,vl,vc,Y,rfl,eY,f,λ⟨j,V,q⟩=>HV.o ⟨j,by
     rcases YB j k with h|h
     .exact h
     .obtain rfl:j=k:=Y;rw[HY.o]at q;exact dY q C,q⟩⟩
    omega
  .obtain rfl:k=O l:=Y;have G:∃j,j<O l/\(hJ l j sT).1=a:=by
    let⟨t,ht⟩:=kR.1 F;let⟨j,V,q⟩:=Na ht;exact⟨j,V,by rw[gV,kU V,O8,q]⟩
   have Kw:=HV.o G;obtain⟨a',c',hve,-⟩:=Kw.len;injection hve with y1 y2 y3;subst y1 y2 y3;have pw:=yM.ds A.o;have m:=HP.on pw;have r:=(show eV _ _ _ _ _ _ from m.1).cell (i:=a) (j:=0) KY Y;rw[yC,qZ]at r;have hpf:=eV.free m.1 (g:=gp) rfl a;have S:=m.2 gp rfl;obtain⟨f0,f1,f2,f3,f4,f5,f6⟩:=Z7 f.o;have eB:gp≠B1:=λe=>eV.ne m.1 f E (by rw[<-e];rfl);have z:U wr [gp] (hY wr (Ad gp a) (X (O ns))) [gp]:=qX wr gp a _;let⟨w5,oY⟩:=D (hY wr (Ad gp a) (X (O ns)));have Qm:=m.vq KY (O ns);simp only[fN]at Qm;rw[oY]at z Qm;have Fp:=(HN.on pw).eU z (λg hg F=>by
    obtain rfl:g=gp:=eP F;exact eV.KA m.1 (HN.on pw).1 E g rfl hg)
   have Hu:=eV.lt HP.1 gp rfl;have P:=Kw.eU z (λg hg F=>by
    obtain rfl:g=gp:=eP F;have:=Kw.2 g hg;rw[QP.o]at this;omega)
   have n:U w0 [] w5 []:=(HU0.ds pw).bJ z (λb L=>by simp at L;subst L;exact S);have N:=z.aC f (eP (Ne.symm eB));have Sd:=Z Fp;have bz:=Z P;have gN:=Z n;have wD:=Z Qm;have c:=Z N;have HW:=Z z;have L7:=Z oY;clear Fp P n Qm N z oY;clear Kw pw m G S;go_upto_region 12 with(fail);rw[L7.o];have f0:=Zc c 0;have f1:=Zc c 1;have f2:=Zc c 2;have f3:=Zc c 3;have f4:=Zc c 4;have f5:=Zc c 5;have f6:=Zc c 6;go_wp2_with (at_builtin;refine cK yz rfl _ _ rfl Sd gN Yr [X x.aG,X x.qV,jS va (O x.vars) vc,X x.cM,X x.bP,X 0,nj rR] (x,jS va (O x.vars) vc) Yr rfl (UJ rfl rfl rfl rfl rfl (by simp[nS,HXP.o]) (by simp[nS,Tk.o])) rfl Y GC ?_;rintro g2 gW w7 yQ gD xS-;have QR:=Z yQ;have PF:=Z gD;have Mv:=Z xS;clear yQ gD xS);go_ret;refine⟨_,_,rfl,QR,wD.jT Sd E Mv,(bz.jT Sd E Mv).eO yM.size,?_,PF⟩;exact(((yM.ds A).quiet _).ds (HW.jT _)).ds ((Mv.aL (T:=gp::(jS na (O ns) nc).ownBlock.toList) (λk us=>UA _ us)).to (by
    intro k us;rcases xZ.1 us with h|h
    .exact .inl (by simp[h])
    .exact(Mv.fresh k h).imp (λh=>UA _ h) id))
structure pA(es:List Nat)(aU:Nat):Prop where
 hv:aU<=30
 hm:O es<=7
 xJ:∀s,s∈es->s<2^aU
theorem pA.eD(h:pA es aU):∀s,s∈es->s<2^32:=λs hs=>xF (h.xJ s hs) (Fk E (j8 h.hv E))
theorem Ui(v1:aE)(es:List Nat)(aU:Nat)(w:aA)(h:E0 w v1 es)(a:pA es aU):
  aK prog 89 #[.agg #[mj mn aU,v1]] w λe w'=>e=mi (nj qT)/\U w [] w' []:=by
 obtain⟨ad,cap,rfl,-⟩:=h.len;have hv:=a.hv;have u:=a.hm;have A:decide ((aU:Int)<0)=rR:=kE Y;have g2:decide ((30:Int)<(aU:Int))=rR:=kE Y;have g3:decide ((7:Int)<(O es:Int))=rR:=kE Y;go_in;go_wp2;let⟨wa,b⟩:=D (i5 w (kd #[X aU,jS ad (O es) cap] 64));have j:=Za b;have b0:h8 wa ⟨w,0,K⟩=H (X aU):=b▸aP (mE w _) rfl;have F:h8 wa ⟨w,1,K⟩=H (jS ad (O es) cap):=b▸aP (mE w _) rfl;rw[b];go_loopg [3] (O es) (λg i wr=>wa=wr/\∃k:Nat,k<=O es/\g=O es-k/\i=X k)
 .exact⟨rfl,0,Y,rfl,rfl⟩
 obtain⟨rfl,k,C,rfl,rfl⟩:=hrel;by_cases c:k<O es
 .let⟨g,o,cap',v,e0⟩:=(h.on j).FC c;injection v with x1 x2 x3;subst x1 x3;simp only[FY]at e0;have l:=a.eD _ (bO (d:=0) c);have m:=a.xJ _ (bO (d:=0) c);obtain⟨S,p⟩:∃S,hJ es k 0=S:=⟨_,rfl⟩;rw[p]at e0 l m;have q:=Z m;go_wp2;go_loopg [4] (32-aU) (λg i wr=>wa=wr/\∃n:Nat,aU<=n/\n<=32/\g=32-n/\i=X n)
  .exact⟨rfl,aU,fV _,Y,rfl,rfl⟩
  obtain⟨rfl,n,y,x,rfl,rfl⟩:=hrel;by_cases B:n<32
  .have z:=Z λr=>(jN S n l r Y).mono λe w' h=>eI (h.1.ds (by rw[zbN (xF q.o (Fk E y))])) h.2;go_wp2_with (go_at_call 51;apply(z.o _).dC;rintro w2 rfl);go_roundg (32-(n+1))
   .exact⟨rfl,n+1,Y,Y,rfl,eY⟩
   omega
  .go_wp2;go_roundg (O es-(k+1))
   .exact⟨rfl,k+1,Y,rfl,eY⟩
   omega
 .go_wp2;go_ret;exact⟨rfl,j⟩
theorem ie:wV prog 62 65 1 4 #[mj nr 0]:= .QZ (z:=mj nr 0) underlying62 dJ rfl rfl
theorem qx(v:aE)(es:List Nat)(aU:Nat)(w:aA)(h:E0 w v es)(vm:O es<=7):
  aK prog 183 #[.agg #[mj mn aU,v]] w λe w'=>∃u,e=mi (.agg #[mj mn aU,u])/\yS w w' u es/\U w [] w' []:=by
 obtain⟨a,cap,hv,d⟩:=h.len;subst hv;have z:=ie.xO (O es) (O es) (fV _) Y d;simp only[yC]at z;go_in;have g:=d;unfold bH at d;go_wp2;have l:=(((U.refl w []).alloc (kd #[X aU,jS a (O es) cap] 64)).alloc (kd #[X 0,cR] 64));have n:=ie.yY (O es) (O es) (fV _) g ((w.alloc (kd #[X aU,jS a (O es) cap] 64)).alloc (kd #[X 0,cR] 64)) Y;have i:i7 ((w.alloc (kd #[X aU,jS a (O es) cap] 64)).alloc (kd #[X 0,cR] 64)).heap=i7 w.heap+1+1:=J;rw[i]at n;let⟨w2,q,A,r,p⟩:=T8 (w0:=w) ie.ok Y 3 (i7 w.heap+1+1) n Y (l.alloc _) (h.on (l.alloc _)) (λx _ j N=>rfl);simp only[yC]at q;simp only[q,Result.andThen_ok];have C:=Z A;have B:uD w2 w.heap.size #[X aU,jS a (O es) cap] 64:=p.aC (aq _ _ _ _) (by simp;omega);have c:uD w2 (i7 w.heap+1) #[X 0,cR] 64:=p.aC (ao _ _ _ _) J;have G:=Zc B 0;have e0:=Zc c 0;have f:=Zc c 1;have L:=aN c;go_wp2;refine mY (iI ⟨i7 w.heap+1,0,K⟩ rfl Yr (v:= .agg #[X aU,jS (H ⟨i7 w.heap+1+1,0,K⟩) (O es) (O es)]) (by go_simp)) rfl ?_;have m:=UK (x:=X aU) (y:=jS (H ⟨i7 w.heap+1+1,0,K⟩) (O es) (O es)) c;exact⟨_,rfl,C.set c E m.2,r.bJ m.2 (λb F=>by simp at F;omega)⟩
theorem ZM58{P:Prop}(h:P:=by
  have hS:=UK (x:=X 0) (y:=cR) iU;refine mY (A4 (A:=⟨i7 w.heap+1,0,K⟩) (T:=64) rfl Yr (v:= .agg #[X 0,cR]) (by go_simp)) rfl ?_;exact⟨rfl,eQ.bJ hS.2 (λb hb=>by simp at hb;omega)⟩):P:=h
theorem aJL(hv av:aE)(ps:List (dO×aE))(q:bK)(w:aA)(h:ED w hv av ps q)(hs:fY q≠0):
  aK prog 16 #[.agg #[mX q.name,hv,av]] w λe w'=>e=mi (mr #[.agg #[mj mn 0,jS K 0 0],mj nr 0,mj mn (fY q)])/\U w [] w' []:=by
 obtain⟨ha,g,rfl,-⟩:=h.head.len;obtain⟨d,c,rfl,-⟩:=h.aD.len;have a:=h.len;rw[a]at h|-;have hb:(fY q !=0)=qT:=by rw[bne_iff_ne];exact hs
 let⟨s,n⟩:=D (fY q);rw[n]at hb|-;let⟨wa,i⟩:=D (i5 (i5 w (kd #[mX q.name,jS ha (O q.head) g,jS d (O q.aD) c] 25)) (kd #[X 0,cR] 64));have l:U w [] wa []:=i▸((U.refl w []).alloc _).alloc _;have j:uD wa w.heap.size #[mX q.name,jS ha (O q.head) g,jS d (O q.aD) c] 25:=by rw[<-i];exact lP ..
 have p:uD wa (i7 w.heap+1) #[X 0,cR] 64:=by rw[<-i];exact lO ..
 have b0:=Zc j 0;have u:=Zc j 1;have b2:=Zc j 2;have r:dT (uJ 46 #[.agg #[mX q.name,jS ha (O q.head) g,jS d (O q.aD) c]] wa λe w'=>e=mi (X s)/\U wa [] w' []):=Z ((Ar _ _ ps q wa (h.on l)).mono λe w' h=>⟨h.1.ds (by rw[n]),h.2⟩);go_in;go_wp2_with (go_at_call 46;apply r.dC;intro w2 m;have iU:=m.aC p J;obtain⟨e0,z⟩:=Z2 iU;have B:=aN iU;have eQ:=(l.ds m));exact ZM58
def vQ(vs cZ:List dO)(k:Nat):Nat:=(List.range k).foldl (λs v=>if hJ vs v bU∈cZ then s+2^v else s) 0
theorem W6(vs cZ:List dO)(k:Nat):vQ vs cZ (k+1)=if hJ vs k bU∈cZ then vQ vs cZ k+2^k else vQ vs cZ k:=by
 unfold vQ;rw[dr,um];rfl
theorem Kk(vs cZ:List dO)(k:Nat):vQ vs cZ k<2^k:=(F2 vs cZ k _ rfl).1
theorem gG(h:fY q=0):1<=O q.aD/\O q.aD<=6/\O (vars q)<=30/\(∀a,a∈q.aD->O a.aV<=5)/\oO q.head=rR/\∀x,x∈q.head->x∈vars q:=by
 rw[Uu]at h;by_cases g:PX q=rR
 .rw[bW g]at h;cases h
 .rw[R g]at h;by_cases e:(q.aD.all λa=>a.aV.all λt=> !gJ t)=rR
  .rw[bW e]at h;cases h
  .rw[R e]at h;by_cases m:O q.aD=0\/6<O q.aD
   .rw[bW m]at h;cases h
   .rw[R m]at h;cases c:q.aD.any λa=>decide (5<O a.aV)with
    |true=>rw[c]at h;cases h
    |false=>
     rw[c]at h;cases j:oO q.head with
     |true=>rw[j]at h;cases h
     |false=>
      rw[j]at h;cases d:q.head.any λh=>decide (h∉vars q)with
      |true=>rw[d]at h;cases h
      |false=>
       have i:∀a,a∈q.aD->O a.aV<=5:=λa ha=>by
        rw[x']at c;have:=c a ha;simp at this;omega
       refine⟨Y,Y,?_,i,rfl,λx n=> ?_⟩
       .rw[RI];refine j8 (iB _ _) ?_;have:∀l:List pB,(∀a,a∈l->O a.aV<=5)->O (l.flatMap (·.aV))<=5*O l:=by
         intro l;induction l with
         |nil=>intro _;simp
         |cons a l ih=>
          intro hl;rw[S0,E7,TT];have g:=hl a J;have e:=ih λb p=>hl b (UA _ p);omega
        have:=this q.aD i;simp only[B4];omega
       .rw[x']at d;simpa using d x n
theorem qQ(h:fY q=0):pA (aJ q) (O (vars q)):=by
 let⟨c,d,b,_⟩:=gG h;refine⟨b,by unfold aJ;rw[r8];omega,λs hs=> ?_⟩;obtain⟨a,_,rfl⟩:=AE.1 hs;exact zD _ _
end Go.Proofs.YtohhhhfdpceppaaGreatDoor
