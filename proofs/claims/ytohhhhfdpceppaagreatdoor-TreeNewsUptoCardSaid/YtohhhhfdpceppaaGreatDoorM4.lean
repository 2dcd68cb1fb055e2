/- Part of the proof that the tied card of a law of the tree holds; no condition is added. -/
import Derived.Test.YtohhhhfdpceppaaGreatDoorM2
namespace Go.Proofs.YtohhhhfdpceppaaGreatDoor
set_option maxHeartbeats 4000000
set_option maxRecDepth 100000
set_option linter.all false
open Go.RowKit Go.Maps Go.Proofs.Tryz Tryz
open _root_.Array renaming size→i7,length_toList→H3
open _root_.Bool renaming false→rR,true→qT,false_eq_true→y',false_and→T1
open _root_.Go.Ending renaming returned→mi
open _root_.Go.IntKind renaming i64→mn,u8→n9
open _root_.Go.Obj renaming cells→kd
open _root_.Go.Value renaming bool→nj,int→mj,ownBlock→i6,pointer→lr,slice→jS,string→mX,tuple→mr
open _root_.Go.World renaming alloc→i5,cell?→h8,setCell→hY
open _root_.Inhabited renaming default→sT
open _root_.List renaming getD→hJ,length→O,length_dropLast→gz,mem_of_head?→oj,erase→oq,flatMap_cons→vW,foldl_cons→wn,range→yo,append_of_mem→zb,length_pos_of_mem→zN,eq_nil_or_concat→Bk,mem_erase_of_ne→B2,foldl_nil→B4,getLast?_eq_getElem?→B6,getElem_mem→Ct,append_eq_nil_iff→El,getElem?_set_self→EA,getElem?_eq_none→EB,dropLast_eq_take→F6,flatMap_append→IF,nodup_append→I3,take_add_one→KH,flatMap_nil→Lf,cons_append→L1,idxOf_cons→OM,append_nil→Qn,nil_append→Qt,nodup_nil→S0
open _root_.Option renaming none→K,some→H,mem_toList→Co
open Go renaming World→aA,Value→aE,Calls→aK,TypeId→ap,maxLen→bH,Ending→cc,Addr→cg
open Go.RowKit renaming Hid→dT
open _root_.Nat renaming zero_lt_of_lt→x',testBit_lt_two_pow→zn,mod_lt→zo,mod_eq_of_lt→z',pow_le_pow_right→B0,lt_of_lt_of_le→B5,ne_of_lt→Dc,mul_le_mul_left→Ic,mul_comm→I2,lt_trichotomy→JJ,div_eq_of_lt→L3,div_add_mod→Ps,mul_add_div→SN
variable{l:List ES}{es:List Nat}{V b c e i j m n:Nat}
def eA(ns:List bE)(i:Nat):bE:=hJ ns i sT
structure aCp(V:Nat)(ns:List bE)(m j:Nat):Prop where
 vars:∃s,s<2^V/\(eA ns j).vars=cB s
 leaf:(eA ns j).aG=1↔j<m
 qV:j<m->(eA ns j).qV=j
 FI:(eA ns j).aG=2->∃s t,s<2^V/\t<2^V/\(eA ns j).vars=cB s/\(eA ns (eA ns j).cM).vars=cB t/\part s t=qT/\s≠t
 US:(eA ns j).aG=3->∃s t,s<2^V/\t<2^V/\(eA ns j).vars=cB s/\(eA ns (eA ns j).cM).vars=cB s/\(eA ns (eA ns j).bP).vars=cB t/\part t s=qT
 apart:(eA ns j).aG=3->(eA ns j).cM≠(eA ns j).bP
structure Sj(V m:Nat)(b:r6)(l:List ES):Prop where
 inj:∀e e',e∈mV l->e'∈mV l->hJ b.2 e 0=hJ b.2 e' 0->e=e'
 free:∀e,e∈mV l->∀j,j<O b.1->eE (eA b.1 j) (hJ b.2 e 0)=rR
 Nh:∀j j' i,j<O b.1->j'<O b.1->eE (eA b.1 j) i=qT->eE (eA b.1 j') i=qT->j=j'
 vars:∀x,x∈l->(eA b.1 (hJ b.2 x.1 0)).vars=cB x.2
 EN:∀j,j<O b.1->aCp V b.1 m j
 CZ:m<=O b.1
 sm:∀x,x∈l->x.2<2^V
theorem mG(ns:List bE)(x:bE)(i:Nat):eA (ns++[x]) i=if i=O ns then x else eA ns i:=QF
theorem aCp.yD{ns:List bE}(h:aCp V ns m j)(e:mD ns)(d:j<O ns)(x:bE):aCp V (ns++[x]) m j:=by
 have a:eA (ns++[x]) j=eA ns j:=by rw[mG,R (by omega)]
 obtain⟨-,b2,c⟩:=e j d;refine⟨a▸h.vars,a▸h.leaf,a▸h.qV,?_,?_,a▸h.apart⟩
 .rw[a];intro b;have:(eA ns j).cM<j:=b2 (by grind [eA]);rw[mG,R (by omega)];exact h.FI b
 .rw[a];intro b;have g:(eA ns j).cM<j:=b2 (by grind [eA]);have i:(eA ns j).bP<j:=c b;rw[mG,mG,R (by omega),R (by omega)];exact h.US b
theorem jH{n:bE}:eE n i=qT↔((n.aG=2\/n.aG=3)/\n.cM=i)\/(n.aG=3/\n.bP=i):=by
 grind [eE]
theorem UU(a b:Nat):part (fS a b) a=qT:=jV.2 λv hv=>by
 grind [cH]
theorem vy{a:Nat}(h:part a b=qT)(c:b<2^V):a<2^V:=by
 refine Nat.lt_pow_two_of_testBit a λi d=> ?_;grind [jV,zn,B5,B0]
theorem aJh{a:Nat}{eb:Nat}(d:c=kL l eb (e,a))(b:c≠0):fS a c≠a:=by
 let⟨v,hv⟩:=DT b;grind [cH,kL]
theorem Sj.step{eb M W:Nat}{b:r6}(h:Sj V m b l)(d:GB eb b l M W)(pa:Int){k:Nat}{s:cU}(hn:next l k=H s):Sj V m (gK pa b l s) (make l s):=by
 have rX:=jG d.nd hn;obtain⟨hk,v,hi⟩:=rX.mem;have EJ:∀e,e∈mV l->hJ b.2 e 0<O b.1:=λe hm=>d.ok.C1 e (d.pm▸d.Kr e hm);have KW:s.bY<O b.2:=d.pm▸d.Kr _ v;let⟨t,G⟩:=kR.1 v;have GW:=wI d.nd G;have a1N:=h.sm _ G;by_cases z:s.aG=1
 ·
  have hb:gK pa b l s=(b.1++[⟨2,0,cB (fS (yO l s.bY) s.cut),hJ b.2 s.bY 0,0,pa,rR⟩],b.2.set s.bY (O b.1)):=by unfold gK;rw[bW z]
  obtain⟨t',eu,hcut,MU⟩:∃t',(s.bY,t')∈l/\s.cut=kL l k (s.bY,t')/\s.cut≠0:=by
   rcases rX with⟨-,h0,t',eu,hcut,MU⟩|⟨BH,_⟩
   .grind
   .omega
  obtain rfl:=D2 d.nd G eu;rw[hb,GW];have o:=rJ (l:=l) z;have r:∀e,hJ (b.2.set s.bY (O b.1)) e 0=if e=s.bY then O b.1 else hJ b.2 e 0:=λe=>by
   grind
  refine⟨λe L n f A=> ?_,λe n j g=> ?_,λj N i g P c1 c2=> ?_,λx a=> ?_,λj g=> ?_,by simp;have:=h.CZ;omega,?_⟩
  .rw[o]at n f;dsimp only at A;rw[r,r]at A;by_cases p:e=s.bY<;>by_cases e2:L=s.bY
   .rw[p,e2]
   .grind
   .grind
   .rw[if_neg p,if_neg e2]at A;exact h.inj e L n f A
  .rw[o]at n;dsimp only at g|-;rw[r,mG];rw[E7,Ty]at g;by_cases w:j=O b.1
   .rw[bW w];by_cases q:e=s.bY
    .grind [jH]
    .rw[R q];have:hJ b.2 s.bY 0≠hJ b.2 e 0:=λa=>q (h.inj _ _ v n a).symm;grind [jH]
   .rw[R w];by_cases q:e=s.bY
    .rw[bW q];obtain⟨-,b2,b3⟩:=d.ok.below j Y;grind [jH,eA]
    .rw[R q];exact h.free e n j Y
  .dsimp only at g P c1 c2;rw[E7,Ty]at g P;rw[mG]at c1 c2;by_cases p:j=O b.1<;>by_cases e2:N=O b.1
   .rw[p,e2]
   .rw[bW p]at c1;rw[R e2]at c2;have BI:hJ b.2 s.bY 0=i:=by grind [eE]
    rw[<-BI,h.free _ v N Y]at c2;cases c2
   .rw[R p]at c1;rw[bW e2]at c2;have BI:hJ b.2 s.bY 0=i:=by grind [eE]
    rw[<-BI,h.free _ v j Y]at c1;cases c1
   .rw[R p]at c1;rw[R e2]at c2;exact h.Nh j N i Y Y c1 c2
  .dsimp only;unfold make at a;rw[bW z]at a;obtain⟨y,C,rfl⟩:=AE.1 a;by_cases u:y.1=s.bY
   .rw[bW u];dsimp only;rw[r,bW u,mG,bW rfl];have:y.2=t:=D2 d.nd (show(s.bY,y.2)∈l by rw[<-u];exact C) G;rw[this]
   .rw[R u,r,R u,mG,R (by grind [kR])];exact h.vars y C
  .dsimp only at g|-;rw[E7,Ty]at g;by_cases w:j=O b.1
   .have IP:=EJ s.bY v;have hv:=h.vars _ G;have hm:=h.CZ;have B:eA (b.1++[⟨2,0,cB (fS t s.cut),hJ b.2 s.bY 0,0,pa,rR⟩]) j=⟨2,0,cB (fS t s.cut),hJ b.2 s.bY 0,0,pa,rR⟩:=by rw[mG,bW w]
    have bAf:=vy (UU t s.cut) a1N;refine⟨?_,?_,?_,?_,?_,?_⟩
    .grind
    .rw[B];simp;omega
    .intro h';omega
    .grind [UU,aJh,mG]
    .grind
    grind
   .exact(h.EN j Y).yD d.ok.below Y _
  .intro x a;unfold make at a;rw[if_pos z]at a;obtain⟨y,C,rfl⟩:=AE.1 a;by_cases u:y.1=s.bY
   .rw[bW u];exact vy (UU y.2 s.cut) (h.sm y C)
   .rw[R u];exact h.sm y C
 ·
  have hb:gK pa b l s=(b.1++[⟨3,0,cB (yO l s.eR),hJ b.2 s.eR 0,hJ b.2 s.bY 0,pa,rR⟩],b.2.set s.eR (O b.1)):=by unfold gK;rw[R z]
  obtain⟨S,eB,-⟩:=hi z;have XM:s.eR<O b.2:=d.pm▸d.Kr _ S;obtain⟨a',F,T,Q,aUS⟩:∃a' F,(s.bY,a')∈l/\(s.eR,F)∈l/\part a' F=qT:=by
   rcases rX with⟨BH,_⟩|⟨-,-,-,a',F,T,Q,aUS⟩
   .omega
   grind
  obtain rfl:=D2 d.nd G T;have aUH:=wI d.nd Q;have bBJ:=h.sm _ Q;rw[hb,aUH];have o:=rK (l:=l) z;have r:∀e,hJ (b.2.set s.eR (O b.1)) e 0=if e=s.eR then O b.1 else hJ b.2 e 0:=λe=>by
   grind
  have vm:∀e,e∈mV (make l s)->e∈mV l/\e≠s.bY:=λe hm=>by
   grind
  refine⟨λe L n f A=> ?_,λe n j g=> ?_,λj N i g P c1 c2=> ?_,λx a=> ?_,λj g=> ?_,by simp;have:=h.CZ;omega,?_⟩
  .obtain⟨n,-⟩:=vm e n;obtain⟨f,-⟩:=vm L f;dsimp only at A;rw[r,r]at A;by_cases p:e=s.eR<;>by_cases e2:L=s.eR
   .rw[p,e2]
   .grind
   .grind
   .rw[if_neg p,if_neg e2]at A;exact h.inj e L n f A
  .let⟨n,h1'⟩:=vm e n;dsimp only at g|-;rw[r,mG];rw[E7,Ty]at g;by_cases w:j=O b.1
   .rw[bW w];by_cases q:e=s.eR
    .grind [jH]
    .rw[R q];have n1:hJ b.2 s.eR 0≠hJ b.2 e 0:=λa=>q (h.inj _ _ S n a).symm;have n2:hJ b.2 s.bY 0≠hJ b.2 e 0:=λa=>h1' (h.inj _ _ v n a).symm;grind [jH]
   .rw[R w];by_cases q:e=s.eR
    .rw[bW q];obtain⟨-,b2,b3⟩:=d.ok.below j Y;grind [jH,eA]
    .rw[R q];exact h.free e n j Y
  .dsimp only at g P c1 c2;rw[E7,Ty]at g P;rw[mG]at c1 c2;have gP:∀y,eE (⟨3,0,cB F,hJ b.2 s.eR 0,hJ b.2 s.bY 0,pa,rR⟩:bE) i=qT->y<O b.1->eE (eA b.1 y) i=qT->False:=λy c C c'=>by
    rw[jH]at c;dsimp only at c;rcases c with⟨_,c⟩|⟨_,c⟩
    .rw[<-c,h.free _ S y C]at c';cases c'
    .rw[<-c,h.free _ v y C]at c';cases c'
   by_cases p:j=O b.1<;>by_cases e2:N=O b.1
   .rw[p,e2]
   .grind
   .grind
   .rw[if_neg p]at c1;rw[R e2]at c2;exact h.Nh j N i Y Y c1 c2
  .dsimp only;unfold make at a;rw[R z]at a;obtain⟨vC,-⟩:=LC.1 a;by_cases u:x.1=s.eR
   .rw[r,bW u,mG,bW rfl];have:x.2=F:=D2 d.nd (show(s.eR,x.2)∈l by grind) Q;rw[this]
   .rw[r,R u,mG,R (by grind [kR])];exact h.vars x vC
  .dsimp only at g|-;rw[E7,Ty]at g;by_cases w:j=O b.1
   .have IP:=EJ s.eR S;have bA8:=EJ s.bY v;have hv:=h.vars _ Q;have A8:=h.vars _ G;have hm:=h.CZ;have B:eA (b.1++[⟨3,0,cB F,hJ b.2 s.eR 0,hJ b.2 s.bY 0,pa,rR⟩]) j=⟨3,0,cB F,hJ b.2 s.eR 0,hJ b.2 s.bY 0,pa,rR⟩:=by rw[mG,bW w]
    refine⟨?_,?_,?_,?_,?_,?_⟩
    .grind
    .rw[B];simp;omega
    .intro h';omega
    .grind
    .grind [mG]
    .rw[B];intro _;exact λa=>eB (h.inj _ _ S v a)
   .exact(h.EN j Y).yD d.ok.below Y _
  .intro x a;unfold make at a;rw[R z]at a;exact h.sm x (LC.1 a).1
theorem DO{α:Type}(f:Nat->α)(d:α)(h:i<n):hJ ((yo n).map f) i d=f i:=by
 grind
theorem Sj.cN(pa:Int)(hs:∀s,s∈es->s<2^V):Sj V (O es) (cN pa es) (cD es):=by
 have g:∀i,i<O es->eA (YtohhhhfdpceppaaGreatDoor.cN pa es).1 i=⟨1,i,cB (hJ es i 0),0,0,pa,rR⟩:=λi q=>DO _ _ q;have l:∀i,i<O es->hJ (YtohhhhfdpceppaaGreatDoor.cN pa es).2 i 0=i:=λi q=>by
  show(yo (O es)).getD i 0=i;grind
 have hl:O (YtohhhhfdpceppaaGreatDoor.cN pa es).1=O es:=by simp[YtohhhhfdpceppaaGreatDoor.cN]
 have b:∀e,e∈mV (cD es)->e<O es:=λe v=>by grind [rL]
 have r:∀j i,j<O es->eE (eA (YtohhhhfdpceppaaGreatDoor.cN pa es).1 j) i=rR:=λj i a=>by rw[g j a];rfl
 refine⟨λe n d m u=> ?_,λe d j a=>r _ _ (hl▸a),λj y i a w c1 _=> ?_,λx p=> ?_,λj a=> ?_,Nat.le_of_eq hl.symm,λx p=> ?_⟩
 .rwa[l e (b e d),l n (b n m)]at u
 .grind
 .let⟨d,m⟩:=pS.1 (show(x.1,x.2)∈_ from p);rw[l _ d,g _ d,m]
 .rw[hl]at a;have c:=g j a;refine⟨?_,?_,?_,?_,?_,?_⟩
  .grind [Ct]
  .rw[c];simp[a]
  .intro _;rw[c]
  .grind
  .grind
  grind
 grind [pS,Ct]
theorem Sj.oP{b:r6}(h:Sj V m b l)(hd:(mV l).Nodup):Sj V m (b.1,l.map λx=>hJ b.2 x.1 0) (oP l):=by
 have c:∀e,e∈mV (YtohhhhfdpceppaaGreatDoor.oP l)->e<O l:=λe g=>by unfold YtohhhhfdpceppaaGreatDoor.oP at g;rw[rL,r8]at g;simpa using g
 have i:∀e (g:e<O l),hJ (l.map λx=>hJ b.2 x.1 0) e 0=hJ b.2 l[e].1 0:=λe g=>by
  grind
 have r:∀e (g:e<O l),l[e].1∈mV l:=λe g=>AE.2 ⟨_,gu g,rfl⟩;refine⟨λe n a d q=> ?_,λe a j v=> ?_,h.Nh,λx p=> ?_,h.EN,h.CZ,λx p=> ?_⟩
 .dsimp only at q;have a:=c e a;have d:=c n d;rw[i e a,i n d]at q;have:=h.inj _ _ (r e a) (r n d) q;have u:(l.map (·.1)).Nodup:=hd;exact(List.getElem_inj (h₀:=by simpa using a) (h₁:=by simpa using d) u).1 (by simpa using this)
 .dsimp only;rw[i e (c e a)];exact h.free _ (r e (c e a)) j v
 .let⟨a,d⟩:=pS.1 (show(x.1,x.2)∈_ from p);rw[r8]at a;dsimp only;rw[i _ a,h.vars _ (gu a),d];grind
 .let⟨a,d⟩:=pS.1 (show(x.1,x.2)∈_ from p);rw[List.length_map]at a;rw[d,gV,So,kU a];exact h.sm _ (gu a)
theorem Sj.dA{eb M W:Nat}(pa:Int):∀(n:Nat) (b:r6) (l:List ES) (c:r6) (k:List ES),Sj V m b l->GB eb b l M W->dA pa eb n b l=H (c,k)->Sj V m c k
 |0,b,l,c,k,h,hM,e=>by
  unfold YtohhhhfdpceppaaGreatDoor.dA at e;split at e
  .injection e with e;injection e with e1 e2;subst e1 e2;exact h
  .cases e
 |n+1,b,l,c,k,h,hM,e=>by
  unfold YtohhhhfdpceppaaGreatDoor.dA at e;split at e
  .injection e with e;injection e with e1 e2;subst e1 e2;exact h
  .cases a:next l eb with
   |none=>rw[a]at e;cases e
   |some s=>rw[a]at e;exact Sj.dA pa n _ _ c k (h.step hM pa a) (hM.step pa a) e
theorem Sj.fH{eb M W:Nat}(pa:Int):∀(n:Nat) (b:r6) (l:List ES),Sj V m b l->GB eb b l M W->Sj V m (fH pa n b l).1 (fH pa n b l).2
 |0,b,l,h,_=>h
 |n+1,b,l,h,hM=>by
  unfold YtohhhhfdpceppaaGreatDoor.fH;cases a:next l 0 with
  |none=>exact h
  |some s=>exact Sj.fH pa n _ _ (h.step hM pa a) (hM.step pa a)
abbrev Row:=List L4
def rng(v:L4):Prop:= -9223372036854775808<=v.num/\v.num<=9223372036854775807
def Yq(v:L4):Prop:=gX v=qT/\rng v
def dS(r:Row):Bool:=decide (O r<=30)&&r.all gX
def dU(r:Row):Prop:=dS r=qT/\∀v∈r,rng v
def lL(n:Nat):List Nat:=[n/72057594037927936%256,n/281474976710656%256,n/1099511627776%256,n/4294967296%256,n/16777216%256,n/65536%256,n/256%256,n%256]
def Id(c:UInt8):List Nat:=if c=0 then[0,255]else[c.toNat]
def Rb(l:List UInt8):List Nat:=l.flatMap Id
def D7(v:L4):List Nat:=if v.aG=1 then 1::lL (v.num+9223372036854775808).toNat else 2::(Rb v.dZ.data.toList++[0,0])
def bR(r:Row):List Nat:=r.flatMap D7
theorem U'{a:Nat}(ha:a<18446744073709551616)(c:b<18446744073709551616)(h:lL a=lL b):a=b:=by
 grind [lL]
theorem yy:∀(s t:List UInt8) (a b:List Nat),Rb s++(0::0::a)=Rb t++(0::0::b)->s=t/\a=b
 |[],[],a,b,h=>by simpa[Rb]using h
 |[],c::t,a,b,h=>by
  exfalso;simp only[Rb,Lf,Nb,vW,Id]at h;split at h
  .simp at h
  .rename_i e;simp only[zbZ,Nb,List.cons.injEq]at h;exact e (UInt8.toNat_inj.1 h.1.symm)
 |c::s,[],a,b,h=>by
  exfalso;simp only[Rb,Lf,Nb,vW,Id]at h;split at h
  .simp at h
  .rename_i e;simp only[zbZ,Nb,List.cons.injEq]at h;exact e (UInt8.toNat_inj.1 h.1)
 |c::s,d::t,a,b,h=>by
  simp only[Rb,vW,Id]at h;have ih:=yy s t a b;unfold Rb at ih;by_cases e:c=0
  .by_cases hd:d=0
   .rw[bW e,bW hd]at h;simp only[zbZ,Nb,List.cons.injEq,true_and]at h;obtain⟨rfl,g⟩:=ih h;exact⟨by rw[e,hd],g⟩
   .exfalso;rw[bW e,R hd]at h;simp only[zbZ,Nb,List.cons.injEq]at h;exact hd (UInt8.toNat_inj.1 h.1.symm)
  .by_cases hd:d=0
   .exfalso;rw[R e,bW hd]at h;simp only[zbZ,Nb,List.cons.injEq]at h;exact e (UInt8.toNat_inj.1 h.1)
   .rw[R e,R hd]at h;simp only[zbZ,Nb,List.cons.injEq]at h;obtain⟨rfl,g⟩:=ih h.2;exact⟨by rw[UInt8.toNat_inj.1 h.1],g⟩
theorem uR{v:L4}(h:gX v=qT):(v.aG=1/\v.dZ=bU)\/(v.aG=2/\v.num=0/\v.dZ.size<=64):=by
 grind [gX]
theorem aAz{u v:L4}(l:Yq u)(hv:Yq v){a b:List Nat}(h:D7 u++a=D7 v++b):u=v/\a=b:=by
 obtain⟨c,m⟩:=l;obtain⟨i,j⟩:=hv;unfold rng at m j;unfold D7 at h;rcases uR c with⟨e,t1⟩|⟨e,n,t1⟩<;>rcases uR i with⟨k2,t2⟩|⟨k2,n2,t2⟩
 .rw[bW e,bW k2]at h;simp only[zbZ,List.cons.injEq,true_and]at h;let⟨g,d⟩:=List.append_inj h (by simp[lL]);have:=U' Y Y g;refine⟨?_,d⟩;cases u;cases v<;>grind
 .grind
 .grind
 .rw[if_neg Y,if_neg Y]at h;simp only[zbZ,zcV,List.cons.injEq,true_and,Nb]at h;let⟨g,d⟩:=yy _ _ _ _ h;refine⟨?_,d⟩;cases u;cases v<;>grind [ByteArray.ext,Array.toList_inj]
theorem Vm(v:L4):D7 v≠[]:=by unfold D7;split<;>simp
theorem VY:∀{r s:Row},(∀v∈r,Yq v)->(∀v∈s,Yq v)->bR r=bR s->r=s
 |[],[],_,_,_=>rfl
 |[],v::s,_,_,h=>by
  grind [bR,Vm,El]
 |v::r,[],_,_,h=>by
  grind [bR,Vm,El]
 |u::r,v::s,hr,hs,h=>by
  simp only[bR,vW]at h;obtain⟨rfl,b⟩:=aAz (hr u J) (hs v J) h;rw[VY (λx a=>hr x (by simp[a])) (λx a=>hs x (by simp[a])) b]
theorem dU.cG{r:Row}(h:dU r):∀v∈r,Yq v:=λv hv=>⟨by
 have:=h.1;grind [dS],h.2 v hv⟩
theorem dU.len{r:Row}(h:dU r):O r<=30:=by
 have:=h.1;grind [dS]
theorem oJ{r s:Row}(a:dU r)(hs:dU s)(h:bR r=bR s):r=s:=VY a.cG hs.cG h
theorem PY:∀l:List UInt8,O (Rb l)<=2*O l
 |[]=>fV _
 |c::l=>by
  have:=PY l;unfold Rb at this|-;rw[vW,E7,TT];have a:O (Id c)<=2:=by unfold Id;split<;>simp
  omega
theorem Pd{v:L4}(h:gX v=qT):O (D7 v)<=131:=by
 unfold D7;split
 .simp[lL]
 .rename_i a;rcases uR h with⟨k,_⟩|⟨_,_,b⟩
  .exact dY k a
  .have:=PY v.dZ.data.toList;have e:O v.dZ.data.toList=v.dZ.size:=H3;grind
theorem DC:∀{r:Row},(∀v∈r,gX v=qT)->O (bR r)<=131*O r
 |[],_=>fV _
 |v::r,h=>by
  have c:=Pd (h v J);have b:=DC (r:=r) (λx a=>h x (by simp[a]));unfold bR at b|-;rw[vW,E7,TT];omega
theorem dU.vz{r:Row}(h:dU r):O (bR r)<=3930:=by
 have b:=DC (λv hv=>(h.cG v hv).1);have a:=h.len;omega
theorem ru(n:Nat):∀x∈lL n,x<256:=by
 intro x a;simp only[lL,xZ,List.mem_nil_iff,or_false]at a;rcases a with h|h|h|h|h|h|h|h<;>(subst h;exact zo _ E)
theorem aEc(v:L4):∀x∈D7 v,x<256:=λx a=>by
 unfold D7 at a;split at a
 .rcases xZ.1 a with rfl|a
  .decide
  .exact ru _ x a
 .rcases xZ.1 a with rfl|a
  .decide
  .rcases yU.1 a with a|a
   .let⟨c,_,b⟩:=List.mem_flatMap.1 a;unfold Id at b;split at b
    .simp at b;omega
    .simp at b;subst b;exact c.toNat_lt
   .simp at a;omega
theorem PV(r:Row):∀x∈bR r,x<256:=λx a=>by
 let⟨v,_,hv⟩:=List.mem_flatMap.1 a;exact aEc v x hv
structure lV where
 aG:Nat
 kJ:Nat
 eb:List Nat
 bP:List Nat
 up:List Nat
 aH:Nat
deriving DecidableEq,Inhabited
structure f7 where
 aM:List Row
 eG:Row->Nat
 fJ:List Row
 sd:List Row
structure R7 where
 kC:List Row
 aX:List Row
def dF(r:Row)(f8:List Nat):Row:=f8.map λc=>hJ r c aR
def lV.bT(s:lV):Nat:=if s.aG=2 then O s.eb else s.kJ
def qN(aH:Nat)(l:List Row)(r:Row):List Row:=if r∈l then l else if O l=aH then l else l++[r]
def fQ(c:Row->Nat)(r:Row)(n:Nat):Row->Nat:=λx=>if x=r then n else c x
def OF(s:lV)(n:f7)(sd:Bool)(r:Row):Except Nat (f7×R7):=
 if s.aG=1 then
  if r∈n.aM then .error 191 else if O n.aM=s.aH then .error 31 else .ok ({n with aM:=n.aM++[r]},⟨[r],[r]⟩)
 else if s.aG=2 then
  if n.eG (dF r s.eb)=65536 then .error 31
  else if n.eG (dF r s.eb)=0 then
   if dF r s.eb∉n.aM/\O n.aM=s.aH then .error 31
   else .ok ({n with aM:=qN s.aH n.aM (dF r s.eb),eG:=fQ n.eG (dF r s.eb) 1},⟨[dF r s.eb],[dF r s.eb]⟩)
  else .ok ({n with eG:=fQ n.eG (dF r s.eb) (n.eG (dF r s.eb)+1)},⟨[],[dF r s.eb]⟩)
 else if sd then
  if r∈n.sd then .error 191 else if O n.sd=s.aH then .error 31
  else .ok ({n with sd:=n.sd++[r],aM:=(n.fJ.filter λx=>decide (dF x s.bP=r)).foldl (qN s.aH) n.aM},
   ⟨n.fJ.filter λx=>decide (dF x s.bP=r),n.fJ.filter λx=>decide (dF x s.bP=r)⟩)
 else
  if r∈n.fJ then .error 191 else if O n.fJ=s.aH then .error 31
  else if dF r s.bP∈n.sd then .ok ({n with fJ:=n.fJ++[r],aM:=qN s.aH n.aM r},⟨[r],[r]⟩)
  else .ok ({n with fJ:=n.fJ++[r]},⟨[],[r]⟩)
def uN(s:lV)(n:f7)(sd:Bool)(r:Row):Except Nat (f7×R7):=
 if s.aG=1 then
  if r∈n.aM then .ok ({n with aM:=n.aM.erase r},⟨[r],[r]⟩)else .error 192
 else if s.aG=2 then
  if n.eG (dF r s.eb)=0 then .error 192
  else if n.eG (dF r s.eb)=1 then .ok ({n with aM:=n.aM.erase (dF r s.eb),eG:=fQ n.eG (dF r s.eb) 0},⟨[dF r s.eb],[dF r s.eb]⟩)
  else .ok ({n with eG:=fQ n.eG (dF r s.eb) (n.eG (dF r s.eb)-1)},⟨[],[dF r s.eb]⟩)
 else if sd then
  if r∈n.sd then
   .ok ({n with sd:=n.sd.erase r,aM:=(n.fJ.filter λx=>decide (dF x s.bP=r)).foldl List.erase n.aM},
    ⟨n.fJ.filter λx=>decide (dF x s.bP=r),n.fJ.filter λx=>decide (dF x s.bP=r)⟩)
  else .error 192
 else
  if r∈n.fJ then
   if r∈n.aM then .ok ({n with fJ:=n.fJ.erase r,aM:=n.aM.erase r},⟨[r],[r]⟩)else .ok ({n with fJ:=n.fJ.erase r},⟨[],[r]⟩)
  else .error 192
def iX(add:Bool)(s:lV)(n:f7)(sd:Bool)(r:Row):Except Nat (f7×R7):=if add then OF s n sd r else uN s n sd r
structure AC where
 n:Nat
 spec:Nat->lV
 dI:Nat->Option Nat
 dN:Nat->Bool
abbrev gZ:=Nat->f7
def yE(T:gZ)(i:Nat)(n:f7):gZ:=λj=>if j=i then n else T j
structure jU where
 T:gZ
 aQ:Nat
 aX:Nat->List Row
def cP(l:List Row)(t:List Row):List Row:=t.foldl (λl x=>if x∈l then l else l++[x]) l
def jU.count(w:jU)(n:Nat):Nat:=((List.range n).map λi=>O (w.aX i)).sum
def fE(P:AC)(add:Bool)(w:jU)(aS:Nat)(sd:Bool)(r:Row):jU×List Row×Nat×Nat:=
 match iX add (P.spec aS) (w.T aS) sd r with
 | .error e=>(w,[],0,e)
 | .ok (n,m)=>({w with T:=yE w.T aS n,aX:=λi=>if i=aS then cP (w.aX aS) m.aX else w.aX i},m.kC,O m.aX,0)
def gI(P:AC)(add:Bool)(aS:Nat)(sd:Bool):List Row->jU->List Row->jU×List Row
 |[],w,next=>(w,next)
 |r::l,w,next=>
  let d:=fE P add w aS sd r;gI P add aS sd l {d.1 with aQ:=d.1.aQ+1+if sd then d.2.2.1 else 0} (next++d.2.1)
def eT(P:AC)(add:Bool):Nat->Nat->List Row->jU->jU
 |0,_,_,w=>w
 |f+1,aS,kC,w=>
  match P.dI aS with
  |none=>w
  |some up=>if kC=[]then w else
   let g:=gI P add up (P.dN aS) kC w [];eT P add f up g.2 g.1
structure iL where
 T:gZ
 state:Nat
 lK:Nat
def lI(s:lV)(n:f7):Nat:=if s.aG=3 then O n.fJ else O n.aM
def eH(P:AC)(T:gZ):Nat:=((List.range P.n).map λi=>lI (P.spec i) (T i)).sum
def nH(P:AC)(bB:Nat->Option Row):List Nat->jU->jU
 |[],w=>w
 |i::l,w=>
  match bB i with
  |none=>nH P bB l w
  |some r=>
   let d:=fE P rR w i rR r;nH P bB l (eT P rR P.n i d.2.1 d.1)
def bX(P:AC)(add:Bool)(jO:Nat->Bool)(bB:Nat->Option Row):List Nat->jU->List Nat->jU×List Nat×Bool
 |[],w,done=>(w,done,rR)
 |i::l,w,done=>
  if !jO i then bX P add jO bB l w done else
  let w1:={w with aQ:=w.aQ+1};match bB i with
  |none=>bX P add jO bB l w1 done
  |some r=>
   let d:=fE P add w1 i rR r;if d.2.2.2=191\/d.2.2.2=192 then bX P add jO bB l d.1 done
   else if d.2.2.2=31 then(d.1,done,qT)
   else bX P add jO bB l (eT P add P.n i d.2.1 d.1) (done++[i])
def fC(P:AC)(cells:Nat)(aD:Nat)(t:iL)(add:Bool)(jO:Nat->Bool)(bB:Nat->Option Row):iL×Nat×Nat×Nat:=
 let g:=bX P add jO bB (List.range aD) ⟨t.T,0,λ_=>[]⟩ [];if g.2.2 then({t with T:=(nH P bB g.2.1.reverse g.1).T},0,0,110)
 else if add&&decide (cells<eH P g.1.T)then({t with T:=(nH P bB g.2.1.reverse g.1).T},0,0,201)
 else({T:=g.1.T,state:=t.lK+1,lK:=t.lK+1},g.1.aQ,g.1.count P.n,0)
variable{r:Row}
section
section
variable{P:AC}{add:Bool}
theorem sO(T:gZ)(n:f7)(h:j≠i):yE T i n j=T j:=R h
theorem n7(T:gZ)(i:Nat)(n:f7):yE T i n i=n:=bW rfl
theorem Ls(w:jU){aS:Nat}(sd:Bool)(r:Row)(h:i≠aS):(fE P add w aS sd r).1.T i=w.T i:=by
 unfold fE;split<;>grind [sO]
theorem JM{aS:Nat}(sd:Bool)(h:i≠aS):∀(l:List Row) (w:jU) (next:List Row),(gI P add aS sd l w next).1.T i=w.T i
 |[],_,_=>rfl
 |r::l,w,next=>by
  unfold gI;rw[JM sd h l];exact Ls w sd r h
theorem sP(h:∀j,P.dI j≠H i):∀(f aS:Nat) (l:List Row) (w:jU),(eT P add f aS l w).T i=w.T i
 |0,_,_,_=>rfl
 |f+1,aS,l,w=>by
  unfold eT;split
  .rfl
  .rename_i up a;split
   .rfl
   .rw[sP h f];exact JM _ (λe=>h aS (by rw[a,e])) _ _ _
def YR(add:Bool)(n:f7)(r:Row):Prop:=if add=qT then r∈n.aM else r∉n.aM
theorem aHA{w:jU}(c:(P.spec i).aG=1)(b:(w.T i).aM.Nodup)(h:(fE P add w i rR r).2.2.2≠31):YR add ((fE P add w i rR r).1.T i) r:=by
 unfold YR;cases add with
 |true=>
  by_cases a:r∈(w.T i).aM
  .grind [fE,iX,OF]
  .by_cases d:O (w.T i).aM=(P.spec i).aH<;>simp_all [dY,fE,iX,OF,n7]
 |false=>
  by_cases a:r∈(w.T i).aM
  .simp[fE,iX,uN,c,a,n7,b.mem_erase_iff]
  grind [fE,iX,uN]
theorem KI{jO:Nat->Bool}{bB:Nat->Option Row}(F:∀i j,(P.spec i).aG=1->P.dI j≠H i):∀(l:List Nat) (w:jU) (done:List Nat),l.Nodup->(∀i∈l,(P.spec i).aG=1)->(∀i∈l,(w.T i).aM.Nodup)->(bX P add jO bB l w done).2.2=rR->
  (∀i∈l,jO i=qT->∀r,bB i=H r->YR add ((bX P add jO bB l w done).1.T i) r)/\∀i,i∉l->(P.spec i).aG=1->(bX P add jO bB l w done).1.T i=w.T i
 |[],w,done,_,_,_,_=>⟨J,λ_ _ _=>rfl⟩
 |i::l,w,done,hd,hk,hn,he=>by
  rw[U8]at hd;have ih:=λw done=>KI (jO:=jO) (bB:=bB) F l w done hd.2 (λj a=>hk j (by simp[a]));have B:=hk i J;unfold bX at he|-;by_cases y:jO i=qT
  .simp only[y,Bool.not_true,Nc,E6]at he|-;cases z:bB i with
   |none=>
    simp only[z]at he|-;let⟨x,u⟩:=ih {w with aQ:=w.aQ+1} done (λj a=>hn j (by simp[a])) he;refine⟨λj a b r c=> ?_,λj a m=>u j (λv=>a (by simp[v])) m⟩;rcases xZ.1 a with rfl|a
    .rw[z]at c;cases c
    .exact x j a b r c
   |some r=>
    simp only[z]at he|-;let⟨d,G⟩:=D (fE P add {w with aQ:=w.aQ+1} i rR r);have p:=aHA (P:=P) (add:=add) (w:={w with aQ:=w.aQ+1}) (r:=r) B (hn i J);have g:∀j,j≠i->d.1.T j=w.T j:=λj a=>by rw[<-G];exact Ls _ _ _ a
    simp only[G]at he p|-;by_cases x:d.2.2.2=191\/d.2.2.2=192
    .rw[bW x]at he|-;let⟨u,A⟩:=ih d.1 done (λj a=>by rw[g j (λe=>hd.1 (e▸a))];exact hn j (by simp[a])) he;refine⟨λj a b r' c=> ?_,λj a m=>(A j (λv=>a (by simp[v])) m).ds (g j (λe=>a (by simp[e])))⟩;rcases xZ.1 a with rfl|a
     .rw[z]at c;injection c with c;subst c;rw[A j hd.1 B];exact p Y
     .exact u j a b r' c
    .rw[R x]at he|-;by_cases C:d.2.2.2=31
     .rw[bW C]at he;cases he
     .rw[R C]at he|-;have q:∀j,(P.spec j).aG=1->(eT P add P.n i d.2.1 d.1).T j=d.1.T j:=λj a=>sP (λk=>F j k a) _ _ _ _;let⟨u,A⟩:=ih (eT P add P.n i d.2.1 d.1) (done++[i]) (λj a=>by rw[q j (hk j (by simp[a])),g j (λe=>hd.1 (e▸a))];exact hn j (by simp[a])) he;refine⟨λj a b r' c=> ?_,λj a m=>(A j (λv=>a (by simp[v])) m).ds ((q j m).ds (g j (λe=>a (by simp[e]))))⟩;rcases xZ.1 a with rfl|a
      .rw[z]at c;injection c with c;subst c;rw[A j hd.1 B,q j B];exact p C
      .exact u j a b r' c
  .have y:jO i=rR:=eP y;simp only[y,Bool.not_false,yN]at he|-;let⟨x,u⟩:=ih _ _ (λj a=>hn j (by simp[a])) he;refine⟨λj a b r c=> ?_,λj a m=>u j (λv=>a (by simp[v])) m⟩;rcases xZ.1 a with rfl|a
   .rw[y]at b;cases b
   .exact x j a b r c
end
end
variable{aH:Nat}
section
structure zY(s:lV)(n:f7):Prop where
 dD:n.aM.Nodup
 FI:s.aG=2->∀r,r∈n.aM↔0<n.eG r
 US:s.aG=3->n.fJ.Nodup/\n.sd.Nodup/\∀r,r∈n.aM↔r∈n.fJ/\dF r s.bP∈n.sd
 z2:s.aG≠2->n.eG=λ_=>0
 z3:s.aG≠3->n.fJ=[]/\n.sd=[]
def eN(s:lV)(n:f7)(sd:Bool)(l:List Row):Prop:=
 if s.aG=2 then∀r,n.eG r=O (l.filter λx=>decide (dF x s.eb=r)) else if sd=qT then n.sd=l else n.fJ=l
theorem C9{l m:List Row}(b:l.Nodup)(a:∀x,x∈l->x∈m):O l<=O m:=by
 induction l generalizing m with
 |nil=>exact O9 _
 |cons x l ih=>
  rw[U8]at b;have g:=a x J;have d:=ih (m:=m.erase x) b.2 λy c=>(B2 (λe=>by grind)).2 (a y (by simp[c]));grind
theorem vL{l:List Row}{r:Row}(a:r∉l)(b:O l<aH):qN aH l r=l++[r]:=by
 unfold qN;rw[R a,R Y]
theorem vw:∀{xs l:List Row},xs.Nodup->(∀x,x∈xs->x∉l)->O l+O xs<=aH->xs.foldl (qN aH) l=l++xs
 |[],l,_,_,_=>J
 |x::xs,l,h1,h2,h3=>by
  rw[U8]at h1;rw[TT]at h3;rw[wn,vL (h2 x J) Y,vw h1.2 ?_ ?_]
  .simp
  .intro y b a;rcases yU.1 a with a|a
   .exact h2 y (by simp[b]) a
   .have:y=x:=eP a;subst this;exact h1.1 b
  .simp;omega
theorem CF:∀{xs l:List Row},l.Nodup->(xs.foldl oq l).Nodup
 |[],_,h=>h
 |x::xs,l,h=>by rw[wn];exact CF (h.erase x)
theorem J7:∀{xs l:List Row},l.Nodup->∀r,r∈xs.foldl oq l↔r∈l/\r∉xs
 |[],l,_,r=>J
 |x::xs,l,h,r=>by
  rw[wn,J7 (h.erase x),h.mem_erase_iff];simp only[xZ,not_or];constructor
  .rintro⟨⟨b,c⟩,a⟩;exact⟨c,b,a⟩
  .rintro⟨c,b,a⟩;exact⟨⟨b,c⟩,a⟩
theorem QJ(xs a:List Row)(l:List Row):(xs++a).foldl oq l=a.foldl oq (xs.foldl oq l):=um
section
variable{s:lV}{n:f7}{sd:Bool}{l:List Row}{r:Row}
theorem zY.oE(h:zY s n)(a:s.aG=2\/s.aG=3)(b:eN s n rR l):O n.aM<=O l:=by
 unfold eN at b;rcases a with a|a
 .rw[bW a]at b;have:=C9 (m:=l.map λx=>dF x s.eb) h.dD λx c=>by
   have d:=(h.FI a x).1 c;simp_all
  simpa using this
 .rw[R Y]at b;simp only[Nc,E6]at b;rw[<-b];exact C9 h.dD λx c=>((h.US a).2.2 x).1 c|>.1
theorem aJV(h:zY s n)(c:s.aG=2/\sd=rR\/s.aG=3)(u:s.aH=65536)(w:eN s n sd l)(hl:l.Nodup)(z:r∉l)(S:O l<65536)(hs:sd=qT->O n.fJ<=65536):
  ∃n' m,OF s n sd r= .ok (n',m)/\zY s n'/\eN s n' sd (l++[r])/\n'.aM=n.aM++m.kC/\(sd=qT->n'.fJ=n.fJ)/\(sd=rR->n'.sd=n.sd):=by
 rcases c with⟨c,rfl⟩|c
 .have f:=h.oE (.inl c) w;have g:=w;unfold eN at g;rw[bW c]at g;have T:n.eG (dF r s.eb)<=O l:=by grind
  have P:∀x,(O ((l++[r]).filter λG=>decide (dF G s.eb=x)))=n.eG x+if dF r s.eb=x then 1 else 0:=λx=>by grind
  unfold OF;rw[if_neg Y,if_pos c,if_neg Y];by_cases C:n.eG (dF r s.eb)=0
  .have i:dF r s.eb∉n.aM:=λu=>by have:=(h.FI c _).1 u;omega
   rw[bW C,R Y];refine⟨_,_,rfl,⟨?_,λ_ x=> ?_,λN=>Y,λd=>dY c d,h.z3⟩,?_,?_,J,J⟩
   .show(qN s.aH n.aM (dF r s.eb)).Nodup;rw[vL i Y,Fh];exact⟨h.dD,J,λa ha b v e=>by grind⟩
   .show x∈qN s.aH n.aM (dF r s.eb)↔0<fQ n.eG (dF r s.eb) 1 x;rw[vL i Y,List.mem_append,h.FI c x];grind [fQ]
   .grind [eN,fQ]
   grind [vL]
  .rw[R C];refine⟨_,_,rfl,⟨h.dD,λ_ x=> ?_,λN=>Y,λd=>dY c d,h.z3⟩,?_,J,J,J⟩
   .show x∈n.aM↔0<fQ n.eG (dF r s.eb) (n.eG (dF r s.eb)+1) x;rw[h.FI c x];grind [fQ]
   grind [eN,fQ]
 .let⟨F,q,o⟩:=h.US c;have g:=w;unfold eN at g;rw[R Y]at g;unfold OF;rw[R Y,R Y];cases sd with
  |true=>
   simp only[yN]at g|-;subst g;rw[R z,R Y];have i:∀x,x∈n.fJ.filter (λx=>decide (dF x s.bP=r))->x∉n.aM:=λx k u=>by
    grind
   have j:(n.fJ.filter (λx=>decide (dF x s.bP=r))).Nodup:=F.filter _;have L:O n.aM+O (n.fJ.filter (λx=>decide (dF x s.bP=r)))<=s.aH:=by
    have Q:(n.aM++n.fJ.filter (λx=>decide (dF x s.bP=r))).Nodup:=by
     rw[I3];exact⟨h.dD,j,λa ha b v e=>i b v (e▸ha)⟩
    have y:=C9 (m:=n.fJ) Q λx k=>by
     grind
    grind
   have B:=vw j i L;refine⟨_,_,rfl,⟨?_,λy=>Y,λ_=>⟨F,?_,λx=> ?_⟩,h.z2,λd=>dY c d⟩,?_,B,J,J⟩
   .show(List.foldl (qN s.aH) n.aM _).Nodup;rw[B,I3];exact⟨h.dD,j,λa ha b v e=>i b v (e▸ha)⟩
   .grind
   .grind
   grind [eN]
  |false=>
   simp only[Nc,E6]at g|-;subst g;have f:=h.oE (.inr c) w;have i:r∉n.aM:=λu=>z ((o r).1 u).1;rw[R z,R Y];have p:(n.fJ++[r]).Nodup:=by
    grind
   by_cases A:dF r s.bP∈n.sd
   .rw[if_pos A];refine⟨_,_,rfl,⟨?_,λy=>Y,λ_=>⟨p,q,λx=> ?_⟩,h.z2,λd=>dY c d⟩,?_,vL i Y,J,J⟩
    .show(qN s.aH n.aM r).Nodup;rw[vL i Y,Fh];exact⟨h.dD,J,λa ha b v e=>by grind⟩
    .grind [vL]
    grind [eN]
   .rw[R A];refine⟨_,_,rfl,⟨h.dD,λy=>Y,λ_=>⟨p,q,λx=> ?_⟩,h.z2,λd=>dY c d⟩,?_,J,J,J⟩
    .grind
    grind [eN]
theorem aEm(h:zY s n)(a:s.aG=2/\sd=rR\/s.aG=3)(j:eN s n sd l)(hl:l.Nodup)(u:r∈l):
  ∃n' m,uN s n sd r= .ok (n',m)/\zY s n'/\eN s n' sd (l.erase r)/\n'.aM=m.kC.foldl oq n.aM/\m.kC.Nodup/\(∀x,x∈m.kC->x∈n.aM)/\(sd=qT->n'.fJ=n.fJ)/\(sd=rR->n'.sd=n.sd):=by
 rcases a with⟨a,rfl⟩|a
 .have c:=j;unfold eN at c;rw[bW a]at c;have A:∀x,(O ((l.erase r).filter λw=>decide (dF w s.eb=x)))+(if dF r s.eb=x then 1 else 0)=n.eG x:=λx=>by grind
  have y:0<n.eG (dF r s.eb):=by grind
  have B:dF r s.eb∈n.aM:=(h.FI a _).2 y;unfold uN;rw[if_neg Y,if_pos a,if_neg Y];by_cases v:n.eG (dF r s.eb)=1
  .rw[bW v];refine⟨_,_,rfl,⟨h.dD.erase _,λ_ x=> ?_,λz=>Y,λb=>dY a b,h.z3⟩,?_,rfl,J,by simpa using B,J,J⟩
   .show x∈n.aM.erase (dF r s.eb)↔0<fQ n.eG (dF r s.eb) 0 x;rw[h.dD.mem_erase_iff,h.FI a x];grind [fQ]
   grind [eN,fQ]
  .rw[R v];refine⟨_,_,rfl,⟨h.dD,λ_ x=> ?_,λz=>Y,λb=>dY a b,h.z3⟩,?_,rfl,J,J,J,J⟩
   .show x∈n.aM↔0<fQ n.eG (dF r s.eb) (n.eG (dF r s.eb)-1) x;rw[h.FI a x];grind [fQ]
   grind [eN,fQ]
 .let⟨e,d,p⟩:=h.US a;have c:=j;unfold eN at c;rw[R Y]at c;unfold uN;rw[R Y,R Y];cases sd with
  |true=>
   simp only[yN]at c|-;subst c;rw[bW u];have g:(n.fJ.filter (λx=>decide (dF x s.bP=r))).Nodup:=e.filter _;refine⟨_,_,rfl,⟨CF h.dD,λq=>Y,λ_=>⟨e,d.erase _,λx=> ?_⟩,h.z2,λb=>dY a b⟩,?_,rfl,g,λx C=> ?_,J,J⟩
   .show x∈List.foldl oq n.aM _↔x∈n.fJ/\dF x s.bP∈n.sd.erase r;rw[J7 h.dD,p,LC,d.mem_erase_iff];grind
   .grind [eN]
   grind
  |false=>
   simp only[y',if_false]at c|-;subst c;rw[bW u];by_cases i:r∈n.aM
   .rw[bW i];refine⟨_,_,rfl,⟨h.dD.erase _,λq=>Y,λ_=>⟨e.erase _,d,λx=> ?_⟩,h.z2,λb=>dY a b⟩,?_,rfl,J,by simpa using i,J,J⟩
    .show x∈n.aM.erase r↔x∈n.fJ.erase r/\dF x s.bP∈n.sd;rw[h.dD.mem_erase_iff,e.mem_erase_iff,p,and_assoc]
    grind [eN]
   .rw[R i];refine⟨_,_,rfl,⟨h.dD,λq=>Y,λ_=>⟨e.erase _,d,λx=> ?_⟩,h.z2,λb=>dY a b⟩,?_,rfl,J,J,J,J⟩
    .grind
    grind [eN]
end
end
variable{sd:Bool}{n':f7}
section
theorem ZM91{P:Prop}(h:P:=by
  rw[ho u hu];by_cases e:v=up
  .subst e;by_cases e2:u=aS
   .grind
   .exact us.aMS Q1 hp e2 g3 g4 (hE u v Q1 e2)
  grind):P:=h
structure tX(P:AC)(sc D3:Nat->Nat):Prop where
 up:∀u v,P.dI u=H v->u<v/\v<P.n
 aG:∀u v,P.dI u=H v->(P.spec v).aG=2/\P.dN u=rR\/(P.spec v).aG=3
 aNV:∀u v,P.dI u=H v->u=if P.dN u=qT then D3 v else sc v
 fJ:∀v,v<P.n->(P.spec v).aG≠1->P.dI (sc v)=H v/\P.dN (sc v)=rR
 sd:∀v,v<P.n->(P.spec v).aG=3->P.dI (D3 v)=H v/\P.dN (D3 v)=qT
 aH:∀v,v<P.n->(P.spec v).aG≠1->(P.spec v).aH=65536
def TQ(P:AC)(T:gZ):Prop:=∀v,v<P.n->zY (P.spec v) (T v)
def K1(P:AC)(T:gZ)(B:Nat):Prop:=∀v,v<P.n->O (T v).aM<=B
def aIB(P:AC)(T:gZ):Prop:=∀u v,P.dI u=H v->eN (P.spec v) (T v) (P.dN u) (T u).aM
section
variable{P:AC}{sc D3:Nat->Nat}
theorem aGz{w:jU}{up:Nat}{m:R7}(h:OF (P.spec up) (w.T up) sd r= .ok (n',m)):(fE P qT w up sd r).1.T=yE w.T up n'/\(fE P qT w up sd r).2.1=m.kC/\(fE P qT w up sd r).2.2.2=0:=by
 grind [fE,iX]
theorem zg{w:jU}{up:Nat}{m:R7}(h:uN (P.spec up) (w.T up) sd r= .ok (n',m)):(fE P rR w up sd r).1.T=yE w.T up n'/\(fE P rR w up sd r).2.1=m.kC/\(fE P rR w up sd r).2.2.2=0:=by
 grind [fE,iX]
theorem yu{up:Nat}(q:(P.spec up).aG=2/\sd=rR\/(P.spec up).aG=3)(p:(P.spec up).aH=65536):∀(fl:List Row) (w:jU) (next l:List Row),zY (P.spec up) (w.T up)->eN (P.spec up) (w.T up) sd l->(l++fl).Nodup->O (l++fl)<=65536->(sd=qT->O (w.T up).fJ<=65536)->
  zY (P.spec up) ((gI P qT up sd fl w next).1.T up)/\eN (P.spec up) ((gI P qT up sd fl w next).1.T up) sd (l++fl)/\(sd=qT->((gI P qT up sd fl w next).1.T up).fJ=(w.T up).fJ)/\(sd=rR->((gI P qT up sd fl w next).1.T up).sd=(w.T up).sd)/\
  ∃new,(gI P qT up sd fl w next).2=next++new/\((gI P qT up sd fl w next).1.T up).aM=(w.T up).aM++new
 |[],w,next,l,hN,hE,_,_,_=>by
  rw[ui];exact⟨hN,hE,λ_=>rfl,λ_=>rfl,[],by simp[gI],by simp[gI]⟩
 |r::fl,w,next,l,hN,hE,hd,hl,hs=>by
  have g:=hd;rw[Fh]at g;have a:=hl;rw[E7,TT]at a;let⟨n',m,y,e2,B,C,v,x⟩:=aJV (r:=r) hN q p hE g.1 (λh=>g.2.2 r h r J rfl) Y hs;let⟨u,n,z⟩:=aGz (w:=w) y;have c:(l++[r])++fl=l++r::fl:=J;unfold gI;generalize F:fE P qT w up sd r=d at u n z;simp only[F];have b:d.1.T up=n':=u▸n7 _ _ _;let⟨A,g2,g3,i,new,g5,j⟩:=yu q p fl {d.1 with aQ:=d.1.aQ+1+if sd=qT then d.2.2.1 else 0} (next++d.2.1) (l++[r]) (by show zY _ (d.1.T up);rw[b];exact e2) (by show eN _ (d.1.T up) _ _;rw[b];exact B) (c▸hd) (c▸hl) (λh=>by show(d.1.T up).fJ.length<=65536;rw[b,v h];exact hs h);rw[c]at g2;have e:=b;rw[e]at g3 i j;refine⟨A,g2,λh=>(g3 h).ds (v h),λh=>(i h).ds (x h),m.kC++new,?_,?_⟩
  .rw[g5,n,zcV]
  .rw[j,C,zcV]
theorem Yt{up:Nat}(v:(P.spec up).aG=2/\sd=rR\/(P.spec up).aG=3):∀(fl:List Row) (w:jU) (next l:List Row),zY (P.spec up) (w.T up)->eN (P.spec up) (w.T up) sd l->l.Nodup->fl.Nodup->(∀x,x∈fl->x∈l)->
  zY (P.spec up) ((gI P rR up sd fl w next).1.T up)/\eN (P.spec up) ((gI P rR up sd fl w next).1.T up) sd (fl.foldl oq l)/\(sd=qT->((gI P rR up sd fl w next).1.T up).fJ=(w.T up).fJ)/\(sd=rR->((gI P rR up sd fl w next).1.T up).sd=(w.T up).sd)/\
  ∃new,(gI P rR up sd fl w next).2=next++new/\((gI P rR up sd fl w next).1.T up).aM=new.foldl oq (w.T up).aM/\new.Nodup/\∀x,x∈new->x∈(w.T up).aM
 |[],w,next,l,hN,hE,_,_,_=>by
  exact⟨hN,hE,λ_=>rfl,λ_=>rfl,[],by simp[gI],by simp[gI],S0,J⟩
 |r::fl,w,next,l,hN,hE,hd,hf,hs=>by
  rw[U8]at hf;let⟨n',m,B,e2,k,L,z,C,Q,A⟩:=aEm (r:=r) hN v hE hd (hs r J);let⟨y,q,F⟩:=zg (w:=w) B;unfold gI;generalize f:fE P rR w up sd r=d at y q F;simp only[f];have i:d.1.T up=n':=y▸n7 _ _ _;let⟨G,g2,g3,p,new,g5,g,N,n⟩:=Yt v fl {d.1 with aQ:=d.1.aQ+1+if sd=qT then d.2.2.1 else 0} (next++d.2.1) (l.erase r) (by show zY _ (d.1.T up);rw[i];exact e2) (by show eN _ (d.1.T up) _ _;rw[i];exact k) (hd.erase r) hf.2
   (λx c=>(hd.mem_erase_iff).2 ⟨λe=>hf.1 (e▸c),hs x (by simp[c])⟩)
  have j:=i;rw[j]at g3 p g n;rw[L]at g n;have u:=λx c=>(J7 hN.dD x).1 (n x c);refine⟨G,g2,λh=>(g3 h).ds (Q h),λh=>(p h).ds (A h),m.kC++new,?_,?_,?_,?_⟩
  .rw[g5,q,zcV]
  .rw[g,QJ]
  .rw[Fh];exact⟨z,N,λa ha b o e=>(u b o).2 (e▸ha)⟩
  .intro x c;rcases yU.1 c with c|c
   .exact C x c
   .exact(u x c).1
theorem tX.aMS(f:tX P sc D3){u v aS:Nat}{n:f7}(a:P.dI u=H v)(ha:P.dI aS=H v)(b:u≠aS)(e:P.dN aS=qT->n'.fJ=n.fJ)(d:P.dN aS=rR->n'.sd=n.sd){l:List Row}(c:eN (P.spec v) n (P.dN u) l):eN (P.spec v) n' (P.dN u) l:=by
 have c1:=f.aNV u v a;have c2:=f.aNV aS v ha;have g:=f.aG u v a;have k2:=f.aG aS v ha;grind [eN]
def RC(P:AC)(add:Bool)(B:Nat)(C:Nat->Nat->List Row->jU->Prop):Prop:=
 (∀f aS fl w,P.dI aS=K\/fl=[]->C f aS fl w)/\
 ∀f aS up fl w,P.dI aS=H up->aS<up->up<P.n->fl.Nodup->O fl<=B->(P.dN aS=qT->(P.spec up).aG=3/\(w.T up).fJ.Nodup/\O (w.T up).fJ<=B)->
  (gI P add up (P.dN aS) fl w []).2.Nodup->C f up (gI P add up (P.dN aS) fl w []).2 (gI P add up (P.dN aS) fl w []).1->C (f+1) aS fl w
theorem vu(us:tX P sc D3){B:Nat}(V:B<=65536):∀(f aS:Nat) (fl:List Row) (w:jU) (l:List Row),P.n<=aS+f->aS<P.n->TQ P w.T->(∀u v,P.dI u=H v->u≠aS->eN (P.spec v) (w.T v) (P.dN u) (w.T u).aM)->
  (∀v,P.dI aS=H v->eN (P.spec v) (w.T v) (P.dN aS) l)->(w.T aS).aM=l++fl->K1 P w.T B->
  TQ P (eT P qT f aS fl w).T/\aIB P (eT P qT f aS fl w).T/\K1 P (eT P qT f aS fl w).T B/\(∀v,∃new,((eT P qT f aS fl w).T v).aM=(w.T v).aM++new)/\∀C,RC P qT B C->C f aS fl w
 |0,aS,fl,w,l,hf,hat,_,_,_,_,_=>Y
 |f+1,aS,fl,w,l,hf,hat,hA,hE,hEa,hl,hS=>by
  unfold eT;cases hp:P.dI aS with
  |none=>
   refine⟨hA,λu v Q1=> ?_,hS,λv=>⟨[],J⟩,λC a=>a.1 _ _ _ _ (.inl hp)⟩;grind
  |some up=>
   simp only;by_cases j:fl=[]
   .rw[bW j];refine⟨hA,λu v Q1=> ?_,hS,λv=>⟨[],J⟩,λC a=>a.1 _ _ _ _ (.inr j)⟩;grind
   .rw[if_neg j];let⟨N,c⟩:=us.up aS up hp;have m:=us.aG aS up hp;have x:(P.spec up).aG≠1:=by rcases m with⟨h,_⟩|h<;>omega
    have i:=(hA aS hat).dD;have y:=hS aS hat;rw[hl]at i y;let⟨F,p2⟩:=us.fJ up c x;have G:P.dN aS=qT->sc up≠aS:=λh e=>by grind
    have Q:=(us.up _ _ F).1;have p:P.dN aS=qT->(w.T up).fJ=(w.T (sc up)).aM:=λh=>by
     grind [eN]
    let⟨b,g2,g3,g4,new,g5,q⟩:=yu m (us.aH up c x) fl w [] l (hA up c) (hEa up hp) i Y (λh=>by rw[p h];have:=hS (sc up) Y;omega);have ho:∀v,v≠up->(gI P qT up (P.dN aS) fl w []).1.T v=w.T v:=λv hv=>JM _ hv _ _ _;let⟨g,d⟩:=D (gI P qT up (P.dN aS) fl w []);rw[d]at b g2 g3 g4 g5 q ho;rw[Nb]at g5;rw[d];have k:K1 P g.1.T B:=λv hv=>by
     by_cases e:v=up
     .subst e;cases r:P.dN aS with
      |false=>
       rw[r]at g2;have:=b.oE (by rcases m with⟨h,_⟩|h<;>simp[h]) g2;omega
      |true=>
       have h3:(P.spec v).aG=3:=by grind
       have:=b.oE (l:=(w.T (sc v)).aM) (.inr h3) (by grind [eN]);have:=hS (sc v) Y;omega
     .rw[ho v e];exact hS v hv
    have W:TQ P g.1.T:=by
     intro v hv;by_cases e:v=up
     .subst e;exact b
     .rw[ho v e];exact hA v hv
    have S:∀u v,P.dI u=H v->u≠up->eN (P.spec v) (g.1.T v) (P.dN u) (g.1.T u).aM:=by
     intro u v Q1 hu;exact ZM91
    have A:∀v,P.dI up=H v->eN (P.spec v) (g.1.T v) (P.dN up) (w.T up).aM:=by
     intro v hv;have:=us.up up v hv;grind
    let⟨r1,r2,L,n,z⟩:=vu us V f up g.2 g.1 (w.T up).aM Y c W S A (by rw[q,g5]) k;refine⟨r1,r2,L,λv=> ?_,λC a=>a.2 f aS up fl w hp N c (Fh.1 i).2.1 (by rw[E7]at y;omega) (λh=>⟨BC,by rw[p h];exact(hA _ Y).dD,p h▸hS _ Y⟩) ?_ (d▸z C a)⟩
    .let⟨n2,h2⟩:=n v;grind
    .rw[d,g5];have:=b.dD;rw[q]at this;exact(Fh.1 this).2.1
theorem Vf(us:tX P sc D3){B:Nat}:∀(f aS:Nat) (fl:List Row) (w:jU) (l:List Row),P.n<=aS+f->aS<P.n->TQ P w.T->(∀u v,P.dI u=H v->u≠aS->eN (P.spec v) (w.T v) (P.dN u) (w.T u).aM)->
  (∀v,P.dI aS=H v->eN (P.spec v) (w.T v) (P.dN aS) l)->(w.T aS).aM=fl.foldl oq l->l.Nodup->fl.Nodup->(∀x,x∈fl->x∈l)->K1 P w.T B->O fl<=B->
  TQ P (eT P rR f aS fl w).T/\aIB P (eT P rR f aS fl w).T/\K1 P (eT P rR f aS fl w).T B/\(∀v,∃xs:List Row,((eT P rR f aS fl w).T v).aM=xs.foldl oq (w.T v).aM)/\∀C,RC P rR B C->C f aS fl w
 |0,aS,fl,w,l,hf,hat,_,_,_,_,_,_,_,_,_=>Y
 |f+1,aS,fl,w,l,hf,hat,hA,hE,hEa,hl,hd1,hd2,hsub,hS,hfl=>by
  unfold eT;cases hp:P.dI aS with
  |none=>
   refine⟨hA,λu v Q1=> ?_,hS,λv=>⟨[],rfl⟩,λC b=>b.1 _ _ _ _ (.inl hp)⟩;grind
  |some up=>
   simp only;by_cases d:fl=[]
   .rw[bW d];refine⟨hA,λu v Q1=> ?_,hS,λv=>⟨[],rfl⟩,λC b=>b.1 _ _ _ _ (.inr d)⟩;grind
   .rw[if_neg d];let⟨L,a⟩:=us.up aS up hp;have q:=us.aG aS up hp;let⟨p,g2,g3,g4,new,g5,j,i,y⟩:=Yt q fl w [] l (hA up a) (hEa up hp) hd1 hd2 hsub;have ho:∀v,v≠up->(gI P rR up (P.dN aS) fl w []).1.T v=w.T v:=λv hv=>JM _ hv _ _ _;let⟨g,c⟩:=D (gI P rR up (P.dN aS) fl w []);rw[c]at p g2 g3 g4 g5 j ho;rw[Nb]at g5;rw[c];have N:K1 P g.1.T B:=λv hv=>by
     by_cases e:v=up
     .subst e;rw[j];have h1:=C9 (m:=(w.T v).aM) (CF (xs:=new) (hA v hv).dD) λx Q=>((J7 (hA v hv).dD x).1 Q).1;have:=hS v hv;omega
     .rw[ho v e];exact hS v hv
    have W:TQ P g.1.T:=by
     intro v hv;by_cases e:v=up
     .subst e;exact p
     .rw[ho v e];exact hA v hv
    have S:∀u v,P.dI u=H v->u≠up->eN (P.spec v) (g.1.T v) (P.dN u) (g.1.T u).aM:=by
     intro u v Q1 hu;exact ZM91
    have A:∀v,P.dI up=H v->eN (P.spec v) (g.1.T v) (P.dN up) (w.T up).aM:=by
     intro v hv;have:=us.up up v hv;grind
    let⟨r1,r2,n,G,z⟩:=Vf us f up g.2 g.1 (w.T up).aM Y a W S A (by rw[j,g5]) (hA up a).dD (g5▸i) (g5▸y) N (by rw[g5];have h1:=C9 i y;have:=hS up a;omega);refine⟨r1,r2,n,λv=> ?_,λC b=>b.2 f aS up fl w hp L a hd2 hfl (λh=> ?_) (by rw[c,g5];exact i) (c▸z C b)⟩
    .let⟨n2,h2⟩:=G v;grind
    .have V:(P.spec up).aG≠1:=by rcases q with⟨h,_⟩|h<;>omega
     let⟨F,p2⟩:=us.fJ up a V;have k:=(us.up _ _ F).1;have r:(w.T up).fJ=(w.T (sc up)).aM:=by grind [eN]
     exact⟨BC,by rw[r];exact(hA _ Y).dD,r▸hS _ Y⟩
end
end
variable{wS:List Nat}
section
theorem ZM72{P:Prop}(h:P:=by
  rw[List.nodup_cons]at hd;have hx:=h x J;have h4:=ih (m:=m.erase x) hd.2 λy hy=>(List.mem_erase_of_ne (λe=>by grind)).2 (h y (by simp[hy]));grind):P:=h
def iJ(vs wS:List Nat):List Nat:=vs.map λv=>wS.idxOf v
def eF(p:vZ)(i:Nat):lV:=
 let n:=eA p.aI i
 {aG:=n.aG,kJ:=if n.aG=2 then(eA p.aI n.cM).vars.length else O n.vars,eb:=if n.aG=2 then iJ n.vars (eA p.aI n.cM).vars else[],
  bP:=if n.aG=3 then iJ (eA p.aI n.bP).vars n.vars else[],
  up:=if n.bS<0 then[]else iJ (if(eA p.aI n.bS.toNat).aG=2 then(eA p.aI n.bS.toNat).vars else n.vars) n.vars,aH:=if n.aG=1 then 512 else 65536}
def aZ(p:vZ):AC:=
 {n:=O p.aI,spec:=eF p,dI:=λi=>if i<O p.aI/\0<=(eA p.aI i).bS then H (eA p.aI i).bS.toNat else K,
  dN:=λi=>decide (0<=(eA p.aI i).bS)&&((eA p.aI (eA p.aI i).bS.toNat).aG==3&&(eA p.aI (eA p.aI i).bS.toNat).bP==i)}
structure gU(V m:Nat)(p:vZ):Prop where
 below:mD p.aI
 EN:∀j,j<O p.aI->aCp V p.aI m j
 CZ:m<=O p.aI
 a0a:∀i,i<O p.aI->(eA p.aI i).bS<0->∀j,j<O p.aI->eE (eA p.aI j) i=rR
 aAy:∀i,i<O p.aI->0<=(eA p.aI i).bS->∃j,j<O p.aI/\(eA p.aI i).bS=(j:Int)/\eE (eA p.aI j) i=qT
 Nh:∀j j' i,j<O p.aI->j'<O p.aI->eE (eA p.aI j) i=qT->eE (eA p.aI j') i=qT->j=j'
theorem QG(f:Nat->Bool):∀n,((yo n).foldl (λp j=>if f j then(j:Int)else p) (-1)<0/\∀j,j<n->f j=rR)\/∃j,j<n/\(yo n).foldl (λp j=>if f j then(j:Int)else p) (-1)=(j:Int)/\f j=qT
 |0=> .inl ⟨J,λ_ h=>dY h (Gd _)⟩
 |n+1=>by
  rw[dr,um,wn,B4];cases d:f n with
  |true=>grind
  |false=>
   simp only[y',if_false];rcases QG f n with⟨b,a⟩|⟨j,b,a,c⟩
   .grind
   grind
theorem gU.of{V m:Nat}{ns:List bE}(z:mD ns)(u:∀j,j<O ns->aCp V ns m j)(B:∀j a i,j<O ns->a<O ns->eE (eA ns j) i=qT->eE (eA ns a) i=qT->j=a)(y:m<=O ns)(low:Nat)(tops:List Nat)(p:vZ)(w:p.aI=l9 ns low tops):gU V m p:=by
 have hl:O p.aI=O ns:=by grind [F3]
 have ha:kN ns p.aI:=by grind [DK]
 have r:∀i,(eA p.aI i).aG=(eA ns i).aG/\(eA p.aI i).qV=(eA ns i).qV/\(eA p.aI i).vars=(eA ns i).vars/\(eA p.aI i).cM=(eA ns i).cM/\(eA p.aI i).bP=(eA ns i).bP:=λi=>by
  have:=ha.aS i;grind [core,eA]
 have n:∀j i,eE (eA p.aI j) i=eE (eA ns j) i:=λj i=>by
  let⟨a1,a2,a3,a4,a5⟩:=r j;unfold eE;rw[a1,a4,a5]
 have l:∀i,i<O ns->(eA p.aI i).bS=m8 ns i:=λi b=>by
  rw[w];unfold l9;show(eA ((yo (O ns)).map _) i).bS=_;unfold eA;rw[DO _ _ b]
 refine⟨z.Mi ha,λj d=> ?_,by rw[hl];exact y,λi b g j d=> ?_,λi b g=> ?_,λj a i d C e c=> ?_⟩
 .rw[hl]at d;let⟨A,v,x,F,f5,f6⟩:=u j d;let⟨a1,a2,a3,a4,a5⟩:=r j;refine⟨by rw[a3];exact A,by rw[a1];exact v,by rw[a2];exact x,?_,?_,Y⟩
  .grind
  grind
 .rw[hl]at b d;rw[l i b]at g;rw[n];rcases QG (λj=>eE (eA ns j) i) (O ns) with⟨-,c⟩|⟨a,e,c,q⟩
  .exact c j d
  .have:m8 ns i=(a:Int):=c;omega
 .rw[hl]at b;rw[l i b]at g|-;rcases QG (λj=>eE (eA ns j) i) (O ns) with⟨e,-⟩|⟨a,e,c,q⟩
  .have:m8 ns i<0:=e;omega
  .exact⟨a,Y,c,by rw[n];exact q⟩
 grind
section
variable{V m:Nat}{p:vZ}
theorem gU.aEb(h:gU V m p){u v:Nat}(a:(aZ p).dI u=H v):u<O p.aI/\v<O p.aI/\(eA p.aI u).bS=(v:Int)/\eE (eA p.aI v) u=qT:=by
 simp only[aZ]at a;split at a
 .rename_i b;injection a with a;let⟨j,e,d,c⟩:=h.aAy u b.1 b.2;grind
 .cases a
theorem gU.aMK(h:gU V m p){u v:Nat}(b:u<O p.aI)(hv:v<O p.aI)(a:eE (eA p.aI v) u=qT):(aZ p).dI u=H v/\(eA p.aI u).bS=(v:Int):=by
 have c:0<=(eA p.aI u).bS:=by
  rcases Int.lt_or_le (eA p.aI u).bS 0 with e|d
  .rw[h.a0a u b e v hv]at a;cases a
  .exact d
 let⟨j,i,l,g⟩:=h.aAy u b c;obtain rfl:=h.Nh j v u i hv g a;grind [aZ]
theorem gU.RS{u v:Nat}(a:(eA p.aI u).bS=(v:Int)):(aZ p).dN u=((eA p.aI v).aG==3&&(eA p.aI v).bP==u):=by
 grind [aZ]
theorem gU.lt(h:gU V m p){u v:Nat}(hv:v<O p.aI)(c:eE (eA p.aI v) u=qT):u<v:=by
 let⟨a,b2,b⟩:=h.below v hv;grind [jH,eA]
theorem gU.l9(h:gU V m p):tX (aZ p) (λv=>(eA p.aI v).cM) (λv=>(eA p.aI v).bP):=by
 have l:∀v,(aZ p).spec v=eF p v:=λ_=>rfl;have q:∀v,(eF p v).aG=(eA p.aI v).aG:=λ_=>rfl;have r:∀u v,(aZ p).dI u=H v->(if(aZ p).dN u=qT then(eA p.aI v).aG=3/\u=(eA p.aI v).bP else((eA p.aI v).aG=2\/(eA p.aI v).aG=3)/\u=(eA p.aI v).cM):=λu v a=>by
  let⟨z,d,y,j⟩:=h.aEb a;grind [gU.RS,jH]
 refine⟨λu v a=> ?_,λu v a=> ?_,λu v a=> ?_,λv hv i=> ?_,λv hv g=> ?_,λv hv i=> ?_⟩
 .let⟨z,d,y,j⟩:=h.aEb a;exact⟨h.lt d j,d⟩
 .grind
 .grind
 .rw[l,q]at i;have b:=h.below v hv;have A:(eA p.aI v).aG=1\/(eA p.aI v).aG=2\/(eA p.aI v).aG=3:=b.1;have c:eE (eA p.aI v) (eA p.aI v).cM=qT:=jH.2 (.inl ⟨by omega,rfl⟩);have x:=h.lt hv c;have w:v<O p.aI:=hv;let⟨n,e⟩:=h.aMK (by omega) hv c;refine⟨n,?_⟩;rw[gU.RS e];rw[Bool.eq_false_iff,ne_eq];simp only[My,LQ];rintro⟨c1,c2⟩;exact(h.EN v hv).apart c1 c2.symm
 .rw[l,q]at g;have c:eE (eA p.aI v) (eA p.aI v).bP=qT:=jH.2 (.inr ⟨g,rfl⟩);have x:=h.lt hv c;have w:v<O p.aI:=hv;let⟨n,e⟩:=h.aMK (by omega) hv c;grind [gU.RS]
 grind [eF]
theorem gU.WE(h:gU V m p):∀v,v<(aZ p).n->((aZ p).spec v).aG=1\/((aZ p).spec v).aG=2\/((aZ p).spec v).aG=3:=λv hv=>(h.below v hv).1
theorem gU.cN(h:gU V m p):∀i,i<m->i<(aZ p).n/\((aZ p).spec i).aG=1/\((aZ p).spec i).aH=512:=λi c=>by
 have a:=xF c h.CZ;have b:=(h.EN i a).leaf.2 c;refine⟨a,b,?_⟩;show(eF p i).aH=512;unfold eF;simp only;rw[bW b]
end
def A3(f8:List Nat)(w:Nat):Prop:=f8.Pairwise (·<·)/\∀c∈f8,c<w
theorem oX(s:Nat):(cB s).Pairwise (·<·):=(List.pairwise_lt_range (n:=32)).filter _
theorem nA{s v:Nat}:v∈cB s↔v<32/\s.testBit v=qT:=by unfold cB;simp
theorem DG:∀{l:List Nat},l.Pairwise (·<·)->∀{a b:Nat},a∈l->b∈l->a<b->l.idxOf a<l.idxOf b
 |[],_,_,_,h,_,_=>by cases h
 |x::l,hp,a,b,ha,hb,hab=>by
  rw[List.pairwise_cons]at hp;rw[OM,OM];by_cases g:x=a
  .grind
  .have c:a∈l:=by grind
   have e2:x≠b:=λe=>by grind
   have d:b∈l:=by grind
   have:=DG hp.2 c d hab;grind
theorem A5{vs:List Nat}(e:vs.Pairwise (·<·))(d:wS.Pairwise (·<·))(h:∀v∈vs,v∈wS):A3 (iJ vs wS) (O wS):=by
 constructor
 .unfold iJ;rw[List.pairwise_map];exact e.imp_of_mem λ{a b} ha hb hab=>DG d (h a ha) (h b hb) hab
 .intro c g;obtain⟨v,hv,rfl⟩:=AE.1 g;grind
theorem RR{l m:List Nat}(b:l.Nodup)(d:∀x,x∈l->x∈m){y:Nat}(hy:y∈m)(a:y∉l):O l<O m:=by
 have:(y::l).Nodup:=U8.2 ⟨a,b⟩;have c:∀{l m:List Nat},l.Nodup->(∀x,x∈l->x∈m)->O l<=O m:=λ{l}=>by
  induction l with
  |nil=>grind
  |cons x l ih=>
   intro m hd h;exact ZM72
 grind
structure QN(s:lV):Prop where
 aG:s.aG=1\/s.aG=2\/s.aG=3
 eb:if s.aG=2 then A3 s.eb s.kJ/\O s.eb<s.kJ else s.eb=[]
 bP:if s.aG=3 then A3 s.bP s.kJ else s.bP=[]
 kJ:s.kJ<=30
 aH:1<=s.aH/\s.aH<=65536
 up:A3 s.up s.bT
theorem DB{V s:Nat}(c:V<=30)(h:s<2^V):O (cB s)<=30:=by
 have b:(cB s).Nodup:=(oX s).imp λh=>Dc h;have a:∀{l m:List Nat},l.Nodup->(∀x,x∈l->x∈m)->O l<=O m:=λ{l}=>by
  induction l with
  |nil=>grind
  |cons x l ih=>
   intro m hd h;exact ZM72
 have:=a (m:=yo V) b λv hv=>by
  grind [nA,zn,B5,B0]
 grind
theorem xL(vs wS:List Nat):O (iJ vs wS)=O vs:=by unfold iJ;simp
theorem gU.aEQ{V m:Nat}{p:vZ}(f:V<=30)(h:gU V m p){v:Nat}(hv:v<O p.aI):QN (eF p v):=by
 have c:=h.EN v hv;obtain⟨L,S,B⟩:=c.vars;have u:(eF p v).aG=(eA p.aI v).aG:=rfl;have C:=(h.below v hv).1;have n:(eF p v).bT=O (eA p.aI v).vars:=by
  grind [lV.bT,eF,xL]
 refine⟨C,?_,?_,?_,?_,?_⟩
 .by_cases a:(eA p.aI v).aG=2
  .rw[bW (u▸a)];let⟨s,t,hs,e,d,e2,b,l⟩:=c.FI a;have r:∀x∈cB s,x∈cB t:=λx z=>by
    grind [nA,jV]
   unfold eF;simp only;rw[bW a,bW a,d,e2];refine⟨A5 (oX s) (oX t) r,?_⟩;rw[xL];have g:part t s=rR:=by
    cases z:part t s with
    |false=>rfl
    |true=>exact dY (Fj λi=>by
      grind [jV]) l
   let⟨y,A,o⟩:=Bb g;have w:y<32:=by
    grind [zn,B5,B0]
   exact RR ((oX s).imp λh=>Dc h) r (nA.2 ⟨w,A⟩) (λN=>by grind [nA])
  grind [eF]
 .by_cases q:(eA p.aI v).aG=3
  .rw[bW (u▸q)];let⟨s,t,hs,e,d,e2,P,b⟩:=c.US q;grind [eF,A5,oX,nA,jV]
  grind [eF]
 .unfold eF;simp only;by_cases a:(eA p.aI v).aG=2
  .rw[bW a];let⟨s,t,hs,e,d,e2,b,l⟩:=c.FI a;grind [DB]
  grind [DB]
 .unfold eF;simp only;split<;>omega
 .rw[n];unfold eF;simp only;by_cases b:(eA p.aI v).bS<0
  .rw[bW b];exact⟨List.Pairwise.nil,J⟩
  .rw[R b];let⟨j,G,k,Q⟩:=h.aAy v hv Y;have F:(eA p.aI v).bS.toNat=j:=Y;rw[F];by_cases a:(eA p.aI j).aG=2
   .rw[bW a];let⟨s,t,hs,e,d,e2,b,l⟩:=(h.EN j G).FI a;grind [jH,A5,oX,nA,jV]
   grind [A5,oX]
end
variable{L':List Nat}{w0:aA}
section
abbrev bC:=Nat->Nat
structure bI(w:aA)(ρ:bC)(S:Nat->Prop)(w':aA)(bV:bC):Prop where
 os:w'.os=w.os
 tape:w'.tape=w.tape
 output:w'.output=w.output
 size:i7 w.heap<=i7 w'.heap
 block:∀k,k<i7 w.heap->¬S (ρ k)->w'.heap[k]? =w.heap[k]?
 cE:∀k,k<i7 w.heap->bV k=ρ k
def up(n t:Nat)(ρ:bC):bC:=λk=>if n<=k then t else ρ k
theorem fG{t k:Nat}{ρ:bC}(h:k<n):up n t ρ k=ρ k:=R Y
theorem cY{t k:Nat}{ρ:bC}(h:n<=k):up n t ρ k=t:=bW h
section
variable{w w' w1 w2:aA}{ρ bV dX fD:bC}{S T:Nat->Prop}
theorem bI.refl(w:aA)(ρ:bC)(S:Nat->Prop):bI w ρ S w ρ:=⟨rfl,rfl,rfl,fV _,λ_ _ _=>rfl,λ_ _=>rfl⟩
theorem bI.ds(h:bI w ρ S w1 dX)(k:bI w1 dX S w2 fD):bI w ρ S w2 fD where
 os:=k.os.ds h.os
 tape:=k.tape.ds h.tape
 output:=k.output.ds h.output
 size:=j8 h.size k.size
 block:=λi a b=>(k.block i (xF a h.size) (h.cE i a▸b)).ds (h.block i a b)
 cE:=λi a=>(k.cE i (xF a h.size)).ds (h.cE i a)
theorem bI.aL(h:bI w ρ S w' bV)(hs:∀t,S t->T t):bI w ρ T w' bV:=⟨h.os,h.tape,h.output,h.size,λk c a=>h.block k c (λb=>a (hs _ b)),h.cE⟩
theorem bI.drew(h:bI w ρ S w' bV):bI w ρ S w'.drew bV:=⟨h.os,h.tape,h.output,h.size,h.block,h.cE⟩
theorem bI.drewN(h:bI w ρ S w' bV)(n:Nat):bI w ρ S (w'.drewN n) bV:=⟨h.os,h.tape,h.output,h.size,h.block,h.cE⟩
theorem bI.D6(h:bI w ρ S w' bV)(t:Nat)(b:i7 w.heap<=n):bI w ρ S w' (up n t bV):=
 ⟨h.os,h.tape,h.output,h.size,h.block,λk a=>(fG (xF a b)).ds (h.cE k a)⟩
theorem bI.alloc(h:bI w ρ S w' bV)(o:Obj):bI w ρ S (w'.alloc o) bV:=
 ⟨h.os,h.tape,h.output,j8 h.size J,λk a b=>(Below.heap_alloc w' o k (xF a h.size)).ds (h.block k a b),h.cE⟩
theorem bI.setCell(h:bI w ρ S w' bV){a:cg}(ha:S (ρ a.block)\/i7 w.heap<=a.block)(v:aE):bI w ρ S (hY w' a v) bV:=
 ⟨h.os,h.tape,h.output,j8 h.size J,λk b c=>(Mz w' a k v (λe=>by grind)).ds (h.block k b c),h.cE⟩
theorem U.fK{L:List Nat}(h:U w L w' L')(t:Nat)(b:∀k,k∈L->S (ρ k)\/i7 w.heap<=k):bI w ρ S w' (up w t ρ):=
 ⟨h.os,h.tape,h.output,h.size,λk a d=>h.block k a (λc=>(b k c).elim d (λe=>Y)),λk a=>fG a⟩
theorem U.qO{L:List Nat}(h:U w L w' L')(a:∀k,k∈L->S (ρ k)\/i7 w.heap<=k):bI w ρ S w' ρ:=
 ⟨h.os,h.tape,h.output,h.size,λk d c=>h.block k d (λb=>(a k b).elim c (λe=>Y)),λ_ _=>rfl⟩
theorem U.fL(h:U w [] w' L'):bI w ρ S w' ρ:=⟨h.os,h.tape,h.output,h.size,λk a _=>h.block k a J,λk a=>rfl⟩
theorem bI.aC(h:bI w ρ S w' bV){k:Nat}{o:Obj}(a:w.heap[k]? =H o)(b:¬S (ρ k)):w'.heap[k]? =H o:=(h.block k (dG a) b).ds a
theorem bI.cell(h:bI w ρ S w' bV){a:cg}{v:aE}(b:h8 w a=H v)(c:¬S (ρ a.block)):h8 w' a=H v:=
 (World.cell?_of_block (h.block a.block (IL b) c)).ds b
theorem bI.eU(h:bI w ρ eZ w' bV):U w [] w' []:=⟨h.os,h.tape,h.output,h.size,λk a _=>h.block k a (λx=>x),J⟩
theorem bI.kV(h:bI w ρ S w1 dX)(k:U w1 [] w2 L'):bI w ρ S w2 dX:=h.ds k.fL
end
def lW{α:Type}(f:α->Nat->aE)(d:α)(sz:Nat)(w:aA)(ρ:bC)(t:Nat)(v:aE)(l:List α):Prop:=
 fM f d sz w v l/\(0<O l->∀k,Value.nL v=H k->ρ k=t)
def pI{α:Type}(f:α->Nat->aE)(d:α)(e:ap)(sz:Nat)(w:aA)(ρ:bC)(t:Nat)(v:aE)(l:List α):Prop:=
 eV w v e sz (O l) (λi j=>f (hJ l i d) j)/\∀g,i6 v=H g->ρ g=t
section
variable{α:Type}{f:α->Nat->aE}{d:α}{e:ap}{sz:Nat}{w w':aA}{ρ bV:bC}{t:Nat}{v:aE}{l:List α}{S:Nat->Prop}
theorem Rd.cF{c:Nat->Nat->aE}(h:Rd w v sz n c)(a:0<n){k:Nat}(d:Value.nL v=H k):k<i7 w.heap:=by
 obtain⟨g,o,cap,rfl,b,_⟩:=h.aS a;grind [Value.nL]
theorem Rd.move{c:Nat->Nat->aE}(h:Rd w v sz n c)(b:bI w ρ S w' bV)(d:0<n->∀k,Value.nL v=H k->¬S (ρ k)):Rd w' v sz n c:=by
 rcases h with h|⟨g,o,cap,rfl,a,p,l,e⟩
 .exact .inl h
 .exact .inr ⟨g,o,cap,rfl,a,p,xF l b.size,λi j q m=>b.cell (e i j q m) (d a g rfl)⟩
theorem lW.eb(h:lW f d sz w ρ t v l)(c:bI w ρ S w' bV)(e:¬S t):lW f d sz w' bV t v l:=
 ⟨Rd.move h.1 c (λa k b=>by rw[h.2 a k b];exact e),λa k b=>(c.cE k (Rd.cF h.1 a b)).ds (h.2 a k b)⟩
theorem lW.on(h:lW f d sz w ρ t v l)(a:U w [] w' L'):lW f d sz w' ρ t v l:=⟨h.1.on a,h.2⟩
theorem lW.nil(w:aA)(ρ:bC)(t:Nat):lW f d sz w ρ t (jS K 0 0) []:=⟨fM.nil w,λh=>dY h (Nat.lt_irrefl 0)⟩
theorem lW.len(h:lW f d sz w ρ t v l):∃a cap,v=jS a (O l) cap/\O l<=bH:=fM.len h.1
theorem fM.jR(h:fM f d sz w v l)(b:0<O l->∀k,Value.nL v=H k->n<=k)(t:Nat)(ρ:bC):lW f d sz w (YtohhhhfdpceppaaGreatDoor.up n t ρ) t v l:=⟨h,λa k c=>cY (b a k c)⟩
theorem eV.cZ{c:Nat->Nat->aE}(h:eV w v e sz n c){k:Nat}(a:Value.nL v=H k):i6 v=H k:=by
 rcases h with⟨rfl,_⟩|⟨g,cap,cur,rfl,_⟩
 .cases a
 .exact a
theorem pI.rd(h:pI f d e sz w ρ t v l):lW f d sz w ρ t v l:=⟨eV.rd h.1,λ_ k a=>h.2 k (eV.cZ h.1 a)⟩
theorem pI.eb(h:pI f d e sz w ρ t v l)(b:bI w ρ S w' bV)(c:¬S t):pI f d e sz w' bV t v l:=
 ⟨eV.aC h.1 (λg a=>b.block g (eV.lt h.1 g a) (h.2 g a▸c)),λg a=>(b.cE g (eV.lt h.1 g a)).ds (h.2 g a)⟩
theorem pI.on(h:pI f d e sz w ρ t v l)(a:U w [] w' L'):pI f d e sz w' ρ t v l:=⟨h.1.eU a (λ_ _=>J),h.2⟩
theorem pI.nil(w:aA)(ρ:bC)(t:Nat):pI f d e sz w ρ t (jS K 0 0) []:=⟨eV.nil _ _ _ _,λg a=>by cases a⟩
theorem pI.len(h:pI f d e sz w ρ t v l):∃a cap,v=jS a (O l) cap/\O l<=bH:=eV.len h.1
theorem bN.jR(h:bN f d e sz w0 w v l)(t:Nat)(ρ:bC):pI f d e sz w (YtohhhhfdpceppaaGreatDoor.up w0.heap.size t ρ) t v l:=⟨h.1,λg a=>cY (h.2 g a)⟩
end
end
variable{cs:Array aE}{bEp:DataW aE}{S S':List Nat}{kl:Lit}{m':Lit->Option aE}{c':Nat}{ρ bV:bC}{z:aE}
section
theorem ZM157{P:Prop}(h:P:=by
  cases hx:m kl with
  |none=>exact(hm kl).1 hx
  |some y=>exact((hm kl).2 y hx).1):P:=h
def aMP(v:aE):Option (DataW aE×List MemPlace):=H (.held v,[])
structure gM(w:aA)(k:ap)(M:Nat)(m:Lit->Option aE)(c:Nat):Prop where
 ex:∃bEp,w.ownsMap prog k aMP M c bEp/\Maps.size bEp=c/\∀l,(m l=K->Maps.has bEp l=rR)/\∀v,m l=H v->Maps.has bEp l=qT/\∀z,bEp.atKey l z= .held v
open Classical in
noncomputable def Vw(m:Lit->Option aE)(k:Lit)(v:aE):Lit->Option aE:=λl=>if l=k then H v else m l
open Classical in
noncomputable def aBR(m:Lit->Option aE)(k:Lit):Lit->Option aE:=λl=>if l=k then K else m l
section
variable{w w':aA}{k e t:ap}{M:Nat}{m:Lit->Option aE}{c:Nat}
theorem S4{bEs:aE->Option (DataW aE×List MemPlace)}(h:w.ownsMap prog k bEs M n bEp):w.ownsMap prog k bEs M (Maps.size bEp) bEp:=by
 obtain⟨es,a,b,F,hs,rfl⟩:=h;exact⟨es,a,b,F,by simp[Maps.size,length_sorted],rfl⟩
theorem gM.lt(h:gM w k M m c):M<i7 w.heap:=by
 obtain⟨bEp,a,_⟩:=h.ex;exact a.lt
theorem gM.zr(h:gM w k M m c)(g:w'.heap[M]? =w.heap[M]?):gM w' k M m c:=by
 obtain⟨bEp,⟨es,a,d,e⟩,b⟩:=h.ex;exact⟨bEp,⟨es,a,g.ds d,e⟩,b⟩
theorem gM.eU(h:gM w k M m c)(a:U w S w' S')(b:M∉S):gM w' k M m c:=h.zr (a.block M h.lt b)
theorem gM.eb{S:Nat->Prop}(h:gM w k M m c)(a:bI w ρ S w' bV)(b:¬S (ρ M)):gM w' k M m c:=h.zr (a.block M h.lt b)
theorem gM.xO(w:aA)(k:ap):gM (w.alloc (.map #[] 0)) k w.heap.size (λ_=>K) 0:=
 ⟨.map [],World.ownsMap_made w _ _ _,rfl,λl=>⟨λ_=>rfl,λv h=>by cases h⟩⟩
theorem gM.aJ2(h:gM w k M m c){T:ap}{x:Nat×Nat}:w.heap[M]?≠H (kd cs T x):=by
 obtain⟨bEp,⟨es,a,b,e⟩,d⟩:=h.ex;rw[b];intro h;cases h
theorem gM.ne(h:gM w k M m c){T:ap}{x:Nat×Nat}(a:w.heap[b]? =H (kd cs T x)):M≠b:=λe=>h.aJ2 (e▸a)
theorem gM.vR(h:gM w k M m c)(f:Keyed prog k)(j:prog.underlying t=H (.map k e))(l:(zeroValue e).run prog w= .ok z w){gP:aE}(i:keyOf prog k gP=H kl):
  (Instr.lookup t (.map (H M)) gP rR).run prog w= .ok ((m kl).getD z) w:=by
 obtain⟨bEp,n,_,g⟩:=h.ex;let⟨v,ps,b,a⟩:=n.lookup f j l (zd:= .held z) (zp:=[]) rfl i;unfold aMP at a;simp only[Option.some.injEq,Prod.mk.injEq]at a;cases d:m kl with
 |none=>
  rw[Maps.atKey_of_not_has ((g kl).1 d)]at a;have:v=z:=by injection a.1
  rw[b,this];rfl
 |some y=>
  rw[((g kl).2 y d).2]at a;have:v=y:=by injection a.1
  rw[b,this];rfl
theorem WT{w w':aA}{M:Nat}(b:w.grownBy w' (H M)):U w [M] w' [M]:=(U.refl w [M]).grown b (λk a=> .inl (by rw[Option.some.injEq]at a;simp[a]))
theorem gM.put(h:gM w k M m c)(f:Keyed prog k)(p:prog.underlying t=H (.map k e))(r:c<bH){gP:aE}(n:keyOf prog k gP=H kl)(hl:WideAt.IsKeyLit kl)(val:aE):
  ∃w',(Instr.mapUpdate t (.map (H M)) gP val).run prog w= .ok () w'/\gM w' k M (Vw m kl val) (if(m kl).isSome then c else c+1)/\U w [M] w' [M]:=by
 obtain⟨bEp,j,u,hm⟩:=h.ex;let⟨w',q,g,x⟩:=j.store f p r (val:=val) (d:= .held val) (ps:=[]) n rfl;have i:=j.tidy f;have hs:=Maps.size_put (k:=kl) i (DataW.held val);have b:Maps.has bEp kl=(m kl).isSome:=ZM157;rw[b,u]at hs;refine⟨w',q,⟨bEp.put kl (.held val),hs▸S4 g,hs,λl=> ?_⟩,WT x.grown⟩;unfold Vw;by_cases a:l=kl
 .subst a;simp only[yN];refine⟨(λh=>by cases h),λv hv=> ?_⟩;injection hv with hv;subst hv;exact⟨Maps.has_put_same i.isMap hl _,λz=>Maps.atKey_put_same i.isMap hl _ z⟩
 .simp only[a,E6];rw[Maps.has_put_other a];refine⟨(hm l).1,λv hv=>⟨((hm l).2 v hv).1,λz=> ?_⟩⟩;rw[Maps.atKey_put_other a];exact((hm l).2 v hv).2 z
theorem gM.del(h:gM w k M m c)(f:Keyed prog k)(j:prog.underlying t=H (.map k e)){gP:aE}(i:keyOf prog k gP=H kl)(ty:ap):
  ∃w',(Builtin.delete_ #[t,k] ty #[.map (H M),gP]).run prog w= .ok (mr #[]) w'/\gM w' k M (aBR m kl) (if(m kl).isSome then c-1 else c)/\U w [M] w' [M]:=by
 obtain⟨bEp,g,q,hm⟩:=h.ex;let⟨w',n,d,r⟩:=g.drop f j i ty;have p:=g.tidy f;have hs:=Maps.size_del (k:=kl) p;have b:Maps.has bEp kl=(m kl).isSome:=ZM157;rw[b,q]at hs;have hs:Maps.size (bEp.del kl)=if(m kl).isSome then c-1 else c:=by split at hs<;>split<;>simp_all<;>omega
 refine⟨w',n,⟨bEp.del kl,hs▸S4 d,hs,λl=> ?_⟩,WT r.grown⟩;unfold aBR;by_cases a:l=kl
 .subst a;simp only[yN];exact⟨λ_=>Maps.has_del_same,(λv hv=>by cases hv)⟩
 .simp only[a,E6];rw[Maps.has_del_other a];refine⟨(hm l).1,λv hv=>⟨((hm l).2 v hv).1,λz=> ?_⟩⟩;rw[Maps.atKey_del_other a];exact((hm l).2 v hv).2 z
theorem gM.congr(h:gM w k M m c)(a:∀l,m' l=m l)(b:c'=c):gM w k M m' c':=by
 subst b;obtain rfl:m'=m:=funext a;exact h
end
section
variable(w:aA){ops:Array Oper}{rest:List Oper}{o:Oper}{a:Act}{bEr:Exit->Act->aA->Prop}
end
end
section
theorem ZM131{P:Prop}(h:P:=by
  rw[hx]at h;simp[Pl.mP,Pl.uF]at h;let⟨p,hp,he⟩:=FZ (L:=n) (T:=T) Y;exact⟨p,Y,he⟩):P:=h
inductive Pl(V:Type) where
 |empty|yJ
 |kH (v:V) (k:List Nat) (n:Int)
section
variable{V:Type}
def Pl.wY :Pl V->Option (List Nat)
 | .kH _ k _=>H k
 |_=>K
def Pl.mP:Pl V->Bool
 | .kH .. =>qT
 |_=>rR
def Pl.uF:Pl V->Bool
 | .yJ=>qT
 |_=>rR
def Pl.aO9 :Pl V->Option Int
 | .kH _ _ n=>H n
 |_=>K
def vR(T:Nat->Pl V)(L:Nat)(k:List Nat):Nat->Nat->Option Nat->Option Nat×Option Nat
 |0,_,fr=>(K,fr)
 |r+1,i,fr=>match T i with
  | .empty=>(K,fr.or (H i))
  | .yJ=>vR T L k r ((i+1)%L) (fr.or (H i))
  | .kH _ k' _=>if k'=k then(H i,H i)else vR T L k r ((i+1)%L) fr
def TG(T:Nat->Pl V)(L a p:Nat):Prop:=∃d,d<L/\p=(a+d)%L/\∀e,e<d->T ((a+e)%L)≠ .empty
def mH(T:Nat->Pl V):Nat->Nat
 |0=>0
 |n+1=>mH T n+if(T n).mP then 1 else 0
def vY(T:Nat->Pl V):Nat->Nat
 |0=>0
 |n+1=>vY T n+if(T n).uF then 1 else 0
structure Rp(hs:List Nat->Nat->Nat)(T:Nat->Pl V)(L:Nat):Prop where
 pos:0<L
 start:∀k,hs k L<L
 apart:∀i j k,i<L->j<L->(T i).wY =H k->(T j).wY =H k->i=j
 aO2:∀p k,p<L->(T p).wY =H k->TG T L (hs k L) p
 room:mH T L+vY T L<L
def zX(T:Nat->Pl V)(L:Nat)(m:List Nat->Option Int):Prop:=
 ∀k,(∀n,m k=H n->∃p,p<L/\(T p).wY =H k/\(T p).aO9 =H n)/\(m k=K->∀p,p<L->(T p).wY≠H k)
def nW(T:Nat->Pl V)(p:Nat)(x:Pl V):Nat->Pl V:=λj=>if j=p then x else T j
theorem kZ(T:Nat->Pl V)(p:Nat)(x:Pl V):nW T p x p=x:=bW rfl
theorem gH(T:Nat->Pl V){p:Nat}(x:Pl V)(h:j≠p):nW T p x j=T j:=R h
theorem WY{T:Nat->Pl V}{p:Nat}{x:Pl V}:∀{n:Nat},n<=p->mH (nW T p x) n=mH T n
 |0,_=>rfl
 |n+1,h=>by unfold mH;rw[WY Y,gH _ _ Y]
theorem WZ{T:Nat->Pl V}{p:Nat}{x:Pl V}:∀{n:Nat},n<=p->vY (nW T p x) n=vY T n
 |0,_=>rfl
 |n+1,h=>by unfold vY;rw[WZ Y,gH _ _ Y]
theorem DV{T:Nat->Pl V}{p:Nat}{x:Pl V}:∀{n:Nat},p<n->mH (nW T p x) n+(if(T p).mP then 1 else 0)=mH T n+if x.mP then 1 else 0
 |n+1,h=>by
  unfold mH;by_cases e:p=n
  .subst e;rw[WY (fV _),kZ];omega
  .have:=DV (T:=T) (x:=x) (show p<n by omega);rw[gH _ _ Y];omega
theorem DW{T:Nat->Pl V}{p:Nat}{x:Pl V}:∀{n:Nat},p<n->vY (nW T p x) n+(if(T p).uF then 1 else 0)=vY T n+if x.uF then 1 else 0
 |n+1,h=>by
  unfold vY;by_cases e:p=n
  .subst e;rw[WZ (fV _),kZ];omega
  .have:=DW (T:=T) (x:=x) (show p<n by omega);rw[gH _ _ Y];omega
theorem FZ{T:Nat->Pl V}:∀{L:Nat},mH T L+vY T L<L->∃p,p<L/\T p= .empty
 |n+1,h=>by
  unfold mH vY at h;cases hx:T n with
  |empty=>exact⟨n,Y,hx⟩
  |yJ=>
   exact ZM131
  |kH v k m=>
   exact ZM131
theorem Zx{T:Nat->Pl V}:∀{L p:Nat},p<L->(T p).mP=qT->0<mH T L
 |n+1,p,h,hu=>by
  unfold mH;by_cases e:p=n
  .grind
  .have:=Zx (T:=T) (show p<n by omega) hu;omega
theorem Eh{T:Nat->Pl V}:∀{L p:Nat},p<L->(T p).uF=qT->0<vY T L
 |n+1,p,h,hu=>by
  unfold vY;by_cases e:p=n
  .grind
  .have:=Eh (T:=T) (show p<n by omega) hu;omega
theorem VO{p:Pl V}{k:List Nat}(h:p.wY =H k):p.mP=qT:=by cases p<;>simp_all [Pl.wY,Pl.mP]
theorem RQ{a d L:Nat}(b:0<L):((a+d)%L+1)%L=(a+(d+1))%L:=by rw[Nat.mod_add_mod];rfl
theorem a3k{a p L:Nat}(ha:a<L)(b:p<L):∃d,d<L/\p=(a+d)%L:=by
 rcases YB p a with h|h
 .exact⟨L-a+p,Y,by rw[show a+(L-a+p)=L+p by omega,Nat.add_mod_left,z' b]⟩
 .exact⟨p-a,Y,by rw[show a+(p-a)=p by omega,z' b]⟩
theorem aHD{a d L:Nat}(hd:d<L)(l:e<L)(h:(a+d)%L=(a+e)%L):d=e:=by
 have j:0<L:=Y;have g:=Ps (a+d) L;have m:=Ps (a+e) L;rw[h]at g;rcases JJ ((a+d)/L) ((a+e)/L)with i|c|b
 .have:L*((a+d)/L+1)<=L*((a+e)/L):=Ic _ i;grind
 .rw[c]at g;omega
 .have:L*((a+e)/L+1)<=L*((a+d)/L):=Ic _ b;grind
theorem Wd{T:Nat->Pl V}{L a d:Nat}{k:List Nat}(i:0<L)(b:(T ((a+d)%L)).wY =H k)(j:∀e,e<d->T ((a+e)%L)≠ .empty)(g:∀e,e<d->(T ((a+e)%L)).wY≠H k):
  ∀(r e:Nat) (fr:Option Nat),e<=d->d<e+r->vR T L k r ((a+e)%L) fr=(H ((a+d)%L),H ((a+d)%L))
 |0,e,fr,h1,h2=>Y
 |r+1,e,fr,h1,h2=>by
  unfold vR;by_cases q:e=d
  .subst q;cases c:T ((a+e)%L)with
   |empty=>rw[c]at b;cases b
   |yJ=>rw[c]at b;cases b
   |kH v k' n=>
    rw[c]at b;simp only[Pl.wY,Option.some.injEq]at b;simp[b]
  .have l:e<d:=Y;have u:=j e l;have m:=g e l;have ih:=λfr=>Wd i b j g r (e+1) fr Y Y;cases c:T ((a+e)%L)with
   |empty=>exact dY c u
   |yJ=>simp only[];rw[RQ i];exact ih _
   |kH v k' n=>
    rw[c]at m;have:k'≠k:=λp=>m (by simp[Pl.wY,p]);simp only[this,E6];rw[RQ i];exact ih _
theorem Kn{T:Nat->Pl V}{L a d:Nat}{k:List Nat}(j:0<L)(hd:T ((a+d)%L)= .empty)(p:∀e,e<d->T ((a+e)%L)≠ .empty)(b:∀e,e<d->(T ((a+e)%L)).wY≠H k):
  ∀(r e:Nat) (fr:Option Nat),e<=d->d<e+r->(∀f,fr=H f->∃c,c<e/\f=(a+c)%L/\(T f).mP=rR)->
   ∃c,c<=d/\vR T L k r ((a+e)%L) fr=(K,H ((a+c)%L))/\(T ((a+c)%L)).mP=rR
 |0,e,fr,h1,h2,_=>Y
 |r+1,e,fr,h1,h2,g=>by
  unfold vR;by_cases y:e=d
  .subst y;rw[hd];cases fr with
   |none=>exact⟨e,fV _,rfl,by rw[hd];rfl⟩
   |some f=>
    grind
  .have q:e<d:=Y;have z:=p e q;have u:=b e q;have ih:=λfr g=>Kn j hd p b r (e+1) fr Y Y g;cases l:T ((a+e)%L)with
   |empty=>exact dY l z
   |yJ=>
    simp only[];rw[RQ j];refine ih _ λf h=> ?_;cases fr with
    |none=>
     obtain rfl:(a+e)%L=f:=eP h;exact⟨e,Y,rfl,by rw[l];rfl⟩
    |some w=>
     obtain rfl:w=f:=eP h;let⟨c,A,i,m⟩:=g w rfl;exact⟨c,Y,i,m⟩
   |kH v k' n=>
    rw[l]at u;have:k'≠k:=λx=>u (by simp[Pl.wY,x]);simp only[this,E6];rw[RQ j];refine ih _ λf h=> ?_;let⟨c,A,i,m⟩:=g f h;exact⟨c,Y,i,m⟩
variable{hs:List Nat->Nat->Nat}{T:Nat->Pl V}{L:Nat}
theorem Rp.jO(h:Rp hs T L){p:Nat}{k:List Nat}(c:p<L)(b:(T p).wY =H k):vR T L k L (hs k L) K=(H p,H p):=by
 obtain⟨d,hd,rfl,g⟩:=h.aO2 p k c b;have:=Wd (a:=hs k L) (d:=d) h.pos b g (λe j i=>by
  have:=h.apart _ _ _ (zo _ h.pos) c i b;have:=aHD Y hd this;omega) L 0 K (O9 _) Y
 rwa[qZ,z' (h.start k)]at this
theorem Rp.aEw(h:Rp hs T L){k:List Nat}(u:∀p,p<L->(T p).wY≠H k):∃f,f<L/\vR T L k L (hs k L) K=(K,H f)/\(T f).mP=rR/\TG T L (hs k L) f:=by
 let⟨p,q,g⟩:=FZ h.room;let⟨l,x,b⟩:=a3k (h.start k) q;have i:∃d,d<L/\T ((hs k L+d)%L)= .empty/\∀e,e<d->T ((hs k L+e)%L)≠ .empty:=by
  have w:T ((hs k L+l)%L)= .empty:=b▸g;clear b g q;induction l using Nat.strongRecOn with
  |_ d ih=>
   grind
 obtain⟨d,hd,j,m⟩:=i;let⟨c,y,n,r⟩:=Kn (a:=hs k L) h.pos j m (λe g=>u _ (zo _ h.pos)) L 0 K (O9 _) Y (λf v=>by cases v);rw[Nat.add_zero,z' (h.start k)]at n;exact⟨_,zo _ h.pos,n,r,c,Y,rfl,λe g=>m e Y⟩
theorem TG.fill{T':Nat->Pl V}{a p:Nat}(h:TG T L a p)(j:∀i,T i≠ .empty->T' i≠ .empty):TG T' L a p:=by
 obtain⟨d,hd,c,b⟩:=h;exact⟨d,hd,c,λe g=>j _ (b e g)⟩
theorem Rp.lay(h:Rp hs T L){k:List Nat}(y:∀p,p<L->(T p).wY≠H k){f:Nat}(e:f<L)(w:(T f).mP=rR)(r:TG T L (hs k L) f)(z:(T f).uF=qT\/mH T L+vY T L+1<L)(v:V)(n:Int):
  Rp hs (nW T f (.kH v k n)) L:=by
 have c:∀i,T i≠ .empty->nW T f (.kH v k n) i≠ .empty:=λi g=>by
  grind [nW]
 refine⟨h.pos,h.start,λi j k' g u a b=> ?_,λp k' m a=> ?_,?_⟩
 .by_cases l:i=f
  .grind [kZ,gH,Pl.wY]
  .rw[gH _ _ l]at a;by_cases q:j=f
   .grind [kZ,Pl.wY]
   .rw[gH _ _ q]at b;exact h.apart i j k' g u a b
 .by_cases d:p=f
  .subst d;rw[kZ]at a;simp only[Pl.wY,Option.some.injEq]at a;subst a;exact r.fill c
  .rw[gH _ _ d]at a;exact(h.aO2 p k' m a).fill c
 .have a:=DV (T:=T) (x:=Pl.kH v k n) e;have b:=DW (T:=T) (x:=Pl.kH v k n) e;have A:=h.room;grind [Pl.uF]
theorem Rp.drop(h:Rp hs T L){p:Nat}(g:p<L){v:V}{k:List Nat}{n:Int}(u:T p= .kH v k n):Rp hs (nW T p .yJ) L:=by
 have d:∀i,T i≠ .empty->nW T p .yJ i≠ .empty:=λi a=>by
  grind [nW]
 have c:∀i k',(nW T p .yJ i).wY =H k'->(T i).wY =H k':=λi k' a=>by
  by_cases e:i=p
  .subst e;rw[kZ]at a;cases a
  grind [gH]
 refine⟨h.pos,h.start,λi j k' a r b l=>h.apart i j k' a r (c _ _ b) (c _ _ l),λq k' m b=>(h.aO2 q k' m (c _ _ b)).fill d,?_⟩;have b:=DV (T:=T) (x:=Pl.yJ) g;have l:=DW (T:=T) (x:=Pl.yJ) g;have w:=h.room;grind [Pl.mP]
theorem IB{L:Nat}:∀n,mH (λ_=>(Pl.empty:Pl V)) n=0/\vY (λ_=>(Pl.empty:Pl V)) n=0
 |0=>⟨rfl,rfl⟩
 |n+1=>by
  let⟨b,a⟩:=IB (L:=L) n;unfold mH vY;rw[b,a];exact⟨rfl,rfl⟩
theorem Rp.fresh(hs:List Nat->Nat->Nat){L:Nat}(a:0<L)(b:∀k,hs k L<L):Rp hs (λ_=>(Pl.empty:Pl V)) L:=
 ⟨a,b,(λi j k _ _ h=>by cases h),(λp k _ h=>by cases h),by let⟨d,c⟩:=IB (V:=V) (L:=L) L;omega⟩
theorem zX.lay{m:List Nat->Option Int}(h:zX T L m){f:Nat}(c:f<L)(i:(T f).mP=rR)(v:V)(k:List Nat)(n:Int)(j:∀p,p<L->(T p).wY≠H k):
  zX (nW T f (.kH v k n)) L (λk'=>if k'=k then H n else m k'):=λk'=>by
 by_cases e:k'=k
 .subst e;simp only[yN];exact⟨λn' a=>by injection a with a;subst a;exact⟨f,c,by rw[kZ];rfl,by rw[kZ];rfl⟩,λh=>by cases h⟩
 .simp only[e,E6];refine⟨λn' a=> ?_,λa p b=> ?_⟩
  .let⟨p,b,q,l⟩:=(h k').1 n' a;have:p≠f:=λg=>by
    grind [VO]
   exact⟨p,b,by grind [gH],by grind [gH]⟩
  .by_cases d:p=f
   .grind [kZ,Pl.wY]
   .rw[gH _ _ d];exact(h k').2 a p b
theorem zX.drop{m:List Nat->Option Int}(h:zX T L m)(i:Rp hs T L){p:Nat}(l:p<L){v:V}{k:List Nat}{n:Int}(j:T p= .kH v k n):
  zX (nW T p .yJ) L (λk'=>if k'=k then K else m k'):=λk'=>by
 by_cases e:k'=k
 .subst e;simp only[yN];refine⟨(λd c=>by cases c),λ_ q b=> ?_⟩;by_cases a:q=p
  .subst a;rw[kZ];intro h;cases h
  .rw[gH _ _ a];intro g;exact a (i.apart q p k' b l g (by rw[j];rfl))
 .simp only[e,E6];refine⟨λd c=> ?_,λc q b=> ?_⟩
  .let⟨q,b,g,u⟩:=(h k').1 d c;have:q≠p:=λr=>by
    grind [Pl.wY]
   exact⟨q,b,by grind [gH],by grind [gH]⟩
  .by_cases a:q=p
   .subst a;rw[kZ];intro h;cases h
   .rw[gH _ _ a];exact(h k').2 c q b
theorem zX.fresh(L:Nat):zX (λ_=>(Pl.empty:Pl V)) L (λ_=>K):=λk=>⟨(λn h=>by cases h),(λ_ p _ h=>by cases h)⟩
end
end
def AT:Nat->Nat->aE:=λc _=>mj n9 (c:Int)
def La(h c:Nat):Nat:=((h^^^c)*1099511628211)%18446744073709551616
def P6(k:List Nat):Nat:=k.foldl La 14695981039346656037
def De(k:List Nat):Nat:=P6 k^^^P6 k/4294967296
abbrev aNv(w:aA)(v:aE)(k:List Nat):Prop:=fM AT 0 1 w v k
theorem aF5(h c:Nat):La h c<18446744073709551616:=by unfold La;omega
theorem Cv:∀(k:List Nat),P6 k<18446744073709551616:=λk=>by
 unfold P6;rcases Bk k with rfl|⟨l,c,rfl⟩
 .rw[B4];omega
 .rw[List.concat_eq_append,um,wn,B4];exact aF5 _ _
theorem aGU(k:List Nat):De k<18446744073709551616:=by
 have h:=Cv k;exact Nat.xor_lt_two_pow (n:=64) h (Sp (Nat.div_le_self _ _) h)
theorem oh{k:List Nat}(h:i<O k):P6 (k.take (i+1))=La (P6 (k.take i)) (hJ k i 0):=by
 unfold P6;rw[KH,kU h,gV,kU h,um,Option.toList_some,wn,B4,O8]
theorem aB8(h c:Nat)(a:h<18446744073709551616)(b:c<256):IntKind.u64.wrap (Go.bits BinOp.xor IntKind.u64 (h:Int) (c:Int)*1099511628211)=(La h c:Int):=by
 rw[bits_xor_u64_nat h c a Y,IntKind.wrap_u64];unfold La;omega
theorem aLH(c:Nat)(a:c<256):IntKind.u64.wrap (c:Int)=(c:Int):=by
 rw[IntKind.wrap_u64];omega
theorem aOs(v:aE)(k:List Nat)(w:aA)(h:aNv w v k)(q:∀x∈k,x<256):
  aK prog 246 #[v] w λe w'=>e=mi (mj .u64 (De k:Int))/\w=w':=by
 obtain⟨a,c,rfl,j⟩:=h.len;unfold bH at j;have F:=Z q;clear q;go_in;go_wp2;go_loopg [3,8] (O k) (λA z C wr=>∃i:Nat,i<=O k/\A=O k-i/\z=mj .u64 (P6 (k.take i):Nat)/\C=X i/\w=wr)
 .exact⟨0,Y,rfl,rfl,rfl,rfl⟩
 obtain⟨i,L,rfl,rfl,rfl,rfl⟩:=hrel;by_cases d:i<O k
 .let⟨g,o,c',hv,s,r⟩:=h.aS d;obtain rfl:=IK hv;have c0:=r 0 E;simp only[AT,yC,qZ]at c0;have n:=F.o (hJ k i 0) (by rw[gV,kU d];exact gu d);have m:=Z (oh d);let⟨x,p⟩:=D (hJ k i 0);let⟨y,b⟩:=D (P6 (k.take i));have l:=Cv (k.take i);rw[p]at c0 n m;rw[b]at m l|-;have f:=aB8 y x l n;have G:=aLH x n;clear p b r l;go_wp2;go_roundg (O k-(i+1))
  .exact⟨i+1,d,rfl,by rw[m.o],eY,rfl⟩
  omega
 .obtain rfl:i=O k:=Y;rw[TU];have hl:=Cv k;let⟨y,b⟩:=D (P6 k);have B:=Z (show De k=y^^^y/4294967296 by unfold De;rw[b]);rw[b]at hl|-;have u:=(show Go.bits BinOp.xor IntKind.u64 (y:Int) ((y:Int)/4294967296)=((y^^^y/4294967296:Nat):Int)from xorShift_u64 y 4294967296 hl);clear b;go_wp2;go_ret;rw[B.o,<-u];exact⟨rfl,rfl⟩
variable{cap g sz2 t2:Nat}{e2:ap}{v' v2:aE}
section
def e0(w:aA):aA:={w with heap:=#[]}
theorem OB(w:aA):U (e0 w) [] w []:=⟨rfl,rfl,rfl,O9 _,λk a _=>dY a (Gd k),by simp⟩
section
variable{α:Type}{f:α->Nat->aE}{d:α}{e:ap}{sz:Nat}{w w' wb:aA}{ρ bV:bC}{t:Nat}{v:aE}{l:List α}{S:Nat->Prop}
theorem pI.cZ(h:pI f d e sz w ρ t v l)(wb:aA):bN f d e sz (e0 wb) w v l:=⟨h.1,λ_ _=>O9 _⟩
theorem pI.lt(h:pI f d e sz w ρ t v l):∀g,i6 v=H g->g<i7 w.heap:=eV.lt h.1
theorem pI.RO(h:pI f d e sz w ρ t v l):∀g,g∈v.ownBlock.toList->ρ g=t:=λg a=>h.2 g (eP a)
theorem bN.ON{l':List α}(h:bN f d e sz (e0 wb) w' v' l')(b:pI f d e sz w ρ t v l)(i:U w v.ownBlock.toList w' v'.ownBlock.toList):pI f d e sz w' (up w t ρ) t v' l':=
 ⟨h.1,λg c=>by
  rcases i.fresh g (by rw[c];simp)with a|a
  .have a:i6 v=H g:=eP a;rw[fG (b.lt g a)];exact b.2 g a
  .exact cY a⟩
theorem pI.fK(c:pI f d e sz w ρ t v l)(a:U w v.ownBlock.toList w' v'.ownBlock.toList)(g:S t):bI w ρ S w' (up w t ρ):=a.fK t λk b=> .inl (c.RO k b▸g)
theorem pI.PQ(h:pI f d e 3 w ρ t (jS (H ⟨g,0,K⟩) n cap) l)(v:i<O l)(y:α)(x0 x1 x2:aE)(c:f y 0=x0)(m:f y 1=x1)(u:f y 2=x2):
  pI f d e 3 (hY (hY (hY w ⟨g,i*3,K⟩ x0) ⟨g,i*3+1,K⟩ x1) ⟨g,i*3+2,K⟩ x2) ρ t (jS (H ⟨g,0,K⟩) n cap) (l.set i y):=by
 obtain⟨a',cap',hv,_⟩:=h.len;injection hv with e1 e2 e3;subst e1 e2 e3;have t1:=eV.set h.1 rfl i 0 E x0;have t2:=eV.set t1 rfl i 1 E x1;have r:=eV.set t2 rfl i 2 E x2;refine⟨?_,h.2⟩;rw[TS];refine eV.congr r λb q x p=> ?_;rw[gV (l:=l.set i y),List.getElem?_set];by_cases a:i=b
 .subst a;rw[bW rfl,bW v,O8];match q,p with
  |0,_=>simp[c]
  |1,_=>simp[m]
  |2,_=>simp[u]
 .have j:¬b=i:=λh=>a h.symm;rw[R a,<-gV];simp[j]
theorem pI.D6(h:pI f d e sz w ρ t v l)(c:Nat)(b:i7 w.heap<=n):pI f d e sz w (up n c ρ) t v l:=⟨h.1,λg a=>(fG (xF (h.lt g a) b)).ds (h.2 g a)⟩
theorem pI.KA{β:Type}{b:β->Nat->aE}{n:β}{c:List β}(h:pI f d e sz w ρ t v l)(j:pI b n e2 sz2 w ρ t2 v2 c)(a:e≠e2):∀g,i6 v=H g->g∉v2.ownBlock.toList:=λg i m=>eV.KA h.1 j.1 a g i (eP m)
theorem pI.eU{L:List Nat}(h:pI f d e sz w ρ t v l)(a:U w L w' L')(b:∀g,i6 v=H g->g∉L):pI f d e sz w' ρ t v l:=⟨h.1.eU a b,h.2⟩
theorem pI.ne(h:pI f d e sz w ρ t v l){T:Nat}(c:w.heap[b]? =H (kd cs T (0,0)))(a:e≠T):i6 v≠H b:=eV.ne h.1 c a
theorem pI.Aj(h:pI f d e sz w ρ t (jS (H ⟨g,0,K⟩) n cap) l)(m:i<O l)(c:j<sz)(x:α)(u:aE)(b:∀a,a<sz->f x a=if a=j then u else f (hJ l i d) a):
  pI f d e sz (hY w ⟨g,i*sz+j,K⟩ u) ρ t (jS (H ⟨g,0,K⟩) n cap) (l.set i x):=
 ⟨(bN.EW (h.cZ w) m c x u b).1,h.2⟩
theorem U.PQ(w:aA)(x0 x1 x2:aE):U w [g] (hY (hY (hY w ⟨g,i*3,K⟩ x0) ⟨g,i*3+1,K⟩ x1) ⟨g,i*3+2,K⟩ x2) [g]:=
 ((qX w g (i*3) x0).setCell (a:=Ad g (i*3+1)) (.inl J) x1).setCell (a:=Ad g (i*3+2)) (.inl J) x2
theorem pI.aS(h:pI f d e sz w ρ t v l)(a:i<O l):∃g cap,v=jS (H ⟨g,0,K⟩) (O l) cap/\g<i7 w.heap/\ρ g=t/\(∀j,j<sz->h8 w ⟨g,i*sz+j,K⟩=H (f (hJ l i d) j))/\(∀k,w.frozen? ⟨g,k,K⟩=rR)/\∃cur,w.heap[g]? =H (kd cur e (0,0)):=by
 let⟨g,cap,hv,m,b,c,q,p⟩:=eV.block h.1 (x' a);exact⟨g,cap,hv,b,h.2 g m,λj n=>c i j a n,q,p⟩
theorem pI.RN{a:Option cg}{k:Nat}(h:pI f d e sz w ρ t (jS a n cap) l)(v:k<=O l)(u:a=K->cap=0):pI f d e sz w ρ t (jS a k cap) (l.take k):=by
 refine⟨?_,λg b=>h.2 g (by cases a with|none=>cases b|some x=>exact b)⟩;have hl:O (l.take k)=k:=kG PI;rw[hl];rcases h.1 with⟨hv,m⟩|⟨g,cap',cur,hv,b,m,c,hs,q⟩
 .injection hv with e1 e2 e3;subst e1 e3;have:k=0:=Y;subst this;exact .inl ⟨rfl,rfl⟩
 .injection hv with e1 e2 e3;subst e1 e3;refine .inr ⟨g,_,cur,rfl,b,Y,c,hs,λi j r p=> ?_⟩;rw[q i j Y p];show H (f (hJ l i d) j)=H (f (hJ (l.take k) i d) j);rw[gV,gV,List.getElem?_take,bW r]
end
end
variable{k2:List Nat}{x:Nat}{fD:bC}{v:aE}
section
def QH(p:Pl aE)(j:Nat):aE:=match p with
 | .empty=>if j=0 then mj n9 0 else if j=1 then jS K 0 0 else mj mn 0
 | .yJ=>if j=0 then mj n9 2 else if j=1 then jS K 0 0 else mj mn 0
 | .kH v _ n=>if j=0 then mj n9 1 else if j=1 then v else mj mn n
def hs(k:List Nat)(L:Nat):Nat:=De k%L
structure qI(w:aA)(ρ:bC)(t:Nat)(v:aE)(k:List Nat):Prop where
 rd:lW AT 0 1 w ρ t v k
 plain:∀a n c,v=jS (H a) n c->a.spot=K
theorem qI.eb{w w':aA}{ρ bV:bC}{t:Nat}{k:List Nat}{S:Nat->Prop}(h:qI w ρ t v k)(a:bI w ρ S w' bV)(b:¬S t):qI w' bV t v k:=⟨h.rd.eb a b,h.plain⟩
theorem qI.on{w w':aA}{ρ:bC}{t:Nat}{k:List Nat}{L:List Nat}(h:qI w ρ t v k)(a:U w [] w' L):qI w' ρ t v k:=⟨h.rd.on a,h.plain⟩
def FJ(k:List Nat):Prop:=(∀x∈k,x<256)/\O k<=4096
structure wZ(w:aA)(ρ:bC)(t b g:Nat)(T:Nat->Pl aE)(L aH:Nat):Prop where
 cF:∃p:Int,w.heap[b]? =H (kd #[mj mn aH,mj mn (mH T L:Int),mj mn (vY T L:Int),mj mn p,jS (H ⟨g,0,K⟩) L L] 329 (0,0))
 yY:eV w (jS (H ⟨g,0,K⟩) L L) 389 3 L (λi j=>QH (T i) j)
 KU:∀i v k n,i<L->T i= .kH v k n->qI w ρ (t+1) v k/\FJ k
 cE:ρ b=t/\ρ g=t
 pow:∃j,L=8*2^j
 mL:L<=8388608
 aH:1<=aH/\aH<=1048576
 wf:Rp hs T L
section
variable{w w':aA}{ρ bV:bC}{t b g:Nat}{T:Nat->Pl aE}{L aH:Nat}{S:Nat->Prop}
theorem wZ.lt(h:wZ w ρ t b g T L aH):g<i7 w.heap/\b<i7 w.heap:=by
 obtain⟨p,a⟩:=h.cF;exact⟨eV.lt h.yY g rfl,dG a⟩
theorem wZ.eb(h:wZ w ρ t b g T L aH)(a:bI w ρ S w' bV)(c:¬S t)(j:¬S (t+1)):wZ w' bV t b g T L aH:=by
 obtain⟨p,l⟩:=h.cF;have hl:=h.lt;exact⟨⟨p,a.aC l (h.cE.1▸c)⟩,eV.aC h.yY (λg' m=>by
  obtain rfl:g'=g:=by simpa[i6]using m.symm
  exact a.block g' hl.1 (h.cE.2▸c)),λi v k n d e=>⟨(h.KU i v k n d e).1.eb a j,(h.KU i v k n d e).2⟩,⟨(a.cE b hl.2).ds h.cE.1,(a.cE g hl.1).ds h.cE.2⟩,h.pow,h.mL,h.aH,h.wf⟩
theorem wZ.on(h:wZ w ρ t b g T L aH)(a:U w [] w' L'):wZ w' ρ t b g T L aH:=h.eb (S:=eZ) a.fL id id
theorem wZ.ne(h:wZ w ρ t b g T L aH):g≠b:=λe=>by
 obtain⟨p,a⟩:=h.cF;exact eV.ne h.yY a E (by rw[e];rfl)
theorem wZ.cells(h:wZ w ρ t b g T L aH)(a:i<L):∀j,j<3->h8 w ⟨g,i*3+j,K⟩=H (QH (T i) j):=by
 let⟨g',cap,hv,_,_,c,_,_⟩:=eV.block h.yY (x' a);grind
end
structure IxT(w:aA)(ρ:bC)(t b g:Nat)(T:Nat->Pl aE)(L:Nat):Prop where
 cF:∃v0 v1 v2 v3,w.heap[b]? =H (kd #[v0,v1,v2,v3,jS (H ⟨g,0,K⟩) L L] 329 (0,0))
 yY:eV w (jS (H ⟨g,0,K⟩) L L) 389 3 L (λi j=>QH (T i) j)
 KU:∀i v k n,i<L->T i= .kH v k n->qI w ρ (t+1) v k/\FJ k
 cE:ρ b=t/\ρ g=t
 pow:∃j,L=8*2^j
 mL:L<=8388608
 wf:Rp hs T L
section
variable{w w':aA}{ρ bV:bC}{t b g:Nat}{T:Nat->Pl aE}{L aH:Nat}{S:Nat->Prop}
theorem wZ.toT(h:wZ w ρ t b g T L aH):IxT w ρ t b g T L:=by
 obtain⟨p,a⟩:=h.cF;exact⟨⟨_,_,_,_,a⟩,h.yY,h.KU,h.cE,h.pow,h.mL,h.wf⟩
theorem IxT.lt(h:IxT w ρ t b g T L):g<i7 w.heap/\b<i7 w.heap:=by
 obtain⟨_,_,_,_,a⟩:=h.cF;exact⟨eV.lt h.yY g rfl,dG a⟩
theorem IxT.eb(h:IxT w ρ t b g T L)(a:bI w ρ S w' bV)(c:¬S t)(j:¬S (t+1)):IxT w' bV t b g T L:=by
 obtain⟨v0,v1,v2,v3,l⟩:=h.cF;have hl:=h.lt;exact⟨⟨v0,v1,v2,v3,a.aC l (h.cE.1▸c)⟩,eV.aC h.yY (λg' m=>by
  obtain rfl:g'=g:=by simpa[i6]using m.symm
  exact a.block g' hl.1 (h.cE.2▸c)),λi v k n d e=>⟨(h.KU i v k n d e).1.eb a j,(h.KU i v k n d e).2⟩,⟨(a.cE b hl.2).ds h.cE.1,(a.cE g hl.1).ds h.cE.2⟩,h.pow,h.mL,h.wf⟩
theorem IxT.on(h:IxT w ρ t b g T L)(a:U w [] w' L'):IxT w' ρ t b g T L:=h.eb (S:=eZ) a.fL id id
theorem IxT.cells(h:IxT w ρ t b g T L)(a:i<L):∀j,j<3->h8 w ⟨g,i*3+j,K⟩=H (QH (T i) j):=by
 let⟨g',cap,hv,_,_,c,_,_⟩:=eV.block h.yY (x' a);grind
end
theorem VH(a b:Nat)(ha:a<9223372036854775808)(e:b<9223372036854775808):Go.bits BinOp.and mn (a:Int) (b:Int)=((a&&&b:Nat):Int):=by
 have c:a&&&b<2^63:=Nat.and_lt_two_pow _ Y;have g:(BitVec.ofInt 64 (a:Int)).toNat=a:=by
  grind
 have d:(BitVec.ofInt 64 (b:Int)).toNat=b:=by
  grind
 show IntKind.i64.wrap ((BitVec.ofInt 64 (a:Int)&&&BitVec.ofInt 64 (b:Int)).toNat:Int)=_;grind [IntWalk.i64_in]
theorem zq{L:Nat}(a:L=8*2^j):x&&&(L-1)=x%L:=by
 have e:L=2^(j+3):=by grind
 grind [Nat.and_two_pow_sub_one_eq_mod]
theorem aMc{L:Nat}(a:L=8*2^j)(k:List Nat):hs k L<L:=zo _ BC
def aA1(k:List Nat):dO:=strOfNums (k.map Int.ofNat)
theorem aEJ{k k':List Nat}(h:∀x∈k,x<256)(d:∀x∈k',x<256)(e:aA1 k=aA1 k'):k=k':=by
 have e2:=xE (λs:ByteArray=>s.data.toList) e;unfold aA1 at e2;rw[strOfNums_data,strOfNums_data,List.map_map,List.map_map]at e2;have hl:O k=O k':=by have:=xE O e2;simpa using this
 apply List.ext_getElem hl;intro i c a;have b:=xE (λl=>l[i]?) e2;grind [UInt8.toNat_ofNat',Ct]
theorem qI.conv{w:aA}{ρ:bC}{t:Nat}{k:List Nat}(h:qI w ρ t v k)(m:∀x∈k,x<256):(convert 373 9 v).run prog w= .ok (mX (aA1 k)) w:=by
 obtain⟨⟨l,_⟩,j⟩:=h;rcases l with⟨c,a,cap,rfl,ha⟩|⟨g,o,cap,rfl,c,p,n,e⟩
 .have d:=dt.1 c;subst d;cases a with
  |none=>exact run_convert_bytes_nil (P:=prog) w 373 5 underlying373 underlying5 0 cap 9 underlying9
  |some a=>
   obtain⟨g,o,s⟩:=a;obtain rfl:s=K:=j _ _ _ rfl;exact run_convert_bytes_arg w 373 5 underlying373 underlying5 g o 0 cap [] rfl (λi b=>dY b (Gd i)) 9 underlying9
 .exact run_convert_bytes_arg w 373 5 underlying373 underlying5 g o (O k) cap (k.map Int.ofNat) J (λi b=>by
   have:=e i 0 b E;simp only[AT,yC,qZ]at this;rw[this,gV,kU b];simp[gV,kU b]) 9 underlying9
theorem aHI{ρ:bC}{t:Nat}{k:List Nat}(w:aA)(h:qI w ρ t v k)(b:qI w fD t2 v2 k)(a:∀x∈k,x<256):
  aK prog 247 #[v,v2] w λe w'=>e=mi (nj qT)/\w=w':=by
 have c1:=h.conv a;have c2:=b.conv a;go_in;go_wp2;go_ret;simp_all
theorem aLR{ρ:bC}{t:Nat}{k:List Nat}(w:aA)(h:qI w ρ t v k)(i:qI w fD t2 v2 k2)(d:∀x∈k,x<256)(c:∀x∈k2,x<256)(g:k≠k2):
  aK prog 247 #[v,v2] w λe w'=>e=mi (nj rR)/\w=w':=by
 have c1:=h.conv d;have c2:=i.conv c;have j:=ZV (a:=aA1 k) (b:=aA1 k2) (λe=>g (aEJ d c e));go_in;go_wp2;go_ret;simp_all
def S6:Option Nat->Int
 |none=> -1
 |some x=>x
end
variable{sz:Nat}{w:aA}
theorem ZM68{P:Prop}(h:P:=by
  have h0:l=[]:=by
   rcases h with⟨h1,_⟩|⟨g,o,c,h1,_⟩
   .exact dt.1 h1
   .cases h1
  subst h0;go_in;go_wp2;go_ret;exact⟨_,rfl,bN.nil _ _,U.refl _ _⟩):P:=h
theorem GM{α:Type}{f:α->Nat->aE}{d:α}{e:ap}(a:w.heap[b]? =H (kd #[] e (0,0)))(n:i7 w0.heap<=b):bN f d e sz w0 w (jS (H ⟨b,0,K⟩) 0 0) ([]:List α):=
 ⟨.inr ⟨b,0,#[],rfl,a,fV _,(by decide:0<=bH),J,λi j l m=>by cases l⟩,λg c=>by simp[i6]at c;omega⟩
def dV(v:L4)(j:Nat):aE:=if j=0 then mj mn v.aG else if j=1 then mj mn v.num else mX v.dZ
theorem DU:kD prog 373 5 1 1:= .QZ (z:=mj n9 0) underlying373 dJ rfl
theorem aLB:kD prog 34 90 3 32:= .QZ (z:= .agg #[X 0,X 0,mX bU]) underlying34 dJ rfl
theorem aEk(y j:Nat):(AT y j).oneCell'=qT:=rfl
theorem aEj(y:L4)(j:Nat):(dV y j).oneCell'=qT:=by unfold dV;split<;>(try split)<;>rfl
theorem rh(v:aE)(l:List Nat)(w:aA)(h:fM AT 0 1 w v l)(hl:O l<=100000):
  aK prog 291 #[v] w λe w'=>∃u,e=mi u/\bN AT 0 5 1 w w' u l/\U w [] w' []:=by
 have q:∀(w:aA) (a:Option cg) (n c n' c':Nat),(binOp .eql 373 (jS a n c) (jS K n' c')).run prog w= .ok (nj a.isNone) w:=λw a n c n' c'=>Lib.run_eql_slice_nil w _ _ a n c n' c' underlying373;obtain⟨a,cap,rfl,-⟩:=h.len;cases a with
 |none=>
  exact ZM68
 |some ad=>
  go_in;go_upto_region 3 with(fail);let⟨w1,d⟩:=D (i5 w (kd #[] 5));have b:=(d▸(U.refl w []).alloc (kd #[] 5):U w [] w1 []);have m:dT (bN AT 0 5 1 w w1 (jS (H ⟨w,0,K⟩) 0 0) []):=Z (GM (d▸mE w _) (fV _));go_wp2_with (at_builtin;refine jP DU E rfl _ _ rfl m b (fV _) b.size (h.on b) (λy p j z=>aEk y j) Yr Yr (by simp;omega) (by unfold bH;simp;omega) ?_;rintro g5 r w5 i cO x;have pL:=Z i);exact ZM177
theorem TA(v:aE)(l:List L4)(w:aA)(h:fM dV aR 3 w v l)(hl:O l<=100000):
  aK prog 206 #[v] w λe w'=>∃u,e=mi u/\bN dV aR 90 3 w w' u l/\U w [] w' []:=by
 have q:∀(w:aA) (a:Option cg) (n c n' c':Nat),(binOp .eql 34 (jS a n c) (jS K n' c')).run prog w= .ok (nj a.isNone) w:=λw a n c n' c'=>Lib.run_eql_slice_nil w _ _ a n c n' c' underlying34;obtain⟨a,cap,rfl,-⟩:=h.len;cases a with
 |none=>
  exact ZM68
 |some ad=>
  go_in;go_upto_region 3 with(fail);let⟨w1,d⟩:=D (i5 w (kd #[] 90));have b:=(d▸(U.refl w []).alloc (kd #[] 90):U w [] w1 []);have m:dT (bN dV aR 90 3 w w1 (jS (H ⟨w,0,K⟩) 0 0) []):=Z (GM (d▸mE w _) (fV _));go_wp2_with (at_builtin;refine jP aLB E rfl _ _ rfl m b (fV _) b.size (h.on b) (λy p j z=>aEj y j) Yr Yr (by simp;omega) (by unfold bH;simp;omega) ?_;rintro g5 r w5 i cO x;have pL:=Z i);exact ZM177
theorem ZM201{P:Prop}(h:P:=by
  go_in;go_wp2;go_ret;exact⟨rfl,U.refl _ _⟩):P:=h
abbrev zv(w:aA)(ρ:bC)(t:Nat)(v:aE)(r:Row):Prop:=lW dV aR 3 w ρ t v r
def CE(r:Row):Prop:=O r<=1048576/\∀v∈r,v.dZ.size<=1048576/\rng v
def xH(x:L4):aE:= .agg #[mj mn x.aG,mj mn x.num,mX x.dZ]
theorem uZ(h:fM dV aR 3 w v r){k:Nat}(b:k<O r):∃g o cap,v=jS (H ⟨g,o,K⟩) (O r) cap/\h8 w ⟨g,o+k*3,K⟩=H (mj mn (hJ r k aR).aG)/\h8 w ⟨g,o+k*3+1,K⟩=H (mj mn (hJ r k aR).num)/\h8 w ⟨g,o+k*3+2,K⟩=H (mX (hJ r k aR).dZ):=by
 let⟨g,o,cap,hv,_,a⟩:=fM.aS h b;exact⟨g,o,cap,hv,a 0 E,a 1 E,a 2 E⟩
theorem ly(v:aE)(l:Row)(g:Nat)(c:Array aE)(p:L4->Bool)(w:aA)(y:∀args w,(callFunc g args).run prog w= .ok (.enter g args) w)(h:fM dV aR 3 w v l)(n:ID g c xH p l w):
  aK prog 187 #[v,.func (.func g) #[] c] w λe w'=>e=mi (mj mn (UZ p l))/\U w [] w' []:=by
 obtain⟨a,cap,rfl,m⟩:=h.len;unfold bH at m;go_in;go_wp2;go_loopg [8] (O l) (λq i wr=>U w [] wr []/\∃k:Nat,k<=O l/\q=O l-k/\i=X k/\∀j,j<k->p (hJ l j aR)=rR)
 .exact ZM179
 obtain⟨hU,k,u,rfl,rfl,fX⟩:=hrel;by_cases b:k<O l
 .let⟨r,o,cap',hv,c0,c1,c2⟩:=uZ (h.on hU) b;obtain rfl:=IK hv;have EI:=n _ (bO (d:=aR) b) wr hU;generalize hx:hJ l k aR=x at c0 c1 c2 EI;unfold xH at EI;cases hb:p x with
  |true=>
   rw[hb]at EI;go_wp2_with (first
    |(go_at_fn g;apply EI.dC;intro w2 bM))
   go_ret;exact⟨xE (λz=>mi (X z)) (vU (d:=aR) b (by rw[hx];exact hb) fX).symm,hU.ds bM⟩
  |false=>
   exact ZM54
 .go_wp2;go_ret;exact⟨xE (λz=>mi (X z)) (zI (d:=aR) λj hj=>fX j Y).symm,hU⟩
theorem ph(v:aE)(l:Row)(g:Nat)(a:Array aE)(p:L4->Bool)(w:aA)(b:∀args w,(callFunc g args).run prog w= .ok (.enter g args) w)(h:fM dV aR 3 w v l)(c:ID g a xH p l w):
  aK prog 148 #[v,.func (.func g) #[] a] w λe w'=>e=mi (nj (l.any p))/\U w [] w' []:=by
 go_in;go_wp2_with (go_at_call 187;apply(ly v l g a p w b h c).dC;intro w' hU);exact ZM185
theorem Om(x:L4)(w:aA)(hs:x.dZ.size<=1048576):
  aK prog 149 #[xH x] w λe w'=>e=mi (nj (!gX x))/\U w [] w' []:=by
 unfold xH;let⟨w1,a⟩:=D (i5 w (kd #[X x.aG,X x.num,mX x.dZ] 90));have c:=(show U w [] w1 []from Za a);have b:=Zb a;obtain⟨c0,c1,c2⟩:=Z3 b;go_in;go_wp2_with (go_at_call 150;apply(Ir x w1 hs).dC;intro w' d);go_ret;exact⟨rfl,c.ds d⟩
theorem aLX(r:Row):(r.any λx=> !gX x)= !r.all gX:=by
 induction r with
 |nil=>rfl
 |cons x r ih=>simp[List.any_cons,List.all_cons,ih,Bool.not_and]
theorem M9(v:aE)(r:Row)(w:aA)(h:fM dV aR 3 w v r)(g:CE r):
  aK prog 109 #[v] w λe w'=>e=mi (nj (dS r))/\U w [] w' []:=by
 obtain⟨a,cap,rfl,-⟩:=h.len;have hl:=g.1;have l:ID 149 #[] xH (λx=> !gX x) r w:=λx j m _=>Om x m (g.2 x j).1;have d:=Z (ph _ r 149 #[] _ w (enters_of func149 dJ rfl) h l);rw[aLX]at d;by_cases b:O r<=30
 .have c:(O r:Int)<=30:=Y;have hv:dS r=r.all gX:=by unfold dS;rw[kY b,VN]
  rw[hv];generalize n:r.all gX=q at d|-;go_in;go_wp2_with (go_at_call 148;apply d.dC;intro w' i);go_ret;exact⟨J,i⟩
 .have c:¬(O r:Int)<=30:=Y;have hv:dS r=rR:=by unfold dS;rw[kE b,T1]
  rw[hv];exact ZM201
variable{f8:List Nat}
theorem aAt(r:Row){k:Nat}(a:k<O f8):dF r (f8.take (k+1))=dF r (f8.take k)++[hJ r (hJ f8 k 0) aR]:=by
 unfold dF;rw[fW (d:=0) a,QW];rfl
theorem sV(r:Row)(f8:List Nat):O (dF r f8)=O f8:=by unfold dF;simp
def aQx(w:aA)(r:Row)(f8:List Nat)(e:cc)(w':aA):Prop:=∃u,e=mi (mr #[u,mj mn 0])/\bN dV aR 90 3 w w' u (dF r f8)/\U w [] w' []
theorem J0(v cv:aE)(r:Row)(f8:List Nat)(w:aA)(h:fM dV aR 3 w v r)(q:fM fN 0 1 w cv f8)(hn:O f8<=30)(QA:∀c∈f8,c<O r)(hl:O r<=1048576):
  aK prog 110 #[v,cv] w (aQx w r f8):=by
 obtain⟨a,cap,rfl,-⟩:=h.len;obtain⟨S,W,rfl,-⟩:=q.len;have L:=Z q;have Hr:(O f8:Int)<=30:=Y;clear q;go_in;go_wp2;go_loopg [6,14] (O f8) (λB s6 p wr=>∃k:Nat,k<=O f8/\B=O f8-k/\p=X k/\bN dV aR 90 3 w wr s6 (dF r (f8.take k))/\U w [] wr [])
 .exact⟨0,Y,rfl,rfl,bN.nil _ _,U.refl _ _⟩
 obtain⟨k,hk,rfl,rfl,e,i⟩:=hrel;by_cases g:k<O f8
 .let⟨gc,oc,F,m,_,d⟩:=fM.aS (L.o.on i) g;obtain rfl:=IK m;have z:=d 0 E;simp only[fN,yC,qZ]at z;have b:=QA (hJ f8 k 0) (bO g);have l:=aAt r g;generalize f:hJ f8 k 0=c at z b l;let⟨V,ov,N,C,c0,c1,c2⟩:=uZ (h.on i) b;obtain rfl:=IK C;generalize s:hJ r c aR=x at c0 c1 c2 l;have P:(c:Int)<(O r:Int):=Y;have u:O (dF r (f8.take k))=k:=by rw[sV,PI];omega
  obtain⟨ua,uc,rfl,-⟩:=e.len;have n:=Z l;have A:=Z u;clear f s d l b u;go_wp2_with (at_builtin;refine cK aLB rfl _ _ rfl e i Yr [X x.aG,X x.num,mX x.dZ] x Yr rfl (λj o=>by match j,o with|0,_=>rfl|1,_=>rfl|2,_=>rfl) rfl (kG A.o) (by rw[A.o];unfold bH;omega) ?_;rintro g5 T w5 y G- -;have Q:=Z y;clear y);go_roundg (O f8-(k+1))
  .exact⟨k+1,g,rfl,eY,by rw[n.o];exact Q.o,G⟩
  omega
 .obtain rfl:k=O f8:=Y;rw[TU]at e;go_wp2;go_ret2;exact⟨_,rfl,e,i⟩
theorem Oe{k:Nat}(a:k<O r):bR (r.take (k+1))=bR (r.take k)++D7 (hJ r k aR):=by
 unfold bR;rw[fW (d:=aR) a,IF];simp
theorem uy{M:Nat}(h:M<9223372036854775808):M^^^9223372036854775808=9223372036854775808+M:=by
 apply Fj;intro i;rw[Nat.testBit_xor,show(9223372036854775808:Nat)=2^63 from rfl,Nat.testBit_two_pow];rcases JJ i 63 with a|rfl|a
 .rw[Nat.testBit_two_pow_add_gt a,kE Y];simp
 .rw[Nat.testBit_two_pow_add_eq,kY rfl,zbN (show M<2^63 from h)];rfl
 .rw[kE Y,zbN (xF h (Fk (n:=2) E (by omega:63<=i))),zbN]
  .rfl
  .calc 2^63+M<2^63+2^63:=by have:M<2^63:=h;omega
    _=2^64:=rfl
    _<=2^i:=Fk (n:=2) E Y
def aBJ(x:L4):Nat:=(x.num+9223372036854775808).toNat
theorem aIq{x:L4}(h:rng x):Go.bits BinOp.xor IntKind.u64 (IntKind.u64.wrap x.num) 9223372036854775808=(aBJ x:Int):=by
 unfold rng at h;unfold aBJ;rw[IntKind.wrap_u64];by_cases d:0<=x.num
 .obtain⟨M,a⟩:∃M:Nat,x.num=M:=⟨x.num.toNat,Y⟩;rw[a]at h|-;rw[show((M:Int)%18446744073709551616)=((M:Nat):Int) by omega,show(9223372036854775808:Int)=((9223372036854775808:Nat):Int)from rfl,bits_xor_u64_nat _ _ Y Y,uy Y];omega
 .obtain⟨M,a⟩:∃M:Nat,x.num+9223372036854775808=M:=⟨(x.num+9223372036854775808).toNat,Y⟩;have c:M^^^9223372036854775808=9223372036854775808+M:=uy Y;have b:(9223372036854775808+M)^^^9223372036854775808=M:=by rw[<-c,Nat.xor_assoc,Nat.xor_self,Nat.xor_zero]
  rw[show(x.num%18446744073709551616)=((9223372036854775808+M:Nat):Int) by omega,show(9223372036854775808:Int)=((9223372036854775808:Nat):Int)from rfl,bits_xor_u64_nat _ _ Y Y,b];omega
theorem aJZ{x:L4}(h:rng x):aBJ x<18446744073709551616:=by unfold rng at h;unfold aBJ;omega
theorem aOY(x y:Nat)(a:w.heap[b]? =H (kd #[mj n9 (x:Int),mj n9 (y:Int)] 5 (0,0))):fM AT 0 1 w (jS (H ⟨b,0,K⟩) 2 2) [x,y]:=
 .inr ⟨b,0,2,rfl,by simp,(by decide:2<=bH),dG a,λi j d g=>by
  have c:j=0:=by omega
  subst c;have e:i<2:=d;have:i=0\/i=1:=by omega
  rcases this with rfl|rfl
  .exact aP a rfl
  .exact aP a rfl⟩
theorem aGp{s:dO}(h:i<s.size):Rb (s.data.toList.take (i+1))=Rb (s.data.toList.take i)++Id s[i]:=by
 have a:=DN s h;unfold Rb;rw[KH,a,IF];simp
def aQy(w:aA)(r:Row)(e:cc)(w':aA):Prop:=∃u,e=mi (mr #[u,mj mn 0])/\bN AT 0 5 1 w w' u (bR r)/\U w [] w' []
theorem dU.R5(h:dU r):CE r:=⟨j8 h.len E,λv hv=>⟨by
 rcases uR (h.cG v hv).1 with⟨_,a⟩|⟨_,_,a⟩
 .rw[a];decide
 .omega,h.2 v hv⟩⟩
theorem vt(v:aE)(r:Row)(w:aA)(h:fM dV aR 3 w v r)(s:dU r):
  aK prog 244 #[v] w (aQy w r):=by
 have hvd:=M9 v r w h s.R5;rw[s.1]at hvd;obtain⟨a,cap,rfl,-⟩:=h.len;have h30:(O r:Int)<=30:=kX s.len;go_in;go_wp2_with (go_at_call 109;apply hvd.dC;intro w1 cT);go_loopg [4,18] (O r) (λgg s4 s18 wr=>∃k:Nat,k<=O r/\gg=O r-k/\s18=X k/\bN AT 0 5 1 w wr s4 (bR (r.take k))/\U w [] wr [])
 .exact⟨0,Y,rfl,rfl,bN.nil _ _,cT⟩
 obtain⟨k,hk,rfl,rfl,B,hU⟩:=hrel;by_cases S:k<O r
 .let⟨gv,ov,cv',em,c0,c1,c2⟩:=uZ (h.on hU) S;obtain rfl:=IK em;have P4:=Oe S;have u:=s.cG (hJ r k aR) (bO S);generalize hx:hJ r k aR=x at c0 c1 c2 P4 u;have EJ:O (bR (r.take k))<=3930:=by
   have h1:=DC (r:=r.take k) (λy hy=>(s.cG y (List.mem_of_mem_take hy)).1);have h2:=s.len;have h3:O (r.take k)<=30:=kG PI;omega
  generalize hP:bR (r.take k)=P at B P4 EJ;obtain⟨ua,uc,rfl,-⟩:=B.len;let⟨wb,qG⟩:=D (i5 wr (kd #[X x.aG,X x.num,mX x.dZ] 90));have oD:=Za qG;have F:=Zb qG;have o:=Z (B.on oD);have HU:=Z (hU.ds oD);have T:=Z P4;have mJ:=F;obtain⟨f,y1,y2⟩:=Z3 mJ;clear hx P4 B hU oD hP mJ;rcases uR u.1 with⟨wO,ht1⟩|⟨oZ,hn2,E8⟩
  .have q:D7 x=1::lL (aBJ x):=by unfold D7;rw[bW wO];rfl
   have a0y:=aIq u.2;have E4:=Z (aJZ u.2);rw[wO]at c0 f F qG;clear wO ht1;generalize hN:aBJ x=N at a0y E4 q;clear hN;have eW:IntKind.u8.wrap 1=1:=E;go_upto_region 10 with(at_builtin;refine cK DU rfl _ _ rfl o HU Yr [mj n9 1] 1 Yr rfl (dE rfl) rfl Y GC ?_;rintro g5 c5 w5 lU cO n-;have Lj:=n.aC F (o.ne F E);have pL:=Z lU;obtain⟨z0,z1,z2⟩:=Z3 Lj;clear lU n);clear f y1 y2 c0 c1 c2;go_wp2;go_loopg [4,8] 8 (λgg s4 s8 wx=>∃j:Nat,j<=8/\gg=8-j/\s8=X (56-8*(j:Int))/\bN AT 0 5 1 w wx s4 (P++1::(lL N).take j)/\U w [] wx [])
   .exact⟨0,Y,rfl,rfl,pL,cO⟩
   obtain⟨j,hj,rfl,rfl,g,m⟩:=hrel;by_cases a1s:j<8
   .have l:O (P++1::(lL N).take j)<=3950:=by simp[lL];omega
    obtain⟨ja,jc,rfl,-⟩:=g.len;have Xr:j=0\/j=1\/j=2\/j=3\/j=4\/j=5\/j=6\/j=7:=Y;clear hj a1s;rcases Xr with rfl|rfl|rfl|rfl|rfl|rfl|rfl|rfl
    .rw[show(56:Int)-8*((0:Nat):Int)=56 from rfl];go_wp2_with (at_builtin;refine cK DU rfl _ _ rfl g m Yr [(mj n9 ((N:Int)/72057594037927936%256))] (N/72057594037927936%256) Yr rfl (dE (xE (mj n9) Y)) rfl (kX l) (by have:=l;unfold bH;omega) ?_;rintro A z w6 b d- -;have c:=Z b;clear b);go_roundg (8-(0+1))
     .exact⟨1,Y,rfl,eY,by have:=c.o;simpa[lL]using this,d⟩
     omega
    .rw[show(56:Int)-8*((1:Nat):Int)=48 from rfl];go_wp2_with (at_builtin;refine cK DU rfl _ _ rfl g m Yr [(mj n9 ((N:Int)/281474976710656%256))] (N/281474976710656%256) Yr rfl (dE (xE (mj n9) Y)) rfl (kX l) (by have:=l;unfold bH;omega) ?_;rintro A z w6 b d- -;have c:=Z b;clear b);go_roundg (8-(1+1))
     .exact⟨2,Y,rfl,eY,by have:=c.o;simpa[lL]using this,d⟩
     omega
    .rw[show(56:Int)-8*((2:Nat):Int)=40 from rfl];go_wp2_with (at_builtin;refine cK DU rfl _ _ rfl g m Yr [(mj n9 ((N:Int)/1099511627776%256))] (N/1099511627776%256) Yr rfl (dE (xE (mj n9) Y)) rfl (kX l) (by have:=l;unfold bH;omega) ?_;rintro A z w6 b d- -;have c:=Z b;clear b);go_roundg (8-(2+1))
     .exact⟨3,Y,rfl,eY,by have:=c.o;simpa[lL]using this,d⟩
     omega
    .rw[show(56:Int)-8*((3:Nat):Int)=32 from rfl];go_wp2_with (at_builtin;refine cK DU rfl _ _ rfl g m Yr [(mj n9 ((N:Int)/4294967296%256))] (N/4294967296%256) Yr rfl (dE (xE (mj n9) Y)) rfl (kX l) (by have:=l;unfold bH;omega) ?_;rintro A z w6 b d- -;have c:=Z b;clear b);go_roundg (8-(3+1))
     .exact⟨4,Y,rfl,eY,by have:=c.o;simpa[lL]using this,d⟩
     omega
    .rw[show(56:Int)-8*((4:Nat):Int)=24 from rfl];go_wp2_with (at_builtin;refine cK DU rfl _ _ rfl g m Yr [(mj n9 ((N:Int)/16777216%256))] (N/16777216%256) Yr rfl (dE (xE (mj n9) Y)) rfl (kX l) (by have:=l;unfold bH;omega) ?_;rintro A z w6 b d- -;have c:=Z b;clear b);go_roundg (8-(4+1))
     .exact⟨5,Y,rfl,eY,by have:=c.o;simpa[lL]using this,d⟩
     omega
    .rw[show(56:Int)-8*((5:Nat):Int)=16 from rfl];go_wp2_with (at_builtin;refine cK DU rfl _ _ rfl g m Yr [(mj n9 ((N:Int)/65536%256))] (N/65536%256) Yr rfl (dE (xE (mj n9) Y)) rfl (kX l) (by have:=l;unfold bH;omega) ?_;rintro A z w6 b d- -;have c:=Z b;clear b);go_roundg (8-(5+1))
     .exact⟨6,Y,rfl,eY,by have:=c.o;simpa[lL]using this,d⟩
     omega
    .rw[show(56:Int)-8*((6:Nat):Int)=8 from rfl];go_wp2_with (at_builtin;refine cK DU rfl _ _ rfl g m Yr [(mj n9 ((N:Int)/256%256))] (N/256%256) Yr rfl (dE (xE (mj n9) Y)) rfl (kX l) (by have:=l;unfold bH;omega) ?_;rintro A z w6 b d- -;have c:=Z b;clear b);go_roundg (8-(6+1))
     .exact⟨7,Y,rfl,eY,by have:=c.o;simpa[lL]using this,d⟩
     omega
    .rw[show(56:Int)-8*((7:Nat):Int)=0 from rfl];go_wp2_with (at_builtin;refine cK DU rfl _ _ rfl g m Yr [(mj n9 ((N:Int)%256))] (N%256) Yr rfl (dE (xE (mj n9) Y)) rfl (kX l) (by have:=l;unfold bH;omega) ?_;rintro A z w6 b d- -;have c:=Z b;clear b);go_roundg (8-(7+1))
     .exact⟨8,Y,rfl,eY,by have:=c.o;simpa[lL]using this,d⟩
     omega
   .obtain rfl:j=8:=Y;have V:=g;rw[show P++1::(lL N).take 8=bR (r.take (k+1)) by rw[T.o,q];rfl]at V;obtain⟨ja,jc,rfl,-⟩:=g.len;go_wp2;go_roundg (O r-(k+1))
    .exact⟨k+1,S,rfl,eY,V,m⟩
    omega
  .have q:D7 x=2::(Rb x.dZ.data.toList++[0,0]):=by unfold D7;rw[R Y]
   rw[oZ]at c0 f F qG;clear oZ hn2;go_upto_region 10 with(at_builtin;refine cK DU rfl _ _ rfl o HU Yr [mj n9 2] 2 Yr rfl (dE rfl) rfl Y GC ?_;rintro g5 c5 w5 lU cO n-;have Lj:=n.aC F (o.ne F E);have pL:=Z lU;obtain⟨z0,z1,z2⟩:=Z3 Lj;clear lU n);clear f y1 y2 c0 c1 c2;have bAO:(x.dZ.size:Int)<=64:=Y;go_wp2;go_loopg [4,49] x.dZ.size (λgg s4 s49 wx=>∃i:Nat,i<=x.dZ.size/\gg=x.dZ.size-i/\s49=X i/\bN AT 0 5 1 w wx s4 (P++2::Rb (x.dZ.data.toList.take i))/\U w [] wx []/\uD wx wr.heap.size #[X 2,X x.num,mX x.dZ] 90)
   .exact⟨0,Y,rfl,rfl,pL,cO,Lj⟩
   obtain⟨i,hi,rfl,rfl,g,m,p⟩:=hrel;have l:O (P++2::Rb (x.dZ.data.toList.take i))<=4070:=by
    have h1:=PY (x.dZ.data.toList.take i);have h2:O (x.dZ.data.toList.take i)<=i:=kG PI;rw[E7,TT];omega
   generalize hQ:P++2::Rb (x.dZ.data.toList.take i)=bEr at g l;obtain⟨ja,jc,rfl,-⟩:=g.len;obtain⟨f,y1,y2⟩:=Z3 p;clear z0 z1 z2;by_cases XM:i<x.dZ.size
   .have Q:=(aGp XM);have bAl:(i:Int)<(x.dZ.size:Int):=Y;by_cases G:x.dZ[i]=0
    .have hb:(x.dZ[i].toNat:Int)=0:=by rw[G];rfl
     have wG:dT (P++2::Rb (x.dZ.data.toList.take (i+1))=(bEr++[0])++[255]):=Z (by rw[Q,G,<-hQ];simp[Id]);clear G;go_wp2_with (first
      |(at_builtin;refine cK DU rfl _ _ rfl c d Yr [mj n9 255] 255 Yr rfl (dE rfl) rfl (by simp;omega) (by unfold bH;simp;omega) ?_;rintro g7 c7 w7 W gD n-;have HX7:=(n.aC L (c.ne L E));have QR:=Z W;clear W n)
      |(at_builtin;refine cK DU rfl _ _ rfl g m Yr [mj n9 0] 0 Yr rfl (dE rfl) rfl Y GC ?_;rintro A z w6 b d n-;have L:=n.aC p (g.ne p E);obtain⟨v0,v1,v2⟩:=Z3 L;have c:=Z b;clear b n))
     go_roundg (x.dZ.size-(i+1))
     .exact⟨i+1,XM,rfl,eY,by rw[wG.o];have:=QR.o;rw[E7]at this;exact this,gD,HX7⟩
     omega
    .have hb:¬(x.dZ[i].toNat:Int)=0:=λe=>G (UInt8.toNat_inj.1 (kG (show(0:UInt8).toNat=0 from rfl)));have wG:dT (P++2::Rb (x.dZ.data.toList.take (i+1))=bEr++[x.dZ[i].toNat]):=Z (by rw[Q,<-hQ];unfold Id;rw[R G];simp);clear G;go_wp2_with (at_builtin;refine cK DU rfl _ _ rfl g m Yr [mj n9 (x.dZ[i].toNat:Int)] x.dZ[i].toNat Yr rfl (dE rfl) rfl Y GC ?_;rintro A z w6 b d n-;have L:=n.aC p (g.ne p E);obtain⟨v0,v1,v2⟩:=Z3 L;have c:=Z b;clear b n);go_roundg (x.dZ.size-(i+1))
     .exact⟨i+1,XM,rfl,eY,wG.o▸c,d,L⟩
     omega
   .obtain rfl:i=x.dZ.size:=Y;have rE:=zdH (Nat.le_of_eq (show O x.dZ.data.toList=x.dZ.size from H3));have HEN:dT (bEr++[0,0]=bR (r.take (k+1))):=Z (by rw[T.o,q,<-hQ,rE];simp);clear rE;have C:U wr [] (i5 wr (kd #[mj n9 0,mj n9 0] 5)) []:=(U.refl wr []).alloc _;go_wp2_with (at_builtin;refine jP DU E rfl _ _ rfl (g.on C) (m.ds C) (fV _) (m.ds C).size (aOY 0 0 (mE wr _)) (λy hy j hj=>rfl) Yr Yr (by simp;omega) (by unfold bH;simp;omega) ?_;rintro g7 c7 w7 W gD-;have QR:=Z W;clear W);go_roundg (O r-(k+1))
    .exact⟨k+1,S,rfl,eY,HEN.o▸QR,gD⟩
    omega
 .obtain rfl:k=O r:=Y;rw[TU]at B;have o:=Z B;have HU:=Z hU;clear B hU;go_wp2;go_ret2;exact⟨_,rfl,o,HU⟩
variable{L tk:Nat}{fr:Option Nat}{pC:bC}
theorem ZM163{P:Prop}(h:P:=by
  go_wp2;try rw[Exit.noGoto_ret]
  go_ret2;exact⟨by rw[<-Fd.o];rfl,pu⟩):P:=h
theorem aBX{T:Nat->Pl aE}{k:List Nat}(b:c<L):vR T L k (L-c) i fr=match T i with
  | .empty=>(K,fr.or (H i))
  | .yJ=>vR T L k (L-(c+1)) ((i+1)%L) (fr.or (H i))
  | .kH _ k' _=>if k'=k then(H i,H i)else vR T L k (L-(c+1)) ((i+1)%L) fr:=by
 rw[show L-c=(L-(c+1))+1 by omega];cases a:T i<;>simp only[vR,a]
theorem aJn(v:aE)(k:List Nat)(w:aA)(h:aNv w v k)(a:∀x∈k,x<256)(n:Nat):uJ 246 #[v] (w.drewN n) λe w'=>e=mi (mj .u64 (De k:Int))/\∃m,w'=w.drewN m:=
 (aOs v k (w.drewN n) (h.on ((U.refl w []).drewN n)) a).mono λ_ _ ⟨b,hw⟩=>⟨b,n,hw.symm⟩
def aSF(w:aA)(bEs:Option Nat×Option Nat)(e:cc)(w':aA):Prop:=e=mi (mr #[mj mn (S6 bEs.1),mj mn (S6 bEs.2)])/\U w [] w' []
theorem UX{t:Nat}{T:Nat->Pl aE}{k:List Nat}(w:aA)(h:IxT w ρ t b g T L)(hv:qI w pC tk v k)(N:FJ k):
  aK prog 243 #[lr (H ⟨b,0,K⟩),v] w (aSF w (vR T L k L (hs k L) K)):=by
 obtain⟨v0,v1,v2,v3,P⟩:=h.cF;obtain⟨j,q⟩:=h.pow;have aB7:=h.mL;have OJ:=h.wf.pos;obtain⟨va,vc,rfl,-⟩:=hv.rd.len;have S:=aMc q k;have e1:IntKind.i64.wrap ((L:Int)-1)=((L-1:Nat):Int):=by rw[QY _ (by omega)];omega
 have e2:IntKind.u64.wrap ((L-1:Nat):Int)=((L-1:Nat):Int):=by rw[IntKind.wrap_u64];omega
 have o:Go.bits BinOp.and IntKind.u64 (De k:Int) ((L-1:Nat):Int)=((hs k L:Nat):Int):=by
  rw[bits_and_u64_nat _ _ (aGU k) (by omega),zq q];rfl
 have e4:IntKind.i64.wrap ((hs k L:Nat):Int)=((hs k L:Nat):Int):=QY _ (by omega);have HL:=Z q;have F:=Z N;have HI:=Z h;generalize fe:hs k L=i0 at S o e4|-;let⟨bEs,V⟩:=D (vR T L k L i0 K);rw[V];obtain⟨b0,b1,b2,b3,Q⟩:=Z5 P;clear h N q P fe b0 b1 b2 b3;go_in;go_wp2;go_step3;go_wp2;go_quiet ((go_at_call 246;exact aJn _ k w hv.rd.1 F.o.1 _));let⟨w1,A⟩:=D (w.drewN nq);have pu:U w [] w1 []:=Sr A;rw[A];clear A;replace Q:=pu.cell Q (by simp);clear e1 e2 o e4;have vm:=Z (HI.o.on pu);have s:=(hv.on pu);go_wp2;go_step3;go_wp2;go_loopg [5,6,24] L (λgg s5 s6 y wr=>∃(c i:Nat) (fr:Option Nat),c<=L/\gg=L-c/\y=X c/\s5=X (S6 fr)/\s6=X i/\i<L/\w1=wr/\dT (vR T L k (L-c) i fr=bEs))
 .exact⟨0,i0,K,Y,rfl,rfl,rfl,rfl,S,rfl,V⟩
 obtain⟨c,i,fr,hc,rfl,rfl,rfl,rfl,W,rfl,l⟩:=hrel;by_cases x:c<L
 .have m:=vm.o.cells W;have e:=m 0 (by decide);have u:=m 1 (by decide);simp only[qZ]at e;have a:=l.o;rw[aBX x]at a;have hiL:(i:Int)<L:=by omega
  have hi1:(i:Int)+1<=8388608:=by omega
  have hand:Go.bits BinOp.and mn ((i:Int)+1) ((L:Int)-1)=(((i+1)%L:Nat):Int):=by
   rw[show(i:Int)+1=((i+1:Nat):Int) by omega,show(L:Int)-1=((L-1:Nat):Int) by omega,VH _ _ (by omega) (by omega),zq HL.o]
  have B:=(zo (i+1) OJ);cases d:T i with
  |empty=>
   rw[d]at a e;have Fd:=Z a;simp only[QH,yN]at e;clear a d m u l;cases fr with
   |none=>
    rw[show S6 K=(-1:Int)from rfl];exact ZM163
   |some f=>
    rw[show S6 (H f)=(f:Int)from rfl];have C:¬((f:Int)<0):=by omega
    exact ZM163
  |yJ=>
   rw[d]at a e;have Fd:=Z a;simp only[QH,yN]at e;clear a d m u l;cases fr with
   |none=>
    rw[show S6 K=(-1:Int)from rfl];go_wp2;go_roundg (L-(c+1))
    .exact⟨c+1,(i+1)%L,H i,x,rfl,eY,rfl,rfl,B,rfl,Fd⟩
    omega
   |some f=>
    rw[show S6 (H f)=(f:Int)from rfl];have C:¬((f:Int)<0):=by omega
    go_wp2;go_roundg (L-(c+1))
    .exact⟨c+1,(i+1)%L,H f,x,rfl,eY,rfl,rfl,B,rfl,Fd⟩
    omega
  |kH kv k2 n=>
   let⟨p,z⟩:=vm.o.KU i kv k2 n W d;obtain⟨ka,kc,rfl,-⟩:=p.rd.len;rw[d]at a e u;change (if k2=k then(H i,H i)else vR T L k (L-(c+1)) ((i+1)%L) fr)=bEs at a;simp only[QH,yN,(by decide:¬(1:Nat)=0),E6]at e u;clear d m l;by_cases r:k2=k
   .subst r;rw[bW rfl]at a;have Fd:=Z a;have G:=(aHI w1 p s F.o.1);clear a p z;go_wp2_with (go_at_call 247;apply G.dC;rintro w' rfl);try rw[Exit.noGoto_ret]
    go_ret2;exact⟨by rw[<-Fd.o];rfl,pu⟩
   .rw[R r]at a;have Fd:=Z a;have G:=(aLR w1 p s z.1 F.o.1 r);clear a p z r;go_wp2_with (go_at_call 247;apply G.dC;rintro w' rfl);go_roundg (L-(c+1))
    .exact⟨c+1,(i+1)%L,fr,x,rfl,eY,rfl,rfl,B,rfl,Fd⟩
    omega
 .obtain rfl:c=L:=by omega
  have a:=l.o;rw[Nat.sub_self]at a;have Fd:=Z (show(K,fr)=bEs from a);clear a l;exact ZM163
variable{x0 x1 x2:aE}
section
theorem ZM139{P:Prop}(h:P:=by
  go_ret2;unfold aIA;rw[HM.o];exact⟨rfl,CU.o.kV eQ.o,_,_,_,X5.o.on eQ.o,HT.o,HC.o⟩):P:=h
def Ix(w:aA)(ρ:bC)(t b aH:Nat)(m:List Nat->Option Int)(c:Nat):Prop:=∃g T L,wZ w ρ t b g T L aH/\zX T L m/\mH T L=c
section
variable{w w':aA}{ρ bV:bC}{t b g aH c:Nat}{T:Nat->Pl aE}{L:Nat}{m:List Nat->Option Int}{S:Nat->Prop}
theorem Ix.eb(h:Ix w ρ t b aH m c)(d:bI w ρ S w' bV)(i:¬S t)(a:¬S (t+1)):Ix w' bV t b aH m c:=by
 obtain⟨g,T,L,l,j,e⟩:=h;exact⟨g,T,L,l.eb d i a,j,e⟩
theorem wZ.aE7(h:wZ w ρ t b g T L aH)(p:Int):wZ (hY w ⟨b,3,K⟩ (mj mn p)) ρ t b g T L aH/\bI w ρ (·=t) (hY w ⟨b,3,K⟩ (mj mn p)) ρ:=by
 obtain⟨q,j⟩:=h.cF;have u:U w [b] (hY w (Ad b 3) (X p)) [b]:=qX w b 3 _;have c:bI w ρ (·=t) (hY w (Ad b 3) (X p)) ρ:=(bI.refl w ρ _).setCell (a:=Ad b 3) (.inl h.cE.1) _;exact⟨⟨⟨p,by rw[aF _ j];rfl⟩,h.yY.eU u (λg' l m=>h.ne (by
  grind [i6])),λi v k n d e=>⟨(h.KU i v k n d e).1.eb c Y,(h.KU i v k n d e).2⟩,h.cE,h.pow,h.mL,h.aH,h.wf⟩,c⟩
theorem wZ.aW1(h:wZ w ρ t b g T L aH):(∀k,w.frozen? ⟨b,k,K⟩=rR)/\∀k,w.frozen? ⟨g,k,K⟩=rR:=by
 obtain⟨p,a⟩:=h.cF;exact⟨λk=>aN a k,λk=>eV.free h.yY (g:=g) rfl k⟩
end
theorem eV.Jo{w:aA}{g L p:Nat}{T:Nat->Pl aE}(h:eV w (jS (H ⟨g,0,K⟩) L L) 389 3 L (λi j=>QH (T i) j))(x:Pl aE)(a:QH x 0=x0)(d:QH x 1=x1)(c:QH x 2=x2):
  eV (hY (hY (hY w ⟨g,p*3,K⟩ x0) ⟨g,p*3+1,K⟩ x1) ⟨g,p*3+2,K⟩ x2) (jS (H ⟨g,0,K⟩) L L) 389 3 L (λi j=>QH (nW T p x i) j):=by
 have t1:=eV.set h rfl p 0 E x0;have t2:=eV.set t1 rfl p 1 E x1;have b:=eV.set t2 rfl p 2 E x2;grind [eV.congr,nW]
theorem wZ.drop{w:aA}{ρ:bC}{t b g p L aH:Nat}{T:Nat->Pl aE}{k:List Nat}{n:Int}(h:wZ w ρ t b g T L aH)(l:p<L)(r:T p= .kH v k n):
  wZ (hY (hY (hY (hY (hY w ⟨g,p*3,K⟩ (mj n9 2)) ⟨g,p*3+1,K⟩ (jS K 0 0)) ⟨g,p*3+2,K⟩ (mj mn 0)) ⟨b,1,K⟩ (mj mn ((mH T L:Int)-1))) ⟨b,2,K⟩ (mj mn ((vY T L:Int)+1))) ρ t b g (nW T p .yJ) L aH/\
  bI w ρ (·=t) (hY (hY (hY (hY (hY w ⟨g,p*3,K⟩ (mj n9 2)) ⟨g,p*3+1,K⟩ (jS K 0 0)) ⟨g,p*3+2,K⟩ (mj mn 0)) ⟨b,1,K⟩ (mj mn ((mH T L:Int)-1))) ⟨b,2,K⟩ (mj mn ((vY T L:Int)+1))) ρ:=by
 obtain⟨q,A⟩:=h.cF;have j:bI w ρ (·=t) (hY (hY (hY (hY (hY w (Ad g (p*3)) (mj n9 2)) (Ad g (p*3+1)) cR) (Ad g (p*3+2)) (X 0)) (Ad b 1) (X ((mH T L:Int)-1))) (Ad b 2) (X ((vY T L:Int)+1))) ρ:=
  (((((bI.refl w ρ _).setCell (a:=Ad g (p*3)) (.inl h.cE.2) _).setCell (a:=Ad g (p*3+1)) (.inl h.cE.2) _).setCell (a:=Ad g (p*3+2)) (.inl h.cE.2) _).setCell (a:=Ad b 1) (.inl h.cE.1) _).setCell (a:=Ad b 2) (.inl h.cE.1) _
 have c1:=DV (T:=T) (x:=Pl.yJ) l;have c2:=DW (T:=T) (x:=Pl.yJ) l;rw[r]at c1 c2;simp only[Pl.mP,Pl.uF,yN,Nc,E6]at c1 c2;have m:=eV.Jo (p:=p) (x0:=mj n9 2) (x1:=cR) (x2:=X 0) h.yY Pl.yJ rfl rfl rfl;have u1:U w [g] (hY (hY (hY w (Ad g (p*3)) (mj n9 2)) (Ad g (p*3+1)) cR) (Ad g (p*3+2)) (X 0)) [g]:=U.PQ w _ _ _;have d:∀i v' k' n',i<L->nW T p .yJ i= .kH v' k' n'->qI _ ρ (t+1) v' k'/\FJ k':=λi v' k' n' y c=>by
  by_cases e:i=p
  .subst e;rw[kZ]at c;cases c
  .rw[gH _ _ e]at c;exact⟨(h.KU i v' k' n' y c).1.eb j Y,(h.KU i v' k' n' y c).2⟩
 generalize B:hY (hY (hY w (Ad g (p*3)) (mj n9 2)) (Ad g (p*3+1)) cR) (Ad g (p*3+2)) (X 0)=w3 at j m u1 d|-;have z:=u1.aC A (λu=>h.ne (show b=g by simpa using u).symm);have u2:U w3 [b] (hY (hY w3 (Ad b 1) (X ((mH T L:Int)-1))) (Ad b 2) (X ((vY T L:Int)+1))) [b]:=(qX w3 b 1 _).setCell (a:=Ad b 2) (.inl J) _;refine⟨⟨⟨q,?_⟩,m.eU u2 (λg' C u=>h.ne (by grind [i6])),d,h.cE,h.pow,h.mL,h.aH,h.wf.drop l r⟩,j⟩;rw[aF _ (aF _ z),show((mH (nW T p .yJ) L:Nat):Int)=(mH T L:Int)-1 by omega,show((vY (nW T p .yJ) L:Nat):Int)=(vY T L:Int)+1 by omega];rfl
def aIA(w:aA)(ρ:bC)(t b aH c:Nat)(m:List Nat->Option Int)(k:List Nat)(e:cc)(w':aA):Prop:=
 e=mi (mr #[mj mn ((m k).getD 0),nj (m k).isSome])/\bI w ρ (·=t) w' ρ/\Ix w' ρ t b aH m c
theorem aM3{ρ:bC}{t b aH c:Nat}{m:List Nat->Option Int}{k:List Nat}(w:aA)(h:Ix w ρ t b aH m c)(hv:qI w ρ tk v k)(N:tk≠t)(C:FJ k):
  aK prog 231 #[lr (H ⟨b,0,K⟩),v] w (aIA w ρ t b aH c m k):=by
 obtain⟨g,T,L,x,a,V⟩:=h;obtain⟨p,r⟩:=x.cF;have lb:=iP (dG r);obtain⟨b0,F,b2,o,G⟩:=Z5 r;have bf:=aN r;have HI:=Z x;have W:=Z hv;have HK:=Z C;have HT:=Z a;have HC:=Z V;have CT:=Z N;clear x hv C a V r N;go_in;go_upto_region 2 with(fail);have P:=HI.o.aE7 (wrap64 (p+1));let⟨w1,A⟩:=D (hY w (Ad b 3) (X (wrap64 (p+1))));rw[A]at P|-;obtain⟨d,y⟩:=P;have Q:=W.o.eb y CT.o;have u:=Z (UX w1 d.toT Q HK.o);have X5:=Z d;have CU:=Z y;clear A b0 F b2 o G bf lb d Q y;cases j:m k with
 |some n=>
  let⟨aS,s,i,l⟩:=(HT.o k).1 n j;rw[X5.o.wf.jO s i]at u;cases a:T aS with
  |empty=>rw[a]at i;cases i
  |yJ=>rw[a]at i;cases i
  |kH kv k' n'=>
   rw[a]at l;obtain rfl:n'=n:=by grind [Pl.aO9]
   have HM:=Z j;have q:=X5.o.cells s 2 E;rw[a]at q;simp only[QH,(by decide:¬(2:Nat)=0),(by decide:¬(2:Nat)=1),E6]at q;obtain⟨p1,S⟩:=X5.o.cF;have aB7:=X5.o.mL;have Hs:(aS:Int)<(L:Int):=Y;have z:=Z q;have j7:=Z S;clear j i l a q S;go_wp2_with (go_at_call 243;apply u.o.dC;intro w2 e;have B:=e.aC j7.o J;have n2:=e.cell z.o J;obtain⟨b0,F,b2,o,G⟩:=Z5 B;have eQ:=Z e;clear e B;dsimp only[S6]);exact ZM139
 |none=>
  obtain⟨f,hf,vm,-,-⟩:=X5.o.wf.aEw ((HT.o k).2 j);rw[vm]at u;have HM:=Z j;clear j vm;go_wp2_with (go_at_call 243;apply u.o.dC;intro w2 e;have eQ:=Z e;clear e;dsimp only[S6]);exact ZM139
def aY0(w:aA)(ρ:bC)(t b aH c:Nat)(m:List Nat->Option Int)(k:List Nat)(n:Int)(e:cc)(w':aA):Prop:=
 e=mi (mr #[mj mn n,nj qT])/\bI w ρ (·=t) w' ρ/\Ix w' ρ t b aH (λk'=>if k'=k then K else m k') (c-1)
theorem Wi{ρ:bC}{t b aH c:Nat}{m:List Nat->Option Int}{k:List Nat}{n:Int}(w:aA)(h:Ix w ρ t b aH m c)(hv:qI w ρ tk v k)(ht:tk≠t)(hk:FJ k)(hm:m k=H n):
  aK prog 281 #[lr (H ⟨b,0,K⟩),v] w (aY0 w ρ t b aH c m k n):=by
 obtain⟨g,T,L,N,a,hc⟩:=h;obtain⟨p,C⟩:=N.cF;have lb:=iP (dG C);obtain⟨b0,b1,b2,b3,b4⟩:=Z5 C;have bf:=aN C;have HI:=Z N;have HK:=Z hk;have P:=Z a;have HC:=Z hc;go_in;go_upto_region 2 with(fail);have f:=HI.aE7 (wrap64 (p+1));generalize eW:hY w (Ad b 3) (X (wrap64 (p+1)))=w1 at f|-;obtain⟨y,S⟩:=f;have LG:=hv.eb S ht;have Q:=(UX w1 y.toT LG HK);have d:=Z y;let⟨aS,i,e,o⟩:=(P.o k).1 n hm;rw[d.o.wf.jO i e]at Q;cases a:T aS with
 |empty=>rw[a]at e;cases e
 |yJ=>rw[a]at e;cases e
 |kH kv k' n'=>
  rw[a]at o e;obtain rfl:n'=n:=by grind [Pl.aO9]
  obtain rfl:k'=k:=by grind [Pl.wY]
  have A:=d.cells i;rw[a]at A;have G:=Z a;have aB7:=d.mL;have Hs:(aS:Int)<(L:Int):=Y;have nE:=d.wf.room;have B:0<mH T L:=Zx i (by rw[a];rfl);have r:=Z d.cF;have GY:=d.ne;let⟨sz,F⟩:=D (mH T L);let⟨mk,s⟩:=D (vY T L);rw[F]at B;rw[F,s]at nE r;go_wp2_with (go_at_call 243;apply Q.dC;intro w2 j;have u:=d.on j;obtain⟨q,hq⟩:=r.o;have iU:=j.aC hq J;have W:=j.cell (A 0 E) J;have n1:=j.cell (A 1 E) J;have n2:=j.cell (A 2 E) J;simp only[QH,(by decide:¬(1:Nat)=0),(by decide:¬(2:Nat)=0),(by decide:¬(2:Nat)=1),E6,yN,qZ]at W n1 n2;obtain⟨bf,gf⟩:=u.aW1;obtain⟨b0,b1,b2,b3,b4⟩:=Z5 iU;have V:=Z u;dsimp only[S6]);go_ret2;let⟨l,z⟩:=V.drop i G.o;rw[F,s]at l z;have c1:=DV (T:=T) (x:=Pl.yJ) i;rw[G.o]at c1;simp only[Pl.mP,yN,Nc,E6]at c1;exact⟨rfl,(S.kV j).ds z,_,_,_,l,P.drop V.wf i G,kX HC.o⟩
theorem zPl:wV prog 327 389 3 40 #[mj n9 0,jS K 0 0,mj mn 0]:= .QZ (z:= .agg #[mj n9 0,cR,X 0]) underlying327 dJ rfl rfl
theorem Du(u:aA)(L:Nat)(b:L<=8388608):eV (i5 u (kd (madeCells #[mj n9 0,jS K 0 0,mj mn 0] (L*3)) 389)) (jS (H ⟨i7 u.heap,0,K⟩) L L) 389 3 L (λi j=>QH ((λ_=>Pl.empty) i) j):=
 eV.congr (zPl.yY L L (fV _) GC u E) λi j c a=>by
  match j,a with
  |0,_=>rfl
  |1,_=>rfl
  |2,_=>rfl
theorem aM2(n t:Nat)(w:aA)(ρ:bC)(h:1<=n/\n<=1048576):
  aK prog 173 #[mj mn n] w λe w'=>∃b,e=mi (mr #[lr (H ⟨b,0,K⟩),mj mn 0])/\U w [] w' []/\Ix w' (up w t ρ) t b n (λ_=>K) 0:=by
 obtain⟨m,l⟩:=h;have q:(1:Int)<=n:=Y;have r:(n:Int)<=1048576:=Y;have p:∀u:aA,(Instr.makeSlice 327 (X 8) (X 8)).run prog u= .ok (jS (H ⟨i7 u.heap,0,K⟩) 8 8) (i5 u (kd (madeCells #[mj n9 0,cR,X 0] (8*3)) 389)):=λu=>zPl.xO 8 8 (fV _) E E u;have d:=(Du w 8 E);let⟨w1,c⟩:=D (i5 w (kd (madeCells #[mj n9 0,cR,X 0] (8*3)) 389));have j:=Z (show i7 w1.heap=i7 w.heap+1 by rw[<-c];simp);have g:=(show U w [] w1 []from Za c);rw[c]at d;go_in;go_wp2;go_ret2;have a:U w1 [] (i5 w1 (kd #[It n,X 0,X 0,X 0,jS (H ⟨w,0,K⟩) 8 8] 329)) []:=(U.refl w1 []).alloc _;exact⟨_,rfl,g.ds a,i7 w.heap,_,8,⟨⟨0,mE w1 _⟩,d.eU a (λ_ _=>J),λi v k n x h=>(by cases h),⟨cY (kG j.o),cY (fV _)⟩,⟨0,rfl⟩,Y,⟨m,l⟩,Rp.fresh hs E (λk=>zo _ E)⟩,zX.fresh 8,(IB (V:=aE) (L:=8) 8).1⟩
end
variable{T':Nat->Pl aE}
structure uI(T T':Nat->Pl aE)(L' i:Nat):Prop where
 Yu:∀p k,p<L'->(T' p).wY =H k->∃j,j<i/\T j=T' p
 to_:∀j,j<i->(T j).mP=qT->∃p,p<L'/\T' p=T j
 Lq:vY T' L'=0
 kH:mH T' L'=mH T i
 wf:Rp hs T' L'
theorem aCN{T:Nat->Pl aE}(h:i<=L):mH T i<=mH T L:=by
 induction L with
 |zero=>rw[Nat.le_zero.1 h];exact fV _
 |succ n ih=>
  rcases YB i (n+1)with a|a
  .exact j8 (ih Y) (Nat.le_add_right _ _)
  .rw[show i=n+1 by omega];exact fV _
theorem uI.start{L':Nat}(T:Nat->Pl aE)(a:L'=8*2^j):uI T (λ_=> .empty) L' 0:=
 ⟨λp k _ h=>(by cases h),λj h=>dY h (Gd j),(IB (V:=aE) (L:=L') L').2,(IB (V:=aE) (L:=L') L').1,Rp.fresh hs (by rw[a];have:=Nat.two_pow_pos j;omega) (aMc a)⟩
theorem uI.skip{T:Nat->Pl aE}{L':Nat}(h:uI T T' L' i)(c:(T i).mP=rR):uI T T' L' (i+1):=by
 refine⟨λp k d l=> ?_,λj g a=> ?_,h.Lq,?_,h.wf⟩
 .let⟨j,g,e⟩:=h.Yu p k d l;exact⟨j,Y,e⟩
 .rcases YB j i with b|b
  .exact h.to_ j b a
  .rw[show j=i by omega,c]at a;cases a
 .rw[h.kH];show _=mH T i+_;rw[c];rfl
theorem uI.lay{T:Nat->Pl aE}{L':Nat}(h:uI T T' L' i)(C:Rp hs T L)(t:i<L){k:List Nat}{n:Int}(d:T i= .kH v k n)(o:mH T L+1<L'):
  (∀p,p<L'->(T' p).wY≠H k)/\∀f,f<L'->(T' f).mP=rR->TG T' L' (hs k L') f->uI T (nW T' f (.kH v k n)) L' (i+1):=by
 have A:∀p,p<L'->(T' p).wY≠H k:=λp c g=>by
  let⟨j,y,e⟩:=h.Yu p k c g;have:=C.apart j i k Y t (e▸g) (by rw[d];rfl);omega
 refine⟨A,λf b a F=> ?_⟩;have s:mH T i+1<=mH T L:=by
  have:=aCN (T:=T) (show i+1<=L by omega);have e:mH T (i+1)=mH T i+1:=by show mH T i+_=_;rw[d];rfl
  omega
 have z:=DV (T:=T') (x:=Pl.kH v k n) b;have u:=DW (T:=T') (x:=Pl.kH v k n) b;have q:(T' f).uF=rR:=by
  cases B:(T' f).uF with
  |false=>rfl
  |true=>have:=Eh b B;have:=h.Lq;omega
 rw[a]at z;rw[q]at u;simp only[Pl.mP,Pl.uF,yN,Nc,E6]at z u;have N:=h.Lq;have G:=h.kH;refine⟨λp k' c g=> ?_,λj y w=> ?_,Y,?_,h.wf.lay A b a F (.inr Y) v n⟩
 .by_cases e:p=f
  .subst e;exact⟨i,Y,by rw[kZ,d]⟩
  .rw[gH _ _ e]at g|-;let⟨j,y,l⟩:=h.Yu p k' c g;exact⟨j,Y,l⟩
 .rcases YB j i with r|r
  .let⟨p,c,e⟩:=h.to_ j r w;have m:p≠f:=λl=>by rw[<-l,e,w]at a;cases a
   exact⟨p,c,gH _ _ m▸e⟩
  .rw[show j=i by omega];exact⟨f,b,by rw[kZ,d]⟩
 .show _=mH T i+_;rw[d];simp only[Pl.mP,yN];omega
theorem uI.Iw{T:Nat->Pl aE}{L':Nat}{m:List Nat->Option Int}(h:uI T T' L' L)(d:zX T L m):zX T' L' m:=λk=>
 ⟨λn c=>by
  let⟨j,b,g,l⟩:=(d k).1 n c;let⟨p,a,e⟩:=h.to_ j b (VO g);exact⟨p,a,e▸g,e▸l⟩,
  λc p a i=>by
  let⟨j,b,e⟩:=h.Yu p k a i;exact(d k).2 c j b (e▸i)⟩
variable{g':Nat}{wr wr':aA}
theorem ZM16{P:Prop}(h:P:=by
  obtain⟨x0,x1,x2⟩:=Z3 Lp;clear hT nu hks fX Xi mS hfu hfp Kx;have hnw:i7 wr.heap≠i7 w.heap:=λe=>by
   have h1:=HGB.new.lt w.heap.size rfl;have h2:=eV.lt hG.new w.heap.size rfl;omega
  go_upto_region 10 with(go_at_call 243;apply H4.dC;intro w5 cO;have hG5:=HGB.on cO;have Lj:=cO.aC Lp J;clear cO;dsimp only[S6]);have Qd:=hG5.cF;have Pm:=Lj;obtain⟨c0,c1,c2,c3,c4⟩:=Z5 Qd;obtain⟨y0,y1,y2⟩:=Z3 Pm;obtain⟨g1,c1',Ww,-,-,JK,hfz,-⟩:=eV.block hG5.new (Nat.zero_lt_of_lt hf);injection Ww with z1 z2 z3;injection z1 with z1;injection z1 with z1;subst z1;have n0:=JK f 0 hf E;have n1:=JK f 1 hf E;have n2:=JK f 2 hf E;simp only[qZ]at n0;clear Qd Pm z2 z3 JK x0 x1 x2;go_still_tail 7,dJ;change wpList _ _ _ _ _ w5.drew;go_wp2;go_roundg (L-(i+1))
  .exact⟨i+1,_,aY,rfl,eY,aRj,(hG5.Jo (f:=f) (.kH (jS ka (O k) kc) k n) rfl rfl rfl).on (U.refl _ []).drew⟩
  omega):P:=h
theorem ZM30{P:Prop}(h:P:=by
  have hu:U w1 [b] w2 [b]:=rM▸(qX w1 b 4 _).setCell (a:=Ad b 2) (.inl J) _;refine⟨?_,aRb.eU hu (λk hk hm=> ?_),(HI.yY.eU cT (λ_ _=>J)).eU hu (λk hk hm=>HI.ne (by rw[<-show k=b by simpa using hm];simpa[i6]using hk)),?_,su,Nat.ne_of_lt HI.lt.1⟩
  .rw[<-rM,aF _ (aF _ oC)];rfl
  .have:k=i7 w.heap:=by simpa[i6]using hk.symm
   have:=HI.lt.2;have:k=b:=eP hm;omega
  .refine CU.ds ?_;rw[<-rM];exact((bI.refl w1 dX _).setCell (a:=Ad b 4) (.inl su.1) _).setCell (a:=Ad b 2) (.inl su.1) _):P:=h
theorem ZM50{P:Prop}(h:P:=by
  rw[hT]at o0 o1 o2;simp only[QH,(by decide:¬(1:Nat)=0),(by decide:¬(2:Nat)=0),(by decide:¬(2:Nat)=1),E6,yN]at o0 o1 o2;have HS:=Z (X6.skip (by rw[hT];rfl));clear hT;go_wp2;go_roundg (L-(i+1))
  .exact⟨i+1,T',aY,rfl,eY,HS,hG.on ((U.refl wr []).alloc _)⟩
  omega):P:=h
structure KP(w:aA)(ρ:bC)(t b g g':Nat)(T T':Nat->Pl aE)(L L' aH sz:Nat)(p:Int)(wr:aA)(bV:bC):Prop where
 cF:wr.heap[b]? =H (kd #[mj mn aH,mj mn sz,mj mn 0,mj mn p,jS (H ⟨g',0,K⟩) L' L'] 329 (0,0))
 new:eV wr (jS (H ⟨g',0,K⟩) L' L') 389 3 L' (λi j=>QH (T' i) j)
 old:eV wr (jS (H ⟨g,0,K⟩) L L) 389 3 L (λi j=>QH (T i) j)
 fK:bI w ρ (·=t) wr bV
 cE:bV b=t/\bV g'=t
 ne:g≠g'
theorem KP.on{t L':Nat}{T:Nat->Pl aE}{p:Int}(h:KP w ρ t b g g' T T' L L' aH sz p wr bV)(a:U wr [] wr' S'):KP w ρ t b g g' T T' L L' aH sz p wr' bV:=
 ⟨a.aC h.cF J,h.new.eU a (λ_ _=>J),h.old.eU a (λ_ _=>J),h.fK.kV a,h.cE,h.ne⟩
theorem KP.toT{t L':Nat}{T:Nat->Pl aE}{p:Int}(h:KP w ρ t b g g' T T' L L' aH sz p wr bV)(d:wZ w ρ t b g T L aH)(c:uI T T' L' i)(z:i<=L)(m:L'=8*2^j)(l:L'<=8388608):IxT wr bV t b g' T' L':=
 ⟨⟨_,_,_,_,h.cF⟩,h.new,λq v k n r a=>by
  let⟨j,y,e⟩:=c.Yu q k r (by rw[a];rfl);let⟨x,u⟩:=d.KU j v k n Y (by rw[e,a]);exact⟨x.eb h.fK (by show¬t+1=t;omega),u⟩,h.cE,⟨j,m⟩,l,c.wf⟩
theorem KP.Jo{t L' f:Nat}{T:Nat->Pl aE}{p:Int}(h:KP w ρ t b g g' T T' L L' aH sz p wr bV)(x:Pl aE)(d:QH x 0=x0)(n:QH x 1=x1)(l:QH x 2=x2):
  KP w ρ t b g g' T (nW T' f x) L L' aH sz p (hY (hY (hY wr ⟨g',f*3,K⟩ x0) ⟨g',f*3+1,K⟩ x1) ⟨g',f*3+2,K⟩ x2) bV:=by
 have u:=U.PQ (g:=g') (i:=f) wr x0 x1 x2;have j:g'≠b:=λe=>eV.ne h.new h.cF E (by rw[e];rfl);refine⟨u.aC h.cF (λc=>j (show b=g' by simpa using c).symm),eV.Jo h.new x d n l,h.old.eU u (λk m c=>h.ne (by rw[<-show k=g' by simpa using c];simpa[i6]using m)),?_,h.cE,h.ne⟩;exact h.fK.ds ((((bI.refl wr bV _).setCell (a:=Ad g' (f*3)) (.inl h.cE.2) _).setCell (a:=Ad g' (f*3+1)) (.inl h.cE.2) _).setCell (a:=Ad g' (f*3+2)) (.inl h.cE.2) _)
def aSD(w:aA)(ρ:bC)(t b:Nat)(T:Nat->Pl aE)(L aH:Nat)(e:cc)(w':aA):Prop:=
 ∃g' T' L' bV,e=mi (mr #[])/\bI w ρ (·=t) w' bV/\wZ w' bV t b g' T' L' aH/\uI T T' L' L/\mH T L+1<L'
theorem aOt{t:Nat}{T:Nat->Pl aE}(w:aA)(h:wZ w ρ t b g T L aH)(CD:mH T L<aH):
  aK prog 290 #[lr (H ⟨b,0,K⟩)] w (aSD w ρ t b T L aH):=by
 obtain⟨p,m⟩:=h.cF;obtain⟨j,us⟩:=h.pow;have aB7:=h.mL;have P5:=h.aH.2;have nE:=h.wf.room;have B:=h.lt.2;obtain⟨sz,x⟩:∃s,mH T L=s:=⟨_,rfl⟩;rw[x]at CD m nE;have HI:=Z h;clear h;rcases YB L ((sz+1)*2)with hc|hc
 .obtain⟨L',G⟩:∃L',L*2=L':=⟨_,rfl⟩;have EL:(L:Int)*2=(L':Int):=Y;have vm:(L:Int)<((sz:Int)+1)*2:=Y;have r:L'<=8388608:=Y;have u:dT (L'=8*2^(j+1)):=Z (by rw[<-G,us,Nat.pow_succ];omega);have F:dT (sz+1<L'):=Z Y;let⟨w1,c⟩:=D (i5 w (kd (madeCells #[mj n9 0,cR,X 0] (L'*3)) 389));have V:(Instr.makeSlice 327 (It L') (It L')).run prog w= .ok (jS (H ⟨w,0,K⟩) L' L') w1:=by
   rw[<-c];exact zPl.xO L' L' (fV _) Y GC w
  have cT:=Za c;let⟨dX,l⟩:=D (up w t ρ);have su:dT (dX b=t/\dX w.heap.size=t):=Z (by rw[<-l];exact⟨fG B▸HI.cE.1,cY (fV _)⟩);have CU:dT (bI w ρ (·=t) w1 dX):=Z (l▸(U.fL cT).D6 t (fV _));have oC:=cT.aC m J;obtain⟨a0,a1,a2,a3,a4⟩:=Z5 m;obtain⟨b0,P,b2,W,Q⟩:=Z5 oC;have S:=aN oC;have aRb:=(c▸Du w L' r);clear G us c l m hc;go_in;go_upto_region 5 with(fail);clear V;let⟨w2,rM⟩:=D (hY (hY w1 (Ad b 4) (jS (H ⟨w,0,K⟩) L' L')) (Ad b 2) (X 0));rw[rM];have y:KP w ρ t b g w.heap.size T (λ_=> .empty) L L' aH sz p w2 dX:=ZM30;clear rM b0 P b2 W Q S;go_wp2;go_loopg [34] L (λo A wr=>∃(i:Nat) (T':Nat->Pl aE),i<=L/\o=L-i/\A=X i/\dT (uI T T' L' i)/\KP w ρ t b g w.heap.size T T' L L' aH sz p wr dX)
  .exact⟨0,_,Y,rfl,rfl,Z (uI.start T u.out),y⟩
  obtain⟨i,T',hi,rfl,rfl,X6,hG⟩:=hrel;by_cases aY:i<L
  .obtain⟨g0,c0,q,-,z,d,-,-⟩:=eV.block hG.old (x' aY);injection q with x1 x2 x3;injection x1 with x1;injection x1 with x1;subst x1;clear x2 x3;have o0:=d i 0 aY E;have o1:=d i 1 aY E;have o2:=d i 2 aY E;simp only[qZ]at o0;have Hs:(i:Int)<(L:Int):=Y;clear d z;cases hT:T i with
   |empty=>
    exact ZM50
   |yJ=>
    exact ZM50
   |kH v k n=>
    let⟨nu,hks⟩:=HI.KU i v k n aY hT;obtain⟨ka,kc,rfl,-⟩:=nu.rd.len;rw[hT]at o0 o1 o2;simp only[QH,(by decide:¬(1:Nat)=0),(by decide:¬(2:Nat)=0),(by decide:¬(2:Nat)=1),E6,yN]at o0 o1 o2;let⟨fX,Xi⟩:=X6.lay HI.wf aY hT (x▸F);let⟨f,hf,mS,hfu,hfp⟩:=X6.wf.aEw fX;have aRj:=(Xi f hf hfu hfp);let⟨wb,C⟩:=D (i5 wr (kd #[mj n9 1,jS ka (O k) kc,X n] 389));have Kx:=Za C;have Lp:=Zb C;have HGB:=(hG.on Kx);have H4:=UX wb ((HGB.toT HI X6 (Nat.le_of_lt aY) u.out r)) (nu.eb HGB.fK (by show¬t+1=t;omega)) hks;rw[mS]at H4;have N:(f:Int)<(L':Int):=Y;exact ZM16
  .obtain rfl:L=i:=Y;go_wp2;refine mY (v:=mr #[]) (by simp[results,go_sem]) rfl ?_;have hT:=hG.toT HI X6 (fV _) u.out r;refine⟨w,T',L',dX,rfl,hG.fK,⟨⟨p,?_⟩,hT.yY,hT.KU,hT.cE,hT.pow,hT.mL,HI.aH,hT.wf⟩,X6,x▸F⟩;rw[X6.o.kH,X6.o.Lq,x];exact hG.cF
 .have vm:((sz:Int)+1)*2<=(L:Int):=Y;have r:L<=8388608:=Y;have HL:dT (L=8*2^j):=Z us;have F:dT (sz+1<L):=Z Y;let⟨w1,c⟩:=D (i5 w (kd (madeCells #[mj n9 0,cR,X 0] (L*3)) 389));have V:(Instr.makeSlice 327 (It L) (It L)).run prog w= .ok (jS (H ⟨w,0,K⟩) L L) w1:=by
   rw[<-c];exact zPl.xO L L (fV _) Y GC w
  have cT:=Za c;let⟨dX,l⟩:=D (up w t ρ);have su:dT (dX b=t/\dX w.heap.size=t):=Z (by rw[<-l];exact⟨fG B▸HI.cE.1,cY (fV _)⟩);have CU:dT (bI w ρ (·=t) w1 dX):=Z (l▸(U.fL cT).D6 t (fV _));have oC:=cT.aC m J;obtain⟨a0,a1,a2,a3,a4⟩:=Z5 m;obtain⟨b0,P,b2,W,Q⟩:=Z5 oC;have S:=aN oC;have aRb:=(c▸Du w L r);clear us c l m hc;go_in;go_upto_region 5 with(fail);clear V;let⟨w2,rM⟩:=D (hY (hY w1 (Ad b 4) (jS (H ⟨w,0,K⟩) L L)) (Ad b 2) (X 0));rw[rM];have y:KP w ρ t b g w.heap.size T (λ_=> .empty) L L aH sz p w2 dX:=ZM30;clear rM b0 P b2 W Q S;go_wp2;go_loopg [34] L (λo A wr=>∃(i:Nat) (T':Nat->Pl aE),i<=L/\o=L-i/\A=X i/\dT (uI T T' L i)/\KP w ρ t b g w.heap.size T T' L L aH sz p wr dX)
  .exact⟨0,_,Y,rfl,rfl,Z (uI.start T HL),y⟩
  obtain⟨i,T',hi,rfl,rfl,X6,hG⟩:=hrel;by_cases aY:i<L
  .obtain⟨g0,c0,q,-,z,d,-,-⟩:=eV.block hG.old (x' aY);injection q with x1 x2 x3;injection x1 with x1;injection x1 with x1;subst x1;clear x2 x3;have o0:=d i 0 aY E;have o1:=d i 1 aY E;have o2:=d i 2 aY E;simp only[qZ]at o0;have Hs:(i:Int)<(L:Int):=Y;clear d z;cases hT:T i with
   |empty=>
    exact ZM50
   |yJ=>
    exact ZM50
   |kH v k n=>
    let⟨nu,hks⟩:=HI.KU i v k n aY hT;obtain⟨ka,kc,rfl,-⟩:=nu.rd.len;rw[hT]at o0 o1 o2;simp only[QH,(by decide:¬(1:Nat)=0),(by decide:¬(2:Nat)=0),(by decide:¬(2:Nat)=1),E6,yN]at o0 o1 o2;let⟨fX,Xi⟩:=X6.lay HI.wf aY hT (x▸F);let⟨f,hf,mS,hfu,hfp⟩:=X6.wf.aEw fX;have aRj:=(Xi f hf hfu hfp);let⟨wb,C⟩:=D (i5 wr (kd #[mj n9 1,jS ka (O k) kc,X n] 389));have Kx:=Za C;have Lp:=Zb C;have HGB:=(hG.on Kx);have H4:=UX wb ((HGB.toT HI X6 (Nat.le_of_lt aY) HL r)) (nu.eb HGB.fK (by show¬t+1=t;omega)) hks;rw[mS]at H4;have N:(f:Int)<(L:Int):=Y;exact ZM16
  .obtain rfl:L=i:=Y;go_wp2;refine mY (v:=mr #[]) (by simp[results,go_sem]) rfl ?_;have hT:=hG.toT HI X6 (fV _) HL r;refine⟨w,T',L,dX,rfl,hG.fK,⟨⟨p,?_⟩,hT.yY,hT.KU,hT.cE,hT.pow,hT.mL,HI.aH,hT.wf⟩,X6,x▸F⟩;rw[X6.o.kH,X6.o.Lq,x];exact hG.cF
variable{L5 f5 g5 vc:Nat}{T5:Nat->Pl aE}{ρ0 oT:bC}{wx wy:aA}
theorem ZM6{P:Prop}(h:P:=by
  have Q:=BU.o;replace Q:=aP Q (j:=4) rfl;go_upto_region 15 with(fail);refine e7 10 (ey Q) (λQ=> ?_);obtain⟨wd,fF⟩:=D (w6.drew);have kP:U w6 [] wd []:=fF▸(U.refl w6 []).drew;have o9:=Z kP;rw[fF]at Q|-;refine ek [0,4,5,7,1,2,3] ?_;refine Zo 6 λvm hK=> ?_;go_simp;go_at_call 291;refine(Zz _ k wd oT tk (t+1) (sq.o.on kP) HK.o).mono ?_;rintro e w7 ⟨ua,uc,rfl,hV7,gD⟩;dsimp only;have Q:=gD.cell Q (by simp);have OK:=(kP.ds gD).aC BU.o (by simp);have sw:=Z (dg.o.eU (kP.ds gD) (λ_ _=>by simp));have LA:dT (bI wc oT (·=t) w7 (up wd.heap.size (t+1) oT)):=Z ((Fc.o.ds (U.fL (kP.ds gD))).D6 (t+1) (Nat.le_trans Fc.o.size kP.size));have HV7:=Z hV7;have Si:=Z OK;have hgf:∀k,w7.frozen? ⟨g5,k,K⟩=rR:=λk=>eV.free sw.o (g:=g5) rfl k;obtain⟨g1,c1',Ww,-,-,JK,-,-⟩:=eV.block sw.o (Nat.zero_lt_of_lt wD.o.fr.1);injection Ww with z1 z2 z3;injection z1 with z1;injection z1 with z1;subst z1;have n0:=JK f5 0 wD.o.fr.1 (by decide);have n1:=JK f5 1 wD.o.fr.1 (by decide);have n2:=JK f5 2 wD.o.fr.1 (by decide);simp only[Nat.add_zero]at n0;clear hV7 gD OK kP fF z2 z3 JK;refine Zk hK Q ?_;clear hK vm;refine ek [8,9] ?_;refine Zo 10 λvm hK=> ?_;go_simp;refine Zl hK ?_;clear hK vm;have a2D:=wD.o.ix.ne;have OK:=Si.o;obtain⟨d0,d1,d2,d3,d4⟩:=Z5 OK;have df:=aN OK;have a1O:(sz:Int)<1048576:=by omega
  clear Q OK n0 n1 n2;go_wp2;refine bodyPost_ret (v:=mr #[mj mn 0,nj rR,mj mn 0]) (by simp[results,go_sem]) rfl ?_;obtain⟨Sw,IQ,hl3⟩:=wD.o.ix.lay LA.o (by rw[wD.o.kH];exact Si.o) sw.o wD.o.fr.1 wD.o.fr.2.1 wD.o.no wD.o.fr.2.2 wD.o.room HV7.o HK.o (CU.o _) _ rfl;rw[wD.o.kH]at Sw IQ hl3;exact⟨_,rfl,wD.o.fK.ds IQ,g5,_,L5,Sw,wD.o.Iw.lay wD.o.fr.1 wD.o.fr.2.1 _ k n wD.o.no,by rw[hl3,QP.o]⟩):P:=h
theorem Zz(v:aE)(k:List Nat)(w:aA)(ρ:bC)(tk j:Nat)(h:qI w ρ tk v k)(p:FJ k):
  uJ 291 #[v] w λe w'=>∃a c,e=mi (jS a (O k) c)/\qI w' (up w j ρ) j (jS a (O k) c) k/\U w [] w' []:=by
 refine(rh v k w h.rd.1 (kX p.2)).mono ?_;rintro e w' ⟨u,rfl,i,m⟩;obtain⟨a,c,rfl,-⟩:=i.len;refine⟨a,c,rfl,⟨i.rd.jR (λr b q=>i.2 b (eV.cZ i.1 q)) j ρ,λad n c' d=> ?_⟩,m⟩;rcases i.1 with⟨l,_⟩|⟨g,cap,cur,l,_⟩
 .rw[l]at d;cases d
 .rw[l]at d;injection d with d;injection d with d;rw[<-d]
theorem wZ.lay{t f:Nat}{T:Nat->Pl aE}{k:List Nat}{n m1 q:Int}(h:wZ w ρ t b g T L aH)(d:bI w ρ (·=t) w0 ρ0)(y:w0.heap[b]? =H (kd #[mj mn aH,mj mn (mH T L:Int),mj mn m1,mj mn q,jS (H ⟨g,0,K⟩) L L] 329 (0,0)))(z:eV w0 (jS (H ⟨g,0,K⟩) L L) 389 3 L (λi j=>QH (T i) j))(B:f<L)(G:(T f).mP=rR)(S:∀p,p<L->(T p).wY≠H k)(s:TG T L (hs k L) f)(Q:(T f).uF=qT\/mH T L+vY T L+1<L)(hv:qI w0 ρ0 (t+1) v k)(P:FJ k)(N:m1=(vY (nW T f (.kH v k n)) L:Int)):
  ∀w':aA,w'=hY (hY (hY (hY w0 ⟨g,f*3,K⟩ (mj n9 1)) ⟨g,f*3+1,K⟩ v) ⟨g,f*3+2,K⟩ (mj mn n)) ⟨b,1,K⟩ (mj mn ((mH T L:Int)+1))->
  wZ w' ρ0 t b g (nW T f (.kH v k n)) L aH/\bI w ρ (·=t) w' ρ0/\mH (nW T f (.kH v k n)) L=mH T L+1:=by
 intro w' c;have m:ρ0 b=t/\ρ0 g=t:=⟨(d.cE b h.lt.2).ds h.cE.1,(d.cE g h.lt.1).ds h.cE.2⟩;have r:bI w0 ρ0 (·=t) w' ρ0:=by
  rw[c];exact((((bI.refl w0 ρ0 _).setCell (a:=Ad g (f*3)) (.inl m.2) _).setCell (a:=Ad g (f*3+1)) (.inl m.2) _).setCell (a:=Ad g (f*3+2)) (.inl m.2) _).setCell (a:=Ad b 1) (.inl m.1) _
 have c1:=DV (T:=T) (x:=Pl.kH v k n) B;rw[G]at c1;simp only[Pl.mP,yN,Nc,E6]at c1;have C:=h.ne;have A:=eV.Jo (p:=f) (x0:=mj n9 1) (x1:=v) (x2:=X n) z (.kH v k n) rfl rfl rfl;have u1:=U.PQ (g:=g) (i:=f) w0 (mj n9 1) v (X n);generalize V:hY (hY (hY w0 (Ad g (f*3)) (mj n9 1)) (Ad g (f*3+1)) v) (Ad g (f*3+2)) (X n)=w3 at c A u1;have o:=u1.aC y (λu=>C (show b=g by simpa using u).symm);have u2:U w3 [b] w' [b]:=c▸qX w3 b 1 _;refine⟨⟨⟨q,?_⟩,A.eU u2 (λg' W u=>C (by rw[<-show g'=b by simpa using u];simpa[i6]using W)),λi v' k' n' F l=> ?_,m,h.pow,h.mL,h.aH,h.wf.lay S B G s Q v n⟩,d.ds r,Y⟩
 .rw[c,aF _ o,show((mH (nW T f (.kH v k n)) L:Nat):Int)=(mH T L:Int)+1 by omega,<-N];rfl
 .by_cases e:i=f
  .subst e;rw[kZ]at l;injection l with e1 e2 e3;subst e1 e2;exact⟨hv.eb r (by show¬t+1=t;omega),P⟩
  .rw[gH _ _ e]at l;exact⟨(h.KU i v' k' n' F l).1.eb (d.ds r) (by show¬t+1=t;omega),(h.KU i v' k' n' F l).2⟩
def aWm(w:aA)(ρ:bC)(t b aH c:Nat)(m:List Nat->Option Int)(k:List Nat)(n:Int)(e:cc)(w':aA):Prop:=
 ∃bV,e=mi (mr #[mj mn 0,nj rR,mj mn 0])/\bI w ρ (·=t) w' bV/\Ix w' bV t b aH (λk'=>if k'=k then H n else m k') (c+1)
structure Ev(w:aA)(ρ:bC)(t tk b aH sz:Nat)(m:List Nat->Option Int)(k:List Nat)(va:Option cg)(vc g5:Nat)(T5:Nat->Pl aE)(L5 f5:Nat)(oT:bC)(wx:aA):Prop where
 ix:wZ wx oT t b g5 T5 L5 aH
 kH:mH T5 L5=sz
 fr:f5<L5/\(T5 f5).mP=rR/\TG T5 L5 (hs k L5) f5
 room:(T5 f5).uF=qT\/mH T5 L5+vY T5 L5+1<L5
 no:∀p,p<L5->(T5 p).wY≠H k
 Iw:zX T5 L5 m
 fK:bI w ρ (·=t) wx oT
 gP:qI wx oT tk (jS va (O k) vc) k
theorem Ev.on{t:Nat}{m:List Nat->Option Int}{k:List Nat}{va:Option cg}(h:Ev w ρ t tk b aH sz m k va vc g5 T5 L5 f5 oT wx)(a:U wx [] wy S'):Ev w ρ t tk b aH sz m k va vc g5 T5 L5 f5 oT wy:=
 ⟨h.ix.on a,h.kH,h.fr,h.room,h.no,h.Iw,h.fK.kV a,h.gP.on a⟩
theorem aM1{t:Nat}{m:List Nat->Option Int}{k:List Nat}(n:Int)(w:aA)(h:Ix w ρ t b aH m c)(hv:qI w ρ tk v k)(ht:tk≠t)(hk:FJ k)(hm:m k=K)(hc:c<aH):
  aK prog 284 #[lr (H ⟨b,0,K⟩),v,mj mn n] w (aWm w ρ t b aH c m k n):=by
 obtain⟨g,T,L,hI,u,rfl⟩:=h;obtain⟨p,hb⟩:=hI.cF;obtain⟨va,vc,rfl,-⟩:=hv.rd.len;have lb:=iP (lt_of_block hb);obtain⟨b0,N,b2,b3,P⟩:=Z5 hb;have bf:=aN hb;have Fs:(O k:Int)<=4096:=by have:=hk.2;omega
 have HI:=Z hI;have HV:=Z hv;have HK:=Z hk;have W:=Z u;have CT:=Z ht;have HM:=Z hm;clear hI hv hk u hb ht hm;go_enter func284,ntmps284;go_upto_region 2 with(fail);have hP:=HI.o.aE7 (wrap64 (p+1));obtain⟨w1,eW⟩:=D (hY w ⟨b,3,K⟩ (mj mn (wrap64 (p+1))));rw[eW]at hP|-;obtain⟨z,pJ⟩:=hP;have LG:=HV.o.eb pJ CT.o;have F:=UX w1 z.toT LG HK.o;obtain⟨f0,hf0,mS,hu0,hp0⟩:=z.wf.aEw ((W.o k).2 HM.o);rw[mS]at F;have HF:=Z F;have HF0:=Z (And.intro hf0 (And.intro hu0 hp0));have X5:=Z z;have B9:=Z LG;have CU:=Z pJ;clear eW b0 N b2 b3 P bf lb z LG pJ mS hu0 hp0 F;go_upto_region 5 with(go_at_call 243;refine HF.o.mono ?_;rintro e w2 ⟨rfl,bM⟩;have eQ:=Z bM;clear bM;dsimp only[S6]);have Mu:=Z (X5.o.on eQ.o);have fu:=Z (B9.o.on eQ.o);have EE:=Z (CU.o.kV eQ.o);obtain⟨q,hq⟩:=Mu.o.cF;have aB7:=Mu.o.mL;have nE:=Mu.o.wf.room;have P5:=Mu.o.aH.2;obtain⟨sz,CD⟩:=D (mH T L);obtain⟨mk,uS⟩:=D (vY T L);have QP:=Z CD;have R9:=Z uS;rw[CD,uS]at nE hq;rw[CD]at hc;obtain⟨b0,N,b2,b3,P⟩:=Z5 hq;clear hq CD uS X5 B9 CU HI HV HF;have hcm:¬((sz:Int)=(aH:Int)):=by omega
 go_upto_region 8 with(fail);go_quiet (fail);obtain⟨w3,JF⟩:=D (w2.drewN nq);have Dl:U w2 [] w3 []:=JF▸(U.refl w2 []).drewN nq;rw[JF];clear JF;replace N:=Dl.cell N (by simp);replace b2:=Dl.cell b2 (by simp);replace P:=Dl.cell P (by simp);have C:=Z Dl;clear Dl;clear hcm b0 b3;have e1:IntKind.i64.wrap ((sz:Int)+mk)=(sz:Int)+mk:=IntWalk.i64_in _ (by omega);have e2:IntKind.i64.wrap ((sz:Int)+mk+1)=(sz:Int)+mk+1:=IntWalk.i64_in _ (by omega);have e3:IntKind.i64.wrap (((sz:Int)+mk+1)*4)=((sz:Int)+mk+1)*4:=IntWalk.i64_in _ (by omega);have e4:IntKind.i64.wrap ((L:Int)*3)=(L:Int)*3:=IntWalk.i64_in _ (by omega);go_upto_region 10 with(fail);go_quiet (fail);obtain⟨w4,JE⟩:=D (w3.drewN nq);have Dk:U w3 [] w4 []:=JE▸(U.refl w3 []).drewN nq;rw[JE];clear JE;replace N:=Dk.cell N (by simp);replace b2:=Dk.cell b2 (by simp);replace P:=Dk.cell P (by simp);have B:=Z Dk;clear Dk;clear e1 e2 e3 e4;have Ij:=Z (Mu.o.on (C.o.ds B.o));have PD:=Z (fu.o.on (C.o.ds B.o));have LM:=Z (EE.o.kV (C.o.ds B.o));clear N b2 P Mu fu EE C B eQ;go_upto_if 72 with(fail);go_cut [10] (λs10 wx=>∃(g5:Nat) (T5:Nat->Pl aE) (L5 f5:Nat) (oT:bC),s10=mj mn f5/\Ev w ρ t tk b aH sz m k va vc g5 T5 L5 f5 oT wx)
 case first=>
  by_cases xS:(L:Int)*3<((sz:Int)+mk+1)*4
  .have aXv:=Z (aOt w4 Ij.o (by rw[QP.o];exact hc));go_wp2_with (first
    |(go_at_call 290;refine aXv.o.mono ?_;rintro e w5 ⟨g5,T5,L5,oT,rfl,sA,A,l,Fp⟩;have fX:=(l.Iw W.o k).2 HM.o;have S:=PD.o.eb sA CT.o;have F:=UX w5 A.toT S HK.o;obtain⟨f5,G,mS,Ky,hp5⟩:=A.wf.aEw fX;rw[mS]at F;have Fe:=Z F;have wD:dT (Ev w ρ t tk b aH sz m k va vc g5 T5 L5 f5 oT w5):=Z ⟨A,by rw[l.kH,QP.o],⟨G,Ky,hp5⟩,.inr (by rw[l.kH,l.Lq];omega),fX,l.Iw W.o,LM.o.ds sA,S⟩;clear sA A l Fp fX S F G mS Ky hp5)
    |(go_at_call 243;refine Fe.o.mono ?_;rintro e w6 ⟨rfl,dR⟩;have lM:=Z dR;clear dR;dsimp only[S6]))
   go_meet
   case rel=>exact⟨g5,T5,L5,f5,oT,rfl,wD.o.on lM.o⟩
  .go_wp2;go_meet
   case rel=>exact⟨g,T,L,f0,ρ,rfl,Ij.o,QP.o,HF0.o,.inr (by rw[QP.o,R9.o];omega),(W.o k).2 HM.o,W.o,LM.o,PD.o⟩
 case rest=>
  obtain⟨g5,T5,L5,f5,oT,rfl,hP⟩:=hcut;have wD:=Z hP;clear hP Ij PD LM HF0 W R9 aB7 nE;obtain⟨q5,r⟩:=wD.o.ix.cF;rw[wD.o.kH]at r;have dW:=wD.o.ix.cells wD.o.fr.1;have V:=dW 0 (by decide);simp only[Nat.add_zero]at V;have a6b:=wD.o.ix.mL;have aFa:=wD.o.ix.wf.room;have G:(f5:Int)<(L5:Int):=by have:=wD.o.fr.1;omega
  have bf5:=aN r;obtain⟨d,o⟩:=D (vY T5 L5);have f:=Z o;rw[o]at r aFa;rw[wD.o.kH]at aFa;obtain⟨a0,a1,a2,a3,a4⟩:=Z5 r;have HQ5:=Z r;clear r dW o;cases u:T5 f5 with
  |kH v' k' n'=>have:=wD.o.fr.2.1;rw[u]at this;cases this
  |empty=>
   rw[u]at V;simp only[QH,if_true]at V;have Sh:=Z u;clear u;go_upto_region 15 with(fail);clear a0 a1 a2 a3 a4 bf5 V;obtain⟨w6,y⟩:=D (wc);have Fc:dT (bI wc oT (·=t) w6 oT):=Z (y▸bI.refl _ _ _);have BU:dT (w6.heap[b]? =H (kd #[mj mn aH,mj mn sz,mj mn d,mj mn q5,jS (H ⟨g5,0,K⟩) L5 L5] 329 (0,0))):=Z (y▸HQ5.o);have dg:dT (eV w6 (jS (H ⟨g5,0,K⟩) L5 L5) 389 3 L5 (λi j=>QH (T5 i) j)):=Z (y▸wD.o.ix.yY);have sq:dT (qI w6 oT tk (jS va (O k) vc) k):=Z (y▸wD.o.gP);rw[y];clear y;have CU:dT (∀v:aE,(d:Int)=(vY (nW T5 f5 (.kH v k n)) L5:Int)):=Z (by
    intro v;have c2:=DW (T:=T5) (x:=Pl.kH v k n) wD.o.fr.1;rw[Sh.o]at c2;simp only[Pl.uF,y',if_false]at c2;rw[<-f.o];omega)
   exact ZM6
  |yJ=>
   rw[u]at V;simp only[QH,if_true]at V;have Sh:=Z u;have hgp:0<d:=by rw[<-f.o];exact Eh wD.o.fr.1 (by rw[u];rfl)
   have bAv:(1:Int)<=d:=by omega
   have bAu:(d:Int)<=8388608:=by omega
   clear u hgp;go_upto_region 15 with(fail);clear a0 a1 a2 a3 a4 bf5 V;obtain⟨w6,y⟩:=D (hY wc ⟨b,2,K⟩ (mj mn ((d:Int)-1)));have XJ:U wc [b] w6 [b]:=y▸(U.refl wc [b]).setCell (a:=⟨b,2,K⟩) (.inl (by simp)) _;have Fc:dT (bI wc oT (·=t) w6 oT):=Z (XJ.qO (λk hk=> .inl (by rw[show k=b by simpa using hk];exact wD.o.ix.cE.1)));have BU:dT (w6.heap[b]? =H (kd #[mj mn aH,mj mn sz,mj mn ((d:Int)-1),mj mn q5,jS (H ⟨g5,0,K⟩) L5 L5] 329 (0,0))):=Z (by rw[<-y,aF _ HQ5.o];rfl);have dg:dT (eV w6 (jS (H ⟨g5,0,K⟩) L5 L5) 389 3 L5 (λi j=>QH (T5 i) j)):=Z (wD.o.ix.yY.eU XJ (λg' hg hm=>wD.o.ix.ne (by rw[<-show g'=b by simpa using hm];simpa[i6]using hg)));have sq:dT (qI w6 oT tk (jS va (O k) vc) k):=Z (wD.o.gP.eb Fc.o CT.o);rw[y];clear y XJ;have CU:dT (∀v:aE,(d:Int)-1=(vY (nW T5 f5 (.kH v k n)) L5:Int)):=Z (by
    intro v;have c2:=DW (T:=T5) (x:=Pl.kH v k n) wD.o.fr.1;rw[Sh.o]at c2;simp only[Pl.uF,y',if_false,if_true]at c2;rw[<-f.o];omega)
   exact ZM6
variable{F' G':Nat}
section
structure Sl(V:Type) where
 kF:Nat
 dP:Bool
 vb:V
structure nV(V:Type) where
 aH:Nat
 jE:Nat
 sl:List (Sl V)
 free:List Nat
 aM:Nat
section
variable{V:Type}
def nV.dP(A:nV V)(i:Nat):Bool:=match A.sl[i]?with|some s=>s.dP|none=>rR
def nV.kF(A:nV V)(i:Nat):Nat:=match A.sl[i]?with|some s=>s.kF|none=>0
def nV.pP(A:nV V)(i:Nat):Option V:=match A.sl[i]?with|some s=>if s.dP then H s.vb else K|none=>K
def nV.next(A:nV V):Nat:=match A.free.getLast? with|some i=>i|none=>O A.sl
def nV.take(A:nV V)(v:V):nV V:=
 match A.free.getLast? with
 |some i=>{A with sl:=A.sl.set i ⟨A.kF i+1,qT,v⟩,free:=A.free.dropLast,aM:=A.aM+1}
 |none=>{A with sl:=A.sl++[⟨1,qT,v⟩],aM:=A.aM+1}
def nV.AR(A:nV V)(z:V)(i:Nat):nV V:={A with sl:=A.sl.set i ⟨A.kF i,rR,z⟩,free:=A.free++[i],aM:=A.aM-1}
structure R6(A:nV V)(F G:Nat):Prop where
 len:O A.sl<=A.aH
 dD:A.free.Nodup
 mem:∀i,i∈A.free↔i<O A.sl/\A.dP i=rR
 eG:A.aM+O A.free=O A.sl
 fr:∀i,A.dP i=rR->A.kF i<=F
 al:∀i,A.dP i=qT->A.kF i<=G
variable{A:nV V}{F G:Nat}
theorem lQ(h:A.dP i=qT):i<O A.sl:=by
 grind [nV.dP]
theorem Dt(h:O A.sl<=i):A.kF i=0:=by unfold nV.kF;rw[EB h]
theorem sh(h:O A.sl<=i):A.dP i=rR:=by unfold nV.dP;rw[EB h]
theorem VP:(A.pP i).isSome=A.dP i:=by
 grind [nV.pP,nV.dP]
theorem R6.mono(h:R6 A F G)(c:F<=F')(b:G<=G'):R6 A F' G':=⟨h.len,h.dD,h.mem,h.eG,λi a=>j8 (h.fr i a) c,λi a=>j8 (h.al i a) b⟩
theorem R6.room(h:R6 A F G)(hl:A.aM<A.aH)(a:A.free=[]):O A.sl<A.aH:=by
 have:=h.eG;grind
theorem R6.wJ(h:R6 A F G):A.dP A.next=rR:=by
 unfold nV.next;cases a:A.free.getLast? with
 |none=>grind [sh]
 |some i=>exact((h.mem i).1 (zcW a)).2
theorem R6.Oq(h:R6 A F G)(hl:A.aM<A.aH):A.next<A.aH:=by
 unfold nV.next;cases a:A.free.getLast? with
 |none=>exact h.room hl (eP a)
 |some i=>exact xF ((h.mem i).1 (zcW a)).1 h.len
theorem NK(A:nV V)(v:V):(A.take v).aH=A.aH/\(A.take v).jE=A.jE/\(A.take v).aM=A.aM+1:=by unfold nV.take;split<;>exact⟨rfl,rfl,rfl⟩
theorem Nn(h:R6 A F G)(v:V)(i:Nat):(A.take v).sl[i]? =if i=A.next then H ⟨A.kF A.next+1,qT,v⟩else A.sl[i]? :=by
 unfold nV.take nV.next;cases a:A.free.getLast? with
 |none=>
  grind [Dt]
 |some j=>
  have b:=((h.mem j).1 (zcW a)).1;grind
theorem CX(h:R6 A F G)(v:V)(i:Nat):(A.take v).dP i=(decide (i=A.next)||A.dP i):=by
 grind [nV.dP,Nn]
theorem RM(h:R6 A F G)(v:V)(i:Nat):(A.take v).kF i=if i=A.next then A.kF A.next+1 else A.kF i:=by
 grind [nV.kF,Nn]
theorem ir(h:R6 A F G)(v:V)(i:Nat):(A.take v).pP i=if i=A.next then H v else A.pP i:=by
 grind [nV.pP,Nn]
theorem Bd{l:List Nat}(h:l.Nodup)(b:l.getLast? =H i):∀j,j∈l.dropLast↔j∈l/\j≠i:=by
 obtain⟨a,hl⟩:∃a:l≠[],l.getLast a=i:=by
  cases l<;>grind
 have e:=List.dropLast_concat_getLast a;grind
theorem R6.take(h:R6 A F G)(hl:A.aM<A.aH)(g:F+1<=G)(v:V):R6 (A.take v) F G:=by
 have d:=h.wJ;refine⟨?_,?_,λi=> ?_,?_,λi a=> ?_,λi a=> ?_⟩
 .unfold nV.take;cases b:A.free.getLast? with
  |none=>simp only[E7,Ty];exact h.room hl (eP b)
  |some j=>simpa using h.len
 .unfold nV.take;cases b:A.free.getLast? with
  |none=>exact h.dD
  |some j=>exact h.dD.sublist (List.dropLast_sublist _)
 .rw[CX h];unfold nV.take;cases b:A.free.getLast? with
  |none=>
   simp only[E7,Ty];have c:A.next=O A.sl:=by unfold nV.next;rw[b]
   rw[h.mem i,c];grind
  |some j=>
   have c:A.next=j:=by unfold nV.next;rw[b]
   simp only[TS];rw[Bd h.dD b i,h.mem i,c];grind
 .have:=h.eG;grind [nV.take]
 .rw[CX h]at a;simp only[Bool.or_eq_false_iff,decide_eq_false_iff_not]at a;rw[RM h,R a.1];exact h.fr i a.2
 .rw[RM h];split
  .have:=h.fr _ d;omega
  .rename_i e;rw[CX h]at a;simp[e]at a;exact h.al i a
theorem Qx{z:V}(a:A.dP i=qT)(j:Nat):(A.AR z i).sl[j]? =if j=i then H ⟨A.kF i,rR,z⟩else A.sl[j]? :=by
 grind [nV.AR,lQ]
theorem DM{z:V}(a:A.dP i=qT)(j:Nat):(A.AR z i).dP j=(!decide (j=i)&&A.dP j):=by
 grind [nV.dP,Qx]
theorem SZ{z:V}(a:A.dP i=qT)(j:Nat):(A.AR z i).kF j=A.kF j:=by
 grind [nV.kF,Qx]
theorem qk{z:V}(a:A.dP i=qT)(j:Nat):(A.AR z i).pP j=if j=i then K else A.pP j:=by
 grind [nV.pP,Qx]
theorem xj:∀{l m:List Nat},l.Nodup->(∀x,x∈l->x∈m)->O l<=O m
 |[],_,_,_=>O9 _
 |x::l,m,hd,h=>by
  rw[U8]at hd;have b:=h x J;have c:=xj (m:=m.erase x) hd.2 λy a=>(B2 (λe=>by grind)).2 (h y (by simp[a]));grind
theorem R6.Bt(h:R6 A F G)(e:A.dP i=qT):0<A.aM:=by
 have j:=h.eG;have g:=lQ e;rcases Nat.eq_zero_or_pos A.aM with a|a
 .exfalso;have b:O A.free=O A.sl:=Y;have d:∀x,x∈A.free->x∈(yo (O A.sl)).erase i:=λx c=>by
   have:=(h.mem x).1 c;grind
  have l:=xj h.dD d;grind
 .exact a
theorem R6.AR(h:R6 A F G)(l:G<=F)(z:V)(c:A.dP i=qT):R6 (A.AR z i) F G:=by
 have n:=h.Bt c;have m:=lQ c;refine⟨by unfold nV.AR;simpa using h.len,?_,λj=> ?_,?_,λj d=> ?_,λj d=> ?_⟩
 .unfold nV.AR;refine Fh.2 ⟨h.dD,J,λa ha b g e=> ?_⟩;simp at g;subst g e;rw[((h.mem a).1 ha).2]at c;cases c
 .rw[DM c];unfold nV.AR;simp only[yU,Gc,TS];rw[h.mem j];grind
 .have:=h.eG;grind [nV.AR]
 .rw[SZ c];rw[DM c]at d;by_cases e:j=i
  .subst e;exact j8 (h.al j c) l
  .simp[e]at d;exact h.fr j d
 .rw[SZ c];rw[DM c]at d;simp at d;exact h.al j d.2
end
end
variable{A:nV aE}{l6:List (Sl aE)}{f6:List Nat}{F G Fv:Nat}{Fw:Option cg}{s6:Sl aE}{qJ:bC}{fv sv:aE}{w' w6:aA}
theorem ZM3{P:Prop}(h:P:=by
  obtain⟨g',c',yP,aY,KC,-,-,cur,kB⟩:=us.bG.aS us.lt;injection yP with x1 x2 x3;injection x1 with x1;injection x1 with x1;subst x1;have GY:g≠b:=λe=>by rw[e,us.cF]at kB;injection kB with h1;injection h1 with _ h1 _;exact dY h1 E
  have ny:g≠i7 w.heap:=λe=>by rw[e,us.Jf]at kB;injection kB with h1;injection h1 with _ h1 _;exact dY h1 E
  have pg:b≠i7 w.heap:=λe=>by have h0:=us.cF;rw[e,us.Jf]at h0;injection h0 with h1;injection h1 with _ h1 _;exact dY h1 E
  let⟨h1,h2,h3⟩:=NK A v;have t1:=us.bG.PQ us.lt ⟨s6.kF+1,qT,v⟩ (X ((s6.kF:Int)+1)) (nj qT) v rfl rfl rfl;have u1:=U.PQ (g:=g) (i:=i) w6 (X ((s6.kF:Int)+1)) (nj qT) v;generalize vV:hY (hY (hY w6 (Ad g (i*3)) (X ((s6.kF:Int)+1))) (Ad g (i*3+1)) (nj qT)) (Ad g (i*3+2)) v=w7 at t1 u1|-;have OK:=u1.aC us.cF (λhm=>GY (show b=g by simpa using hm).symm);have hf7:=us.free.eU u1 (λk hk hm=>us.free.ne kB E (by rw[hk,show k=g by simpa using hm]));have u2:U w7 [b,i7 w.heap] (hY (hY (hY w7 (Ad b 4) (X ((A.aM:Int)+1))) ⟨w,0,K⟩ x) ⟨w,1,K⟩ y) [b,i7 w.heap]:=
   (((U.refl w7 _).setCell (a:=Ad b 4) (.inl J) _).setCell (a:=⟨w,0,K⟩) (.inl J) x).setCell (a:=⟨w,1,K⟩) (.inl J) y
  have CD:=dG us.Jf;refine⟨qJ,?_,?_,eC g 0 (O l6) c,jS Fw (O f6) Fv,?_,?_,?_,us.cE,h1▸hm,h2▸hg⟩
  .rw[<-us.kF,<-us.num];rfl
  .refine us.fK.ds ((?_:bI w6 qJ (·=t) w7 qJ).ds ?_)
   .rw[<-vV];exact(((bI.refl w6 qJ _).setCell (a:=Ad g (i*3)) (.inl KC) _).setCell (a:=Ad g (i*3+1)) (.inl KC) _).setCell (a:=Ad g (i*3+2)) (.inl KC) _
   .have hw:=j8 (Nat.le_of_lt CD) u1.size;exact(((bI.refl w7 qJ _).setCell (a:=Ad b 4) (.inl us.cE) _).setCell (a:=⟨w,0,K⟩) (.inl us.EG) _).setCell (a:=⟨w,1,K⟩) (.inl us.EG) _
  .rw[h1,h2,h3];have e1:=aF (i:=4) (X ((A.aM:Int)+1)) OK;rw[Mz _ _ _ _ (by exact pg),Mz _ _ _ _ (by exact pg),e1];rfl
  .have:=t1.eU u2 (λk hk hm=>by
    obtain rfl:k=g:=by simpa[i6]using hk.symm
    rcases xZ.1 hm with e|e
    .exact GY e
    .exact ny (eP e))
   rw[us.sls v]at this;have hl:O (A.take v).sl=O l6:=by rw[<-us.sls v,TS]
   exact this
  .have:=hf7.eU u2 (λk hk hm=>by
    rcases xZ.1 hm with e|e
    .exact hf7.ne OK E (by rw[hk,e])
    .exact us.free.ne us.Jf E (by rw[hk,show k=_ by simpa using e]))
   rw[us.frs v]at this|-;exact this):P:=h
theorem ZM10{P:Prop}(h:P:=by
  rw[iA];have Fy:=HN.o;obtain⟨g,c,l6,i,s6,f6,qJ,Fw,Fv,us⟩:=hcut;have mK:=us.cF;have lA:=us.Jf;let⟨g',c',yP,aY,KC,nX,hff,cur,kB⟩:=us.bG.aS us.lt;injection yP with x1 x2 x3;injection x1 with x1;injection x1 with x1;subst x1;clear x2 x3;have g0:=nX 0 E;have g1:=nX 1 E;have g2:=nX 2 E;rw[us.aS]at g0 g1 g2;simp only[fSl,yN,qZ,(by decide:¬(1:Nat)=0),(by decide:¬(2:Nat)=0),(by decide:¬(2:Nat)=1),E6]at g0 g1 g2;obtain⟨b0,b1,b2,b3,b4⟩:=Z5 mK;obtain⟨r0,r1⟩:=Z2 lA;have bf:=aN mK;have rf:=aN lA;have GY:g≠b:=λe=>by rw[e,mK]at kB;injection kB with h1;injection h1 with _ h1 _;exact dY h1 E
  have ny:g≠i7 w.heap:=λe=>by rw[e,lA]at kB;injection kB with h1;injection h1 with _ h1 _;exact dY h1 E
  have SJ:(s6.kF:Int)<=1073741824:=pN us.kF ug;have hi6:(i:Int)<(O l6:Int):=kX us.lt;have QQ:=Z us.num;have HC:=Z us;clear mK lA nX KC us aY;obtain rfl:i=O A.sl:=by rw[QQ.o,Fy]
  clear Fy iA;go_wp2;refine mY (aW (A:=⟨w,0,K⟩) (T:=348) rfl Yr (v:= .agg #[X (O A.sl:Int),X ((s6.kF:Int)+1)]) (by go_simp)) rfl ?_;exact HC.Yw h1.aH h1.jE _ _ _):P:=h
theorem ZM11{P:Prop}(h:P:=by
  rw[iA];have Fy:=HN.o;obtain⟨g,c,l6,i,s6,f6,qJ,Fw,Fv,us⟩:=hcut;have mK:=us.cF;have lA:=us.Jf;let⟨g',c',yP,aY,KC,nX,hff,cur,kB⟩:=us.bG.aS us.lt;injection yP with x1 x2 x3;injection x1 with x1;injection x1 with x1;subst x1;clear x2 x3;have g0:=nX 0 E;have g1:=nX 1 E;have g2:=nX 2 E;rw[us.aS]at g0 g1 g2;simp only[fSl,yN,qZ,(by decide:¬(1:Nat)=0),(by decide:¬(2:Nat)=0),(by decide:¬(2:Nat)=1),E6]at g0 g1 g2;obtain⟨b0,b1,b2,b3,b4⟩:=Z5 mK;obtain⟨r0,r1⟩:=Z2 lA;have bf:=aN mK;have rf:=aN lA;have GY:g≠b:=λe=>by rw[e,mK]at kB;injection kB with h1;injection h1 with _ h1 _;exact dY h1 E
  have ny:g≠i7 w.heap:=λe=>by rw[e,lA]at kB;injection kB with h1;injection h1 with _ h1 _;exact dY h1 E
  have SJ:(s6.kF:Int)<=1073741824:=pN us.kF ug;have hi6:(i:Int)<(O l6:Int):=kX us.lt;have QQ:=Z us.num;have HC:=Z us;clear mK lA nX KC us aY;obtain rfl:i=i0:=by rw[QQ.o,Fy]
  clear Fy iA q0 q1 q2 q3 q4 qf;go_wp2;refine mY (aW (A:=⟨w,0,K⟩) (T:=348) rfl Yr (v:= .agg #[It i,X ((s6.kF:Int)+1)]) (by go_simp)) rfl ?_;exact HC.Yw tu.aH tu.jE _ _ _):P:=h
theorem ZM51{P:Prop}(h:P:=by
  obtain⟨h1,h2,h3,h4⟩:=h;have i1:(1:Int)<=n:=Y;have i2:(n:Int)<=1048576:=Y;have i3:(1:Int)<=g:=Y;have i4:(g:Int)<=1073741824:=Y;go_in;go_wp2;go_ret2;exact⟨_,rfl,(U.refl w []).alloc _,_,_,mE w _,pI.nil _ _ _,pI.nil _ _ _,cY (fV _),h2,h4⟩):P:=h
theorem ZM74{P:Prop}(h:P:=by
  refine CU.ds ((xS.fK (S:=(·=t)) t (λk hk=> .inl (ho.RO k hk))).ds ?_);rw[<-iA];exact(bI.refl w5 _ _).setCell (a:=Ad b 2) (.inl KX) _):P:=h
theorem ZM76{P:Prop}(h:P:=by
  obtain⟨sv,fv,h⟩:=h;exact⟨sv,fv,hM.aC h.cF (h.cE▸hS),h.bG.eb hM hS,h.free.eb hM hS,(hM.cE b (dG h.cF)).ds h.cE,h.aH,h.jE⟩):P:=h
theorem ZM87{P:Prop}(h:P:=by
  refine CU.ds ((U.fL (S:=(·=t)) Tc).ds ?_);rw[<-iA];exact((bI.refl wq _ _).setCell (a:=Ad b 3) (.inl tu.cE) _).drew):P:=h
theorem ZM106{P:Prop}(h:P:=by
  rcases h1.free.1 with⟨h1,_⟩|⟨g',cap',a3q,h1,_,h3,_⟩
  .cases h1
  .injection h1 with _ _ h1;omega):P:=h
theorem ZM128{P:Prop}(h:P:=by
  rw[hlen];exact hs5.eU XJ (λk hk hm=>hs5.ne uV E (by rw[hk,show k=b by simpa using hm]))):P:=h
theorem ZM146{P:Prop}(h:P:=by
  exact hf5.eU XJ (λk hk hm=>hf5.ne uV E (by rw[hk,show k=b by simpa using hm]))):P:=h
def fSl(s:Sl aE)(j:Nat):aE:=if j=0 then mj mn (s.kF:Int)else if j=1 then nj s.dP else s.vb
theorem aQd:kD prog 305 371 3 40:= .QZ (z:= .agg #[X 0,nj rR,cR]) underlying305 dJ rfl
structure oQ(w:aA)(ρ:bC)(t b:Nat)(A:nV aE)(sv fv:aE):Prop where
 cF:w.heap[b]? =H (kd #[mj mn A.aH,mj mn A.jE,sv,fv,mj mn A.aM] 307 (0,0))
 bG:pI fSl ⟨0,rR,(jS K 0 0)⟩ 371 3 w ρ t sv A.sl
 free:pI fN 0 3 1 w ρ t fv A.free
 cE:ρ b=t
 aH:A.aH<=1048576
 jE:A.jE<=1073741824
def BV(w:aA)(ρ:bC)(t b:Nat)(A:nV aE):Prop:=∃sv fv,oQ w ρ t b A sv fv
theorem BV.eb{t:Nat}{S:Nat->Prop}(h:BV w ρ t b A)(hM:bI w ρ S w' bV)(hS:¬S t):BV w' bV t b A:=ZM76
theorem BV.on{t:Nat}{L:List Nat}(h:BV w ρ t b A)(a:U w [] w' L):BV w' ρ t b A:=h.eb (S:=eZ) a.fL id
theorem aHM(n g t:Nat)(w:aA)(ρ:bC)(h:1<=n/\n<=1048576/\1<=g/\g<=1073741824):
  aK prog 172 #[mj mn n,mj mn g] w λe w'=>∃b,e=mi (mr #[lr (H ⟨b,0,K⟩),mj mn 0])/\U w [] w' []/\BV w' (up w t ρ) t b ⟨n,g,[],[],0⟩:=by
 exact ZM51
theorem oQ.move{t:Nat}{S:Nat->Prop}(h:oQ w ρ t b A sv fv)(a:bI w ρ S w' bV)(c:¬S t):oQ w' bV t b A sv fv:=
 ⟨a.aC h.cF (h.cE▸c),h.bG.eb a c,h.free.eb a c,(a.cE b (dG h.cF)).ds h.cE,h.aH,h.jE⟩
theorem oQ.on{t:Nat}{L:List Nat}(h:oQ w ρ t b A sv fv)(a:U w [] w' L):oQ w' ρ t b A sv fv:=
 ⟨a.aC h.cF J,h.bG.on a,h.free.on a,h.cE,h.aH,h.jE⟩
theorem oQ.aOg{t:Nat}(h:oQ w ρ t b A sv fv):b∉sv.ownBlock.toList:=λa=>eV.ne h.bG.1 h.cF E (eP a)
theorem oQ.aOh{t:Nat}(h:oQ w ρ t b A sv fv):b∉fv.ownBlock.toList:=λa=>eV.ne h.free.1 h.cF E (eP a)
structure Sk(w:aA)(ρ:bC)(t b:Nat)(A:nV aE)(g c:Nat)(l6:List (Sl aE))(i:Nat)(s6:Sl aE)(f6:List Nat)(qJ:bC)(Fw:Option cg)(Fv:Nat)(w6:aA):Prop where
 cF:w6.heap[b]? =H (kd #[mj mn A.aH,mj mn A.jE,jS (H ⟨g,0,K⟩) (O l6) c,jS Fw (O f6) Fv,mj mn A.aM] 307 (0,0))
 bG:pI fSl ⟨0,rR,(jS K 0 0)⟩ 371 3 w6 qJ t (jS (H ⟨g,0,K⟩) (O l6) c) l6
 free:pI fN 0 3 1 w6 qJ t (jS Fw (O f6) Fv) f6
 Jf:w6.heap[i7 w.heap]? =H (kd #[mj mn 0,mj mn 0] 348 (0,0))
 fK:bI w ρ (·=t) w6 qJ
 EG:qJ w.heap.size=t
 cE:qJ b=t
 lt:i<O l6
 aS:hJ l6 i ⟨0,rR,(jS K 0 0)⟩=s6
 kF:s6.kF=A.kF A.next
 num:i=A.next
 sls:∀v,l6.set i ⟨s6.kF+1,qT,v⟩=(A.take v).sl
 frs:∀v,f6=(A.take v).free
def Ml(w:aA)(ρ:bC)(t b:Nat)(A:nV aE)(v:aE)(e:cc)(w':aA):Prop:=
 ∃bV,e=mi (mr #[.agg #[mj mn A.next,mj mn ((A.kF A.next+1:Nat):Int)],mj mn 0])/\bI w ρ (·=t) w' bV/\BV w' bV t b (A.take v)
theorem Sk.Yw{t:Nat}(us:Sk w ρ t b A g c l6 i s6 f6 qJ Fw Fv w6)(hm:A.aH<=1048576)(hg:A.jE<=1073741824)(v x y:aE):
  Ml w ρ t b A v (mi (mr #[.agg #[mj mn i,mj mn ((s6.kF:Int)+1)],mj mn 0])) (hY (hY (hY (hY (hY (hY w6 ⟨g,i*3,K⟩ (mj mn ((s6.kF:Int)+1))) ⟨g,i*3+1,K⟩ (nj qT)) ⟨g,i*3+2,K⟩ v) ⟨b,4,K⟩ (mj mn ((A.aM:Int)+1))) ⟨w,0,K⟩ x) ⟨w,1,K⟩ y):=by
 exact ZM3
theorem aCX{t:Nat}(va:Option cg)(vn vc:Nat)(w:aA)(h:BV w ρ t b A)(C:R6 A F G)(hl:A.aM<A.aH)(qH:F+1<=G)(hG:G<=1073741824):
  aK prog 283 #[lr (H ⟨b,0,K⟩),(jS va vn vc)] w (Ml w ρ t b A (jS va vn vc)):=by
 obtain⟨sv,fv,h⟩:=h;let⟨w1,eW⟩:=D (i5 w (kd #[X 0,X 0] 348));have cT:=Za eW;have x:=Zb eW;have o:bI w ρ eZ w1 (up w t ρ):=cT.fL.D6 t (fV _);let⟨dX,f⟩:=D (up w t ρ);have r:dX w.heap.size=t:=f▸cY (fV _);rw[f]at o;have h1:=h.move o id;have CU:=(o.aL (T:=(·=t)) nZ);have q:=h1.cF;have pg:=Dc (dG h.cF);have Ld:(A.aM:Int)<=1048576:=kX h.aH;have P5:=h.aH;obtain⟨fa,p,rfl,R3⟩:=h.free.len;obtain⟨sa,sc,rfl,IN⟩:=h.bG.len;obtain⟨c0,c1,c2,c3,c4⟩:=Z5 q;obtain⟨r0,r1⟩:=Z2 x;have cf:=aN q;have ug:=(show A.kF A.next<=1073741824 by have:=C.fr _ C.wJ;omega);clear h o f;cases d:A.free.getLast? with
 |some i0=>
  have u:A.next=i0:=by unfold nV.next;rw[d]
  have fe:=((C.mem i0).1 (zcW d)).1;have h0:A.free≠[]:=λe=>by rw[e]at d;cases d
  have hlen:O A.free=O A.free.dropLast+1:=by rw[gz];have:=List.length_pos_iff.2 h0;omega
  have MT:hJ A.free (O A.free.dropLast) 0=i0:=by
   rw[B6]at d;rw[gV,gz,d];rfl
  have N:A.free.take (O A.free.dropLast)=A.free.dropLast:=by rw[gz,F6]
  generalize yG:O A.free.dropLast=n at hlen MT N;have aY:n<O A.free:=Y;obtain⟨gf,cf',Sy,hgf,-,z,hff,a3o,m⟩:=h1.free.aS aY;injection Sy with x1 x2 x3;subst x1;clear x2 x3;have W:=z 0 E;simp only[fN,yC,qZ]at W;rw[MT]at W;have Q:gf≠b:=λe=>by rw[e,q]at m;injection m with h1;injection h1 with _ h1 _;exact dY h1 E
  have jD:=(h1.free.RN (k:=n) Y (by intro h;cases h));have aGM:n+1<=p:=ZM106;rw[N]at jD;have HN:=Z u;have E4:=Z yG;have l:=Z fe;rw[hlen]at c3 aY;unfold bH at R3;clear u h0 MT N yG fe z m;rw[hlen]at R3;go_in;go_upto_region 4 with(fail);go_quiet (fail);let⟨wq,V⟩:=D (w1.drewN nq);have Tc:U w1 [] wq []:=Sr V;have tu:=(h1.on Tc);have B:=Tc.aC q J;have hRq:=Tc.aC x J;rw[V];obtain⟨q0,q1,q2,q3,q4⟩:=Z5 B;have qf:=aN B;rw[hlen]at q3;clear V c0 c1 c2 c3 c4 cf r0 r1 W hff;go_upto_region 5 with(fail);have xx:IntKind.i64.wrap (n:Int)=n:=QY _ Y;have ni:(n:Int)<=p:=Y;go_still_tail 14,dJ;change wpList _ _ _ _ _ wq.drew;clear xx ni;go_upto_region 8 with(fail);let⟨w6,iA⟩:=D ((hY wq (Ad b 3) (eC gf 0 n p)).drew);have hcut:∃(g c:Nat) (l6:List (Sl aE)) (i:Nat) (s6:Sl aE) (f6:List Nat) (qJ:bC) (Fw:Option cg) (Fv:Nat),Sk w ρ t b A g c l6 i s6 f6 qJ Fw Fv w6:=by
   obtain⟨gs,cs,L,-⟩:=tu.bG.aS l.o;injection L with x1 x2 x3;subst x1 x3;have XJ:U wq [b] w6 [b]:=iA▸(qX wq b 3 _).drew;have hs6:=tu.bG.eU XJ (λk hk hm=>tu.bG.ne B E (by rw[hk,show k=b by simpa using hm]));have P:=(jD.on Tc).eU XJ (λk hk hm=>Q (by rw[<-show k=b by simpa using hm];simpa[i6]using hk));refine⟨gs,_,A.sl,i0,hJ A.sl i0 ⟨0,rR,cR⟩,A.free.dropLast,dX,H (Ad gf 0),p,?_,hs6,?_,?_,?_,r,tu.cE,l,rfl,?_,HN.symm,λv=> ?_,λv=> ?_⟩
   .rw[<-iA,E4.o];show(hY wq _ _).heap[b]? =_;rw[aF _ B];rfl
   .rw[E4.o];exact P
   .exact XJ.aC hRq (λhm=>pg (show i7 w.heap=b by simpa using hm).symm)
   .exact ZM87
   .rw[HN.o];unfold nV.kF;rw[gV,kU l.o];rfl
   .unfold nV.take nV.kF;simp only[d,gV,kU l.o,O8]
   .unfold nV.take;rw[d]
  exact ZM11
 |none=>
  have u:A.next=O A.sl:=by unfold nV.next;rw[d]
  have y:A.free=[]:=eP d;have nE:=C.room hl y;have aPJ:(O A.sl:Int)<A.aH:=Y;have HN:=Z u;have hz:(O A.free:Int)=0:=by rw[y];rfl
  clear u;go_in;go_upto_region 8 with(at_builtin;refine cK aQd rfl _ _ rfl (h1.bG.cZ w1) (OB w1) Yr [X 0,nj rR,cR] ⟨0,rR,cR⟩ Yr rfl (λj hj=>by match j,hj with|0,_=>rfl|1,_=>rfl|2,_=>rfl) rfl Y GC ?_;rintro g5 c5 w5 lU cO xS xC;have uV:=xS.aC q h1.aOg;obtain⟨c0,c1,c2,c3,c4⟩:=Z5 uV;have cf:=aN uV;have pL:=Z lU;clear lU cO xC);have NI:=h1;let⟨w6,iA⟩:=D (hY w5 (Ad b 2) (eC g5 0 (O A.sl+1) c5));have hgn:=pL.ne uV E;have hcut:∃(g c:Nat) (l6:List (Sl aE)) (i:Nat) (s6:Sl aE) (f6:List Nat) (qJ:bC) (Fw:Option cg) (Fv:Nat),Sk w ρ t b A g c l6 i s6 f6 qJ Fw Fv w6:=by
   have ho:=h1.bG;have hs5:=pL.ON ho xS;have hf5:pI fN 0 3 1 w5 (up w1 t dX) t (jS fa (O A.free) p) A.free:=(h1.free.D6 t (fV _)).eU xS (h1.free.KA ho E);have XJ:U w5 [b] w6 [b]:=iA▸qX w5 b 2 _;have tU:=xS.aC x (λhm=>ho.ne x E (eP hm));have hlen:O (A.sl++[(⟨0,rR,cR⟩:Sl aE)])=O A.sl+1:=J;have KX:(up w1 t dX) b=t:=fG (dG q)▸h1.cE;refine⟨g5,c5,A.sl++[⟨0,rR,cR⟩],O A.sl,⟨0,rR,cR⟩,A.free,up w1 t dX,fa,p,?_,?_,?_,?_,?_,?_,KX,J,J,?_,HN.symm,λv=> ?_,λv=> ?_⟩
   .rw[hlen,<-iA,aF _ uV];rfl
   .exact ZM128
   .exact ZM146
   .exact XJ.aC tU (λhm=>pg (show i7 w.heap=b by simpa using hm).symm)
   .exact ZM74
   .rw[fG (dG x)];exact r
   .rw[HN.o,Dt (fV _)]
   .unfold nV.take;rw[d];simp
   .unfold nV.take;rw[d]
  exact ZM10
theorem aQe:kD prog 330 429 3 24:= .QZ (z:= .agg #[X 0,nj rR,(X 0)]) underlying330 dJ rfl
structure oR(w:aA)(ρ:bC)(t b:Nat)(A:nV aE)(sv fv:aE):Prop where
 cF:w.heap[b]? =H (kd #[mj mn A.aH,mj mn A.jE,sv,fv,mj mn A.aM] 332 (0,0))
 bG:pI fSl ⟨0,rR,(mj mn 0)⟩ 429 3 w ρ t sv A.sl
 free:pI fN 0 3 1 w ρ t fv A.free
 cE:ρ b=t
 aH:A.aH<=1048576
 jE:A.jE<=1073741824
def PH(w:aA)(ρ:bC)(t b:Nat)(A:nV aE):Prop:=∃sv fv,oR w ρ t b A sv fv
theorem PH.eb{t:Nat}{S:Nat->Prop}(h:PH w ρ t b A)(hM:bI w ρ S w' bV)(hS:¬S t):PH w' bV t b A:=ZM76
theorem aHN(n g t:Nat)(w:aA)(ρ:bC)(h:1<=n/\n<=1048576/\1<=g/\g<=1073741824):
  aK prog 174 #[mj mn n,mj mn g] w λe w'=>∃b,e=mi (mr #[lr (H ⟨b,0,K⟩),mj mn 0])/\U w [] w' []/\PH w' (up w t ρ) t b ⟨n,g,[],[],0⟩:=by
 exact ZM51
theorem oR.move{t:Nat}{S:Nat->Prop}(h:oR w ρ t b A sv fv)(a:bI w ρ S w' bV)(c:¬S t):oR w' bV t b A sv fv:=
 ⟨a.aC h.cF (h.cE▸c),h.bG.eb a c,h.free.eb a c,(a.cE b (dG h.cF)).ds h.cE,h.aH,h.jE⟩
theorem oR.on{t:Nat}{L:List Nat}(h:oR w ρ t b A sv fv)(a:U w [] w' L):oR w' ρ t b A sv fv:=
 ⟨a.aC h.cF J,h.bG.on a,h.free.on a,h.cE,h.aH,h.jE⟩
theorem oR.aOg{t:Nat}(h:oR w ρ t b A sv fv):b∉sv.ownBlock.toList:=λa=>eV.ne h.bG.1 h.cF E (eP a)
theorem oR.aOh{t:Nat}(h:oR w ρ t b A sv fv):b∉fv.ownBlock.toList:=λa=>eV.ne h.free.1 h.cF E (eP a)
structure Sm(w:aA)(ρ:bC)(t b:Nat)(A:nV aE)(g c:Nat)(l6:List (Sl aE))(i:Nat)(s6:Sl aE)(f6:List Nat)(qJ:bC)(Fw:Option cg)(Fv:Nat)(w6:aA):Prop where
 cF:w6.heap[b]? =H (kd #[mj mn A.aH,mj mn A.jE,jS (H ⟨g,0,K⟩) (O l6) c,jS Fw (O f6) Fv,mj mn A.aM] 332 (0,0))
 bG:pI fSl ⟨0,rR,(mj mn 0)⟩ 429 3 w6 qJ t (jS (H ⟨g,0,K⟩) (O l6) c) l6
 free:pI fN 0 3 1 w6 qJ t (jS Fw (O f6) Fv) f6
 Jf:w6.heap[i7 w.heap]? =H (kd #[mj mn 0,mj mn 0] 348 (0,0))
 fK:bI w ρ (·=t) w6 qJ
 EG:qJ w.heap.size=t
 cE:qJ b=t
 lt:i<O l6
 aS:hJ l6 i ⟨0,rR,(mj mn 0)⟩=s6
 kF:s6.kF=A.kF A.next
 num:i=A.next
 sls:∀v,l6.set i ⟨s6.kF+1,qT,v⟩=(A.take v).sl
 frs:∀v,f6=(A.take v).free
def Mm(w:aA)(ρ:bC)(t b:Nat)(A:nV aE)(v:aE)(e:cc)(w':aA):Prop:=
 ∃bV,e=mi (mr #[.agg #[mj mn A.next,mj mn ((A.kF A.next+1:Nat):Int)],mj mn 0])/\bI w ρ (·=t) w' bV/\PH w' bV t b (A.take v)
theorem Sm.Yw{t:Nat}(us:Sm w ρ t b A g c l6 i s6 f6 qJ Fw Fv w6)(hm:A.aH<=1048576)(hg:A.jE<=1073741824)(v x y:aE):
  Mm w ρ t b A v (mi (mr #[.agg #[mj mn i,mj mn ((s6.kF:Int)+1)],mj mn 0])) (hY (hY (hY (hY (hY (hY w6 ⟨g,i*3,K⟩ (mj mn ((s6.kF:Int)+1))) ⟨g,i*3+1,K⟩ (nj qT)) ⟨g,i*3+2,K⟩ v) ⟨b,4,K⟩ (mj mn ((A.aM:Int)+1))) ⟨w,0,K⟩ x) ⟨w,1,K⟩ y):=by
 exact ZM3
theorem aCY{t:Nat}(vx:Int)(w:aA)(h:PH w ρ t b A)(C:R6 A F G)(hl:A.aM<A.aH)(qH:F+1<=G)(hG:G<=1073741824):
  aK prog 292 #[lr (H ⟨b,0,K⟩),(mj mn vx)] w (Mm w ρ t b A (mj mn vx)):=by
 obtain⟨sv,fv,h⟩:=h;let⟨w1,eW⟩:=D (i5 w (kd #[X 0,X 0] 348));have cT:=Za eW;have x:=Zb eW;have o:bI w ρ eZ w1 (up w t ρ):=cT.fL.D6 t (fV _);let⟨dX,f⟩:=D (up w t ρ);have r:dX w.heap.size=t:=f▸cY (fV _);rw[f]at o;have h1:=h.move o id;have CU:=(o.aL (T:=(·=t)) nZ);have q:=h1.cF;have pg:=Dc (dG h.cF);have Ld:(A.aM:Int)<=1048576:=kX h.aH;have P5:=h.aH;obtain⟨fa,p,rfl,R3⟩:=h.free.len;obtain⟨sa,sc,rfl,IN⟩:=h.bG.len;obtain⟨c0,c1,c2,c3,c4⟩:=Z5 q;obtain⟨r0,r1⟩:=Z2 x;have cf:=aN q;have ug:=(show A.kF A.next<=1073741824 by have:=C.fr _ C.wJ;omega);clear h o f;cases d:A.free.getLast? with
 |some i0=>
  have u:A.next=i0:=by unfold nV.next;rw[d]
  have fe:=((C.mem i0).1 (zcW d)).1;have h0:A.free≠[]:=λe=>by rw[e]at d;cases d
  have hlen:O A.free=O A.free.dropLast+1:=by rw[gz];have:=List.length_pos_iff.2 h0;omega
  have MT:hJ A.free (O A.free.dropLast) 0=i0:=by
   rw[B6]at d;rw[gV,gz,d];rfl
  have N:A.free.take (O A.free.dropLast)=A.free.dropLast:=by rw[gz,F6]
  generalize yG:O A.free.dropLast=n at hlen MT N;have aY:n<O A.free:=Y;obtain⟨gf,cf',Sy,hgf,-,z,hff,a3o,m⟩:=h1.free.aS aY;injection Sy with x1 x2 x3;subst x1;clear x2 x3;have W:=z 0 E;simp only[fN,yC,qZ]at W;rw[MT]at W;have Q:gf≠b:=λe=>by rw[e,q]at m;injection m with h1;injection h1 with _ h1 _;exact dY h1 E
  have jD:=(h1.free.RN (k:=n) Y (by intro h;cases h));have aGM:n+1<=p:=ZM106;rw[N]at jD;have HN:=Z u;have E4:=Z yG;have l:=Z fe;rw[hlen]at c3 aY;unfold bH at R3;clear u h0 MT N yG fe z m;rw[hlen]at R3;go_in;go_upto_region 4 with(fail);go_quiet (fail);let⟨wq,V⟩:=D (w1.drewN nq);have Tc:U w1 [] wq []:=Sr V;have tu:=(h1.on Tc);have B:=Tc.aC q J;have hRq:=Tc.aC x J;rw[V];obtain⟨q0,q1,q2,q3,q4⟩:=Z5 B;have qf:=aN B;rw[hlen]at q3;clear V c0 c1 c2 c3 c4 cf r0 r1 W hff;go_upto_region 5 with(fail);have xx:IntKind.i64.wrap (n:Int)=n:=QY _ Y;have ni:(n:Int)<=p:=Y;go_still_tail 14,dJ;change wpList _ _ _ _ _ wq.drew;clear xx ni;go_upto_region 8 with(fail);let⟨w6,iA⟩:=D ((hY wq (Ad b 3) (eC gf 0 n p)).drew);have hcut:∃(g c:Nat) (l6:List (Sl aE)) (i:Nat) (s6:Sl aE) (f6:List Nat) (qJ:bC) (Fw:Option cg) (Fv:Nat),Sm w ρ t b A g c l6 i s6 f6 qJ Fw Fv w6:=by
   obtain⟨gs,cs,L,-⟩:=tu.bG.aS l.o;injection L with x1 x2 x3;subst x1 x3;have XJ:U wq [b] w6 [b]:=iA▸(qX wq b 3 _).drew;have hs6:=tu.bG.eU XJ (λk hk hm=>tu.bG.ne B E (by rw[hk,show k=b by simpa using hm]));have P:=(jD.on Tc).eU XJ (λk hk hm=>Q (by rw[<-show k=b by simpa using hm];simpa[i6]using hk));refine⟨gs,_,A.sl,i0,hJ A.sl i0 ⟨0,rR,(X 0)⟩,A.free.dropLast,dX,H (Ad gf 0),p,?_,hs6,?_,?_,?_,r,tu.cE,l,rfl,?_,HN.symm,λv=> ?_,λv=> ?_⟩
   .rw[<-iA,E4.o];show(hY wq _ _).heap[b]? =_;rw[aF _ B];rfl
   .rw[E4.o];exact P
   .exact XJ.aC hRq (λhm=>pg (show i7 w.heap=b by simpa using hm).symm)
   .exact ZM87
   .rw[HN.o];unfold nV.kF;rw[gV,kU l.o];rfl
   .unfold nV.take nV.kF;simp only[d,gV,kU l.o,O8]
   .unfold nV.take;rw[d]
  exact ZM11
 |none=>
  have u:A.next=O A.sl:=by unfold nV.next;rw[d]
  have y:A.free=[]:=eP d;have nE:=C.room hl y;have aPJ:(O A.sl:Int)<A.aH:=Y;have HN:=Z u;have hz:(O A.free:Int)=0:=by rw[y];rfl
  clear u;go_in;go_upto_region 8 with(at_builtin;refine cK aQe rfl _ _ rfl (h1.bG.cZ w1) (OB w1) Yr [X 0,nj rR,(X 0)] ⟨0,rR,(X 0)⟩ Yr rfl (λj hj=>by match j,hj with|0,_=>rfl|1,_=>rfl|2,_=>rfl) rfl Y GC ?_;rintro g5 c5 w5 lU cO xS xC;have uV:=xS.aC q h1.aOg;obtain⟨c0,c1,c2,c3,c4⟩:=Z5 uV;have cf:=aN uV;have pL:=Z lU;clear lU cO xC);have NI:=h1;let⟨w6,iA⟩:=D (hY w5 (Ad b 2) (eC g5 0 (O A.sl+1) c5));have hgn:=pL.ne uV E;have hcut:∃(g c:Nat) (l6:List (Sl aE)) (i:Nat) (s6:Sl aE) (f6:List Nat) (qJ:bC) (Fw:Option cg) (Fv:Nat),Sm w ρ t b A g c l6 i s6 f6 qJ Fw Fv w6:=by
   have ho:=h1.bG;have hs5:=pL.ON ho xS;have hf5:pI fN 0 3 1 w5 (up w1 t dX) t (jS fa (O A.free) p) A.free:=(h1.free.D6 t (fV _)).eU xS (h1.free.KA ho E);have XJ:U w5 [b] w6 [b]:=iA▸qX w5 b 2 _;have tU:=xS.aC x (λhm=>ho.ne x E (eP hm));have hlen:O (A.sl++[(⟨0,rR,(X 0)⟩:Sl aE)])=O A.sl+1:=J;have KX:(up w1 t dX) b=t:=fG (dG q)▸h1.cE;refine⟨g5,c5,A.sl++[⟨0,rR,(X 0)⟩],O A.sl,⟨0,rR,(X 0)⟩,A.free,up w1 t dX,fa,p,?_,?_,?_,?_,?_,?_,KX,J,J,?_,HN.symm,λv=> ?_,λv=> ?_⟩
   .rw[hlen,<-iA,aF _ uV];rfl
   .exact ZM128
   .exact ZM146
   .exact XJ.aC tU (λhm=>pg (show i7 w.heap=b by simpa using hm).symm)
   .exact ZM74
   .rw[fG (dG x)];exact r
   .rw[HN.o,Dt (fV _)]
   .unfold nV.take;rw[d];simp
   .unfold nV.take;rw[d]
  exact ZM10
theorem aHO{t:Nat}(w:aA)(h:BV w ρ t b A):
  aK prog 131 #[lr (H ⟨b,0,K⟩)] w λe w'=>e=mi (mj mn A.aM)/\w=w':=by
 obtain⟨sv,fv,h⟩:=h;have a:=h.cF;obtain⟨c0,c1,c2,c3,c⟩:=Z5 a;exact ZM184
variable{sc:Nat}
theorem ZM1{P:Prop}(h:P:=by
  have hb6:=wO.cF;have s6:h8 w6 (Ad gs (i*3))=H (It γ):=by rw[<-iA];simp[go_sem,s0]
  obtain⟨c0,c1,c2,c3,c4⟩:=Z5 hb6;obtain⟨r0,r1⟩:=Z2 lA;have HK1:=Z wO;have HK2:=Z oZ;go_quiet (fail);let⟨w7,Cq⟩:=D (w6.drewN nq);have Qf:U w6 [] w7 []:=Sr Cq;rw[Cq];let⟨c0,c2,c3,c4,r0,r1⟩:=Qf.zc6 c0 c2 c3 c4 r0 r1;have Q:=eI c3 r0;have HO7:=(HK1.on Qf);have Si:=(HO7.cF);have HR7:=(Qf.aC lA J);go_upto_region 8 with(fail);refine aO 11 (λw'=>h8 w' (Ad b 3)=H (jS fa (O A.free) fc)/\h8 w' ⟨w,0,K⟩=H (It i)) dJ Q (λQ=> ?_);let⟨wd,fF⟩:=D (w7.drew);have kP:U w7 [] wd []:=A1 fF;rw[fF]at Q|-;have R8:=(HO7.on kP);have HBD:=(R8.cF);have HRD:=(kP.aC HR7 J);have o9:=(Qf.ds kP);refine ek [0,1,5,2,6,3,4] ?_;refine Zo 7 λvm hK=> ?_;go_simp;have hH8:=Q;have nY:U wd [] (i5 wd (kd #[It i] 3)) []:=(U.refl wd []).alloc _;obtain⟨tK,tJ⟩:=Q;have Q:=eI ((nY).cell tK J) ((nY).cell tJ J);refine j5 ?_;clear hK vm;refine Zo 8 λvm hK=> ?_;let⟨g9,c9,w9,dK,Lo,rY,MV,hg9⟩:=iT (ty:=50) (news:=[It i]) (T:=3) QL Y (R8.free.cZ wd) (OB wd) (fV _) (O9 _) i rfl (dE rfl) (λj hj=>rfl) (by show(O A.free+1)*8<=_;omega) (by show O A.free+1<=bH;unfold bH;omega);refine dL _ _ rfl Yr Yr dK ?_;have Q:=hH8;have Qb:=R8.aOh;have Hm:i7 w.heap∉(jS fa (O A.free) fc).ownBlock.toList:=λhm=>R8.free.ne HRD E (eP hm);obtain⟨tK,tJ⟩:=Q;have Q:=eI ((MV).cell tK (Qb)) ((MV).cell tJ (Hm));have Qv:=MV.aC HBD Qb;have bf:=aN Qv;have HL9:=Z Lo;refine j5 ?_;clear hK vm;refine Zo 9 λvm hK=> ?_;go_simp;refine j5 ?_;clear hK vm;refine I 10 ?_;refine Zo 11 λvm hK=> ?_;go_simp;refine LP ?_;clear hK vm;go_wp2;go_ret;have ht:ρ b=t:=HO.cE;have u9:U w9 [b] (hY w9 (Ad b 3) (eC g9 0 (O A.free+1) c9)) [b]:=qX w9 b 3 _;have KX:(up wd t ρ) b=t:=fG (dG HBD)▸ht;have hs9:=(R8.bG.D6 t (fV _)).eU MV (R8.bG.KA R8.free E);have hf9:=HL9.ON R8.free MV;refine⟨up wd t ρ,rfl,?_,_,eC g9 0 (O A.free+1) c9,?_,hs9.eU u9 (λk hk hm=>hs9.ne Qv E (by rw[hk,show k=b by simpa using hm])),?_,KX,HO.aH,HO.jE⟩
  .have m1:bI w ρ (·=t) w2 ρ:=U.fL (cT.ds bM);have m2:bI w2 ρ (·=t) w6 ρ:=HK2.qO (λk hk=> .inl (by
    rcases xZ.1 hk with e|e
    .rw[e];exact aOu
    .rw[show k=b by simpa using e];exact ht))
   have m3:bI w6 ρ (·=t) wd ρ:=U.fL o9;have m4:bI wd ρ (·=t) w9 (up wd t ρ):=MV.fK t (λk hk=> .inl (R8.free.RO k hk));exact m1.ds (m2.ds (m3.ds (m4.ds (u9.qO (λk hk=> .inl ((show k=b by simpa using hk)▸KX))))))
  .rw[aF _ Qv];rfl
  .have:=hf9.eU u9 (λk hk hm=>hf9.ne Qv E (by rw[hk,show k=b by simpa using hm]));exact this):P:=h
theorem ZM13{P:Prop}(h:P:=by
  obtain⟨gs',sc',hv,hg,KC,kB,s0,s1,-,hf⟩:=h.head hi;injection hv with x1 x2 x3;injection x1 with x1;injection x1 with x1;subst x1;have aY:(i:Int)<(O A.sl:Int):=kX (lQ hi);have hb:=h.cF;let⟨w1,eW⟩:=D (i5 w (kd #[It i,X (A.kF i:Int)] 348));have cT:=Za eW;have hR:=Zb eW;have oC:=cT.aC hb J;have t0:=cT.cell s0 J;have t1:=cT.cell s1 J;obtain⟨c0,c1,c2,c3,c4⟩:=Z5 oC;obtain⟨r0,r1⟩:=Z2 hR;generalize SJ:A.kF i=γ at t0 r1 eW|-;go_in;go_upto_region 1 with(fail);go_quiet (fail);let⟨w2,JG⟩:=D (w1.drewN nq);have Dm:U w1 [] w2 []:=Sr JG;rw[JG];let⟨c2,t0,t1,r0,r1⟩:=Dm.zc5 c2 t0 t1 r0 r1;go_upto_region 3 with(fail);go_quiet (fail);let⟨w3,JF⟩:=D (w2.drewN nq);have Dl:U w2 [] w3 []:=Sr JF;rw[JF];let⟨c2,t0,t1,r0,r1⟩:=Dl.zc5 c2 t0 t1 r0 r1;go_upto_region 4 with(fail);go_quiet (fail);let⟨w4,JE⟩:=D (w3.drewN nq);have Dk:U w3 [] w4 []:=Sr JE;rw[JE];replace c2:=Dk.cell c2 J;go_wp2;go_ret;exact⟨rfl,cT.ds (Dm.ds (Dl.ds Dk))⟩):P:=h
theorem ZM25{P:Prop}(h:P:=by
  have WN:=u1.aC h.cF (λhm=>GY (show b=gs by simpa using hm).symm);have hf3:=h.free.eU u1 (λk hk hm=>h.free.ne kB E (by rw[hk,show k=gs by simpa using hm]));have u2:U w3 [b] (hY w3 (Ad b 4) (X ((A.aM:Int)-1))) [b]:=qX w3 b 4 _;refine⟨⟨?_,?_,?_,h.cE,h.aH,h.jE⟩,u3.setCell (a:=Ad b 4) (.inl J) _,GY,KC⟩
  .rw[aF _ WN,show((A.aM-1:Nat):Int)=(A.aM:Int)-1 by omega];rfl
  .exact t2.eU u2 (λk hk hm=>GY (by rw[<-show k=b by simpa using hm];simpa[i6]using hk))
  .exact hf3.eU u2 (λk hk hm=>hf3.ne WN E (by rw[hk,show k=b by simpa using hm]))):P:=h
theorem ZM37{P:Prop}(h:P:=by
  have ha:A.sl[i].dP=qT:=by unfold nV.dP at hi;rwa[kU aY]at hi
  rw[hs]at hc;have g0:=hc 0 E;have g1:=hc 1 E;have g2:=hc 2 E;simp only[fSl,yN,qZ,(by decide:¬(1:Nat)=0),(by decide:¬(2:Nat)=0),(by decide:¬(2:Nat)=1),E6,ha]at g0 g1 g2;refine⟨g,c,hv,hg,KC,⟨cur,kB⟩,?_,g1,λv hv=> ?_,hf⟩
  .rw[g0];unfold nV.kF;rw[kU aY]
  .rw[g2];unfold nV.pP at hv;rw[kU aY]at hv;simp only[ha,yN,Option.some.injEq]at hv;rw[hv]):P:=h
theorem oQ.head{t:Nat}(h:oQ w ρ t b A sv fv)(hi:A.dP i=qT):∃gs sc,sv=jS (H ⟨gs,0,K⟩) (O A.sl) sc/\gs<i7 w.heap/\ρ gs=t/\(∃cur,w.heap[gs]? =H (kd cur 371 (0,0)))/\
  h8 w ⟨gs,i*3,K⟩=H (mj mn (A.kF i:Int))/\h8 w ⟨gs,i*3+1,K⟩=H (nj qT)/\(∀v,A.pP i=H v->h8 w ⟨gs,i*3+2,K⟩=H v)/\(∀k,w.frozen? ⟨gs,k,K⟩=rR):=by
 have aY:=lQ hi;let⟨g,c,hv,hg,KC,hc,hf,cur,kB⟩:=h.bG.aS aY;have hs:hJ A.sl i ⟨0,rR,cR⟩=A.sl[i]:=by rw[gV,kU aY];rfl
 exact ZM37
theorem Mh{t gs:Nat}(w:aA)(h:oQ w ρ t b A (jS (H ⟨gs,0,K⟩) (O A.sl) sc) fv)(hi:A.dP i=qT):
  aK prog 230 #[lr (H ⟨b,0,K⟩),.agg #[mj mn i,mj mn (A.kF i:Int)]] w λe w'=>e=mi (lr (H ⟨gs,i*3,K⟩))/\U w [] w' []:=by
 exact ZM13
theorem oQ.aOr{t gs:Nat}(h:oQ w ρ t b A (jS (H ⟨gs,0,K⟩) (O A.sl) sc) fv)(l:A.dP i=qT)(u:0<A.aM):
  oQ (hY (hY (hY w ⟨gs,i*3+1,K⟩ (nj rR)) ⟨gs,i*3+2,K⟩ (jS K 0 0)) ⟨b,4,K⟩ (mj mn ((A.aM:Int)-1))) ρ t b {A with sl:=A.sl.set i ⟨A.kF i,rR,(jS K 0 0)⟩,aM:=A.aM-1} (jS (H ⟨gs,0,K⟩) (O A.sl) sc) fv/\
  U w [gs,b] (hY (hY (hY w ⟨gs,i*3+1,K⟩ (nj rR)) ⟨gs,i*3+2,K⟩ (jS K 0 0)) ⟨b,4,K⟩ (mj mn ((A.aM:Int)-1))) [gs,b]/\gs≠b/\ρ gs=t:=by
 have c:=lQ l;obtain⟨q,m,hv,p,KC,⟨cur,kB⟩,-,-,-,-⟩:=h.head l;injection hv with x1 x2 x3;injection x1 with x1;injection x1 with x1;subst x1;have GY:gs≠b:=λe=>by have g:=h.cF;rw[<-e,kB]at g;injection g with h1;injection h1 with _ h1 _;exact dY h1 E
 have hs:hJ A.sl i ⟨0,rR,cR⟩=A.sl[i]:=by rw[gV,kU c];rfl
 have n:A.kF i=A.sl[i].kF:=by unfold nV.kF;rw[kU c]
 have t1:=h.bG.Aj (j:=1) c E ⟨A.kF i,rR,A.sl[i].vb⟩ (nj rR) (λj d=>by rw[hs,n];match j,d with|0,_=>rfl|1,_=>rfl|2,_=>rfl);have t2:=t1.Aj (i:=i) (j:=2) (by rw[TS];exact c) E ⟨A.kF i,rR,cR⟩ cR (λj d=>by
  rw[gV,EA c];match j,d with|0,_=>rfl|1,_=>rfl|2,_=>rfl)
 rw[List.set_set]at t2;have u1:U w [gs] (hY (hY w (Ad gs (i*3+1)) (nj rR)) (Ad gs (i*3+2)) cR) [gs]:=(qX w gs (i*3+1) _).setCell (a:=Ad gs (i*3+2)) (.inl J) _;have u3:U w [gs,b] (hY (hY w (Ad gs (i*3+1)) (nj rR)) (Ad gs (i*3+2)) cR) [gs,b]:=((U.refl w [gs,b]).setCell (a:=Ad gs (i*3+1)) (.inl J) (nj rR)).setCell (a:=Ad gs (i*3+2)) (.inl J) cR;generalize r:hY (hY w (Ad gs (i*3+1)) (nj rR)) (Ad gs (i*3+2)) cR=w3 at t2 u1 u3|-;exact ZM25
def aCm(w:aA)(ρ:bC)(t b i:Nat)(A:nV aE)(e:cc)(w':aA):Prop:=
 ∃bV,e=mi (mj mn 0)/\bI w ρ (·=t) w' bV/\BV w' bV t b (A.AR (jS K 0 0) i)
theorem aCZ{t:Nat}(w:aA)(h:BV w ρ t b A)(g:R6 A F G)(d:A.dP i=qT)(hg:A.kF i<A.jE):
  aK prog 282 #[lr (H ⟨b,0,K⟩),.agg #[mj mn i,mj mn (A.kF i:Int)]] w (aCm w ρ t b i A):=by
 obtain⟨sv,fv,h⟩:=h;obtain⟨gs,sc,rfl,p,W,c,s0,f,-,V⟩:=h.head d;obtain⟨fa,fc,rfl,R3⟩:=h.free.len;have P:=g.Bt d;have B:O A.free<1048576:=by have:=g.eG;have:=g.len;have:=h.aH;have:=lQ d;omega
 have Ld:A.aM<=1048576:=by have:=g.eG;have:=g.len;have:=h.aH;omega
 have C:(A.jE:Int)<=1073741824:=kX h.jE;let⟨w1,n⟩:=D (i5 w (kd #[It i,X (A.kF i:Int)] 348));have cT:=Za n;have y:=Zb n;have z:=(Mh w1 (h.on cT) d);let⟨γ,x⟩:=D (A.kF i);have HO:=(h.on cT);have q:=Z d;obtain⟨r0,r1⟩:=Z2 y;rw[x]at z r1 n hg|-;have KG:(γ:Int)<(A.jE:Int):=Y;go_in;go_upto_region 2 with(go_at_call 230;apply z.dC;intro w2 bM);have l:=HO.on bM;have m:=bM.aC y J;have a:=l.cF;obtain⟨gs',S,hv,p,W,⟨cur,c⟩,s0,f,-,V⟩:=l.head q.o;injection hv with x1 x2 x3;injection x1 with x1;injection x1 with x1;subst x1;rw[x]at s0;have u:∃v,h8 w2 (Ad gs (i*3+2))=H v:=⟨_,by let⟨g',c',N,_,_,r,_⟩:=l.bG.aS (lQ q);injection N with e1 _ _;injection e1 with e1;injection e1 with e1;subst e1;exact r 2 E⟩;obtain⟨v2,u⟩:=u;have GY:gs≠b:=λe=>by rw[e,a]at c;injection c with h1;injection h1 with _ h1 _;exact dY h1 E
 have ny:gs≠i7 w.heap:=λe=>by rw[e,m]at c;injection c with h1;injection h1 with _ h1 _;exact dY h1 E
 have L:b≠i7 w.heap:=λe=>by rw[e,m]at a;injection a with h1;injection h1 with _ h1 _;exact dY h1 E
 obtain⟨b0,b1,b2,b3,b4⟩:=Z5 a;obtain⟨q0,q1⟩:=Z2 m;have bf:=aN a;have o:(1:Int)<=A.aM:=Y;have lb2:(A.aM:Int)<=1048576:=Y;go_upto_region 7 with(fail);obtain⟨wO,oZ,-,aOu⟩:=l.aOr q P;have lA:=oZ.aC m (by simp;exact⟨λe=>ny e.symm,λe=>L e.symm⟩);generalize iA:hY (hY (hY w2 (Ad gs (i*3+1)) (nj rR)) (Ad gs (i*3+2)) cR) (Ad b 4) (X ((A.aM:Int)-1))=w6 at wO oZ lA|-;exact ZM1
theorem oR.head{t:Nat}(h:oR w ρ t b A sv fv)(hi:A.dP i=qT):∃gs sc,sv=jS (H ⟨gs,0,K⟩) (O A.sl) sc/\gs<i7 w.heap/\ρ gs=t/\(∃cur,w.heap[gs]? =H (kd cur 429 (0,0)))/\
  h8 w ⟨gs,i*3,K⟩=H (mj mn (A.kF i:Int))/\h8 w ⟨gs,i*3+1,K⟩=H (nj qT)/\(∀v,A.pP i=H v->h8 w ⟨gs,i*3+2,K⟩=H v)/\(∀k,w.frozen? ⟨gs,k,K⟩=rR):=by
 have aY:=lQ hi;let⟨g,c,hv,hg,KC,hc,hf,cur,kB⟩:=h.bG.aS aY;have hs:hJ A.sl i ⟨0,rR,(X 0)⟩=A.sl[i]:=by rw[gV,kU aY];rfl
 exact ZM37
theorem aC1{t gs:Nat}(w:aA)(h:oR w ρ t b A (jS (H ⟨gs,0,K⟩) (O A.sl) sc) fv)(hi:A.dP i=qT):
  aK prog 295 #[lr (H ⟨b,0,K⟩),.agg #[mj mn i,mj mn (A.kF i:Int)]] w λe w'=>e=mi (lr (H ⟨gs,i*3,K⟩))/\U w [] w' []:=by
 exact ZM13
theorem oR.aOr{t gs:Nat}(h:oR w ρ t b A (jS (H ⟨gs,0,K⟩) (O A.sl) sc) fv)(l:A.dP i=qT)(u:0<A.aM):
  oR (hY (hY (hY w ⟨gs,i*3+1,K⟩ (nj rR)) ⟨gs,i*3+2,K⟩ (mj mn 0)) ⟨b,4,K⟩ (mj mn ((A.aM:Int)-1))) ρ t b {A with sl:=A.sl.set i ⟨A.kF i,rR,(mj mn 0)⟩,aM:=A.aM-1} (jS (H ⟨gs,0,K⟩) (O A.sl) sc) fv/\
  U w [gs,b] (hY (hY (hY w ⟨gs,i*3+1,K⟩ (nj rR)) ⟨gs,i*3+2,K⟩ (mj mn 0)) ⟨b,4,K⟩ (mj mn ((A.aM:Int)-1))) [gs,b]/\gs≠b/\ρ gs=t:=by
 have c:=lQ l;obtain⟨q,m,hv,p,KC,⟨cur,kB⟩,-,-,-,-⟩:=h.head l;injection hv with x1 x2 x3;injection x1 with x1;injection x1 with x1;subst x1;have GY:gs≠b:=λe=>by have g:=h.cF;rw[<-e,kB]at g;injection g with h1;injection h1 with _ h1 _;exact dY h1 E
 have hs:hJ A.sl i ⟨0,rR,(X 0)⟩=A.sl[i]:=by rw[gV,kU c];rfl
 have n:A.kF i=A.sl[i].kF:=by unfold nV.kF;rw[kU c]
 have t1:=h.bG.Aj (j:=1) c E ⟨A.kF i,rR,A.sl[i].vb⟩ (nj rR) (λj d=>by rw[hs,n];match j,d with|0,_=>rfl|1,_=>rfl|2,_=>rfl);have t2:=t1.Aj (i:=i) (j:=2) (by rw[TS];exact c) E ⟨A.kF i,rR,(X 0)⟩ (X 0) (λj d=>by
  rw[gV,EA c];match j,d with|0,_=>rfl|1,_=>rfl|2,_=>rfl)
 rw[List.set_set]at t2;have u1:U w [gs] (hY (hY w (Ad gs (i*3+1)) (nj rR)) (Ad gs (i*3+2)) (X 0)) [gs]:=(qX w gs (i*3+1) _).setCell (a:=Ad gs (i*3+2)) (.inl J) _;have u3:U w [gs,b] (hY (hY w (Ad gs (i*3+1)) (nj rR)) (Ad gs (i*3+2)) (X 0)) [gs,b]:=((U.refl w [gs,b]).setCell (a:=Ad gs (i*3+1)) (.inl J) (nj rR)).setCell (a:=Ad gs (i*3+2)) (.inl J) (X 0);generalize r:hY (hY w (Ad gs (i*3+1)) (nj rR)) (Ad gs (i*3+2)) (X 0)=w3 at t2 u1 u3|-;exact ZM25
def aCn(w:aA)(ρ:bC)(t b i:Nat)(A:nV aE)(e:cc)(w':aA):Prop:=
 ∃bV,e=mi (mj mn 0)/\bI w ρ (·=t) w' bV/\PH w' bV t b (A.AR (mj mn 0) i)
theorem aC0{t:Nat}(w:aA)(h:PH w ρ t b A)(g:R6 A F G)(d:A.dP i=qT)(hg:A.kF i<A.jE):
  aK prog 289 #[lr (H ⟨b,0,K⟩),.agg #[mj mn i,mj mn (A.kF i:Int)]] w (aCn w ρ t b i A):=by
 obtain⟨sv,fv,h⟩:=h;obtain⟨gs,sc,rfl,p,W,c,s0,f,-,V⟩:=h.head d;obtain⟨fa,fc,rfl,R3⟩:=h.free.len;have P:=g.Bt d;have B:O A.free<1048576:=by have:=g.eG;have:=g.len;have:=h.aH;have:=lQ d;omega
 have Ld:A.aM<=1048576:=by have:=g.eG;have:=g.len;have:=h.aH;omega
 have C:(A.jE:Int)<=1073741824:=kX h.jE;let⟨w1,n⟩:=D (i5 w (kd #[It i,X (A.kF i:Int)] 348));have cT:=Za n;have y:=Zb n;have z:=(aC1 w1 (h.on cT) d);let⟨γ,x⟩:=D (A.kF i);have HO:=(h.on cT);have q:=Z d;obtain⟨r0,r1⟩:=Z2 y;rw[x]at z r1 n hg|-;have KG:(γ:Int)<(A.jE:Int):=Y;go_in;go_upto_region 2 with(go_at_call 295;apply z.dC;intro w2 bM);have l:=HO.on bM;have m:=bM.aC y J;have a:=l.cF;obtain⟨gs',S,hv,p,W,⟨cur,c⟩,s0,f,-,V⟩:=l.head q.o;injection hv with x1 x2 x3;injection x1 with x1;injection x1 with x1;subst x1;rw[x]at s0;have u:∃v,h8 w2 (Ad gs (i*3+2))=H v:=⟨_,by let⟨g',c',N,_,_,r,_⟩:=l.bG.aS (lQ q);injection N with e1 _ _;injection e1 with e1;injection e1 with e1;subst e1;exact r 2 E⟩;obtain⟨v2,u⟩:=u;have GY:gs≠b:=λe=>by rw[e,a]at c;injection c with h1;injection h1 with _ h1 _;exact dY h1 E
 have ny:gs≠i7 w.heap:=λe=>by rw[e,m]at c;injection c with h1;injection h1 with _ h1 _;exact dY h1 E
 have L:b≠i7 w.heap:=λe=>by rw[e,m]at a;injection a with h1;injection h1 with _ h1 _;exact dY h1 E
 obtain⟨b0,b1,b2,b3,b4⟩:=Z5 a;obtain⟨q0,q1⟩:=Z2 m;have bf:=aN a;have o:(1:Int)<=A.aM:=Y;have lb2:(A.aM:Int)<=1048576:=Y;go_upto_region 7 with(fail);obtain⟨wO,oZ,-,aOu⟩:=l.aOr q P;have lA:=oZ.aC m (by simp;exact⟨λe=>ny e.symm,λe=>L e.symm⟩);generalize iA:hY (hY (hY w2 (Ad gs (i*3+1)) (nj rR)) (Ad gs (i*3+2)) (X 0)) (Ad b 4) (X ((A.aM:Int)-1))=w6 at wO oZ lA|-;exact ZM1
theorem Rn{t:Nat}(va:Option cg)(j vc:Nat)(w:aA)(h:BV w ρ t b A)(g:A.dP i=qT)(hv:A.pP i=H (jS va j vc)):
  aK prog 205 #[lr (H ⟨b,0,K⟩),.agg #[mj mn i,mj mn (A.kF i:Int)]] w λe w'=>e=mi (mr #[(jS va j vc),mj mn 0])/\U w [] w' []:=by
 obtain⟨sv,fv,h⟩:=h;obtain⟨gs,sc,rfl,x,v,y,u,z,c,r⟩:=h.head g;have c:=c _ hv;let⟨w1,a⟩:=D (i5 w (kd #[It i,X (A.kF i:Int)] 348));have d:=Za a;have n:=Zb a;have l:=(Mh w1 (h.on d) g);have t2:=d.cell c J;obtain⟨r0,q⟩:=Z2 n;let⟨γ,p⟩:=D (A.kF i);rw[p]at l q a|-;go_in;go_wp2_with (go_at_call 230;apply l.dC;intro w2 m;have u2:=m.cell t2 J);go_ret2;exact⟨rfl,d.ds m⟩
section
theorem ZM174{P:Prop}(h:P:=by
  go_in;go_wp2;all_goals
   go_ret2;exact⟨rfl,rfl⟩):P:=h
structure jF where
 oK:Int
 As:Int
 next:Int
structure rG where
 first:Int
 lK:Int
 size:Int
def jF.zero:jF:=⟨0,0,0⟩
def rG.zero:rG:=⟨-1,-1,0⟩
def jF.val(l:jF):Nat->aE
 |0=>mj mn l.oK
 |1=>mj mn l.As
 |_=>mj mn l.next
def rG.val(l:rG):Nat->aE
 |0=>mj mn l.first
 |1=>mj mn l.lK
 |_=>mj mn l.size
structure M where
 cells:Nat
 bZ:Nat
 lk:Nat->jF
 en:Nat->rG
structure pF(w:aA)(b:Nat)(m:M)(na ne:Nat)(va ve:aE):Prop where
 cF:w.heap[b]? =H (kd #[mj mn m.cells,va,mj mn m.bZ,ve] 338 (0,0))
 qK:eV w va 345 3 na (λi j=>(m.lk i).val j)
 sM:eV w ve 343 3 ne (λi j=>(m.en i).val j)
 TX:na<=m.cells
 eB:ne<=m.bZ
 hc:m.cells<=1048576
 hl:m.bZ<=1048576
 lk0:∀i,na<=i->m.lk i=jF.zero
 en0:∀i,ne<=i->m.en i=rG.zero
def gF(b:Nat)(va ve:aE):List Nat:=b::(va.ownBlock.toList++ve.ownBlock.toList)
theorem nF{b:Nat}{va ve:aE}(h:i6 va=H g):g∈gF b va ve:=by simp[gF,h]
theorem vX{b:Nat}{va ve:aE}(h:i6 ve=H g):g∈gF b va ve:=by simp[gF,h]
theorem Qz{b:Nat}{va ve:aE}:b∈gF b va ve:=by simp[gF]
theorem aFS:(prog.info? 345).map (λi=>(i.zero,i.size,i.bytes))=H (H (.agg #[mj mn 0,mj mn 0,mj mn 0]),3,24):=by kernel_rfl
theorem aFT:(prog.info? 343).map (λi=>(i.zero,i.size,i.bytes))=H (H (.agg #[mj mn 0,mj mn 0,mj mn 0]),3,24):=by kernel_rfl
section
variable{w:aA}{b:Nat}{m:M}{na ne:Nat}{va ve:aE}
theorem pF.c0(h:pF w b m na ne va ve):h8 w ⟨b,0,K⟩=H (mj mn m.cells):=aP h.cF rfl
theorem pF.c1(h:pF w b m na ne va ve):h8 w ⟨b,1,K⟩=H va:=aP h.cF rfl
theorem pF.c2(h:pF w b m na ne va ve):h8 w ⟨b,2,K⟩=H (mj mn m.bZ):=aP h.cF rfl
theorem pF.c3(h:pF w b m na ne va ve):h8 w ⟨b,3,K⟩=H ve:=aP h.cF rfl
theorem pF.f(h:pF w b m na ne va ve)(k:Nat):w.frozen? ⟨b,k,K⟩=rR:=aN h.cF k
theorem pF.eU(h:pF w b m na ne va ve)(c:U w S w' S')(d:∀k,k∈gF b va ve->k∉S):pF w' b m na ne va ve:=
 ⟨c.aC h.cF (d _ Qz),h.qK.eU c (λg a=>d g (nF a)),h.sM.eU c (λg a=>d g (vX a)),h.TX,h.eB,h.hc,h.hl,h.lk0,h.en0⟩
theorem pF.lt(h:pF w b m na ne va ve):∀k,k∈gF b va ve->k<i7 w.heap:=by
 intro k a;simp only[gF,xZ,yU,Co]at a;rcases a with rfl|a|a
 .exact dG h.cF
 .exact h.qK.lt k a
 .exact h.sM.lt k a
end
theorem AK{b:Nat}{m:M}{na ne:Nat}{va ve:aE}(n:Int)(w:aA)(h:pF w b m na ne va ve)(c:n<0\/(m.cells:Int)<=n):
  aK prog 234 #[lr (H ⟨b,0,K⟩),mj mn n] w λe w'=>e=mi (mr #[lr K,mj mn 42])/\w=w':=by
 have a:=h.c0;exact ZM174
theorem xQ{b:Nat}{m:M}{na ne:Nat}{va ve:aE}(n:Nat)(w:aA)(h:pF w b m na ne va ve)(q:n<m.cells)(d:(m.lk n).oK=0):
  aK prog 234 #[lr (H ⟨b,0,K⟩),mj mn n] w λe w'=>e=mi (mr #[lr K,mj mn 44])/\w=w':=by
 have p:=h.c0;have u:=h.c1;have r:(n:Int)<m.cells:=Y;have j:(m.cells:Int)<=1048576:=kX h.hc;by_cases i:n<na
 .obtain⟨g,cap,rfl,_,_,l,_,_⟩:=h.qK.block Y;have c:h8 w (Ad g (n*3))=H (X (m.lk n).oK):=l n 0 i Y;rw[d]at c;exact ZM174
 .obtain⟨a,cap,rfl,_⟩:=h.qK.len;go_in;go_wp2;all_goals
   go_ret2;exact⟨rfl,rfl⟩
theorem pF.lT{w:aA}{b:Nat}{m:M}{na ne:Nat}{va ve:aE}(h:pF w b m na ne va ve)(a:(m.lk n).oK≠0):n<na:=by
 rcases YB n na with c|d
 .exact c
 .rw[h.lk0 n d]at a;exact dY rfl a
theorem wL{b:Nat}{m:M}{na ne:Nat}{va ve:aE}(n:Nat)(w:aA)(h:pF w b m na ne va ve)(a:(m.lk n).oK≠0)(d:i6 va=H g):
  aK prog 234 #[lr (H ⟨b,0,K⟩),mj mn n] w λe w'=>e=mi (mr #[lr (H ⟨g,n*3,K⟩),mj mn 0])/\w=w':=by
 have q:=h.c0;have x:=h.c1;have c:=h.lT a;have u:=h.TX;have v:(n:Int)<m.cells:=Y;have j:(m.cells:Int)<=1048576:=kX h.hc;obtain⟨g',cap,rfl,i,_,p,_,_⟩:=h.qK.block Y;obtain rfl:g'=g:=by rw[i]at d;injection d
 have r:h8 w (Ad g' (n*3))=H (X (m.lk n).oK):=p n 0 c Y;have l:((m.lk n).oK==0)=rR:=eP a;exact ZM174
end
variable{news:List aE}{na:Nat}{va Gk ve XB:aE}{w1:aA}
theorem Yz{B:Nat}(h:∀k,i6 Gk=H k->i6 va=H k\/B<=k):∀k,k∈gF b Gk ve->k∈gF b va ve\/B<=k:=by
 intro k a;simp only[gF,xZ,yU,Co]at a|-;rcases a with rfl|a|a
 .exact .inl (.inl rfl)
 .rcases h k a with c|c
  .exact .inl (.inr (.inl c))
  .exact .inr c
 .exact .inl (.inr (.inr a))
theorem Yy{B:Nat}(h:∀k,i6 XB=H k->i6 ve=H k\/B<=k):∀k,k∈gF b va XB->k∈gF b va ve\/B<=k:=by
 intro k a;simp only[gF,xZ,yU,Co]at a|-;rcases a with rfl|a|a
 .exact .inl (.inl rfl)
 .exact .inl (.inr (.inl a))
 .rcases h k a with c|c
  .exact .inl (.inr (.inr c))
  .exact .inr c
theorem pF.aOl{m:M}{ne:Nat}(h:pF w b m na ne va ve)(z:na<m.cells)(v:∀j,j<3->hJ news j undef=jF.zero.val j)(n:eV w1 Gk 345 3 (na+1) (yD (λi j=>(m.lk i).val j) na news))(d:w.grownBy w1 (i6 va))(u:∀k,i6 Gk=H k->i6 va=H k\/i7 w.heap<=k):
  pF (hY w1 ⟨b,1,K⟩ Gk) b m (na+1) ne Gk ve/\U w (gF b va ve) (hY w1 ⟨b,1,K⟩ Gk) (gF b Gk ve):=by
 have r:U w (gF b va ve) w1 (gF b Gk ve):=(((U.refl w (gF b va ve)).grown d (λk e=> .inl (nF e))).to (Yz u));have p:uD w1 b #[X m.cells,va,X m.bZ,ve] 338:=(d.block b (dG h.cF) (λe=>h.qK.ne h.cF E e.symm)).ds h.cF;have l:∀g,i6 ve=H g->w1.heap[g]? =w.heap[g]? :=λg e=>d.block g (h.sM.lt g e) (λc=>h.sM.KA h.qK E g e c.symm);refine⟨⟨?_,?_,?_,Y,h.eB,h.hc,h.hl,λi y=>h.lk0 i Y,h.en0⟩,r.setCell (a:=Ad b 1) (.inl Qz) _⟩
 .rw[aF _ p];rfl
 .refine(n.congr (c':=λi j=>(m.lk i).val j) λi j y x=> ?_).aC (λg e=>Mz _ _ _ _ (λc=>n.ne p E (by rw[e,c])));unfold yD;by_cases q:i=na
  .subst q;rw[bW rfl,v j x,h.lk0 i (fV _)]
  .rw[R q]
 .exact(h.sM.aC l).aC (λg e=>Mz _ _ _ _ (λc=>h.sM.ne h.cF E (by rw[e,c])))
theorem pF.aOk{m:M}{ne:Nat}(h:pF w b m na ne va ve)(z:ne<m.bZ)(v:∀j,j<3->hJ news j undef=rG.zero.val j)(l:eV w1 XB 343 3 (ne+1) (yD (λi j=>(m.en i).val j) ne news))(d:w.grownBy w1 (i6 ve))(u:∀k,i6 XB=H k->i6 ve=H k\/i7 w.heap<=k):
  pF (hY w1 ⟨b,3,K⟩ XB) b m na (ne+1) va XB/\U w (gF b va ve) (hY w1 ⟨b,3,K⟩ XB) (gF b va XB):=by
 have r:U w (gF b va ve) w1 (gF b va XB):=(((U.refl w (gF b va ve)).grown d (λk e=> .inl (vX e))).to (Yy u));have n:uD w1 b #[X m.cells,va,X m.bZ,ve] 338:=(d.block b (dG h.cF) (λe=>h.sM.ne h.cF E e.symm)).ds h.cF;have q:∀g,i6 va=H g->w1.heap[g]? =w.heap[g]? :=λg e=>d.block g (h.qK.lt g e) (λc=>h.qK.KA h.sM E g e c.symm);refine⟨⟨?_,?_,?_,h.TX,Y,h.hc,h.hl,h.lk0,λi y=>h.en0 i Y⟩,r.setCell (a:=Ad b 3) (.inl Qz) _⟩
 .rw[aF _ n];rfl
 .exact(h.qK.aC q).aC (λg e=>Mz _ _ _ _ (λc=>h.qK.ne h.cF E (by rw[e,c])))
 .refine(l.congr (c':=λi j=>(m.en i).val j) λi j y x=> ?_).aC (λg e=>Mz _ _ _ _ (λc=>l.ne n E (by rw[e,c])));unfold yD;by_cases p:i=ne
  .subst p;rw[bW rfl,v j x,h.en0 i (fV _)]
  .rw[R p]
theorem UT{m:M}{ne:Nat}(n:Int)(w:aA)(h:pF w b m na ne va ve)(c:n<0\/(m.bZ:Int)<=n):
  aK prog 204 #[lr (H ⟨b,0,K⟩),mj mn n] w λe w'=>e=mi (mr #[lr K,mj mn 41])/\w=w':=by
 have a:=h.c2;exact ZM174
def aRC(w:aA)(b:Nat)(m:M)(na:Nat)(va ve:aE)(n:Nat)(e:cc)(w':aA):Prop:=
 ∃KA XB g,e=mi (mr #[lr (H ⟨g,n*3,K⟩),mj mn 0])/\n<KA/\i6 XB=H g/\pF w' b m na KA va XB/\U w (gF b va ve) w' (gF b va XB)
def aL5(w:aA)(b:Nat)(m:M)(na ne:Nat)(va ve:aE)(wr:aA):Prop:=
 ∃KA XB,ne<=KA/\pF wr b m na KA va XB/\U w (gF b va ve) wr (gF b va XB)
theorem SF{m:M}{ne:Nat}(n:Nat)(w:aA)(h:pF w b m na ne va ve)(S:n<m.bZ):
  aK prog 204 #[lr (H ⟨b,0,K⟩),mj mn n] w (aRC w b m na va ve n):=by
 have P:=h.c2;have T:(n:Int)<m.bZ:=Y;have x:decide (m.bZ<=n)=rR:=by simp;omega
 have V:(m.bZ:Int)<=1048576:=kX h.hl;let⟨B,C,o,l,i⟩:=info_parts aFT;go_in;go_wp2;go_loopw [16] (λ_ wr=>aL5 w b m na ne va ve wr) (λ_ wr=>n+1-xk wr (Ad b 3))
 .exact⟨ne,ve,fV _,h,U.refl _ _⟩
 obtain⟨KA,XB,f,c,u⟩:=hrel;have v:=c.c3;have q:=c.f 3;have G:=c.eB;by_cases z:n<KA
 .obtain⟨g,cap,rfl,d,_,_,_,_⟩:=c.sM.block Y;go_wp2;go_ret2;exact⟨KA,_,g,rfl,z,d,c,u⟩
 .obtain⟨a,cap,rfl,Q⟩:=c.sM.len;have N:(KA+1)*24<=140737488355328:=Y;have F:KA+1<=bH:=by simp only[bH];omega
  go_wp2_with (at_builtin;refine rV wr rfl _ _ 336 rfl 343 B (.agg #[X 0,X 0,X 0]) 3 24 underlying336 C o l i rfl _ KA _ c.sM Yr [X (-1),X (-1),X 0] Yr rfl rfl N F ?_;rintro v' w1 y d L ⟨g',cap',rfl⟩;have p:=d.cell v (λe=>c.sM.ne c.cF E e.symm);have k:=(World.frozen?_of_block (d.block b (dG c.cF) (λe=>c.sM.ne c.cF E e.symm))).ds q);go_roundw
  .let⟨r,A⟩:=c.aOk Y (by intro j W;match j with|0=>rfl|1=>rfl|2=>rfl) y d L;exact⟨KA+1,_,Y,r,u.ds A⟩
  rw[SG (World.cell?_setCell_same _ _ _ p),SG v];omega
def aL4(w:aA)(b:Nat)(m:M)(ne:Nat)(va ve:aE)(n:Nat)(e:cc)(w':aA):Prop:=
 ∃na' Gk g,e=mi (mr #[lr (H ⟨g,n*3,K⟩),mj mn 0])/\n<na'/\i6 Gk=H g/\pF w' b m na' ne Gk ve/\U w (gF b va ve) w' (gF b Gk ve)
def aH1(w:aA)(b:Nat)(m:M)(na ne:Nat)(va ve:aE)(wr:aA):Prop:=
 ∃na' Gk,na<=na'/\pF wr b m na' ne Gk ve/\U w (gF b va ve) wr (gF b Gk ve)
theorem J9{m:M}{ne:Nat}(n:Int)(w:aA)(h:pF w b m na ne va ve)(c:n<0\/(m.cells:Int)<=n):
  aK prog 293 #[lr (H ⟨b,0,K⟩),mj mn n] w λe w'=>e=mi (mr #[lr K,mj mn 42])/\w=w':=by
 have a:=h.c0;exact ZM174
theorem C6{m:M}{ne:Nat}(n:Nat)(w:aA)(h:pF w b m na ne va ve)(a:(m.lk n).oK≠0):
  aK prog 293 #[lr (H ⟨b,0,K⟩),mj mn n] w λe w'=>e=mi (mr #[lr K,mj mn 43])/\w=w':=by
 have l:=h.c0;have v:=h.c1;have c:=h.lT a;have r:=h.TX;have u:(n:Int)<m.cells:=Y;have d:decide (m.cells<=n)=rR:=by simp;omega
 have g:(m.cells:Int)<=1048576:=kX h.hc;obtain⟨g',cap,rfl,p,_,j,_,_⟩:=h.qK.block Y;have q:h8 w (Ad g' (n*3))=H (X (m.lk n).oK):=j n 0 c Y;have i:((m.lk n).oK==0)=rR:=eP a;go_in;go_wp2;go_loop [16] (λ_=>True) (λ_=>0)
 .trivial
 go_wp2;go_ret2;exact⟨rfl,rfl⟩
theorem SE{m:M}{ne:Nat}(n:Nat)(w:aA)(h:pF w b m na ne va ve)(W:n<m.cells)(o:(m.lk n).oK=0):
  aK prog 293 #[lr (H ⟨b,0,K⟩),mj mn n] w (aL4 w b m ne va ve n):=by
 have h0:=h.c0;have aY:(n:Int)<m.cells:=Y;have z:decide (m.cells<=n)=rR:=by simp;omega
 have T:(m.cells:Int)<=1048576:=kX h.hc;let⟨F,P,Q,r,l⟩:=info_parts aFS;go_in;go_wp2;go_loopw [16] (λ_ wr=>aH1 w b m na ne va ve wr) (λ_ wr=>n+1-xk wr (Ad b 1))
 .exact⟨na,va,fV _,h,U.refl _ _⟩
 obtain⟨d,Gk,N,c,v⟩:=hrel;have y:=c.c1;have p:=c.f 1;have A:=c.TX;by_cases x:n<d
 .obtain⟨g,cap,rfl,i,_,C,_,_⟩:=c.qK.block Y;have MU:h8 wr (Ad g (n*3))=H (X 0):=o▸C n 0 x Y;go_wp2;go_ret2;exact⟨d,_,g,rfl,x,i,c,v⟩
 .obtain⟨a,cap,rfl,V⟩:=c.qK.len;have S:(d+1)*24<=140737488355328:=Y;have G:d+1<=bH:=by simp only[bH];omega
  go_wp2_with (at_builtin;refine rV wr rfl _ _ 333 rfl 345 F (.agg #[X 0,X 0,X 0]) 3 24 underlying333 P Q r l rfl _ d _ c.qK Yr [X 0,X 0,X 0] Yr rfl rfl S G ?_;rintro v' w1 f i L ⟨g',cap',rfl⟩;have u:=i.cell y (λe=>c.qK.ne c.cF E e.symm);have k:=(World.frozen?_of_block (i.block b (dG c.cF) (λe=>c.qK.ne c.cF E e.symm))).ds p);go_roundw
  .let⟨q,B⟩:=c.aOl Y (by intro j hj;match j with|0=>rfl|1=>rfl|2=>rfl) f i L;exact⟨d+1,_,Y,q,v.ds B⟩
  rw[SG (World.cell?_setCell_same _ _ _ u),SG y];omega
section
theorem ZM129{P:Prop}(h:P:=by
  by_cases BI:i'=i
  .subst BI;simp only[true_and,yN,hf _ _ uU]
  .rw[R (λe=>BI e.1),R BI]):P:=h
def M.rB(m:M)(i:Nat)(f:jF->jF):M:={m with lk:=λj=>if j=i then f (m.lk j)else m.lk j}
def M.tN(m:M)(i:Nat)(f:rG->rG):M:={m with en:=λj=>if j=i then f (m.en j)else m.en j}
section
variable{w:aA}{b:Nat}{m:M}{na ne:Nat}{va ve:aE}
theorem pF.iy(h:pF w b m na ne va ve)(hv:va=jS (H ⟨g,0,K⟩) na cap)(q:i<na)(p:j<3){x:aE}{f:jF->jF}(hf:∀l:jF,∀k,k<3->(f l).val k=if k=j then x else l.val k):pF (hY w ⟨g,i*3+j,K⟩ x) b (m.rB i f) na ne va ve:=by
 have c:i6 va=H g:=by rw[hv];rfl
 refine⟨?_,?_,?_,h.TX,h.eB,h.hc,h.hl,λk n=> ?_,h.en0⟩
 .rw[Mz _ _ _ _ (λe=>h.qK.ne h.cF E (by rw[c,e]))];exact h.cF
 .refine(h.qK.set hv i j p x).congr λi' a _ uU=> ?_;show(if i'=i/\a=j then x else(m.lk i').val a)=(if i'=i then f (m.lk i')else m.lk i').val a;exact ZM129
 .exact h.sM.aC λg' e=>Mz _ _ _ _ (λd=>h.sM.KA h.qK E g' e (by rw[c,d]))
 .show(if k=i then f (m.lk k)else m.lk k)=_;rw[R Y];exact h.lk0 k n
theorem pF.iz(h:pF w b m na ne va ve)(hv:ve=jS (H ⟨g,0,K⟩) ne cap)(q:i<ne)(p:j<3){x:aE}{f:rG->rG}(hf:∀l:rG,∀k,k<3->(f l).val k=if k=j then x else l.val k):pF (hY w ⟨g,i*3+j,K⟩ x) b (m.tN i f) na ne va ve:=by
 have c:i6 ve=H g:=by rw[hv];rfl
 refine⟨?_,?_,?_,h.TX,h.eB,h.hc,h.hl,h.lk0,λk n=> ?_⟩
 .rw[Mz _ _ _ _ (λe=>h.sM.ne h.cF E (by rw[c,e]))];exact h.cF
 .exact h.qK.aC λg' e=>Mz _ _ _ _ (λd=>h.qK.KA h.sM E g' e (by rw[c,d]))
 .refine(h.sM.set hv i j p x).congr λi' a _ uU=> ?_;show(if i'=i/\a=j then x else(m.en i').val a)=(if i'=i then f (m.en i')else m.en i').val a;exact ZM129
 .show(if k=i then f (m.en k)else m.en k)=_;rw[R Y];exact h.en0 k n
def jF.oH(x:Int)(l:jF):jF:=⟨x,l.As,l.next⟩
def jF.iG(x:Int)(l:jF):jF:=⟨l.oK,x,l.next⟩
def jF.iH(x:Int)(l:jF):jF:=⟨l.oK,l.As,x⟩
def rG.uK(x:Int)(l:rG):rG:=⟨x,l.lK,l.size⟩
def rG.tL(x:Int)(l:rG):rG:=⟨l.first,x,l.size⟩
def rG.rW(x:Int)(l:rG):rG:=⟨l.first,l.lK,x⟩
theorem pF.oH(h:pF w b m na ne va ve)(hv:va=jS (H ⟨g,0,K⟩) na cap)(a:i<na)(x:Int):pF (hY w ⟨g,i*3,K⟩ (mj mn x)) b (m.rB i (jF.oH x)) na ne va ve:=
 h.iy (j:=0) hv a Y (λl k c=>by match k with|0=>rfl|1=>rfl|2=>rfl)
theorem pF.iG(h:pF w b m na ne va ve)(hv:va=jS (H ⟨g,0,K⟩) na cap)(a:i<na)(x:Int):pF (hY w ⟨g,i*3+1,K⟩ (mj mn x)) b (m.rB i (jF.iG x)) na ne va ve:=
 h.iy (j:=1) hv a Y (λl k c=>by match k with|0=>rfl|1=>rfl|2=>rfl)
theorem pF.iH(h:pF w b m na ne va ve)(hv:va=jS (H ⟨g,0,K⟩) na cap)(a:i<na)(x:Int):pF (hY w ⟨g,i*3+2,K⟩ (mj mn x)) b (m.rB i (jF.iH x)) na ne va ve:=
 h.iy (j:=2) hv a Y (λl k c=>by match k with|0=>rfl|1=>rfl|2=>rfl)
theorem pF.uK(h:pF w b m na ne va ve)(hv:ve=jS (H ⟨g,0,K⟩) ne cap)(a:i<ne)(x:Int):pF (hY w ⟨g,i*3,K⟩ (mj mn x)) b (m.tN i (rG.uK x)) na ne va ve:=
 h.iz (j:=0) hv a Y (λl k c=>by match k with|0=>rfl|1=>rfl|2=>rfl)
theorem pF.tL(h:pF w b m na ne va ve)(hv:ve=jS (H ⟨g,0,K⟩) ne cap)(a:i<ne)(x:Int):pF (hY w ⟨g,i*3+1,K⟩ (mj mn x)) b (m.tN i (rG.tL x)) na ne va ve:=
 h.iz (j:=1) hv a Y (λl k c=>by match k with|0=>rfl|1=>rfl|2=>rfl)
theorem pF.rW(h:pF w b m na ne va ve)(hv:ve=jS (H ⟨g,0,K⟩) ne cap)(a:i<ne)(x:Int):pF (hY w ⟨g,i*3+2,K⟩ (mj mn x)) b (m.tN i (rG.rW x)) na ne va ve:=
 h.iz (j:=2) hv a Y (λl k c=>by match k with|0=>rfl|1=>rfl|2=>rfl)
end
def M.RX(m:M)(n c:Nat)(p q:Int):M:=
 ((((m.rB c (jF.oH (n+1))).rB c (jF.iG p)).rB c (jF.iH q)).tN n (rG.rW ((m.en n).size+1)))
def M.RW(m:M)(n c:Nat):Option Nat->M
 |none=>m.tN n (rG.uK c)
 |some p=>m.rB p (jF.iH c)
def M.RV(m:M)(n c:Nat):Option Nat->M
 |none=>m.tN n (rG.tL c)
 |some q=>m.rB q (jF.iG c)
def jK:Option Nat->Int
 |none=> -1
 |some p=>p
def M.insert(m:M)(n c:Nat)(p q:Option Nat):M:=((m.RX n c (jK p) (jK q)).RW n c p).RV n c q
theorem Cj{b:Nat}{m:M}{na ne:Nat}{va ve:aE}(n c:Nat)(p q:Option Nat)(w:aA)(h:pF w b m na ne va ve)(r:n<ne)(i:c<na)(C:∀x,p=H x->x<na)(y:∀x,q=H x->x<na)(G:p≠H c)(z:q≠H c)(u:∀x,p=H x->q≠H x)(hs:(m.en n).size<1048576)(Su:0<=(m.en n).size):
  aK prog 294 #[lr (H ⟨b,0,K⟩),mj mn n,mj mn c,mj mn (jK p),mj mn (jK q)] w λe w'=>e=mi (mr #[])/\pF w' b (m.insert n c p q) na ne va ve/\U w (gF b va ve) w' (gF b va ve):=by
 have h1:=h.c1;have h3:=h.c3;have oC:=h.TX;have qP:=h.eB;have WN:=h.hc;have hb4:=h.hl;let⟨g,cap,hv,F,_,l,Cu,_⟩:=h.qK.block Y;let⟨g2,d,A8,B,_,N,Pz,_⟩:=h.sM.block Y;have eB:g≠g2:=λe=>h.qK.KA h.sM E g F (by rw[B,e]);have GY:g≠b:=λe=>h.qK.ne h.cF E (by rw[F,e]);have a2E:g2≠b:=λe=>h.sM.ne h.cF E (by rw[B,e]);have S:=Z h;clear h;subst hv A8;have T:h8 w (Ad g (c*3))=H (X (m.lk c).oK):=l c 0 i Y;have Q:h8 w (Ad g (c*3+1))=H (X (m.lk c).As):=l c 1 i Y;have f:h8 w (Ad g (c*3+2))=H (X (m.lk c).next):=l c 2 i Y;have P:h8 w (Ad g2 (n*3))=H (X (m.en n).first):=N n 0 r Y;have V:h8 w (Ad g2 (n*3+1))=H (X (m.en n).lK):=N n 1 r Y;have L:h8 w (Ad g2 (n*3+2))=H (X (m.en n).size):=N n 2 r Y;clear N;cases p with
 |none=>
  cases q with
  |none=>
   clear l C y G z u;simp only[jK];go_in;go_wp2;go_end0;clear T Q f P V L;have k:=S.o;have A:∀o v w',U w (gF b (eC g 0 na cap) (eC g2 0 ne d)) w' (gF b (eC g 0 na cap) (eC g2 0 ne d))->U w (gF b (eC g 0 na cap) (eC g2 0 ne d)) (hY w' (Ad g o) v) (gF b (eC g 0 na cap) (eC g2 0 ne d)):=λo v w' h=>h.setCell (a:=Ad g o) (.inl (nF F)) v;have bEq:∀o v w',U w (gF b (eC g 0 na cap) (eC g2 0 ne d)) w' (gF b (eC g 0 na cap) (eC g2 0 ne d))->U w (gF b (eC g 0 na cap) (eC g2 0 ne d)) (hY w' (Ad g2 o) v) (gF b (eC g 0 na cap) (eC g2 0 ne d)):=λo v w' h=>h.setCell (a:=Ad g2 o) (.inl (vX B)) v;exact⟨rfl,(((((k.oH rfl i _).iG rfl i _).iH rfl i _).rW rfl r _).uK rfl r _).tL rfl r _,(bEq _ _ _ (bEq _ _ _ (bEq _ _ _ (A _ _ _ (A _ _ _ (A _ _ _ (U.refl w _)))))))⟩
  |some q=>
   have j:=y q rfl;have W:q≠c:=λe=>z (by rw[e]);have A9:h8 w (Ad g (q*3+1))=H (X (m.lk q).As):=l q 1 j Y;have n0:¬(c*3=q*3+1):=Y;have n1:¬(c*3+1=q*3+1):=Y;have n2:¬(c*3+2=q*3+1):=Y;clear l C y G z u;simp only[jK];go_in;go_wp2;go_end0;clear T Q f P V L;have k:=S.o;have A:∀o v w',U w (gF b (eC g 0 na cap) (eC g2 0 ne d)) w' (gF b (eC g 0 na cap) (eC g2 0 ne d))->U w (gF b (eC g 0 na cap) (eC g2 0 ne d)) (hY w' (Ad g o) v) (gF b (eC g 0 na cap) (eC g2 0 ne d)):=λo v w' h=>h.setCell (a:=Ad g o) (.inl (nF F)) v;have bEq:∀o v w',U w (gF b (eC g 0 na cap) (eC g2 0 ne d)) w' (gF b (eC g 0 na cap) (eC g2 0 ne d))->U w (gF b (eC g 0 na cap) (eC g2 0 ne d)) (hY w' (Ad g2 o) v) (gF b (eC g 0 na cap) (eC g2 0 ne d)):=λo v w' h=>h.setCell (a:=Ad g2 o) (.inl (vX B)) v;exact⟨rfl,(((((k.oH rfl i _).iG rfl i _).iH rfl i _).rW rfl r _).uK rfl r _).iG rfl j _,(A _ _ _ (bEq _ _ _ (bEq _ _ _ (A _ _ _ (A _ _ _ (A _ _ _ (U.refl w _)))))))⟩
 |some p=>
  cases q with
  |none=>
   have s:=C p rfl;have a12:p≠c:=λe=>G (by rw[e]);have Fs:h8 w (Ad g (p*3+2))=H (X (m.lk p).next):=l p 2 s Y;have m0:¬(c*3=p*3+2):=Y;have m1:¬(c*3+1=p*3+2):=Y;have m2:¬(c*3+2=p*3+2):=Y;clear l C y G z u;simp only[jK];go_in;go_wp2;go_end0;clear T Q f P V L;have k:=S.o;have A:∀o v w',U w (gF b (eC g 0 na cap) (eC g2 0 ne d)) w' (gF b (eC g 0 na cap) (eC g2 0 ne d))->U w (gF b (eC g 0 na cap) (eC g2 0 ne d)) (hY w' (Ad g o) v) (gF b (eC g 0 na cap) (eC g2 0 ne d)):=λo v w' h=>h.setCell (a:=Ad g o) (.inl (nF F)) v;have bEq:∀o v w',U w (gF b (eC g 0 na cap) (eC g2 0 ne d)) w' (gF b (eC g 0 na cap) (eC g2 0 ne d))->U w (gF b (eC g 0 na cap) (eC g2 0 ne d)) (hY w' (Ad g2 o) v) (gF b (eC g 0 na cap) (eC g2 0 ne d)):=λo v w' h=>h.setCell (a:=Ad g2 o) (.inl (vX B)) v;exact⟨rfl,(((((k.oH rfl i _).iG rfl i _).iH rfl i _).rW rfl r _).iH rfl s _).tL rfl r _,(bEq _ _ _ (A _ _ _ (bEq _ _ _ (A _ _ _ (A _ _ _ (A _ _ _ (U.refl w _)))))))⟩
  |some q=>
   have s:=C p rfl;have a12:p≠c:=λe=>G (by rw[e]);have Fs:h8 w (Ad g (p*3+2))=H (X (m.lk p).next):=l p 2 s Y;have m0:¬(c*3=p*3+2):=Y;have m1:¬(c*3+1=p*3+2):=Y;have m2:¬(c*3+2=p*3+2):=Y;have j:=y q rfl;have W:q≠c:=λe=>z (by rw[e]);have A9:h8 w (Ad g (q*3+1))=H (X (m.lk q).As):=l q 1 j Y;have n0:¬(c*3=q*3+1):=Y;have n1:¬(c*3+1=q*3+1):=Y;have n2:¬(c*3+2=q*3+1):=Y;have k0:¬(p*3+2=q*3+1):=Y;clear l C y G z u;simp only[jK];go_in;go_wp2;go_end0;clear T Q f P V L;have k:=S.o;have A:∀o v w',U w (gF b (eC g 0 na cap) (eC g2 0 ne d)) w' (gF b (eC g 0 na cap) (eC g2 0 ne d))->U w (gF b (eC g 0 na cap) (eC g2 0 ne d)) (hY w' (Ad g o) v) (gF b (eC g 0 na cap) (eC g2 0 ne d)):=λo v w' h=>h.setCell (a:=Ad g o) (.inl (nF F)) v;have bEq:∀o v w',U w (gF b (eC g 0 na cap) (eC g2 0 ne d)) w' (gF b (eC g 0 na cap) (eC g2 0 ne d))->U w (gF b (eC g 0 na cap) (eC g2 0 ne d)) (hY w' (Ad g2 o) v) (gF b (eC g 0 na cap) (eC g2 0 ne d)):=λo v w' h=>h.setCell (a:=Ad g2 o) (.inl (vX B)) v;exact⟨rfl,(((((k.oH rfl i _).iG rfl i _).iH rfl i _).rW rfl r _).iH rfl s _).iG rfl j _,(A _ _ _ (A _ _ _ (bEq _ _ _ (A _ _ _ (A _ _ _ (A _ _ _ (U.refl w _)))))))⟩
end
section
theorem ZM69{P:Prop}(h:P:=by
  have hzx:z≠x:=by
   grind
  have:(A'++x::(C'++[z])).getLast? =H z:=by grind
  rw[List.concat_eq_append,this,if_neg (eP hzx),if_neg (eP uG)];cases C'<;>simp):P:=h
theorem ZM99{P:Prop}(h:P:=by
  subst GX;rw[bW rfl,uL,h.Dz k,hf];cases A<;>cases B<;>simp[jK,List.getLast?_append,List.getLast?_cons]<;>omega):P:=h
structure WF(m:M)(f:Nat->List Nat):Prop where
 eD:∀n c,c∈f n->c<m.cells
 out:∀n,m.bZ<=n->f n=[]
 dD:∀n,(f n).Nodup
 OG:∀n A c B,f n=A++c::B->m.lk c=⟨n+1,jK A.getLast?,jK B.head?⟩
 free:∀c,(∀n,c∉f n)->m.lk c=jF.zero
 Dz:∀n,m.en n=⟨jK (f n).head?,jK (f n).getLast?,O (f n)⟩
def put(f:Nat->List Nat)(n:Nat)(l:List Nat):Nat->List Nat:=λk=>if k=n then l else f k
theorem uL(f:Nat->List Nat)(n:Nat)(l:List Nat):put f n l n=l:=bW rfl
theorem oA{f:Nat->List Nat}{k:Nat}{l:List Nat}(h:k≠n):put f n l k=f k:=R h
section
variable{m:M}{f:Nat->List Nat}
theorem WF.Ck(h:WF m f){k:Nat}(b:c∈f n)(e:c∈f k):n=k:=by
 let⟨A,B,d⟩:=zb b;let⟨C,bEp,a⟩:=zb e;have g:=h.OG n A c B d;rw[h.OG k C c bEp a]at g;grind
theorem WF.Pb(h:WF m f)(b:c∈f n):(m.lk c).oK=n+1:=by
 let⟨A,B,a⟩:=zb b;rw[h.OG n A c B a]
theorem WF.wK(h:WF m f)(c:Nat):(m.lk c).oK=0↔∀n,c∉f n:=by
 constructor
 .intro a n b;rw[h.Pb b]at a;omega
 .intro a;rw[h.free c a];rfl
theorem WF.has(h:WF m f)(b:(m.lk c).oK≠0):∃n A B,f n=A++c::B:=by
 apply zbT;intro e;refine b ((h.wK c).2 λn a=> ?_);let⟨A,B,d⟩:=zb a;grind
theorem WF.SD(h:WF m f)(a:c∈f n):n<m.bZ:=by
 rcases YB n m.bZ with b|d
 .exact b
 .rw[h.out n d]at a;cases a
theorem vS{l:List Nat}(hd:l.Nodup)(c:∀x,x∈l->x<b):O l<=b:=by
 have d:l⊆yo b:=λx a=>wW.2 (c x a);have e:=(List.nodup_range (n:=b));have:=List.Nodup.length_le_of_subset hd d;simpa using this
theorem WF.length(h:WF m f)(n:Nat):O (f n)<=m.cells:=vS (h.dD n) (h.eD n)
theorem WF.DE(_:WF m f){A B:List Nat}(b:f n=A++B)(a:A.getLast? =H x):x∈f n:=by
 grind
theorem WF.Cw(_:WF m f){A B:List Nat}(b:f n=A++B)(a:B.head? =H x):x∈f n:=by
 grind [oj]
theorem Kq(m:M)(n c:Nat)(p q:Option Nat)(l:p≠H c)(g:q≠H c)(j:Nat):(m.insert n c p q).lk j=
  if j=c then⟨n+1,jK p,jK q⟩else if p=H j then(if q=H j then⟨(m.lk j).oK,c,c⟩else⟨(m.lk j).oK,(m.lk j).As,c⟩)else if q=H j then⟨(m.lk j).oK,c,(m.lk j).next⟩else m.lk j:=by
 cases p with
 |none=>
  cases q with
  |none=>by_cases h:j=c<;>simp[M.insert,M.RX,M.RW,M.RV,M.rB,M.tN,jF.oH,jF.iG,jF.iH,h]
  |some q=>
   have d:q≠c:=λe=>g (by rw[e]);by_cases h:j=c
   .subst h;simp[M.insert,M.RX,M.RW,M.RV,M.rB,M.tN,jF.oH,jF.iG,jF.iH,Ne.symm d]
   .by_cases a:j=q
    .subst a;simp[M.insert,M.RX,M.RW,M.RV,M.rB,M.tN,jF.iG,h]
    .simp[M.insert,M.RX,M.RW,M.RV,M.rB,M.tN,h,a,Ne.symm a]
 |some p=>
  have i:p≠c:=λe=>l (by rw[e]);cases q with
  |none=>
   by_cases h:j=c
   .subst h;simp[M.insert,M.RX,M.RW,M.RV,M.rB,M.tN,jF.oH,jF.iG,jF.iH,Ne.symm i]
   .by_cases a:j=p
    .subst a;simp[M.insert,M.RX,M.RW,M.RV,M.rB,M.tN,jF.iH,h]
    .simp[M.insert,M.RX,M.RW,M.RV,M.rB,M.tN,h,a,Ne.symm a]
  |some q=>
   have d:q≠c:=λe=>g (by rw[e]);by_cases h:j=c
   .subst h;simp[M.insert,M.RX,M.RW,M.RV,M.rB,M.tN,jF.oH,jF.iG,jF.iH,Ne.symm i,Ne.symm d]
   .by_cases a:j=p
    .subst a;by_cases b:j=q
     .subst b;simp[M.insert,M.RX,M.RW,M.RV,M.rB,M.tN,jF.iH,jF.iG,h]
     .simp[M.insert,M.RX,M.RW,M.RV,M.rB,M.tN,jF.iH,h,b,Ne.symm b]
    .by_cases b:j=q
     .subst b;simp[M.insert,M.RX,M.RW,M.RV,M.rB,M.tN,jF.iG,h,a,Ne.symm a]
     .simp[M.insert,M.RX,M.RW,M.RV,M.rB,M.tN,h,a,Ne.symm a,b,Ne.symm b]
theorem JB(m:M)(n c:Nat)(p q:Option Nat):(m.insert n c p q).cells=m.cells:=by cases p<;>cases q<;>rfl
theorem JA(m:M)(n c:Nat)(p q:Option Nat):(m.insert n c p q).bZ=m.bZ:=by cases p<;>cases q<;>rfl
theorem aB6(m:M)(n c:Nat)(p q:Option Nat)(j:Nat):(m.insert n c p q).en j=
  if j=n then⟨if p=K then c else(m.en n).first,if q=K then c else(m.en n).lK,(m.en n).size+1⟩else m.en j:=by
 cases p<;>cases q<;>by_cases h:j=n<;>simp[M.insert,M.RX,M.RW,M.RV,M.rB,M.tN,rG.uK,rG.tL,rG.rW,h]
theorem WF.insert(h:WF m f){A B:List Nat}(o:n<m.bZ)(L:c<m.cells)(hl:∀k,c∉f k)(hf:f n=A++B):
  WF (m.insert n c A.getLast? B.head?) (put f n (A++c::B)):=by
 have G:A.getLast?≠H c:=λe=>hl n (h.DE hf e);have F:B.head?≠H c:=λe=>hl n (h.Cw hf e);have w:=h.dD n;rw[hf,Fh]at w;obtain⟨N,P,p⟩:=w;have t:c∉A:=λe=>hl n BC;have q:c∉B:=λe=>hl n BC;refine⟨λk x b=> ?_,λk d=> ?_,λk=> ?_,λk A' x B' d=> ?_,λx b=> ?_,λk=> ?_⟩
 .rw[JB];by_cases GX:k=n
  .subst GX;rw[uL]at b;rcases yU.1 b with b|b
   .exact h.eD k x BC
   .rcases xZ.1 b with rfl|b
    .exact L
    .exact h.eD k x BC
  .rw[oA GX]at b;exact h.eD k x b
 .rw[JA]at d;rw[oA Y];exact h.out k d
 .by_cases GX:k=n
  .grind [uL]
  .rw[oA GX];exact h.dD k
 .rw[Kq m n c _ _ G F];by_cases GX:k=n
  .subst GX;rw[uL]at d;rcases List.append_eq_append_iff.1 d with⟨C,a,g⟩|⟨C,a,g⟩
   .cases C with
    |nil=>
     simp only[ui,Nb,List.cons.injEq]at a g;obtain⟨rfl,rfl⟩:=g;rw[bW rfl,a]
    |cons y C=>
     simp only[zbZ,List.cons.injEq]at g;obtain⟨rfl,rfl⟩:=g;subst a;have j:x∈C++x::B':=J;have i:x≠c:=λe=>q (e▸j);have uG:A.getLast?≠H x:=λe=>p x (zcW e) x j rfl;have u:=h.OG k (A++C) x B' (by rw[hf];simp);rw[R i,R uG,u];cases C with
     |nil=>simp[jK]
     |cons z C=>
      grind
   .cases C with
    |nil=>
     simp only[Qn,Qt,List.cons.injEq]at a g;obtain⟨rfl,rfl⟩:=g;rw[bW rfl,a]
    |cons y C=>
     simp only[zbZ,List.cons.injEq]at g;obtain⟨rfl,rfl⟩:=g;subst a;have s:x∈A'++x::C:=J;have i:x≠c:=λe=>t (e▸s);have uG:B.head?≠H x:=λe=>p x s x (oj e) rfl;have u:=h.OG k A' x (C++B) (by rw[hf];simp);rw[R i,R uG,u];rcases Bk C with rfl|⟨C',z,rfl⟩
     .simp[jK]
     .exact ZM69
  .rw[oA GX]at d;have b:x∈f k:=by rw[d];simp
   have i:x≠c:=λe=>hl k (e▸b);have uG:A.getLast?≠H x:=λe=>GX (h.Ck b (h.DE hf e));have v:B.head?≠H x:=λe=>GX (h.Ck b (h.Cw hf e));rw[R i,R uG,R v];exact h.OG k A' x B' d
 .rw[Kq m n c _ _ G F];have l:=b n;rw[uL]at l;have i:x≠c:=λe=>l (by simp[e]);have r:∀k,x∉f k:=λk d=>by
   by_cases GX:k=n
   .grind
   .exact b k (by grind [oA])
  rw[R i,R (λe=>r n (h.DE hf e)),R (λe=>r n (h.Cw hf e))];exact h.free x r
 .rw[aB6];by_cases GX:k=n
  .exact ZM99
  .rw[R GX,oA GX];exact h.Dz k
def M.XV(m:M)(n:Nat)(q:Option Nat):Option Nat->M
 |none=>m.tN n (rG.uK (jK q))
 |some p=>m.rB p (jF.iH (jK q))
def M.XU(m:M)(n:Nat)(p:Option Nat):Option Nat->M
 |none=>m.tN n (rG.tL (jK p))
 |some q=>m.rB q (jF.iG (jK p))
def M.rO(m:M)(n c:Nat)(p q:Option Nat):M:=
 ((((((m.tN n (rG.rW ((m.en n).size-1))).XV n q p).XU n p q).rB c (jF.oH 0)).rB c (jF.iG 0)).rB c (jF.iH 0))
theorem Ob(m:M)(n c:Nat)(p q:Option Nat):(m.rO n c p q).cells=m.cells:=by cases p<;>cases q<;>rfl
theorem Oa(m:M)(n c:Nat)(p q:Option Nat):(m.rO n c p q).bZ=m.bZ:=by cases p<;>cases q<;>rfl
theorem Ji(m:M)(n c:Nat)(p q:Option Nat)(j:Nat):(m.rO n c p q).lk j=
  if j=c then jF.zero else if p=H j then(if q=H j then⟨(m.lk j).oK,jK p,jK q⟩else⟨(m.lk j).oK,(m.lk j).As,jK q⟩)else if q=H j then⟨(m.lk j).oK,jK p,(m.lk j).next⟩else m.lk j:=by
 by_cases h:j=c
 .subst h;cases p<;>cases q<;>simp[M.rO,M.XV,M.XU,M.rB,M.tN,jF.oH,jF.iG,jF.iH,jF.zero]
 .cases p with
  |none=>
   cases q with
   |none=>simp[M.rO,M.XV,M.XU,M.rB,M.tN,h]
   |some q=>
    by_cases a:j=q
    .subst a;simp[M.rO,M.XV,M.XU,M.rB,M.tN,jF.iG,h]
    .simp[M.rO,M.XV,M.XU,M.rB,M.tN,h,a,Ne.symm a]
  |some p=>
   cases q with
   |none=>
    by_cases a:j=p
    .subst a;simp[M.rO,M.XV,M.XU,M.rB,M.tN,jF.iH,h]
    .simp[M.rO,M.XV,M.XU,M.rB,M.tN,h,a,Ne.symm a]
   |some q=>
    by_cases a:j=p
    .subst a;by_cases b:j=q
     .subst b;simp[M.rO,M.XV,M.XU,M.rB,M.tN,jF.iH,jF.iG,h]
     .simp[M.rO,M.XV,M.XU,M.rB,M.tN,jF.iH,h,b,Ne.symm b]
    .by_cases b:j=q
     .subst b;simp[M.rO,M.XV,M.XU,M.rB,M.tN,jF.iG,h,a,Ne.symm a]
     .simp[M.rO,M.XV,M.XU,M.rB,M.tN,h,a,Ne.symm a,b,Ne.symm b]
theorem aAn(m:M)(n c:Nat)(p q:Option Nat)(j:Nat):(m.rO n c p q).en j=
  if j=n then⟨if p=K then jK q else(m.en n).first,if q=K then jK p else(m.en n).lK,(m.en n).size-1⟩else m.en j:=by
 cases p<;>cases q<;>by_cases h:j=n<;>simp[M.rO,M.XV,M.XU,M.rB,M.tN,rG.uK,rG.tL,rG.rW,h]
theorem WF.rO(h:WF m f){A B:List Nat}(hf:f n=A++c::B):WF (m.rO n c A.getLast? B.head?) (put f n (A++B)):=by
 have L:=h.dD n;rw[hf,Fh]at L;obtain⟨Q,s,q⟩:=L;let⟨u,S⟩:=U8.1 s;have p:∀x,x∈A->∀y,y∈B->x≠y:=λx a y N=>q x a y (UA _ N);have P:c∉A:=λe=>q c e c J rfl;have r:∀x,x∈A->x∈f n:=λx a=>by grind
 have w:∀x,x∈B->x∈f n:=λx a=>by grind
 have v:c∈f n:=by rw[hf];simp
 refine⟨λk x a=> ?_,λk g=> ?_,λk=> ?_,λk A' x B' g=> ?_,λx a=> ?_,λk=> ?_⟩
 .rw[Ob];by_cases GX:k=n
  .subst GX;rw[uL]at a;rcases yU.1 a with a|a
   .exact h.eD k x (r x a)
   .exact h.eD k x (w x a)
  .rw[oA GX]at a;exact h.eD k x a
 .rw[Oa]at g;have:=h.SD v;rw[oA Y];exact h.out k g
 .by_cases GX:k=n
  .grind [uL]
  .rw[oA GX];exact h.dD k
 .rw[Ji];by_cases GX:k=n
  .subst GX;rw[uL]at g;rcases List.append_eq_append_iff.1 g with⟨C,d,i⟩|⟨C,d,i⟩
   ·
    subst d;have b:x∈B:=by rw[i];simp
    have j:x≠c:=λe=>u (e▸b);have uG:A.getLast?≠H x:=λe=>p x (zcW e) x b rfl;have F:=h.OG k (A++c::C) x B' (by rw[hf,i];simp);rw[R j,R uG,F];cases C with
    |nil=>simp[i]
    |cons z C=>
     grind
   .cases C with
    |nil=>
     simp only[Qn,Qt]at d i;subst d;have b:x∈B:=by rw[<-i];simp
     have j:x≠c:=λe=>u (e▸b);have uG:A.getLast?≠H x:=λe=>p x (zcW e) x b rfl;have F:=h.OG k (A++[c]) x B' (by rw[hf,<-i];simp);grind
    |cons y C=>
     simp only[L1,List.cons.injEq]at i;obtain⟨rfl,rfl⟩:=i;subst d;have G:x∈A'++x::C:=J;have j:x≠c:=λe=>P (e▸G);have uG:B.head?≠H x:=λe=>p x G x (oj e) rfl;have F:=h.OG k A' x (C++c::B) (by rw[hf];simp);rw[R j,F];rcases Bk C with rfl|⟨C',z,rfl⟩
     .grind
     .exact ZM69
  .rw[oA GX]at g;have a:x∈f k:=by rw[g];simp
   have j:x≠c:=λe=>GX (h.Ck a (e▸v));have uG:A.getLast?≠H x:=λe=>GX (h.Ck a (r x (zcW e)));have t:B.head?≠H x:=λe=>GX (h.Ck a (w x (oj e)));rw[R j,R uG,R t];exact h.OG k A' x B' g
 .rw[Ji];by_cases j:x=c
  .rw[bW j]
  .have l:=a n;rw[uL]at l;have G:x∉A:=λe=>l (yU.2 (.inl e));have b:x∉B:=λe=>l (yU.2 (.inr e));have o:∀k,x∉f k:=λk g=>by
    by_cases GX:k=n
    .grind
    .exact a k (by grind [oA])
   rw[R j,R (λe=>G (zcW e)),R (λe=>b (oj e))];exact h.free x o
 .rw[aAn];by_cases GX:k=n
  .exact ZM99
  .rw[R GX,oA GX];exact h.Dz k
end
end
variable{fp:List Nat}{C:Nat}
def nU(w:aA)(b C L:Nat)(f:Nat->List Nat)(fp:List Nat):Prop:=
 ∃m na ne va ve,pF w b m na ne va ve/\WF m f/\m.cells=C/\m.bZ=L/\fp=gF b va ve
theorem nU.eU{f:Nat->List Nat}(h:nU w b C L f fp)(e:U w S w' S')(g:∀k,k∈fp->k∉S):nU w' b C L f fp:=by
 obtain⟨m,na,ne,va,ve,d,i,c,a,rfl⟩:=h;exact⟨m,na,ne,va,ve,d.eU e g,i,c,a,rfl⟩
theorem nU.lt{f:Nat->List Nat}(h:nU w b C L f fp):∀k,k∈fp->k<i7 w.heap:=by
 obtain⟨m,na,ne,va,ve,a,e,d,c,rfl⟩:=h;exact a.lt
def sE(n:Int)(L:Nat):Prop:=n<0\/(L:Int)<=n
theorem sE.no{n:Int}(h:¬sE n L):∃k:Nat,n=k/\k<L:=by
 unfold sE at h;exact⟨n.toNat,Y,Y⟩
def aN2(w:aA)(C L:Nat)(e:cc)(w':aA):Prop:=
 ∃b,e=mi (mr #[lr (H ⟨b,0,K⟩),mj mn 0])/\i7 w.heap<=b/\nU w' b C L (λ_=>[]) [b]/\U w [] w' [b]
theorem WF.empty(C L:Nat):WF ⟨C,L,λ_=>jF.zero,λ_=>rG.zero⟩ (λ_=>[]):=
 ⟨λ_ _ h=>(by cases h),λ_ _=>rfl,λ_=>S0,λ_ A c B h=>(by simp at h),λ_ _=>rfl,λ_=>rfl⟩
theorem aEs(h:C<=1048576/\L<=1048576)(a:w'=i5 w (kd #[mj mn C,jS K 0 0,mj mn L,jS K 0 0] 338)):
  aN2 w C L (mi (mr #[lr (H ⟨w,0,K⟩),mj mn 0])) w':=by
 subst a;refine⟨w,rfl,fV _,⟨⟨C,L,λ_=>jF.zero,λ_=>rG.zero⟩,0,0,cR,cR,⟨?_,eV.nil _ _ _ _,eV.nil _ _ _ _,Y,Y,h.1,h.2,λ_ _=>rfl,λ_ _=>rfl⟩,WF.empty C L,rfl,rfl,rfl⟩,?_⟩
 .exact mE w _
 .exact((U.refl w []).alloc _).to J
theorem aOf(a b:Nat)(w:aA)(h:1<=a/\a<=1048576/\1<=b/\b<=1048576):
  aK prog 175 #[mj mn a,mj mn b] w (aN2 w a b):=by
 obtain⟨m,d,j,c⟩:=h;have e:(1:Int)<=a:=Y;have l:(a:Int)<=1048576:=Y;have g:(1:Int)<=b:=Y;have i:(b:Int)<=1048576:=Y;go_in;go_wp2;go_ret2;exact aEs ⟨d,c⟩ rfl
theorem pF.aB4{m:M}{ne:Nat}(h:pF w b m na ne va ve)(a:i6 ve=H g)(d:n<ne):h8 w ⟨g,n*3+1,K⟩=H (mj mn (m.en n).lK):=by
 obtain⟨g',cap,rfl,c,_,e,_,_⟩:=h.sM.block Y;obtain rfl:g'=g:=by rw[c]at a;injection a
 exact e n 1 d Y
theorem WF.wM{m:M}{f:Nat->List Nat}(h:WF m f)(a:c∈f n):(m.lk c).oK≠0:=kG (h.Pb a)
def aLz(C L:Nat)(f:Nat->List Nat)(n c r:Int)(f':Nat->List Nat):Prop:=
 (sE n L/\r=41/\f'=f)\/(¬sE n L/\sE c C/\r=42/\f'=f)\/(¬sE n L/\¬sE c C/\(∃k,c.toNat∈f k)/\r=43/\f'=f)\/
 (¬sE n L/\¬sE c C/\(∀k,c.toNat∉f k)/\r=0/\f'=put f n.toNat (f n.toNat++[c.toNat]))
def IJ(w:aA)(b C L:Nat)(fp:List Nat)(bEs:Int->(Nat->List Nat)->Prop)(e:cc)(w':aA):Prop:=
 ∃r f' fo,e=mi (mj mn r)/\nU w' b C L f' fo/\U w fp w' fo/\bEs r f'
theorem ry{f:Nat->List Nat}(n c:Int)(w:aA)(h:nU w b C L f fp):
  aK prog 287 #[lr (H ⟨b,0,K⟩),mj mn n,mj mn c] w (IJ w b C L fp (aLz C L f n c)):=by
 obtain⟨m,na,ne,va,ve,l,a,rfl,rfl,rfl⟩:=h;by_cases u:sE n m.bZ
 .go_in;go_wp2_with (go_at_call 204;apply(UT n w l u).dC;rintro w' rfl);go_ret;exact⟨41,f,_,rfl,⟨m,na,ne,va,ve,l,a,rfl,rfl,rfl⟩,U.refl _ _,.inl ⟨u,rfl,rfl⟩⟩
 obtain⟨n,rfl,v⟩:=sE.no u;have G:=Z u;by_cases q:sE c m.cells
 .go_in;go_wp2_with (first|(go_at_call 204;apply(SF n w l v).cX;rintro e w1 ⟨KA,XB,g,rfl,F,j,i,p⟩)|(go_at_call 293;apply(J9 c w1 i q).dC;rintro w' rfl));go_ret;exact⟨42,f,_,rfl,⟨m,_,_,_,_,i,a,rfl,rfl,rfl⟩,p,.inr (.inl ⟨G,q,rfl,rfl⟩)⟩
 obtain⟨c,rfl,o⟩:=sE.no q;have N:=Z q;by_cases r:(m.lk c).oK=0
 .have z:=(a.wK c).1 r;have CD:(m.en n).size=(f n).length:=by rw[a.Dz n]
  have oC:=a.length n;have qP:=l.hc;have Q:(m.en n).size<1048576:=by
   have h1:(f n++[c]).length<=m.cells:=vS (by rw[Fh];exact⟨a.dD n,J,λx d y t=>by simp at t;subst t;exact λe=>z n (e▸d)⟩) (λx d=>by
    rcases yU.1 d with d|d
    .exact a.eD n x d
    .simp at d;omega)
   simp at h1;omega
  have s0:0<=(m.en n).size:=Y;have MT:(m.en n).lK=jK (f n).getLast? :=by rw[a.Dz n]
  go_in;go_wp2_with (first
   |(go_at_call 204;apply(SF n w l v).cX;rintro e w1 ⟨KA,XB,g,rfl,F,j,i,p⟩)
   |(go_at_call 293;apply(SE c w1 i o r).cX;rintro e w2 ⟨na',Gk,g',rfl,V,F7,s,bM⟩;have vC:=s.aB4 j F;rw[MT]at vC)
   |(go_at_call 294;apply(Cj n c (f n).getLast? K w2 s F V (λx d=>s.lT (a.wM (zcW d))) (λx d=>(by cases d)) (λe=>z n (zcW e)) (λe=>(by cases e)) (λx _ e=>(by cases e)) Q s0).dC;rintro w3 ⟨P,T⟩))
  go_ret;have W:=a.insert v o z (A:=f n) (B:=[]) J;exact⟨0,_,_,rfl,⟨_,_,_,_,_,P,W,JB ..,JA ..,rfl⟩,p.ds (bM.ds T),.inr (.inr (.inr ⟨G,N,z,rfl,rfl⟩))⟩
 .go_in;go_wp2_with (first|(go_at_call 204;apply(SF n w l v).cX;rintro e w1 ⟨KA,XB,g,rfl,F,j,i,p⟩)|(go_at_call 293;apply(C6 c w1 i r).dC;rintro w' rfl));go_ret;let⟨k,A,B,S⟩:=a.has r;exact⟨43,f,_,rfl,⟨m,_,_,_,_,i,a,rfl,rfl,rfl⟩,p,.inr (.inr (.inl ⟨G,N,⟨k,by rw[S];simp⟩,rfl,rfl⟩))⟩
theorem ZM94{P:Prop}(h:P:=by
  go_ret;exact⟨43,f,_,rfl,⟨m,_,_,_,_,hL,hW,rfl,rfl,rfl⟩,U.refl _ _,.inr (.inl ⟨HC,HK,hW.xr hz,rfl,rfl⟩)⟩):P:=h
theorem ZM116{P:Prop}(h:P:=by
  go_ret;exact⟨42,f,_,rfl,⟨m,_,_,_,_,hL,hW,rfl,rfl,rfl⟩,U.refl _ _,.inl ⟨.inl hc,rfl,rfl⟩⟩):P:=h
theorem ZM125{P:Prop}(h:P:=by
  obtain rfl:g'=g:=by rw[KG]at hg;injection hg
  exact⟨dW n 0 hn Y,dW n 1 hn Y,dW n 2 hn Y⟩):P:=h
theorem pF.drew{m:M}{ne:Nat}(h:pF w b m na ne va ve):pF w.drew b m na ne va ve:=
 ⟨h.cF,h.qK,h.sM,h.TX,h.eB,h.hc,h.hl,h.lk0,h.en0⟩
theorem pF.lZ{m:M}{ne:Nat}(h:pF w b m na ne va ve)(hg:i6 va=H g)(hn:n<na):
  h8 w ⟨g,n*3,K⟩=H (mj mn (m.lk n).oK)/\h8 w ⟨g,n*3+1,K⟩=H (mj mn (m.lk n).As)/\h8 w ⟨g,n*3+2,K⟩=H (mj mn (m.lk n).next):=by
 obtain⟨g',cap,rfl,KG,_,dW,_,_⟩:=h.qK.block Y;exact ZM125
theorem pF.zR{m:M}{ne:Nat}(h:pF w b m na ne va ve)(hg:i6 ve=H g)(hn:n<ne):
  h8 w ⟨g,n*3,K⟩=H (mj mn (m.en n).first)/\h8 w ⟨g,n*3+1,K⟩=H (mj mn (m.en n).lK)/\h8 w ⟨g,n*3+2,K⟩=H (mj mn (m.en n).size):=by
 obtain⟨g',cap,rfl,KG,_,dW,_,_⟩:=h.sM.block Y;exact ZM125
theorem pF.NL{m:M}{ne:Nat}(h:pF w b m na ne va ve)(d:c<na):∃g cap,va=jS (H ⟨g,0,K⟩) na cap/\i6 va=H g:=by
 let⟨g,cap,hv,a,_⟩:=h.qK.block Y;exact⟨g,cap,hv,a⟩
theorem pF.aJE{m:M}{ne:Nat}(h:pF w b m na ne va ve)(d:c<ne):∃g cap,ve=jS (H ⟨g,0,K⟩) ne cap/\i6 ve=H g:=by
 let⟨g,cap,hv,a,_⟩:=h.sM.block Y;exact⟨g,cap,hv,a⟩
theorem pF.aGq{m:M}{ne:Nat}{f:Nat->List Nat}(h:pF w b m na ne va ve)(i:WF m f)(g:c∈f n):n<ne:=by
 rcases YB n ne with d|e
 .exact d
 .have a:=i.Dz n;rw[h.en0 n e]at a;injection a with _ _ a;have:=zN g;omega
theorem WF.Pi{m:M}{f:Nat->List Nat}(h:WF m f){k:Nat}{A B:List Nat}(a:f n=A++k::B):A.getLast?≠H k:=by
 intro e;have:=h.dD n;rw[a,Fh]at this;exact this.2.2 k (zcW e) k J rfl
theorem WF.aJF{m:M}{f:Nat->List Nat}(h:WF m f)(j:m.cells<=1048576)(i:c<m.cells)(d:∀n,c∉f n)(n:Nat):(m.en n).size<1048576/\0<=(m.en n).size:=by
 have g:O (f n++[c])<=m.cells:=vS (by rw[Fh];exact⟨h.dD n,J,λx a y b=>by simp at b;subst b;exact λe=>d n (e▸a)⟩) (λx a=>by
  rcases yU.1 a with a|a
  .exact h.eD n x a
  .simp at a;omega)
 simp at g;rw[h.Dz n];show(O (f n):Int)<1048576/\(0:Int)<=O (f n);omega
def Sn(C:Nat)(f:Nat->List Nat)(c k r:Int)(f':Nat->List Nat):Prop:=
 ((sE c C\/sE k C)/\r=42/\f'=f)\/(¬sE c C/\¬sE k C/\(∃n,c.toNat∈f n)/\r=43/\f'=f)\/(¬sE c C/\¬sE k C/\(∀n,c.toNat∉f n)/\(∀n,k.toNat∉f n)/\r=44/\f'=f)\/
 (¬sE c C/\¬sE k C/\(∀n,c.toNat∉f n)/\∃n A B,f n=A++k.toNat::B/\r=0/\f'=put f n (A++c.toNat::k.toNat::B))
theorem WF.xr{m:M}{f:Nat->List Nat}(h:WF m f)(a:(m.lk c).oK≠0):∃n,c∈f n:=by
 let⟨n,A,B,b⟩:=h.has a;exact⟨n,by rw[b];simp⟩
theorem rs{m:M}{ne:Nat}{f:Nat->List Nat}(c k:Int)(w:aA)(hL:pF w b m na ne va ve)(hW:WF m f)(j:sE c m.cells\/sE k m.cells\/(m.lk c.toNat).oK≠0\/(m.lk k.toNat).oK=0):
  aK prog 286 #[lr (H ⟨b,0,K⟩),mj mn c,mj mn k] w (IJ w b m.cells m.bZ (gF b va ve) (Sn m.cells f c k)):=by
 have x:=hL.hc;by_cases i:sE k m.cells
 .clear j;by_cases hc:sE c m.cells
  .go_in;go_wp2_with (first|(go_at_call 234;apply(AK k w hL i).dC;rintro w' rfl)|(go_at_call 293;apply(J9 c w hL hc).dC;rintro w' rfl));exact ZM116
  obtain⟨c,rfl,l⟩:=sE.no hc;have HC:=Z hc;by_cases hz:(m.lk c).oK=0
  .go_in;go_wp2_with (first|(go_at_call 234;apply(AK k w hL i).dC;rintro w' rfl)|(go_at_call 293;apply(SE c w hL l hz).cX;rintro e w2 ⟨q,Gk,g',rfl,u,v,n,p⟩));go_ret;exact⟨42,f,_,rfl,⟨m,_,_,_,_,n,hW,rfl,rfl,rfl⟩,p,.inl ⟨.inr i,rfl,rfl⟩⟩
  .go_in;go_wp2_with (first|(go_at_call 234;apply(AK k w hL i).dC;rintro w' rfl)|(go_at_call 293;apply(C6 c w hL hz).dC;rintro w' rfl));go_ret;exact⟨42,f,_,rfl,⟨m,_,_,_,_,hL,hW,rfl,rfl,rfl⟩,U.refl _ _,.inl ⟨.inr i,rfl,rfl⟩⟩
 obtain⟨k,rfl,d⟩:=sE.no i;have HK:=Z i;rw[zbX]at j;by_cases a:(m.lk k).oK=0
 .clear j;by_cases hc:sE c m.cells
  .go_in;go_wp2_with (first|(go_at_call 234;apply(xQ k w hL d a).dC;rintro w' rfl)|(go_at_call 293;apply(J9 c w hL hc).dC;rintro w' rfl));exact ZM116
  obtain⟨c,rfl,l⟩:=sE.no hc;have HC:=Z hc;by_cases hz:(m.lk c).oK=0
  .go_in;go_wp2_with (first|(go_at_call 234;apply(xQ k w hL d a).dC;rintro w' rfl)|(go_at_call 293;apply(SE c w hL l hz).cX;rintro e w2 ⟨q,Gk,g',rfl,u,v,n,p⟩));go_ret;exact⟨44,f,_,rfl,⟨m,_,_,_,_,n,hW,rfl,rfl,rfl⟩,p,.inr (.inr (.inl ⟨HC,HK,(hW.wK c).1 hz,(hW.wK k).1 a,rfl,rfl⟩))⟩
  .go_in;go_wp2_with (first|(go_at_call 234;apply(xQ k w hL d a).dC;rintro w' rfl)|(go_at_call 293;apply(C6 c w hL hz).dC;rintro w' rfl));exact ZM94
 .let⟨g,cap,hv,r⟩:=hL.NL (hL.lT a);by_cases hc:sE c m.cells
  .clear j;go_in;go_wp2_with (first|(go_at_call 234;apply(wL k w hL a r).dC;rintro w' rfl)|(go_at_call 293;apply(J9 c w hL hc).dC;rintro w' rfl));exact ZM116
  obtain⟨c,rfl,l⟩:=sE.no hc;have HC:=Z hc;have hz:(m.lk c).oK≠0:=by
   rcases j with h|h|h|h
   .exact dY h hc
   .exact dY h HK.o
   .rwa[zbX]at h
   .exact dY h a
  go_in;go_wp2_with (first|(go_at_call 234;apply(wL k w hL a r).dC;rintro w' rfl)|(go_at_call 293;apply(C6 c w hL hz).dC;rintro w' rfl));exact ZM94
theorem aCW{m:M}{ne:Nat}{f:Nat->List Nat}(c k n:Nat)(A B:List Nat)(w:aA)(d:pF w b m na ne va ve)(a:WF m f)(z:c<m.cells)(p:∀n,c∉f n)(j:f n=A++k::B):
  aK prog 286 #[lr (H ⟨b,0,K⟩),mj mn c,mj mn k] w (IJ w b m.cells m.bZ (gF b va ve) (Sn m.cells f c k)):=by
 have F:=(a.wK c).2 p;have N:k∈f n:=by rw[j];simp
 have G:=a.OG n A k B j;have q:(m.lk k).oK≠0:=by rw[G];show(n:Int)+1≠0;omega
 have y:=d.lT q;have eB:=d.aGq a N;have C:¬sE k m.cells:=by have:=d.TX;unfold sE;omega
 have v:¬sE c m.cells:=by unfold sE;omega
 have HK:=Z C;have T:=Z v;have yG:=a.SD N;have hl:=d.hl;let⟨g,cap,hv,W⟩:=d.NL y;go_in;go_wp2_with (first|(go_at_call 234;apply(wL k w d q W).dC;rintro w' rfl)|(go_at_call 293;apply(SE c w d z F).cX;rintro e w2 ⟨V,Gk,g',rfl,o,u,l,bM⟩;have s:=l.lT q;have i:=l.lZ u s;rw[G]at i;obtain⟨Fo,vC,uG⟩:=i;have h1:=l.c1;obtain⟨g2,gW,rfl,r⟩:=l.NL o;obtain rfl:g2=g':=(by rw[r]at u;injection u)));have L:=a.aJF d.hc z p n;have P:=l.drew;go_still_tail 12,dJ;change wpList _ _ _ _ _ w2.drew;go_wp2_with (go_at_call 294;(refine(Cj n c A.getLast? (H k) w2.drew P eB o (λx i=>l.lT (a.wM (a.DE j i))) (λx i=>by cases i;exact s) (λe=>p n (a.DE j e)) (λe=>by cases e;exact q F) (λx i e=>by cases e;exact a.Pi j i) L.1 L.2).mono ?_;rintro e w3 ⟨rfl,h,Q⟩));go_ret;have S:=a.insert yG z p (A:=A) (B:=k::B) j;exact⟨0,_,_,rfl,⟨_,_,_,_,_,h,S,JB ..,JA ..,rfl⟩,bM.ds ((U.refl w2 _).drew.ds Q),.inr (.inr (.inr ⟨T,HK,p,n,A,B,j,rfl,rfl⟩))⟩
theorem rt{f:Nat->List Nat}(c k:Int)(w:aA)(h:nU w b C L f fp):
  uJ 286 #[lr (H ⟨b,0,K⟩),mj mn c,mj mn k] w (IJ w b C L fp (Sn C f c k)):=by
 obtain⟨m,na,ne,va,ve,e,a,rfl,rfl,rfl⟩:=h;by_cases d:sE c m.cells\/sE k m.cells\/(m.lk c.toNat).oK≠0\/(m.lk k.toNat).oK=0
 .exact rs c k w e a d
 .simp only[not_or,ne_eq,Classical.not_not]at d;obtain⟨q,r,g,i⟩:=d;obtain⟨c,rfl,p⟩:=sE.no q;obtain⟨k,rfl,j⟩:=sE.no r;rw[zbX]at g i;let⟨n,A,B,l⟩:=a.has i;exact aCW c k n A B w e a p ((a.wK c).1 g) l
theorem pF.drewN{m:M}{ne:Nat}(h:pF w b m na ne va ve)(k:Nat):pF (w.drewN k) b m na ne va ve:=
 ⟨h.cF,h.qK,h.sM,h.TX,h.eB,h.hc,h.hl,h.lk0,h.en0⟩
theorem WF.Vu{m:M}{f:Nat->List Nat}(_:WF m f){k:Nat}{A B:List Nat}(b:f n=A++k::B)(a:B.head? =H x):x∈f n:=by
 rw[b];exact yU.2 (.inr (UA _ (oj a)))
theorem WF.ww{m:M}{f:Nat->List Nat}(h:WF m f){k:Nat}{A B:List Nat}(a:f n=A++k::B):B.head?≠H k:=by
 intro e;have:=h.dD n;rw[a,Fh]at this;exact(U8.1 this.2.1).1 (oj e)
theorem CQ{l l':jF}(h:h8 w ⟨g,c*3,K⟩=H (mj mn l.oK)/\h8 w ⟨g,c*3+1,K⟩=H (mj mn l.As)/\h8 w ⟨g,c*3+2,K⟩=H (mj mn l.next))(e:l=l'):
  h8 w ⟨g,c*3,K⟩=H (mj mn l'.oK)/\h8 w ⟨g,c*3+1,K⟩=H (mj mn l'.As)/\h8 w ⟨g,c*3+2,K⟩=H (mj mn l'.next):=by
 subst e;exact h
def zw(C:Nat)(f:Nat->List Nat)(c r:Int)(f':Nat->List Nat):Prop:=
 (sE c C/\r=42/\f'=f)\/(¬sE c C/\(∀n,c.toNat∉f n)/\r=44/\f'=f)\/(¬sE c C/\∃n A B,f n=A++c.toNat::B/\r=0/\f'=put f n (A++B))
theorem aAm{m:M}{ne:Nat}{f:Nat->List Nat}(c n:Nat)(A B:List Nat)(w:aA)(j:pF w b m na ne va ve)(r:WF m f)(F:f n=A++c::B):
  aK prog 278 #[lr (H ⟨b,0,K⟩),mj mn c] w (IJ w b m.cells m.bZ (gF b va ve) (zw m.cells f c)):=by
 have jW:c∈f n:=by rw[F];simp
 have N:=r.OG n A c B F;have Px:=r.wM jW;have u:=j.lT Px;have TX:=j.TX;have G:=j.aGq r jW;have hHC:¬sE c m.cells:=by unfold sE;omega
 have HC:=Z hHC;have yG:=r.SD jW;have hl:=j.hl;have qP:=j.hc;have Dj:=r.rO F;let⟨g,cap,hv,d⟩:=j.NL u;let⟨g2,V,A8,l⟩:=j.aJE G;have hgg:g≠g2:=λe=>j.qK.KA j.sM E g d (by rw[l,e]);have GY:g≠b:=λe=>j.qK.ne j.cF E (by rw[d,e]);have a2E:g2≠b:=λe=>j.sM.ne j.cF E (by rw[l,e]);have hx:=j.lZ d u;rw[N]at hx;obtain⟨W,C,y⟩:h8 w (Ad g (c*3))=H (X (n+1))/\h8 w (Ad g (c*3+1))=H (X (jK A.getLast?))/\h8 w (Ad g (c*3+2))=H (X (jK B.head?)):=hx;let⟨Lh,yj,T⟩:=j.zR l G;have Q:=j.c1;have P:=j.c3;have h:=λk=>j.qK.free d k;have Pz:=λk=>j.sM.free l k;have o:=Z j;have CD:(m.en n).size=(f n).length:=by rw[r.Dz n]
 have s1:=r.length n;have s2:=zN jW;have s3:(m.en n).size<=1048576:=Y;have s4:1<=(m.en n).size:=Y;clear CD s1 s2 j hHC;subst hv A8;cases z:A.getLast? with
 |none=>
  cases v:B.head? with
  |none=>
   rw[z,v]at Dj N;rw[z]at C;rw[v]at y;simp only[jK]at C y;clear z v;go_in;go_wp2_with (go_at_call 234;apply(wL c w o Px d).dC;rintro w' rfl);go_quiet (fail);go_wp2;have i:=(o.drewN nq).rW rfl G ((m.en n).size-1);have S:U w (gF b (eC g 0 na cap) (eC g2 0 ne V)) (hY (w.drewN nq) (Ad g2 (n*3+2)) (X ((m.en n).size-1))) (gF b (eC g 0 na cap) (eC g2 0 ne V)):=((U.refl w _).drewN nq).setCell (a:=Ad g2 (n*3+2)) (.inl (vX l)) _;go_ret;exact⟨0,_,_,rfl,⟨_,_,_,_,_,(((((i.uK rfl G (-1)).tL rfl G (-1)).oH rfl u 0).iG rfl u 0).iH rfl u 0),Dj,rfl,rfl,rfl⟩,(((((S.setCell (a:=Ad g2 _) (.inl (vX l)) _).setCell (a:=Ad g2 _) (.inl (vX l)) _).setCell (a:=Ad g _) (.inl (nF d)) _).setCell (a:=Ad g _) (.inl (nF d)) _).setCell (a:=Ad g _) (.inl (nF d)) _),.inr (.inr ⟨HC,n,A,B,F,rfl,rfl⟩)⟩
  |some q=>
   rw[z,v]at Dj N;rw[z]at C;rw[v]at y;simp only[jK]at C y;have L:=o.lT (r.wM (r.Vu F v));have mm:q≠c:=λe=>r.ww F (by rw[v,e]);have n0:¬(c*3=q*3+1):=Y;have n1:¬(c*3+1=q*3+1):=Y;have n2:¬(c*3+2=q*3+1):=Y;have n3:¬(q*3+1=c*3):=Y;have n4:¬(q*3+1=c*3+1):=Y;have n5:¬(q*3+1=c*3+2):=Y;clear z v;go_in;go_wp2_with (go_at_call 234;apply(wL c w o Px d).dC;rintro w' rfl);go_quiet (fail);go_wp2;have i:=(o.drewN nq).rW rfl G ((m.en n).size-1);have S:U w (gF b (eC g 0 na cap) (eC g2 0 ne V)) (hY (w.drewN nq) (Ad g2 (n*3+2)) (X ((m.en n).size-1))) (gF b (eC g 0 na cap) (eC g2 0 ne V)):=((U.refl w _).drewN nq).setCell (a:=Ad g2 (n*3+2)) (.inl (vX l)) _;have x:=i.uK rfl G q;have U3:=S.setCell (a:=Ad g2 (n*3)) (.inl (vX l)) (It q);clear i S;clear W C y Lh yj T Q P h Pz;generalize (hY (hY (w.drewN nq) (Ad g2 (n*3+2)) (X ((m.en n).size-1))) (Ad g2 (n*3)) (It q))=W2 at*;have Q:=x.c1;have P:=x.c3;have h:=λk=>x.qK.free d k;have Pz:=λk=>x.sM.free l k;obtain⟨W,C,y⟩:h8 W2 (Ad g (c*3))=H (X (n+1))/\h8 W2 (Ad g (c*3+1))=H (X (-1))/\h8 W2 (Ad g (c*3+2))=H (It q):=CQ (x.lZ d u) (by exact N);let⟨Lh,yj,T⟩:=x.zR l G;let⟨hj0,hj1,hj2⟩:=x.lZ d L;go_still_tail 15,dJ;change wpList _ _ _ _ _ W2.drew;go_wp2;go_ret;exact⟨0,_,_,rfl,⟨_,_,_,_,_,((((x.iG rfl L (-1)).oH rfl u 0).iG rfl u 0).iH rfl u 0).drew,Dj,rfl,rfl,rfl⟩,((((U3.setCell (a:=Ad g _) (.inl (nF d)) _).setCell (a:=Ad g _) (.inl (nF d)) _).setCell (a:=Ad g _) (.inl (nF d)) _).setCell (a:=Ad g _) (.inl (nF d)) _).drew,.inr (.inr ⟨HC,n,A,B,F,rfl,rfl⟩)⟩
 |some p=>
  cases v:B.head? with
  |none=>
   rw[z,v]at Dj N;rw[z]at C;rw[v]at y;simp only[jK]at C y;have s:=o.lT (r.wM (r.DE F z));have mq:p≠c:=λe=>r.Pi F (by rw[z,e]);have m0:¬(c*3=p*3+2):=Y;have m1:¬(c*3+1=p*3+2):=Y;have m2:¬(c*3+2=p*3+2):=Y;have m3:¬(p*3+2=c*3):=Y;have m4:¬(p*3+2=c*3+1):=Y;have m5:¬(p*3+2=c*3+2):=Y;clear z v;go_in;go_wp2_with (go_at_call 234;apply(wL c w o Px d).dC;rintro w' rfl);go_quiet (fail);go_wp2;have i:=(o.drewN nq).rW rfl G ((m.en n).size-1);have S:U w (gF b (eC g 0 na cap) (eC g2 0 ne V)) (hY (w.drewN nq) (Ad g2 (n*3+2)) (X ((m.en n).size-1))) (gF b (eC g 0 na cap) (eC g2 0 ne V)):=((U.refl w _).drewN nq).setCell (a:=Ad g2 (n*3+2)) (.inl (vX l)) _;clear W C y Lh yj T Q P h Pz;generalize (hY (w.drewN nq) (Ad g2 (n*3+2)) (X ((m.en n).size-1)))=W1 at*;have Q:=i.c1;have P:=i.c3;have h:=λk=>i.qK.free d k;have Pz:=λk=>i.sM.free l k;obtain⟨W,C,y⟩:h8 W1 (Ad g (c*3))=H (X (n+1))/\h8 W1 (Ad g (c*3+1))=H (It p)/\h8 W1 (Ad g (c*3+2))=H (X (-1)):=CQ (i.lZ d u) (by exact N);let⟨Lh,yj,T⟩:=i.zR l G;let⟨Xo,wO,oZ⟩:=i.lZ d s;go_still_tail 15,dJ;change wpList _ _ _ _ _ W1.drew;go_wp2;have L2:=i.iH rfl s (-1);have U2:=S.setCell (a:=Ad g (p*3+2)) (.inl (nF d)) (X (-1));go_ret;exact⟨0,_,_,rfl,⟨_,_,_,_,_,((((L2.tL rfl G p).oH rfl u 0).iG rfl u 0).iH rfl u 0).drew,Dj,rfl,rfl,rfl⟩,((((U2.setCell (a:=Ad g2 _) (.inl (vX l)) _).setCell (a:=Ad g _) (.inl (nF d)) _).setCell (a:=Ad g _) (.inl (nF d)) _).setCell (a:=Ad g _) (.inl (nF d)) _).drew,.inr (.inr ⟨HC,n,A,B,F,rfl,rfl⟩)⟩
  |some q=>
   rw[z,v]at Dj N;rw[z]at C;rw[v]at y;simp only[jK]at C y;have s:=o.lT (r.wM (r.DE F z));have mq:p≠c:=λe=>r.Pi F (by rw[z,e]);have m0:¬(c*3=p*3+2):=Y;have m1:¬(c*3+1=p*3+2):=Y;have m2:¬(c*3+2=p*3+2):=Y;have m3:¬(p*3+2=c*3):=Y;have m4:¬(p*3+2=c*3+1):=Y;have m5:¬(p*3+2=c*3+2):=Y;have L:=o.lT (r.wM (r.Vu F v));have mm:q≠c:=λe=>r.ww F (by rw[v,e]);have n0:¬(c*3=q*3+1):=Y;have n1:¬(c*3+1=q*3+1):=Y;have n2:¬(c*3+2=q*3+1):=Y;have n3:¬(q*3+1=c*3):=Y;have n4:¬(q*3+1=c*3+1):=Y;have n5:¬(q*3+1=c*3+2):=Y;clear z v;go_in;go_wp2_with (go_at_call 234;apply(wL c w o Px d).dC;rintro w' rfl);go_quiet (fail);go_wp2;have i:=(o.drewN nq).rW rfl G ((m.en n).size-1);have S:U w (gF b (eC g 0 na cap) (eC g2 0 ne V)) (hY (w.drewN nq) (Ad g2 (n*3+2)) (X ((m.en n).size-1))) (gF b (eC g 0 na cap) (eC g2 0 ne V)):=((U.refl w _).drewN nq).setCell (a:=Ad g2 (n*3+2)) (.inl (vX l)) _;clear W C y Lh yj T Q P h Pz;generalize (hY (w.drewN nq) (Ad g2 (n*3+2)) (X ((m.en n).size-1)))=W1 at*;have Q:=i.c1;have P:=i.c3;have h:=λk=>i.qK.free d k;have Pz:=λk=>i.sM.free l k;obtain⟨W,C,y⟩:h8 W1 (Ad g (c*3))=H (X (n+1))/\h8 W1 (Ad g (c*3+1))=H (It p)/\h8 W1 (Ad g (c*3+2))=H (It q):=CQ (i.lZ d u) (by exact N);let⟨Lh,yj,T⟩:=i.zR l G;let⟨Xo,wO,oZ⟩:=i.lZ d s;go_still_tail 15,dJ;change wpList _ _ _ _ _ W1.drew;go_wp2;have L2:=i.iH rfl s (q:Int);have U2:=S.setCell (a:=Ad g (p*3+2)) (.inl (nF d)) (It q);have x:=L2.drew;have U3:=U2.drew;clear L2 U2 Xo wO oZ;clear W C y Lh yj T Q P h Pz;generalize (hY W1 (Ad g (p*3+2)) (It q)).drew=W2 at*;have Q:=x.c1;have P:=x.c3;have h:=λk=>x.qK.free d k;have Pz:=λk=>x.sM.free l k;obtain⟨W,C,y⟩:h8 W2 (Ad g (c*3))=H (X (n+1))/\h8 W2 (Ad g (c*3+1))=H (It p)/\h8 W2 (Ad g (c*3+2))=H (It q):=CQ (x.lZ d u) (by exact(R (Ne.symm mq)).ds N);let⟨Lh,yj,T⟩:=x.zR l G;let⟨hj0,hj1,hj2⟩:=x.lZ d L;go_still_tail 15,dJ;change wpList _ _ _ _ _ W2.drew;go_wp2;go_ret;exact⟨0,_,_,rfl,⟨_,_,_,_,_,((((x.iG rfl L p).oH rfl u 0).iG rfl u 0).iH rfl u 0).drew,Dj,rfl,rfl,rfl⟩,((((U3.setCell (a:=Ad g _) (.inl (nF d)) _).setCell (a:=Ad g _) (.inl (nF d)) _).setCell (a:=Ad g _) (.inl (nF d)) _).setCell (a:=Ad g _) (.inl (nF d)) _).drew,.inr (.inr ⟨HC,n,A,B,F,rfl,rfl⟩)⟩
theorem jq{f:Nat->List Nat}(c:Int)(w:aA)(h:nU w b C L f fp):
  aK prog 278 #[lr (H ⟨b,0,K⟩),mj mn c] w (IJ w b C L fp (zw C f c)):=by
 obtain⟨m,na,ne,va,ve,d,e,rfl,rfl,rfl⟩:=h;by_cases a:sE c m.cells
 .go_in;go_wp2_with (go_at_call 234;apply(AK c w d a).dC;rintro w' rfl);go_ret;exact⟨42,f,_,rfl,⟨m,_,_,_,_,d,e,rfl,rfl,rfl⟩,U.refl _ _,.inl ⟨a,rfl,rfl⟩⟩
 obtain⟨c,rfl,j⟩:=sE.no a;have i:=Z a;clear a;by_cases g:(m.lk c).oK=0
 .go_in;go_wp2_with (go_at_call 234;apply(xQ c w d j g).dC;rintro w' rfl);go_ret;exact⟨44,f,_,rfl,⟨m,_,_,_,_,d,e,rfl,rfl,rfl⟩,U.refl _ _,.inr (.inl ⟨i,(e.wK c).1 g,rfl,rfl⟩)⟩
 .let⟨n,A,B,l⟩:=e.has g;exact aAm c n A B w d e l
def a5x(C:Nat)(f:Nat->List Nat)(c:Int)(what:Nat->List Nat->List Nat->Int)(x r:Int):Prop:=
 (sE c C/\x=0/\r=42)\/(¬sE c C/\(∀n,c.toNat∉f n)/\x=0/\r=44)\/(¬sE c C/\∃n A B,f n=A++c.toNat::B/\x=what n A B/\r=0)
def aY3(w:aA)(bEs:Int->Int->Prop)(e:cc)(w':aA):Prop:=∃x r,e=mi (mr #[mj mn x,mj mn r])/\bEs x r/\w=w'
def aO7:Nat->List Nat->List Nat->Int:=λ_ _ B=>jK B.head?
theorem rp{f:Nat->List Nat}(c:Int)(w:aA)(h:nU w b C L f fp):
  aK prog 211 #[lr (H ⟨b,0,K⟩),mj mn c] w (aY3 w (a5x C f c aO7)):=by
 obtain⟨m,na,ne,va,ve,a,i,rfl,rfl,rfl⟩:=h;by_cases e:sE c m.cells
 .go_in;go_wp2_with (go_at_call 234;apply(AK c w a e).dC;rintro w' rfl);go_ret2;exact⟨0,42,rfl,.inl ⟨e,rfl,rfl⟩,rfl⟩
 obtain⟨c,rfl,u⟩:=sE.no e;have p:=Z e;by_cases d:(m.lk c).oK=0
 .go_in;go_wp2_with (go_at_call 234;apply(xQ c w a u d).dC;rintro w' rfl);go_ret2;exact⟨0,44,rfl,.inr (.inl ⟨p,(i.wK c).1 d,rfl,rfl⟩),rfl⟩
 .let⟨n,A,B,j⟩:=i.has d;have r:=i.OG n A c B j;have l:=a.lT d;let⟨g,cap,hv,q⟩:=a.NL l;let⟨y,z,x⟩:=CQ (a.lZ q l) r;have v:=i.SD (c:=c) (n:=n) (by rw[j];simp);have hl:=a.hl;go_in;go_wp2_with (go_at_call 234;apply(wL c w a d q).dC;rintro w' rfl);go_ret2;exact⟨_,0,rfl,.inr (.inr ⟨p,n,A,B,j,rfl,rfl⟩),rfl⟩
def a4C(L:Nat)(f:Nat->List Nat)(n x r:Int):Prop:=
 (sE n L/\x=0/\r=41)\/(¬sE n L/\x=O (f n.toNat)/\r=0)
def aWp(w:aA)(b C L:Nat)(f:Nat->List Nat)(fp:List Nat)(n:Int)(e:cc)(w':aA):Prop:=
 ∃x r fo,e=mi (mr #[mj mn x,mj mn r])/\nU w' b C L f fo/\U w fp w' fo/\a4C L f n x r
theorem aJj{f:Nat->List Nat}(n:Int)(w:aA)(h:nU w b C L f fp):
  aK prog 288 #[lr (H ⟨b,0,K⟩),mj mn n] w (aWp w b C L f fp n):=by
 obtain⟨m,na,ne,va,ve,d,i,rfl,rfl,rfl⟩:=h;by_cases a:sE n m.bZ
 .go_in;go_wp2_with (go_at_call 204;apply(UT n w d a).dC;rintro w' rfl);go_ret2;exact⟨0,41,_,rfl,⟨m,_,_,_,_,d,i,rfl,rfl,rfl⟩,U.refl _ _,.inl ⟨a,rfl,rfl⟩⟩
 .obtain⟨n,rfl,q⟩:=sE.no a;have u:=Z a;go_in;go_wp2_with (go_at_call 204;apply(SF n w d q).cX;rintro e w1 ⟨KA,XB,g,rfl,p,c,j,r⟩;have l:=j.zR c p;rw[i.Dz n]at l;obtain⟨x,y,v⟩:=l);go_ret2;exact⟨_,0,_,rfl,⟨m,_,_,_,_,j,i,rfl,rfl,rfl⟩,r,.inr ⟨u,rfl,rfl⟩⟩
variable{B':List Nat}
section
theorem ZM172{P:Prop}(h:P:=by
  have:=Ek hC hr hC' hu;exact⟨_,rfl,this.1,this.2⟩):P:=h
def ChT(w:aA)(ρ:bC)(t b C L:Nat)(f:Nat->List Nat):Prop:=∃fp,nU w b C L f fp/\∀k,k∈fp->ρ k=t
section
variable{w w':aA}{ρ bV:bC}{t b C L:Nat}{f f':Nat->List Nat}{fp fo:List Nat}{S:Nat->Prop}
theorem pF.aC{m:M}{ne:Nat}(h:pF w b m na ne va ve)(c:∀k,k∈gF b va ve->w'.heap[k]? =w.heap[k]?):pF w' b m na ne va ve:=
 {h with cF:=(c b Qz).ds h.cF,qK:=h.qK.aC (λg a=>c g (nF a)),sM:=h.sM.aC (λg a=>c g (vX a))}
theorem ChT.eb(h:ChT w ρ t b C L f)(c:bI w ρ S w' bV)(n:¬S t):ChT w' bV t b C L f:=by
 obtain⟨fp,d,j⟩:=h;have e:=d.lt;obtain⟨m,na,ne,va,ve,g,l,i,hl,rfl⟩:=d;refine⟨gF b va ve,⟨m,na,ne,va,ve,g.aC (λk a=>c.block k (e k a) BC),l,i,hl,rfl⟩,λk a=>(c.cE k (e k a)).ds (j k a)⟩
theorem Ek(g:nU w b C L f fp)(e:∀k,k∈fp->ρ k=t)(a:nU w' b C L f' fo)(d:U w fp w' fo):
  bI w ρ (·=t) w' (up w t ρ)/\ChT w' (up w t ρ) t b C L f':=by
 refine⟨d.fK t λk c=> .inl (e k c),fo,a,λk c=> ?_⟩;rcases d.fresh k c with h|h<;>grind [fG,cY]
def aLy(w:aA)(ρ:bC)(t b C L:Nat)(f':Nat->List Nat)(v:aE)(e:cc)(w':aA):Prop:=
 ∃bV,e=mi v/\bI w ρ (·=t) w' bV/\ChT w' bV t b C L f'
theorem nU.aJp(h:nU w b C L f fp){k:Nat}(e:c∈f n)(d:c∈f k):n=k:=by
 obtain⟨m,na,ne,va,ve,g,a,_,_,_⟩:=h;have a1:=a.Pb e;have a2:=a.Pb d;omega
theorem nU.aOc(h:nU w b C L f fp)(n:Nat):(f n).Nodup:=by
 obtain⟨m,na,ne,va,ve,c,a,_,_,_⟩:=h;exact a.dD n
theorem Ja:∀{A B A' B':List Nat},(A++c::B).Nodup->A++c::B=A'++c::B'->A=A'/\B=B'
 |[],B,[],B',_,h=>⟨rfl,by simpa using h⟩
 |[],B,x::A',B',hn,h=>by
  grind
 |x::A,B,[],B',hn,h=>by
  grind
 |x::A,B,y::A',B',hn,h=>by
  simp only[L1,List.cons.injEq]at h;obtain⟨rfl,h⟩:=h;simp only[zbZ,U8]at hn;obtain⟨rfl,rfl⟩:=Ja hn.2 h;exact⟨rfl,rfl⟩
theorem nU.cut(h:nU w b C L f fp){k:Nat}{A B A':List Nat}(a:f n=A++c::B)(d:f k=A'++c::B'):n=k/\A=A'/\B=B':=by
 obtain rfl:=h.aJp (c:=c) (n:=n) (k:=k) (by rw[a];simp) (by rw[d];simp);obtain⟨rfl,rfl⟩:=Ja (a▸h.aOc n) (a.symm.ds d);grind
theorem J5{L:Nat}:sE (n:Int) L↔L<=n:=by unfold sE;omega
theorem nU.eD(h:nU w b C L f fp)(a:c∈f n):c<C:=by
 obtain⟨m,na,ne,va,ve,e,d,rfl,_,_⟩:=h;exact d.eD n c a
theorem aLO(a c t:Nat)(w:aA)(ρ:bC)(h:1<=a/\a<=1048576/\1<=c/\c<=1048576):
  uJ 175 #[mj mn a,mj mn c] w λe w'=>∃b,e=mi (mr #[lr (H ⟨b,0,K⟩),mj mn 0])/\U w [] w' []/\ChT w' (up w t ρ) t b a c (λ_=>[]):=by
 apply(aOf a c w h).cX;rintro e w' ⟨b,rfl,j,d,g⟩;exact⟨b,rfl,g.nil,[b],d,λk i=>by grind [cY]⟩
theorem ro(w:aA)(h:ChT w ρ t b C L f)(i:n<L)(l:c<C)(j:∀k,c∉f k):
  uJ 287 #[lr (H ⟨b,0,K⟩),mj mn n,mj mn c] w (aLy w ρ t b C L (put f n (f n++[c])) (mj mn 0)):=by
 obtain⟨fp,hC,hr⟩:=h;apply(ry n c w hC).cX;rintro e w' ⟨r,f',fo,rfl,hC',hu,a⟩;have g:¬sE (n:Int) L:=λh=>by grind [J5]
 have e2:¬sE (c:Int) C:=λh=>by grind [J5]
 rcases a with⟨a1,_⟩|⟨_,d,_⟩|⟨_,_,⟨k,c1⟩,_⟩|⟨_,_,_,rfl,rfl⟩
 .exact dY a1 g
 .exact dY d e2
 .grind
 .exact ZM172
theorem rn{k:Nat}{A B:List Nat}(w:aA)(h:ChT w ρ t b C L f)(x:c<C)(u:∀k,c∉f k)(i:f n=A++k::B):
  uJ 286 #[lr (H ⟨b,0,K⟩),mj mn c,mj mn k] w (aLy w ρ t b C L (put f n (A++c::k::B)) (mj mn 0)):=by
 obtain⟨fp,a,q⟩:=h;have p:k<C:=a.eD (n:=n) (by rw[i];simp);apply(rt c k w a).cX;rintro e w' ⟨r,f',fo,rfl,d,l,m⟩;have v:¬sE (k:Int) C:=λh=>by grind [J5]
 have e2:¬sE (c:Int) C:=λh=>by grind [J5]
 rcases m with⟨a1,_⟩|⟨_,_,⟨j,c1⟩,_⟩|⟨_,_,_,g,_⟩|⟨_,_,_,n',A',B',g,rfl,rfl⟩
 .grind
 .grind
 .grind
 .rw[Int.toNat_natCast]at g;obtain⟨rfl,rfl,rfl⟩:=a.cut i g;have:=Ek a q d l;rw[zbX,zbX]at this;exact⟨_,rfl,this.1,this.2⟩
theorem rj{A B:List Nat}(w:aA)(h:ChT w ρ t b C L f)(d:f n=A++c::B):
  uJ 278 #[lr (H ⟨b,0,K⟩),mj mn c] w (aLy w ρ t b C L (put f n (A++B)) (mj mn 0)):=by
 obtain⟨fp,hC,hr⟩:=h;have g:c<C:=hC.eD (n:=n) (by rw[d];simp);apply(jq c w hC).cX;rintro e w' ⟨r,f',fo,rfl,hC',hu,i⟩;have e2:¬sE (c:Int) C:=λh=>by grind [J5]
 rcases i with⟨a1,_⟩|⟨_,a,_⟩|⟨_,n',A',B',a,rfl,rfl⟩
 .exact dY a1 e2
 .grind
 .rw[Int.toNat_natCast]at a;obtain⟨rfl,rfl,rfl⟩:=hC.cut d a;exact ZM172
theorem aHH{A B:List Nat}(w:aA)(h:ChT w ρ t b C L f)(g:f n=A++c::B):
  uJ 211 #[lr (H ⟨b,0,K⟩),mj mn c] w λe w'=>e=mi (mr #[mj mn (jK B.head?),mj mn 0])/\w=w':=by
 obtain⟨fp,a,l⟩:=h;have i:c<C:=a.eD (n:=n) (by rw[g];simp);apply(rp c w a).cX;rintro e w' ⟨x,r,rfl,j,rfl⟩;have e2:¬sE (c:Int) C:=λh=>by grind [J5]
 rcases j with⟨a1,_⟩|⟨_,d,_⟩|⟨_,n',A',B',d,rfl,rfl⟩
 .exact dY a1 e2
 .grind
 .rw[Int.toNat_natCast]at d;obtain⟨rfl,rfl,rfl⟩:=a.cut g d;exact⟨rfl,rfl⟩
theorem aLP(w:aA)(h:ChT w ρ t b C L f)(d:n<L):
  uJ 288 #[lr (H ⟨b,0,K⟩),mj mn n] w (aLy w ρ t b C L f (mr #[mj mn (O (f n)),mj mn 0])):=by
 obtain⟨fp,hC,hr⟩:=h;apply(aJj n w hC).cX;rintro e w' ⟨x,r,fo,rfl,hC',hu,c⟩;have a:¬sE (n:Int) L:=λh=>by grind [J5]
 rcases c with⟨a1,_⟩|⟨_,rfl,rfl⟩
 .exact dY a1 a
 .exact ZM172
end
end
section
theorem ZM49{P:Prop}(h:P:=by
  rw[R h];by_cases hx:∃j:Nat,l= .int mn (j:Int)
  .obtain⟨j,rfl⟩:=hx;have Q7:j≠i:=λe=>h (by rw[e]);cases hf:f j with
   |none=>rw[oI hf,oI (by simp[BZ,Q7,hf])]
   |some g'=>rw[mM hf,mM (g:=g') (by simp[BZ,Q7,hf])]
  .rw[AJ (λj e=>hx ⟨j,e⟩),AJ (λj e=>hx ⟨j,e⟩)]):P:=h
structure iM where
 bT:Nat
 aH:Nat
 gs:List (List Nat)
 bG:nV aE
 bZ:nV aE
 lJ:Nat->Option Nat
 rc:Nat
 fP:Nat->Option Nat
 lc:Nat
 wX:List Nat->Option Int
 wc:Nat
 sB:Nat->List Nat->Option Int
 gc:Nat->Nat
 nM:Nat->List Nat
 row:Nat->Row
def iM.bQ(m:iM):Nat:=O m.gs+1
structure JW where
 b:Nat
 ga:Option cg
 sC:Nat
 yR:List aE
 ha:Option cg
 jD:Nat
 XR:List Nat
 sb:Nat
 rm:Nat
 wb:Nat
 lb:Nat
 Fm:Nat
 ob:Nat
def sS(i g:Nat):aE:= .agg #[mj mn (i:Int),mj mn (g:Int)]
noncomputable def qM(f:Nat->Option Nat):Lit->Option aE:=λl=>open Classical in
 if h:∃i g:Nat,l= .int mn (i:Int)/\f i=H g then H (sS h.choose h.choose_spec.choose)else K
theorem Oz(h:(Lit.int mn (i:Int))= .int mn (j:Int)):i=j:=by injection h with _ h;exact Int.ofNat.inj h
theorem mM{f:Nat->Option Nat}(h:f i=H g):qM f (.int mn (i:Int))=H (sS i g):=by
 unfold qM;have a:∃j g':Nat,(Lit.int mn (i:Int))= .int mn (j:Int)/\f j=H g':=⟨i,g,rfl,h⟩;rw[dif_pos a];have gP:∀j g':Nat,(Lit.int mn (i:Int))= .int mn (j:Int)/\f j=H g'->sS j g'=sS i g:=by
  rintro j g' ⟨e,b⟩;obtain rfl:=Oz e;rw[h]at b;rw[Option.some.inj b]
 exact xE H (gP _ _ a.choose_spec.choose_spec)
theorem oI{f:Nat->Option Nat}(h:f i=K):qM f (.int mn (i:Int))=K:=by
 unfold qM;rw[dif_neg];rintro⟨j,g,e,a⟩;rw[<-Oz e,h]at a;cases a
theorem AJ{f:Nat->Option Nat}{l:Lit}(h:∀i:Nat,l≠ .int mn (i:Int)):qM f l=K:=by
 unfold qM;rw[dif_neg];rintro⟨j,g,e,a⟩;exact h j e
def BZ(f:Nat->Option Nat)(i:Nat)(g:Option Nat):Nat->Option Nat:=λj=>if j=i then g else f j
theorem VS(f:Nat->Option Nat)(i g:Nat):∀l,qM (BZ f i (H g)) l=Vw (qM f) (.int mn (i:Int)) (sS i g) l:=λl=>by
 unfold Vw;by_cases h:l= .int mn (i:Int)
 .subst h;rw[bW rfl,mM (g:=g) (by simp[BZ])]
 .exact ZM49
theorem VT(f:Nat->Option Nat)(i:Nat):∀l,qM (BZ f i K) l=aBR (qM f) (.int mn (i:Int)) l:=λl=>by
 unfold aBR;by_cases h:l= .int mn (i:Int)
 .subst h;rw[bW rfl,oI (by simp[BZ])]
 .exact ZM49
def GA(v:aE):Nat->aE:=λ_=>v
def Zd(b:Nat):Nat->aE:=λ_=>lr (H ⟨b,0,K⟩)
structure fq(w:aA)(ρ:bC)(β:Nat)(L:JW)(m:iM)(mk:Bool)(uv:aE):Prop where
 cF:w.heap[L.b]? =H (kd #[mj mn m.bT,mj mn m.aH,mj mn m.bQ,jS L.ga (O m.gs) L.sC,lr (H ⟨L.sb,0,K⟩),.map (H L.rm),lr (H ⟨L.wb,0,K⟩),jS L.ha (O m.gs) L.jD,lr (H ⟨L.lb,0,K⟩),.map (H L.Fm),lr (H ⟨L.ob,0,K⟩),nj mk,uv] 255 (0,0))
 cE:ρ L.b=β
 gvl:O L.yR=O m.gs
 gbl:O L.XR=O m.gs
 gR:lW GA undef 1 w ρ β (jS L.ga (O m.gs) L.sC) L.yR
 gE:∀k,k<O m.gs->lW fN 0 1 w ρ β (hJ L.yR k undef) (hJ m.gs k [])
 hR:lW Zd 0 1 w ρ β (jS L.ha (O m.gs) L.jD) L.XR
 xA:m.bT<=30
 kw:1<=m.aH/\m.aH<=65536
 oE:O m.gs<=4
 f8:∀k,k<O m.gs->O (hJ m.gs k [])<=30/\∀c∈hJ m.gs k [],c<m.bT
structure iW(w:aA)(ρ:bC)(β:Nat)(L:JW)(m:iM)(mk:Bool)(uv:aE):Prop where
 kW:fq w ρ β L m mk uv
 bG:BV w ρ (β+1) L.sb m.bG
 lJ:gM w 3 L.rm (qM m.lJ) m.rc
 J2:ρ L.rm=β+2
 bZ:PH w ρ (β+3) L.lb m.bZ
 fP:gM w 3 L.Fm (qM m.fP) m.lc
 xP:ρ L.Fm=β+4
 nM:ChT w ρ (β+5) L.ob (m.aH*m.bQ) (m.aH*m.bQ+1) m.nM
 cG:∀i v,m.bG.pP i=H v->zv w ρ (β+6) v (m.row i)
 wX:Ix w ρ (β+8) L.wb m.aH m.wX m.wc
 sB:∀k,k<O m.gs->Ix w ρ (β+10+2*k) (hJ L.XR k 0) m.aH (m.sB k) (m.gc k)
section
variable{w w':aA}{ρ bV:bC}{β:Nat}{L:JW}{m:iM}{mk:Bool}{uv:aE}{S:Nat->Prop}
theorem fq.eb(h:fq w ρ β L m mk uv)(a:bI w ρ S w' bV)(b:¬S β):fq w' bV β L m mk uv:=
 ⟨a.aC h.cF (h.cE▸b),(a.cE _ (dG h.cF)).ds h.cE,h.gvl,h.gbl,h.gR.eb a b,λk c=>(h.gE k c).eb a b,h.hR.eb a b,h.xA,h.kw,h.oE,h.f8⟩
theorem iW.eb(h:iW w ρ β L m mk uv)(a:bI w ρ S w' bV)(b:∀c,c<20->¬S (β+c)):iW w' bV β L m mk uv:=
 ⟨h.kW.eb a (b 0 Y),h.bG.eb a (b 1 Y),h.lJ.eb a (h.J2▸b 2 Y),(a.cE _ h.lJ.lt).ds h.J2,h.bZ.eb a (b 3 Y),
  h.fP.eb a (h.xP▸b 4 Y),(a.cE _ h.fP.lt).ds h.xP,h.nM.eb a (b 5 Y),λi v hv=>(h.cG i v hv).eb a (b 6 Y),h.wX.eb a (b 8 Y) (b 9 Y),
  λk g=>by
   have:=h.kW.oE;have e:β+10+2*k=β+(10+2*k):=Y;have d:β+10+2*k+1=β+(11+2*k):=Y;exact(h.sB k g).eb a (e▸b _ Y) (d▸b _ Y)⟩
theorem iW.on(h:iW w ρ β L m mk uv)(a:U w [] w' L'):iW w' ρ β L m mk uv:=h.eb (S:=eZ) a.fL vF
end
end
variable{mk:Bool}{lane β:Nat}{gP:Row}{uv:aE}
section
abbrev mT:=Row×Nat
def cQ(m:iM)(k:Nat)(r:Row):Row:=dF r (hJ m.gs k [])
def eL(m:iM)(lane:Nat)(e:mT):Nat:=e.2*m.bQ+lane
def RK{α:Type}(f:Nat->α)(j:Nat)(x:α):Nat->α:=λk=>if k=j then x else f k
theorem eK{α:Type}(f:Nat->α)(j:Nat)(x:α):RK f j x j=x:=bW rfl
theorem dB{α:Type}(f:Nat->α){k:Nat}(x:α)(h:k≠j):RK f j x k=f k:=R h
def BN(f:Nat->Nat):Nat->Nat
 |0=>0
 |n+1=>BN f n+f n
theorem Up{f:Nat->Nat}:∀{n:Nat},(∀k,k<n->f k<=c)->BN f n<=n*c
 |0,_=>by simp[BN]
 |n+1,h=>by
  have d:=Up (n:=n) (λk b=>h k Y);have a:=h n Y;rw[Nat.succ_mul];simp only[BN];omega
theorem IY{f g:Nat->Nat}:∀{n:Nat},(∀k,k<n->f k=g k)->BN f n=BN g n
 |0,_=>rfl
 |n+1,h=>by simp only[BN];rw[IY (n:=n) (λk a=>h k Y),h n Y]
theorem ZS(f:Nat->Nat)(j x:Nat):∀{n:Nat},j<n->BN (RK f j x) n+f j=BN f n+x
 |0,h=>dY h (Gd j)
 |n+1,h=>by
  simp only[BN];by_cases e:j=n
  .subst e;rw[eK,IY (g:=f) (λk b=>dB f x Y)];omega
  .have:=ZS f j x (n:=n) Y;rw[dB f x (λa=>e a.symm)];omega
theorem Pf{α:Type}[DecidableEq α]:∀{l m:List α},l.Nodup->(∀x,x∈l->x∈m)->O l<=O m
 |[],_,_,_=>O9 _
 |x::l,m,hd,h=>by
  rw[U8]at hd;have a:=h x J;have c:=Pf (m:=m.erase x) hd.2 λy b=>(B2 (λe=>by subst e;exact hd.1 b)).2 (h y (by simp[b]));rw[List.length_erase_of_mem a]at c;have:=zN a;simp only[TT];omega
structure jY(m:iM)(T:List mT)(F G:Nat):Prop where
 wf:R6 m.bG F G
 aH:m.bG.aH=m.aH
 jE:m.bG.jE=1073741824
 aM:m.bG.aM=O T
 KZ:O T<=m.aH
 dP:∀i,m.bG.dP i=qT↔∃r,(r,i)∈T
 row:∀r i,(r,i)∈T->m.row i=r
 dD:(T.map (·.2)).Nodup
 good:∀r i,(r,i)∈T->dU r/\O r=m.bT
 lJ:∀i,m.lJ i=if m.bG.dP i then H (m.bG.kF i)else K
 rc:m.rc=O T
 wher1:∀r i,(r,i)∈T->m.wX (bR r)=H (i:Int)
 wher0:∀p,(∀r i,(r,i)∈T->bR r≠p)->m.wX p=K
 wc:m.wc=O T
structure eM(m:iM)(bEq:Nat->List mT)(ks:Nat->List Row)(F G:Nat):Prop where
 wf:R6 m.bZ F G
 aH:m.bZ.aH=m.aH*m.bQ
 jE:m.bZ.jE=1073741824
 ord0:m.nM 0=(bEq 0).map (eL m 0)
 grp1:∀k gP,k<O m.gs->gP∈ks k->∃n:Nat,m.sB k (bR gP)=H ((n:Int)+1)/\m.bZ.dP n=qT/\m.nM (n+1)=((bEq (k+1)).filter λe=>cQ m k e.1=gP).map (eL m (k+1))
 ksE:∀k gP,k<O m.gs->(gP∈ks k↔∃e,e∈bEq (k+1)/\cQ m k e.1=gP)
 dD:∀k,(ks k).Nodup
 grp0:∀k p,k<O m.gs->(∀gP,gP∈ks k->bR gP≠p)->m.sB k p=K
 gc:∀k,k<O m.gs->m.gc k=O (ks k)
 inj:∀k k' p p' x,k<O m.gs->k'<O m.gs->m.sB k p=H x->m.sB k' p'=H x->k=k'/\p=p'
 cZ:∀n,m.bZ.dP n=qT->∃k gP,k<O m.gs/\gP∈ks k/\m.sB k (bR gP)=H ((n:Int)+1)
 aM:m.bZ.aM<=BN (λk=>O (ks k)) (O m.gs)
 JQ:∀n,m.bZ.dP n=rR->m.nM (n+1)=[]
 fP:∀n,m.fP n=if m.bZ.dP n then H (m.bZ.kF n)else K
 lc:m.lc=m.bZ.aM
 goodE:∀k e,k<=O m.gs->e∈bEq k->dU e.1/\O e.1=m.bT
 vN:∀k,k<=O m.gs->((bEq k).map (·.2)).Nodup
 oE:∀k,k<=O m.gs->O (bEq k)<=m.aH
structure KM(m:iM):Prop where
 xA:m.bT<=30
 kw:1<=m.aH/\m.aH<=65536
 oE:O m.gs<=4
 f8:∀k,k<O m.gs->O (hJ m.gs k [])<=30/\∀c∈hJ m.gs k [],c<m.bT
theorem fq.yA{L:JW}{m:iM}(h:fq w ρ β L m mk uv):KM m:=⟨h.xA,h.kw,h.oE,h.f8⟩
theorem dU.dF(h:dU r)(hl:O f8<=30)(d:∀c∈f8,c<O r):dU (YtohhhhfdpceppaaGreatDoor.dF r f8):=by
 have hv:∀v∈YtohhhhfdpceppaaGreatDoor.dF r f8,v∈r:=λv hv=>by
  obtain⟨c,a,rfl⟩:=AE.1 hv;exact bO (d c a)
 refine⟨?_,λv b=>h.2 v (hv v b)⟩;unfold dS;rw[sV,kY hl,VN,Tv];intro v b;exact(h.cG v (hv v b)).1
theorem mO{m:iM}(hs:KM m)(b:dU r)(d:O r=m.bT){k:Nat}(a:k<O m.gs):dU (cQ m k r)/\O (cQ m k r)=O (hJ m.gs k []):=
 ⟨b.dF (hs.f8 k a).1 (λc e=>by rw[d];exact(hs.f8 k a).2 c e),sV _ _⟩
theorem q'{m:iM}{a:Nat}(ha:a<m.bQ)(d:b<m.bQ)(h:i*m.bQ+a=j*m.bQ+b):i=j/\a=b:=by
 have g:(i*m.bQ+a)/m.bQ=i:=by rw[I2,SN Y,L3 ha];rfl
 have c:(j*m.bQ+b)/m.bQ=j:=by rw[I2,SN Y,L3 d];rfl
 have e:i=j:=by rw[<-g,h,c]
 subst e;exact⟨rfl,Y⟩
section
variable{m:iM}{bEq:Nat->List mT}{ks:Nat->List Row}{F G:Nat}
theorem eM.mO(h:eM m bEq ks F G)(hs:KM m){k:Nat}(a:k<O m.gs)(b:gP∈ks k):dU gP:=by
 obtain⟨e,c,rfl⟩:=(h.ksE k gP a).1 b;have:=h.goodE (k+1) e Y c;exact(YtohhhhfdpceppaaGreatDoor.mO hs this.1 this.2 a).1
theorem eM.aJm(h:eM m bEq ks F G)(hs:KM m){k:Nat}(a:k<O m.gs)(c:dU gP)(d:gP∉ks k):m.sB k (bR gP)=K:=
 h.grp0 k _ a λ_ b e=>d (oJ (h.mO hs a b) c e▸b)
theorem eM.aMZ(h:eM m bEq ks F G){k:Nat}(a:k<O m.gs):O (ks k)<=O (bEq (k+1)):=by
 have:=Pf (l:=ks k) (m:=(bEq (k+1)).map λe=>cQ m k e.1) (h.dD k) λx b=>by
  let⟨e,c,a⟩:=(h.ksE k x a).1 b;exact AE.2 ⟨e,c,a⟩
 simpa using this
theorem eM.room(h:eM m bEq ks F G)(hs:KM m):m.bZ.aM<m.bZ.aH:=by
 have d:=Up (f:=λk=>O (ks k)) (c:=m.aH) (n:=O m.gs) λk a=>j8 (h.aMZ a) (h.oE (k+1) Y);have b:=h.aM;rw[h.aH];unfold iM.bQ;rw[Nat.mul_succ,I2 m.aH];have:=hs.kw.1;omega
theorem eM.fresh(h:eM m bEq ks F G){s:Nat}(hl:lane<m.bQ)(hs:∀e,e∈bEq lane->e.2≠s):∀x,s*m.bQ+lane∉m.nM x:=by
 have q:m.bQ=O m.gs+1:=rfl;intro x a;cases x with
 |zero=>
  rw[h.ord0]at a;let⟨e,b,d⟩:=AE.1 a;let⟨c,e2⟩:=q' Y hl d;subst e2;exact hs e b c
 |succ n=>
  cases ha:m.bZ.dP n with
  |false=>rw[h.JQ n ha]at a;cases a
  |true=>
   let⟨k,gP,i,p,l⟩:=h.cZ n ha;obtain⟨n',g,-,j⟩:=h.grp1 k gP i p;rw[l]at g;have:n'=n:=kX (Option.some.inj g);subst this;rw[j]at a;let⟨e,b,d⟩:=AE.1 a;let⟨c,e2⟩:=q' Y hl d;subst e2;exact hs e ((LC.1 b).1) c
end
end
variable{A':nV aE}{row':Nat->Row}{u:aE}
section
theorem fq.Bm{w:aA}{ρ:bC}{β:Nat}{L:JW}{m m':iM}{mk:Bool}{uv:aE}(h:fq w ρ β L m mk uv)(i:m'.bT=m.bT)(e2:m'.aH=m.aH)(c:m'.gs=m.gs):fq w ρ β L m' mk uv:=by
 have r:m'.bQ=m.bQ:=by unfold iM.bQ;rw[c]
 obtain⟨l,u,j,n,e,g,p,q,d,b,a⟩:=h;rw[<-i,<-e2,<-c,<-r]at l;rw[<-c]at j n e g p b a;rw[<-i]at q a;rw[<-e2]at d;exact⟨l,u,j,n,e,g,p,q,d,b,a⟩
section
variable{w w':aA}{ρ bV:bC}{β:Nat}{L:JW}{m:iM}{mk:Bool}{uv:aE}
theorem iW.Ux(h:iW w ρ β L m mk uv)(a:bI w ρ (·=β+1) w' bV)(b:BV w' bV (β+1) L.sb A')(hv:∀i v,A'.pP i=H v->zv w' bV (β+6) v (row' i)):iW w' bV β L {m with bG:=A',row:=row'} mk uv:=
 ⟨(h.kW.eb a Y).Bm rfl rfl rfl,
  b,
  h.lJ.eb a (kG h.J2),
  (a.cE _ h.lJ.lt).ds h.J2,
  h.bZ.eb a Y,
  h.fP.eb a (kG h.xP),
  (a.cE _ h.fP.lt).ds h.xP,
  h.nM.eb a Y,
  hv,
  h.wX.eb a Y Y,
  λk c=>(h.sB k c).eb a Y Y⟩
theorem iW.vp(h:iW w ρ β L m mk uv)(a:bI w ρ (·=β+2) w' bV){f:Nat->Option Nat}(b:gM w' 3 L.rm (qM f) c):iW w' bV β L {m with lJ:=f,rc:=c} mk uv:=
 ⟨(h.kW.eb a Y).Bm rfl rfl rfl,
  h.bG.eb a Y,
  b,
  (a.cE _ h.lJ.lt).ds h.J2,
  h.bZ.eb a Y,
  h.fP.eb a (kG h.xP),
  (a.cE _ h.fP.lt).ds h.xP,
  h.nM.eb a Y,
  λi v hv=>(h.cG i v hv).eb a Y,
  h.wX.eb a Y Y,
  λk d=>(h.sB k d).eb a Y Y⟩
theorem iW.Uz(h:iW w ρ β L m mk uv)(a:bI w ρ (·=β+3) w' bV)(b:PH w' bV (β+3) L.lb A'):iW w' bV β L {m with bZ:=A'} mk uv:=
 ⟨(h.kW.eb a Y).Bm rfl rfl rfl,
  h.bG.eb a Y,
  h.lJ.eb a (kG h.J2),
  (a.cE _ h.lJ.lt).ds h.J2,
  b,
  h.fP.eb a (kG h.xP),
  (a.cE _ h.fP.lt).ds h.xP,
  h.nM.eb a Y,
  λi v hv=>(h.cG i v hv).eb a Y,
  h.wX.eb a Y Y,
  λk c=>(h.sB k c).eb a Y Y⟩
theorem iW.Uy(h:iW w ρ β L m mk uv)(a:bI w ρ (·=β+4) w' bV){f:Nat->Option Nat}(b:gM w' 3 L.Fm (qM f) c):iW w' bV β L {m with fP:=f,lc:=c} mk uv:=
 ⟨(h.kW.eb a Y).Bm rfl rfl rfl,
  h.bG.eb a Y,
  h.lJ.eb a (kG h.J2),
  (a.cE _ h.lJ.lt).ds h.J2,
  h.bZ.eb a Y,
  b,
  (a.cE _ h.fP.lt).ds h.xP,
  h.nM.eb a Y,
  λi v hv=>(h.cG i v hv).eb a Y,
  h.wX.eb a Y Y,
  λk d=>(h.sB k d).eb a Y Y⟩
theorem iW.Ai(h:iW w ρ β L m mk uv)(a:bI w ρ (·=β+5) w' bV){f:Nat->List Nat}(b:ChT w' bV (β+5) L.ob (m.aH*m.bQ) (m.aH*m.bQ+1) f):iW w' bV β L {m with nM:=f} mk uv:=
 ⟨(h.kW.eb a Y).Bm rfl rfl rfl,
  h.bG.eb a Y,
  h.lJ.eb a (kG h.J2),
  (a.cE _ h.lJ.lt).ds h.J2,
  h.bZ.eb a Y,
  h.fP.eb a (kG h.xP),
  (a.cE _ h.fP.lt).ds h.xP,
  b,
  λi v hv=>(h.cG i v hv).eb a Y,
  h.wX.eb a Y Y,
  λk c=>(h.sB k c).eb a Y Y⟩
theorem iW.Nu(h:iW w ρ β L m mk uv)(a:bI w ρ (·=β+8) w' bV){f:List Nat->Option Int}(b:Ix w' bV (β+8) L.wb m.aH f c):iW w' bV β L {m with wX:=f,wc:=c} mk uv:=
 ⟨(h.kW.eb a Y).Bm rfl rfl rfl,
  h.bG.eb a Y,
  h.lJ.eb a (kG h.J2),
  (a.cE _ h.lJ.lt).ds h.J2,
  h.bZ.eb a Y,
  h.fP.eb a (kG h.xP),
  (a.cE _ h.fP.lt).ds h.xP,
  h.nM.eb a Y,
  λi v hv=>(h.cG i v hv).eb a Y,
  b,
  λk d=>(h.sB k d).eb a Y Y⟩
def BY(g:Nat->List Nat->Option Int)(j:Nat)(f:List Nat->Option Int):Nat->List Nat->Option Int:=λk=>if k=j then f else g k
def PP(g:Nat->Nat)(j c:Nat):Nat->Nat:=λk=>if k=j then c else g k
theorem iW.jj(h:iW w ρ β L m mk uv)(a:bI w ρ (·=β+(10+2*j)) w' bV){f:List Nat->Option Int}(g:Ix w' bV (β+10+2*j) (hJ L.XR j 0) m.aH f c):iW w' bV β L {m with sB:=BY m.sB j f,gc:=PP m.gc j c} mk uv:=
 ⟨(h.kW.eb a Y).Bm rfl rfl rfl,
  h.bG.eb a Y,
  h.lJ.eb a (kG h.J2),
  (a.cE _ h.lJ.lt).ds h.J2,
  h.bZ.eb a Y,
  h.fP.eb a (kG h.xP),
  (a.cE _ h.fP.lt).ds h.xP,
  h.nM.eb a Y,
  λi v hv=>(h.cG i v hv).eb a Y,
  h.wX.eb a Y Y,
  λk d=>by
   by_cases e:k=j
   .grind [BY,PP]
   .have b:BY m.sB j f k=m.sB k:=by simp[BY,e]
    have e2:PP m.gc j c k=m.gc k:=by simp[PP,e]
    show Ix w' bV (β+10+2*k) (hJ L.XR k 0) m.aH (BY m.sB j f k) (PP m.gc j c k);rw[b,e2];exact(h.sB k d).eb a Y Y⟩
def eX(β t:Nat):Prop:=β+1<=t/\t<β+20/\t≠β+6/\t≠β+7
theorem bI.zH(a:bI w ρ (·=β+c) w' bV)(d:1<=c/\c<20/\c≠6/\c≠7):bI w ρ (eX β) w' bV:=a.aL λt b=>by
 grind [eX]
end
theorem UV{w w':aA}{ρ:bC}{k:List Nat}(a:bN AT 0 5 1 w w' u k)(c:Nat):qI w' (up w c ρ) c u k:=by
 refine⟨a.rd.jR (λi b e=>a.2 b (eV.cZ a.1 e)) c ρ,λad n c' j=> ?_⟩;rcases a.1 with⟨d,_⟩|⟨g,cap,cur,d,_⟩<;>grind
theorem dU.eD(h:dU r):FJ (bR r):=⟨PV r,kX h.vz⟩
theorem UF(v:aE)(r:Row)(w:aA)(h:fM dV aR 3 w v r)(a:dU r):
  aK prog 232 #[v] w λe w'=>∃u,e=mi u/\bN AT 0 5 1 w w' u (bR r)/\U w [] w' []:=by
 have c:=(vt v r w h a);clear h a;go_in;go_wp2_with (go_at_call 244;apply c.cX;rintro e w1 ⟨u,rfl,b,d⟩);go_ret;exact⟨_,rfl,b,d⟩
def iM.I7(m:iM)(r:Row):Bool:=decide (O r=m.bT)&&dS r
theorem je{w:aA}{ρ:bC}{β:Nat}{L:JW}{m:iM}{mk:Bool}{uv:aE}(h:fq w ρ β L m mk uv)(hv:fM dV aR 3 w v r)(c:CE r):
  aK prog 233 #[lr (H ⟨L.b,0,K⟩),v] w λe w'=>e=mi (nj (m.I7 r))/\U w [] w' []:=by
 have d:=(M9 v r w hv c);obtain⟨a,cap,rfl,-⟩:=hv.len;have g:=h.cF;have b0:=Zc g 0;unfold iM.I7;have hl:=c.1;have l:=h.xA;clear h hv c g;by_cases e:O r=m.bT
 .have i:(O r:Int)=(m.bT:Int):=Y;rw[kY e,VN];clear e;go_in;go_wp2_with (go_at_call 109;apply d.dC;intro w1 j);go_ret;exact⟨rfl,j⟩
 .have i:¬((O r:Int)=(m.bT:Int)):=Y;rw[kE e,T1];clear e d;go_in;go_wp2;go_ret;simp_all [U.refl]
end
theorem ZM178{P:Prop}(h:P:=by
  go_wp2;go_ret;exact⟨_,by rw[hx];rfl,xD,E3⟩):P:=h
theorem fq.aNS{L:JW}{m:iM}(h:fq w ρ β L m mk uv){k:Nat}(d:k<O m.gs):
  ∃g o a c,L.ga=H ⟨g,o,K⟩/\h8 w ⟨g,o+k,K⟩=H (jS a (O (hJ m.gs k [])) c)/\lW fN 0 1 w ρ β (jS a (O (hJ m.gs k [])) c) (hJ m.gs k []):=by
 obtain⟨g,o,cap,hv,-,j⟩:=fM.aS h.gR.1 (i:=k) (h.gvl▸d);obtain⟨a,c,l,-⟩:=(h.gE k d).len;have b:=j 0 E;simp only[yC,qZ,GA]at b;injection hv with x1 x2 x3;have e:=h.gE k d;rw[l]at e b;exact⟨g,o,a,c,x1,b,e⟩
theorem fq.index{L:JW}{m:iM}(h:fq w ρ β L m mk uv){k:Nat}(b:k<O m.gs):
  ∃g o,L.ha=H ⟨g,o,K⟩/\h8 w ⟨g,o+k,K⟩=H (lr (H ⟨hJ L.XR k 0,0,K⟩)):=by
 obtain⟨g,o,cap,hv,-,c⟩:=fM.aS h.hR.1 (i:=k) (h.gbl▸b);have a:=c 0 E;simp only[yC,qZ,Zd]at a;injection hv with x1 x2 x3;exact⟨g,o,x1,a⟩
theorem vk{L:JW}{m:iM}(k:Nat)(h:fq w ρ β L m mk uv)(i:k<O m.gs)(hv:fM dV aR 3 w v r)(A:O r=m.bT):
  aK prog 280 #[lr (H ⟨L.b,0,K⟩),mj mn k,v] w λe w'=>∃u,e=mi u/\bN dV aR 90 3 w w' u (dF r (hJ m.gs k []))/\U w [] w' []:=by
 let⟨g,o,a,c,d,G,n⟩:=h.aNS i;have l:=h.f8 k i;have z:=(J0 v _ r _ w hv n.1 l.1 (λx y=>by have:=l.2 x y;omega) (kX h.xA));have j:=h.cF;rw[d]at j;have C:=Zc j 3;have B:(k:Int)<(O m.gs:Int):=Y;have F:=h.oE;obtain⟨va,vc,rfl,-⟩:=hv.len;clear h hv n j l i A;go_in;go_wp2_with (go_at_call 110;apply z.cX;rintro e w1 ⟨u,rfl,p,q⟩);go_ret;exact⟨_,rfl,p,q⟩
theorem aAb(g:Nat->List Nat->Option Int)(j:Nat):BY g j (g j)=g:=by funext k;unfold BY;split<;>simp_all
theorem aAc(g:Nat->Nat)(j:Nat):PP g j (g j)=g:=by funext k;unfold PP;split<;>simp_all
def iM.UG(m:iM)(r:Row):Int:=if m.I7 r=qT then(m.wX (bR r)).getD (-1)else-1
def iM.cB(m:iM)(k:Nat)(gP:Row):Int:=if O gP=O (hJ m.gs k [])/\dS gP=qT then(m.sB k (bR gP)).getD (-1)else-1
def zu(w:aA)(ρ:bC)(β:Nat)(L:JW)(m:iM)(mk:Bool)(uv:aE)(v:aE)(e:cc)(w':aA):Prop:=
 ∃bV,e=mi v/\bI w ρ (eX β) w' bV/\iW w' bV β L m mk uv
theorem Aa{L:JW}{m:iM}(h:iW w ρ β L m mk uv)(hv:fM dV aR 3 w v r)(l:CE r):
  aK prog 210 #[lr (H ⟨L.b,0,K⟩),v] w (zu w ρ β L m mk uv (mj mn (m.UG r))):=by
 have d:=(je h.kW hv l);have z:=h.kW.cF;have b6:=Zc z 6;obtain⟨va,vc,rfl,-⟩:=hv.len;unfold iM.UG;cases a:m.I7 r with
 |false=>
  rw[a]at d;simp only[Nc,E6];clear l z a b6;go_in;go_wp2_with (go_at_call 233;apply d.dC;intro w1 c);go_ret;exact⟨_,rfl,c.fL,h.on c⟩
 |true=>
  rw[a]at d;simp only[yN];have N:dU r:=⟨by unfold iM.I7 at a;simp at a;exact a.2,λx hx=>(l.2 x hx).2⟩;clear l z a;go_in;go_upto_region 3 with(go_at_call 233;apply d.dC;intro w1 c);have Q:=c.cell b6 J;clear b6 d;refine e7 99 (ey Q) (λQ=> ?_);let⟨wd,B⟩:=D (w1.drew);have b:U w [] wd []:=c.ds (A1 B);rw[B]at Q|-;refine ek [0,4,1,2,3] ?_;refine Zo 5 λf hK=> ?_;go_simp;go_at_call 232;apply(UF _ r wd (hv.on b) N).cX;rintro e w2 ⟨u,rfl,p,y⟩;dsimp only;have Q:=y.cell Q J;have g:=UV (ρ:=ρ) p (β+7);have C:bI w ρ eZ w2 (up wd (β+7) ρ):=(b.fL (S:=eZ)).ds (y.fK (S:=eZ) (β+7) (λ_ h=>dY h J));have G:=h.eb C vF;have A:=Z g;have q:=Z G;obtain⟨ua,uc,rfl,-⟩:=p.len;clear p y B g G;refine Zk hK Q<|Zo 6 λf hK=> ?_;go_simp;go_at_call 231;apply(aM3 w2 q.wX A Y N.eD).cX;rintro e w3 ⟨rfl,j,i⟩;dsimp only;have F:=q.Nu j i;have xD:=(C.aL (T:=eX β) nZ).ds (j.zH E);have Q:=j.cell Q (by show¬_=_;rw[q.o.kW.cE];omega);have E3:=Z F;clear F j i;refine Zk hK Q<|I 7 ?_;refine ek [8,10,9,11] ?_;refine bD dJ ?_ _;clear Q;cases hx:m.wX (bR r)with
  |none=>
   exact ZM178
  |some n=>
   exact ZM178
theorem jd{L:JW}{m:iM}(k:Nat)(h:iW w ρ β L m mk uv)(f:k<O m.gs)(hv:fM dV aR 3 w v r)(p:CE r):
  aK prog 208 #[lr (H ⟨L.b,0,K⟩),mj mn k,v] w (zu w ρ β L m mk uv (mj mn (m.cB k r))):=by
 let⟨g,o,a,c,hga,dW,W⟩:=h.kW.aNS f;let⟨g2,o2,A,N⟩:=h.kW.index f;have WJ:=(h.kW.f8 k f).1;have rQ:=h.kW.oE;have l:=(M9 v r w hv p);have BH:(k:Int)<(O m.gs:Int):=Y;have i:=h.kW.cF;rw[hga,A]at i;have b3:=Zc i 3;have b:=Zc i 7;have hl:=p.1;obtain⟨va,vc,rfl,-⟩:=hv.len;unfold iM.cB;generalize hn:O (hJ m.gs k [])=n at dW WJ|-;by_cases q:O r=n
 .have e1:(O r:Int)=(n:Int):=Y;cases z:dS r with
  |false=>
   rw[z]at l;rw[R J];clear p i hn q z b N W;go_in;go_wp2_with (go_at_call 109;apply l.dC;intro w1 j);go_ret;exact⟨_,rfl,j.fL,h.on j⟩
  |true=>
   rw[z]at l;rw[bW ⟨q,rfl⟩];have DJ:dU r:=⟨z,λx hx=>(p.2 x hx).2⟩;clear p i hn q z W;go_in;go_upto_region 3 with(go_at_call 109;apply l.dC;intro w1 j);have F:=j.cell b J;have y:=j.cell N J;clear b3 b dW N l;refine e7 99 (ez F<|ey y) (λQ=> ?_);clear F y;let⟨wd,fF⟩:=D (w1.drew);have kP:U w [] wd []:=j.ds (A1 fF);rw[fF]at Q|-;refine ek [0,4,7,1,2,3,5,6] ?_;refine Zo 8 λs hK=> ?_;go_simp;go_at_call 232;apply(UF _ r wd (hv.on kP) DJ).cX;rintro e w2 ⟨u,rfl,P,bM⟩;dsimp only;replace Q:=bM.YZ Q;have G:=UV (ρ:=ρ) P (β+7);have EC:bI w ρ eZ w2 (up wd (β+7) ρ):=(kP.fL (S:=eZ)).ds (bM.fK (S:=eZ) (β+7) (λ_ h=>dY h J));have Qj:=h.eb EC vF;have HK2:=Z G;have C:=Z Qj;obtain⟨ua,uc,rfl,-⟩:=P.len;clear P bM fF G Qj;refine Zk hK Q<|Zo 9 λs hK=> ?_;go_simp;go_at_call 231;apply(aM3 w2 (C.sB k f) HK2 Y DJ.eD).cX;rintro e w3 ⟨rfl,d,B⟩;dsimp only;have d:bI w2 (up wd (β+7) ρ) (·=β+(10+2*k)) w3 (up wd (β+7) ρ):=by rw[<-Nat.add_assoc];exact d
   have V:=C.jj d B;rw[aAb,aAc]at V;have xD:=(EC.aL (T:=eX β) nZ).ds (d.zH Y);have Q:=(eI (d.cell Q.1 (by show¬_=_;rw[C.o.kW.cE];omega)) (d.cell Q.2 (by show¬_=_;rw[C.o.kW.hR.2 (kG C.o.kW.gbl) g2 (by rw[A];rfl)];omega)));have E3:=Z V;clear V d B;refine Zk hK Q<|I 10 ?_;refine ek [11,13,12,14] ?_;refine bD dJ ?_ _;clear Q;cases hx:m.sB k (bR r)with
   |none=>
    exact ZM178
   |some n=>
    exact ZM178
 .have e1:¬((O r:Int)=(n:Int)):=Y;rw[R (λh=>q h.1)];clear p i hn q b N W l;go_in;go_wp2;go_ret;exact⟨_,rfl,bI.refl _ _ _,h⟩
section
theorem Nf(h:i<=1048576):(Lit.int mn (i:Int)).wf=qT:=by
 simp[Lit.wf,IntKind.min,IntKind.max,IntKind.signed,IntKind.bits];omega
theorem NU(h:i<=1048576):keyOf prog 3 (.int mn (i:Int))=H (.int mn (i:Int)):=Maps.keyOf_int_mk underlying3 (Nf h)
theorem aTQ(w:aA):(zeroValue 348).run prog w= .ok (.agg #[mj mn 0,mj mn 0]) w:=by go_simp
section
variable{w:aA}{ρ:bC}{β:Nat}{L:JW}{m:iM}{mk:Bool}{uv:aE}
theorem iW.aO0(h:iW w ρ β L m mk uv)(g:Nat)(n:i<=1048576)(d:m.lJ i=K)(p:m.rc<=1048576):
  ∃w',(Instr.mapUpdate 248 (.map (H L.rm)) (mj mn (i:Int)) (sS i g)).run prog w= .ok () w'/\bI w ρ (·=β+2) w' ρ/\U w [L.rm] w' [L.rm]/\iW w' ρ β L {m with lJ:=BZ m.lJ i (H g),rc:=m.rc+1} mk uv:=by
 let⟨w',c,j,b⟩:=h.lJ.put nB underlying248 GC (NU n) (show WideAt.IsKeyLit (Lit.int mn (i:Int))from trivial) (sS i g);have a:bI w ρ (·=β+2) w' ρ:=b.qO (λk e=> .inl ((show k=L.rm by simpa using e)▸h.J2));refine⟨w',c,a,b,h.vp a (j.congr (λl=>VS _ _ _ l) ?_)⟩;rw[oI d];rfl
theorem iW.ql(h:iW w ρ β L m mk uv)(b:i<=1048576)(a:m.lJ i=H g):
  (Instr.lookup 248 (.map (H L.rm)) (mj mn (i:Int)) rR).run prog w= .ok (sS i g) w:=by
 have:=h.lJ.vR nB underlying248 (aTQ w) (NU b);rw[mM a]at this;exact this
theorem iW.aQj(h:iW w ρ β L m mk uv)(n:i<=1048576)(d:m.lJ i=H g)(ty:ap):
  ∃w',(Builtin.delete_ #[248,3] ty #[.map (H L.rm),mj mn (i:Int)]).run prog w= .ok (mr #[]) w'/\bI w ρ (·=β+2) w' ρ/\U w [L.rm] w' [L.rm]/\iW w' ρ β L {m with lJ:=BZ m.lJ i K,rc:=m.rc-1} mk uv:=by
 let⟨w',c,e,b⟩:=h.lJ.del nB underlying248 (NU n) ty;have a:bI w ρ (·=β+2) w' ρ:=b.qO (λk j=> .inl ((show k=L.rm by simpa using j)▸h.J2));refine⟨w',c,a,b,h.vp a (e.congr (λl=>VT _ _ l) ?_)⟩;rw[mM d];rfl
theorem iW.aJN(h:iW w ρ β L m mk uv)(g:Nat)(n:i<=1048576)(d:m.fP i=K)(p:m.lc<=1048576):
  ∃w',(Instr.mapUpdate 248 (.map (H L.Fm)) (mj mn (i:Int)) (sS i g)).run prog w= .ok () w'/\bI w ρ (·=β+4) w' ρ/\U w [L.Fm] w' [L.Fm]/\iW w' ρ β L {m with fP:=BZ m.fP i (H g),lc:=m.lc+1} mk uv:=by
 let⟨w',c,j,b⟩:=h.fP.put nB underlying248 GC (NU n) (show WideAt.IsKeyLit (Lit.int mn (i:Int))from trivial) (sS i g);have a:bI w ρ (·=β+4) w' ρ:=b.qO (λk e=> .inl ((show k=L.Fm by simpa using e)▸h.xP));refine⟨w',c,a,b,h.Uy a (j.congr (λl=>VS _ _ _ l) ?_)⟩;rw[oI d];rfl
theorem iW.aKv(h:iW w ρ β L m mk uv)(b:i<=1048576)(a:m.fP i=H g):
  (Instr.lookup 248 (.map (H L.Fm)) (mj mn (i:Int)) rR).run prog w= .ok (sS i g) w:=by
 have:=h.fP.vR nB underlying248 (aTQ w) (NU b);rw[mM a]at this;exact this
theorem iW.aLG(h:iW w ρ β L m mk uv)(n:i<=1048576)(d:m.fP i=H g)(ty:ap):
  ∃w',(Builtin.delete_ #[248,3] ty #[.map (H L.Fm),mj mn (i:Int)]).run prog w= .ok (mr #[]) w'/\bI w ρ (·=β+4) w' ρ/\U w [L.Fm] w' [L.Fm]/\iW w' ρ β L {m with fP:=BZ m.fP i K,lc:=m.lc-1} mk uv:=by
 let⟨w',c,e,b⟩:=h.fP.del nB underlying248 (NU n) ty;have a:bI w ρ (·=β+4) w' ρ:=b.qO (λk j=> .inl ((show k=L.Fm by simpa using j)▸h.xP));refine⟨w',c,a,b,h.Uy a (e.congr (λl=>VT _ _ l) ?_)⟩;rw[mM d];rfl
end
def Jv(m:iM)(k:Nat)(r:Row):iM:={m with
 bZ:=m.bZ.take (mj mn k),fP:=BZ m.fP m.bZ.next (H (m.bZ.kF m.bZ.next+1)),lc:=m.lc+1,
 sB:=BY m.sB k (λp=>if p=bR r then H ((m.bZ.next:Int)+1)else m.sB k p),gc:=PP m.gc k (m.gc k+1)}
def Ew(m:iM)(k:Nat)(r:Row)(n:Int)(m':iM):Prop:=(m.sB k (bR r)=H n/\m'=m)\/(m.sB k (bR r)=K/\n=m.bZ.next+1/\m'=Jv m k r)
def aRA(w:aA)(ρ:bC)(β:Nat)(L:JW)(m:iM)(mk:Bool)(uv:aE)(k:Nat)(r:Row)(e:cc)(w':aA):Prop:=
 ∃bV m' n,e=mi (mj mn n)/\bI w ρ (eX β) w' bV/\iW w' bV β L m' mk uv/\Ew m k r n m'
theorem aOL{w:aA}{ρ:bC}{β tr:Nat}{L:JW}{m:iM}{mk:Bool}{uv:aE}(k:Nat)(h:iW w ρ β L m mk uv)(hk:k<O m.gs)(hv:lW dV aR 3 w ρ tr v r)(pY:¬eX β tr)(N:dU r)(c:O r=O (m.gs.getD k []))(hW:R6 m.bZ F G)(Q6:m.bZ.aM<m.bZ.aH)(hlm:m.bZ.aH<=1048576)(qH:F+1<=G)(hG:G<=1073741824)(Fq:m.fP m.bZ.next=K)(p:m.lc<=1048576)(l:m.gc k<m.aH)(OJ:∀n,m.sB k (bR r)=H n->0<=n):
  aK prog 285 #[lr (H ⟨L.b,0,K⟩),mj mn k,v] w (aRA w ρ β L m mk uv k r):=by
 have a:=jd k h hk hv.1 N.R5;have e0:m.cB k r=(m.sB k (bR r)).getD (-1):=by unfold iM.cB;rw[bW ⟨c,N.1⟩]
 rw[e0]at a;obtain⟨va,vc,rfl,-⟩:=hv.len;have Lc:=hW.Oq Q6;cases x:m.sB k (bR r)with
 |some n=>
  rw[x]at a;have hn:=OJ n x;clear c;have g:=Z a;have HX:=Z x;clear a h hv N hW OJ Q6 qH hG Fq p l e0 x Lc pY;go_in;go_wp2_with (go_at_call 208;apply g.cX;rintro e w1 ⟨dX,rfl,d,hS⟩;have HM:=Z d;have A:=Z hS;clear d hS;dsimp only[Option.getD]);go_ret;have hR:Ew m k r n m:=Or.inl ⟨HX,rfl⟩;exact⟨dX,m,n,rfl,HM,A,hR⟩
 |none=>
  rw[x]at a;have g:=Z a;have HX:=Z x;have HV:=Z hv;have HG:=Z N;have HW:=Z hW;have O5:=Z pY;have HK:=Z hk;have HL:=Z (eI Q6 (eI qH hG));have HL0:=Z Fq;have HC:=Z (eI p l);have BH:(k:Int)<(O m.gs:Int):=by omega
  have aFi:m.bZ.next<=1048576:=by omega
  clear a h hv N hW OJ Q6 qH hG Fq p l e0 x Lc pY hk c;go_in;go_upto_region 4 with(go_at_call 208;apply g.cX;rintro e w1 ⟨dX,rfl,d,hS⟩;have HM:=Z d;have A:=Z hS;clear d hS;dsimp only[Option.getD]);have hb:=A.kW.cF;have b8:=Zc hb 8;clear hb g;go_upto_region 5 with(go_at_call 292;apply(aCY (k:Int) w1 A.bZ HW HL.1 HL.2.1 HL.2.2).cX;rintro e w2 ⟨fD,rfl,d,hA⟩;have EE:=Z (HM.ds (d.zH (by decide)));have tF:=Z (A.Uz d hA);clear d hA);let⟨γ,SJ⟩:=D (m.bZ.kF m.bZ.next+1);have aFU:(m.bZ.kF m.bZ.next:Int)+1=(γ:Int):=by omega
  rw[aFU];have HGA:=Z SJ;let⟨w3,jA⟩:=D (i5 w2 (kd #[X m.bZ.next,X γ] 348));have cW:=Za jA;have QB:=Zb jA;rw[jA];have xT:bI w2 fD eZ w3 (up w2 (β+7) fD):=cW.fK (S:=eZ) (β+7) (λ_ h=>dY h (by simp));have E3:=Z (tF.eb xT vF);have W:=Z (EE.ds (xT.aL (T:=eX β) nZ));have PE:=Z (HV.eb W O5);have NF:=Z QB;let⟨nb,TW⟩:=D (i7 w2.heap);rw[TW]at QB NF E3 W PE|-;let⟨mI,nD⟩:=D (up nb (β+7) fD);have PG:dT (mI nb=β+7):=Z (nD▸cY (fV _));rw[nD]at E3 W PE;clear nD xT;have WN:=E3.kW.cF;obtain⟨x0,x1⟩:=Z2 QB;have c9:=Zc WN 9;clear SJ aFU jA cW QB TW WN b8 EE tF HM A HV;refine fj 7 (ez c9<|ez x0<|ey x1) (λw4 uC z Q=> ?_);clear c9 x0 x1;have LM:=Z (W.kV z);have Y1:=Z (E3.on z);have PD:=Z (PE.on z);let⟨w5,dK,sA,cO,Ln⟩:=Y1.aJN (i:=m.bZ.next) γ aFi HL0 HC.1;have NI:=Z (LM.ds (sA.zH (by decide)));have Tp:=Z Ln;have bz:=Z (PD.eb (sA.zH (by decide)) O5);have zy:=Z (cO.aC (z.aC NF (by simp)) (by simp only[Gc];exact λe=>(Y1.fP.ne (z.aC NF (by simp))) e.symm));unfold sS at dK;clear sA cO Ln uC z LM PD W PE NF E3;refine ek [0,4,6,1,5,2,3] ?_;refine Zo 7 λo hK=> ?_;go_simp;refine LP ?_;clear hK o;clear Q dK Y1;let⟨g2,o2,V,sY⟩:=Tp.kW.index HK.o;let⟨ib,y⟩:=D (L.XR.getD k 0);have b:=Z y;rw[y]at sY;clear y;have Qd:=Tp.kW.cF;rw[V]at Qd;have Lj:=zy.o;have b7:=Zc Qd 7;have x0:=Zc Lj 0;clear Lj Qd;have xx:IntKind.i64.wrap ((m.bZ.next:Int)+1)=(m.bZ.next:Int)+1:=QY _ (by omega);go_upto_region 6 with(fail);refine fj 99 (ez b7<|ez sY<|ey x0) (λw6 iA B Q=> ?_);clear b7 sY x0;have Fz:=Z (NI.kV B);have te:=Z (Tp.on B);have sq:=Z (bz.on B);have Tl:=Z (B.aC zy (by simp));clear iA B NI Tp bz zy;refine ek [0,4,7,9,1,10,2,11,3,5,6] ?_;refine Zo 8 λo hK=> ?_;go_simp;go_at_call 232;apply(UF _ r w6 sq.1 HG).cX;rintro e w7 ⟨u,rfl,hO,gD⟩;dsimp only;replace Q:=gD.gm Q;have MX:bI w6 mI eZ w7 (up w6 (β+7) mI):=gD.fK (S:=eZ) (β+7) (λ_ h=>dY h (by simp));have f:=Z (UV (ρ:=mI) hO (β+7));have q:=Z (te.eb MX vF);have LA:=Z (Fz.ds (MX.aL (T:=eX β) nZ));have HX7:=Z (gD.aC Tl (by simp));obtain⟨ua,uc,rfl,-⟩:=hO.len;clear hO gD MX Fz te Tl sq;refine Zk hK Q<|Zo 12 λo hK=> ?_;go_simp;try rw[xx]
  go_at_call 284;refine(aM1 ((m.bZ.next:Int)+1) w7 (by rw[<-b.o];exact q.sB k HK) f (by omega) HG.eD HX HC.2).mono ?_;rintro e w8 ⟨CM,rfl,j,C⟩;dsimp only;have j:bI w7 (up w6 (β+7) mI) (·=β+(10+2*k)) w8 CM:=by rw[<-Nat.add_assoc];exact j
  have fx:=Z (q.jj j (by rw[b.o];exact C));have TO:=Z (LA.ds (j.zH (by have h4:O m.gs<=4:=q.kW.oE;have:=HK.o;omega)));have HX8:=Z (j.aC HX7 (by show¬up w6 (β+7) mI nb=β+(10+2*k);have:up w6 (β+7) mI nb=β+7:=by{unfold up;split;rfl;exact PG.o};omega));have P:=HX8.o;have x0:=Zc P 0;have Q:=(eI (j.cell Q.1 (by show¬_=_;rw[q.o.kW.cE];omega)) (eI (j.cell Q.2.1 (by show¬_=_;rw[q.o.kW.hR.2 (by rw[q.o.kW.gbl];exact Sp (O9 _) HK) g2 (by rw[V];rfl)];omega)) x0));clear P j C LA q HX7 f;refine j5 ?_;clear hK o;refine bD dJ ?_ _;clear Q;go_wp2;go_ret;have hR:Ew m k r ((m.bZ.next:Int)+1) (Jv m k r):=Or.inr ⟨HX,rfl,rfl⟩;refine⟨_,_,_,rfl,TO,?_,hR⟩;unfold Jv;rw[HGA.o];exact fx
end
end Go.Proofs.YtohhhhfdpceppaaGreatDoor
