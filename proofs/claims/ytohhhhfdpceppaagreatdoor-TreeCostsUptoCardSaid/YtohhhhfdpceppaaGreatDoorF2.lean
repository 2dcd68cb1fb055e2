/- Part of the proof that the tied card of a law of the tree holds; no condition is added. -/
import Derived.Test.YtohhhhfdpceppaaGreatDoorM8
namespace Go.Proofs.YtohhhhfdpceppaaGreatDoor
set_option maxHeartbeats 4000000
set_option maxRecDepth 100000
set_option linter.all false
open Go.RowKit Go.Maps Go.Proofs.Tryz Tryz
open _root_.Array renaming size→i7
open _root_.Bool renaming false→rR,true→qT,or_eq_false_iff→B2
open _root_.Go.Ending renaming returned→mi
open _root_.Go.IntKind renaming i64→mn
open _root_.Go.Obj renaming cells→kd
open _root_.Go.Value renaming bool→nj,int→mj,slice→jS,string→mX
open _root_.Go.World renaming alloc→i5,cell?→h8
open _root_.Inhabited renaming default→sT
open _root_.List renaming getD→hJ,length→O,range→gz,mem_of_find?_eq_some→oj,sum_cons→oq,map_congr_left→vW,length_map→wn,any_eq_false→zb,sum_append→zo,mem_of_mem_erase→z',getElem?_eq_none→Bk,nodup_nil→B0,find?_eq_none→B4,nodup_range→B5
open _root_.Option renaming none→K,some→H,map_eq_some_iff→x',map_eq_none_iff→zn
open Go renaming World→aA,Value→aE,Calls→aK,TypeId→ap
open _root_.Nat renaming zero_testBit→yo,mul_le_mul→y',add_mul→zN,zero_le→B6
variable{l:List ES}
def CL(l:List ES)(eb:Nat):Prop:=∀a b,(∃x,x∈l/\x.2.testBit a=qT/\x.2.testBit b=qT)->(∃x,x∈l/\x.2.testBit b=qT/\x.2.testBit a=rR)->
 (∀x,x∈l->x.2.testBit a=qT->x.2.testBit b=qT)/\(eb.testBit a=qT->eb.testBit b=qT)
theorem WV{α:Type}{p q:α->Bool}{y:α}:∀{l:List α},(∀x,x∈l->p x=qT->q x=qT)->y∈l->q y=qT->p y=rR->O (l.filter p)<O (l.filter q)
 |[],_,h,_,_=>by cases h
 |x::l,hs,b,h1,h2=>by
  have c:∀l:List α,(∀x,x∈l->p x=qT->q x=qT)->O (l.filter p)<=O (l.filter q):=by
   intro l h;induction l<;>grind
  have:=c l λz a=>hs z (by simp[a]);rcases xZ.1 b with rfl|b
  .rw[List.filter_cons_of_neg (by simp[h2]),List.filter_cons_of_pos h1,TT];omega
  .have ih:=WV (λz a=>hs z (by simp[a])) b h1 h2;grind
theorem Is:∀{l:List ES},iK l=K->∀x,x∈l->∀y,y∈l->x≠y->x.2≠y.2
 |[],_,_,h,_,_,_=>by cases h
 |z::l,hs,x,hx,y,hy,eB=>by
  unfold iK at hs;rw[Option.or_eq_none_iff,zn,B4]at hs;have ih:=Is hs.2;grind
theorem UQ{eb:Nat}(z:CL l eb)(i:iR l eb=K)(hs:iK l=K):∀(n v:Nat),eb.testBit v=rR->O (l.filter λx=>x.2.testBit v)<=n->∀x,x∈l->x.2.testBit v=rR
 |n,v,hv,hn,x,b=>by
  refine Bool.eq_false_iff.2 λg=> ?_;have F:kL l eb x=0:=by
   unfold iR at i;rw[zn,B4]at i;have:=i x b;grind
  have m:(vM l x.1).testBit v=qT:=by
   have:(kL l eb x).testBit v=rR:=F▸yo v;unfold kL at this;rw[cH,cH,g,hv]at this;grind
  unfold vM at m;rw[rH,List.any_eq_true]at m;obtain⟨y,a,c⟩:=m;rw[LC]at a;have B:x.2≠y.2:=Is hs x b y a.1 λe=>by rw[e]at a;grind
  have gP:∀x y,x∈l->y∈l->x.2.testBit v=qT->y.2.testBit v=qT->part x.2 y.2=rR->False:=by
   intro x y b a g c j;let⟨u,d,A⟩:=Bb j;let⟨C,k2⟩:=z u v ⟨x,b,d,g⟩ ⟨y,a,c,A⟩;have G:=WV (p:=λx:ES=>x.2.testBit u) (q:=λx:ES=>x.2.testBit v) C a c A;cases n with
   |zero=>omega
   |succ n=>
    have:=UQ z i hs n u BC Y x b;rw[d]at this;cases this
  cases j:part x.2 y.2 with
  |false=>exact gP x y b a.1 g c j
  |true=>
   cases r:part y.2 x.2 with
   |false=>exact gP y x a.1 b c g r
   |true=>
    refine B (Fj λw=> ?_);have:=jV.1 j w;have:=jV.1 r w;grind
theorem CL.iN{eb:Nat}(d:CL l eb)(c:iR l eb=K)(hs:iK l=K):∀x,x∈l->part x.2 eb=qT:=by
 intro x a;rw[jV];intro v hv;cases b:eb.testBit v with
 |true=>rfl
 |false=>rw[UQ d c hs _ v b (fV _) x a]at hv;cases hv
theorem CL.Vv{eb:Nat}(m:CL l eb)(e:eb=0\/¬∀x,x∈l->part x.2 eb=qT){s:cU}(h:next l eb=H s):iR l eb=H s\/iK l=H s:=by
 unfold next at h;cases a:iR l eb with
 |some t=>rw[a]at h;exact .inl h
 |none=>
  cases hs:iK l with
  |some t=>rw[a,hs]at h;exact .inr h
  |none=>
   have c:=m.iN a hs;rcases e with rfl|e
   .rw[a,hs]at h;have j:=h;unfold pR at j;let⟨x,d,n⟩:=List.exists_of_findSome?_eq_some j;rw[x']at n;obtain⟨y,i,-⟩:=n;have g:=oj i;have b:=List.find?_some i;have z:∀x,x∈l->x.2=0:=λx d=>Fj λv=>by
     rw[yo];exact UQ m a hs _ v (yo v) (fV _) x d
    rw[z x d,z y g]at b;simp at b
   .exact dY c e
theorem CL.xJ{m:List ES}{eb:Nat}(h:CL l eb)(hs:∀s,(∃x,x∈m/\x.2=s)↔∃x,x∈l/\x.2=s):CL m eb:=by
 have g:∀x,x∈m->∃y,y∈l/\y.2=x.2:=λx d=>(hs x.2).1 ⟨x,d,rfl⟩;intro a b ⟨x,d,A,f⟩ ⟨y,n,v,r⟩;let⟨p,w,i⟩:=g x d;let⟨G,F,j⟩:=g y n;let⟨C,k2⟩:=h a b ⟨p,w,i▸A,i▸f⟩ ⟨G,F,j▸v,j▸r⟩;refine⟨λz B c=> ?_,k2⟩;let⟨q,e,u⟩:=g z B;rw[<-u]at c|-;exact C q e c
theorem CL.OE{eb:Nat}(h:CL l eb)(hd:(mV l).Nodup){s:cU}(hs:iK l=H s):CL (make l s) eb:=by
 obtain⟨j,-,i,a,g,c⟩:=uO hd hs;have d:make l s=l.filter λx=>x.1 !=s.bY:=R Y;rw[d];refine h.xJ λt=>⟨λ⟨x,hx,e⟩=>⟨x,(LC.1 hx).1,e⟩,λ⟨x,hx,e⟩=> ?_⟩;by_cases b:x.1=s.bY
 .refine⟨(s.eR,a),LC.2 ⟨c,by simp;omega⟩,?_⟩;rw[<-e];exact D2 hd g (b▸hx)
 .exact⟨x,LC.2 ⟨hx,by simp[b]⟩,e⟩
theorem CL.FI{eb:Nat}(h:CL l eb){s:cU}(hs:iR l eb=H s):CL (make l s) eb:=by
 unfold iR at hs;rw[x']at hs;obtain⟨x,n,rfl⟩:=hs;have f:=oj n;have w:make l ⟨1,x.1,0,kL l eb x⟩=l.map λy=>if y.1=x.1 then(y.1,fS y.2 (kL l eb x))else y:=bW rfl;rw[w];have A:∀v y,y∈l->y.1≠x.1->(kL l eb x).testBit v=qT->y.2.testBit v=rR:=by
  intro v y c L j;unfold kL at j;rw[cH]at j;have:(vM l x.1).testBit v=rR:=by grind
  unfold vM at this;rw[rH,zb]at this;have:=this y (LC.2 ⟨c,by simp[L]⟩);grind
 have i:∀y,y∈l->∀v,(if y.1=x.1 then(y.1,fS y.2 (kL l eb x))else y).2.testBit v=(y.2.testBit v&& !(kL l eb x).testBit v):=by
  intro y c v;split
  .rw[cH]
  .rename_i e;cases k:(kL l eb x).testBit v with
   |false=>simp
   |true=>rw[A v y c e k];rfl
 intro a b ⟨z,B,F,r⟩ ⟨y,c,q,p⟩;obtain⟨z,g,rfl⟩:=AE.1 B;obtain⟨y,m,rfl⟩:=AE.1 c;rw[i z g]at F r;rw[i y m]at p q;let⟨G,k2⟩:=h a b ⟨z,g,BC,BC⟩ ⟨y,m,BC,BC⟩;refine⟨λu C ua=> ?_,k2⟩;obtain⟨u,d,rfl⟩:=AE.1 C;rw[i u d]at ua|-;have:=G u d BC;grind
variable{es:List Nat}{aU:Nat}
theorem JR{p:Nat->Bool}{k:Nat}:0<eG p k↔∃i,i<k/\p i=qT:=by
 unfold eG;rw[List.length_pos_iff_exists_mem];simp
theorem vP{x:ES}:x∈cD es↔∃i,i<O es/\x=(i,hJ es i 0):=by
 unfold cD;simp only[AE,wW];grind
theorem aJ3{head:Nat}(hs:∀i,hJ es i 0<2^aU)(h:BL es aU head=rR):CL (cD es) head:=by
 intro a b ⟨x,B,l,m⟩ ⟨y,A,g,d⟩;obtain⟨i,p,rfl⟩:=vP.1 B;obtain⟨j,w,rfl⟩:=vP.1 A;simp only at l m d g;have lt:∀v i,(hJ es i 0).testBit v=qT->v<aU:=λv i hv=>by
  refine zbT λQ=> ?_;rw[zbN (xF (hs i) (Fk E Y))]at hv;cases hv
 have ha:=lt a i l;have c:=lt b i m;have u:∀x y,x<aU->y<aU->qU es head x y=rR:=λx y f o=>by
  unfold BL at h;rw[zb]at h;have:=h x (wW.2 f);rw[Bool.not_eq_true,zb]at this;exact Bool.eq_false_iff.2 (this y (wW.2 o))
 have c1:=u a b ha c;have c2:=u b a c ha;have q:0<eG (DX es a b) (O es):=JR.2 ⟨i,p,by unfold DX V8;rw[l,m];rfl⟩;have b2:0<eG (DX es b a) (O es):=JR.2 ⟨i,p,by unfold DX V8;rw[l,m];rfl⟩;have r:0<eG (vK es a b) (O es):=JR.2 ⟨j,w,by unfold vK V8;rw[d,g];rfl⟩;have F:0<eG (AL es b a) (O es):=JR.2 ⟨j,w,by unfold AL V8;rw[d,g];rfl⟩;have P:a≠b:=λe=>by rw[e,g]at d;cases d
 have hl:¬0<eG (AL es a b) (O es):=by
  intro hl;let⟨k,n,G⟩:=JR.1 hl;have N:0<eG (vK es b a) (O es):=JR.2 ⟨k,n,by unfold AL at G;unfold vK;grind⟩;unfold qU at c1 c2;simp only[decide_eq_true q,decide_eq_true hl,decide_eq_true r,Bool.true_and,B2,decide_eq_false_iff_not]at c1;simp only[kY b2,kY F,kY N,VN,B2,decide_eq_false_iff_not]at c2;omega
 refine⟨λz s L=> ?_,λC=> ?_⟩
 .obtain⟨k,n,rfl⟩:=vP.1 s;cases c:(hJ es k 0).testBit b with
  |true=>rfl
  |false=>exact dY (JR.2 ⟨k,n,by unfold AL V8;rw[L,c];rfl⟩) hl
 .cases c:head.testBit b with
  |true=>rfl
  |false=>
   exfalso;unfold qU at c1;simp only[kY q,kY (show eG (AL es a b) (O es)=0 by omega),kY r,C,c]at c1;simp at c1
variable{pa:Int}
structure EvB(b:r6)(l:List ES):Prop where
 C1:∀e,e<O b.2->hJ b.2 e 0<O b.1
 Kr:∀e,e∈mV l->e<O b.2
 nd:(mV l).Nodup
 now:∀e s,(e,s)∈l->(hJ b.1 (hJ b.2 e 0) sT).vars=cB s
 aKz:∀j,j<O b.1->(hJ b.1 j sT).aG=3->(hJ b.1 j sT).bP<O b.1/\(hJ b.1 (hJ b.1 j sT).bP sT).vars=(hJ b.1 j sT).vars
theorem EvB.add{b:r6}{m:List ES}{x:bE}{k:Nat}(h:EvB b l)(w:k<O b.2)(hd:(mV m).Nodup)(q:∀e,e∈mV m->e∈mV l)(v:∀e s,(e,s)∈m->e≠k->(e,s)∈l)(r:∀s,(k,s)∈m->x.vars=cB s)(u:x.aG=3->x.bP<O b.1/\(hJ b.1 x.bP sT).vars=x.vars):EvB (b.1++[x],b.2.set k (O b.1)) m:=by
 have p:∀i,hJ (b.1++[x]) i sT=if i=O b.1 then x else hJ b.1 i sT:=λi=>QF;have hs:∀e,e<O b.2->hJ (b.2.set k (O b.1)) e 0=if e=k then O b.1 else hJ b.2 e 0:=λe h=>by grind
 refine⟨λe a=> ?_,λe a=> ?_,hd,λe s a=> ?_,λj a c=> ?_⟩
 .simp only[List.length_set,List.length_append,List.length_singleton]at a|-;rw[hs e a];have:=h.C1 e a;split<;>omega
 .simp only[TS];exact h.Kr e (q e a)
 .have g:=h.Kr e (q e (kR.2 ⟨s,a⟩));simp only;rw[hs e g,p];by_cases d:e=k
  .subst d;rw[bW rfl,bW rfl];exact r s a
  .have:=h.C1 e g;rw[R d,R Y];exact h.now e s (v e s a d)
 .simp only[E7,Ty]at a|-;simp only[p]at c|-;by_cases n:j=O b.1
  .rw[bW n]at c|-;let⟨a1,a2⟩:=u c;refine⟨Y,?_⟩;rw[R Y];exact a2
  .rw[R n]at c|-;let⟨a1,a2⟩:=h.aKz j Y c;refine⟨Y,?_⟩;rw[R Y];exact a2
theorem EvB.step{b:r6}{eb:Nat}(h:EvB b l)(pa:Int){s:cU}(hs:iR l eb=H s\/iK l=H s):EvB (gK pa b l s) (make l s):=by
 rcases hs with hs|hs
 .unfold iR at hs;rw[x']at hs;obtain⟨x,z,rfl⟩:=hs;have d:=oj z;have i:=rJ (l:=l) (s:=⟨1,x.1,0,kL l eb x⟩) rfl;have e:gK pa b l ⟨1,x.1,0,kL l eb x⟩=(b.1++[⟨2,0,cB (fS (yO l x.1) (kL l eb x)),hJ b.2 x.1 0,0,pa,rR⟩],b.2.set x.1 (O b.1)):=bW rfl;have g:make l ⟨1,x.1,0,kL l eb x⟩=l.map λy=>if y.1=x.1 then(y.1,fS y.2 (kL l eb x))else y:=bW rfl;rw[e];refine h.add (h.Kr _ (kR.2 ⟨x.2,d⟩)) (i▸h.nd) (λe j=>by rw[i]at j;exact j) (λe t c B=> ?_) (λt c=> ?_) (λh=>by simp at h)
  .rw[g]at c;let⟨y,r,q⟩:=AE.1 c;grind
  .rw[g]at c;let⟨y,r,q⟩:=AE.1 c;split at q
   .rename_i m;have:=D2 h.nd (e:=x.1) (s:=y.2) (t:=x.2) (m▸r) d;show cB (fS (yO l x.1) (kL l eb x))=_;rw[wI h.nd (e:=x.1) (t:=x.2) d];grind
   .rename_i m;rw[q]at m;exact dY rfl m
 .let⟨C,k2,A,a,v,w⟩:=uO h.nd hs;have e:gK pa b l s=(b.1++[⟨3,0,cB (yO l s.eR),hJ b.2 s.eR 0,hJ b.2 s.bY 0,pa,rR⟩],b.2.set s.eR (O b.1)):=R Y;have g:make l s=l.filter λx=>x.1 !=s.bY:=R Y;have n:=h.Kr _ (kR.2 ⟨a,w⟩);have p:=h.Kr _ (kR.2 ⟨a,v⟩);rw[e];refine h.add n (pU h.nd s) (λe j=> ?_) (λe t c _=> ?_) (λt c=> ?_) (λ_=>⟨h.C1 _ p,?_⟩)
  .let⟨t,u⟩:=kR.1 j;rw[g]at u;exact kR.2 ⟨t,(LC.1 u).1⟩
  .rw[g]at c;exact(LC.1 c).1
  .rw[g]at c;show cB (yO l s.eR)=_;rw[wI h.nd (LC.1 c).1]
  .show(hJ b.1 (hJ b.2 s.bY 0) sT).vars=cB (yO l s.eR);rw[h.now _ _ v,wI h.nd w]
theorem CL.make{eb:Nat}(h:CL l eb)(hd:(mV l).Nodup){s:cU}(hs:iR l eb=H s\/iK l=H s):CL (make l s) eb:=by
 rcases hs with hs|hs
 .exact h.FI hs
 .exact h.OE hd hs
theorem Jt{eb:Nat}:∀(n:Nat) (b:r6) (l:List ES),EvB b l->CL l eb->∀a l',dA pa eb n b l=H (a,l')->EvB a l'/\CL l' eb
 |0,b,l,h,hN,a,l',he=>by
  unfold dA at he;grind
 |n+1,b,l,h,hN,a,l',he=>by
  unfold dA at he;split at he
  .grind
  .rename_i d;cases c:next l eb with
   |none=>rw[c]at he;cases he
   |some s=>
    rw[c]at he;have hs:=hN.Vv (.inr λha=>d (by unfold iN;rw[Tv];exact ha)) c;exact Jt n _ _ (h.step pa hs) (hN.make h.nd hs) a l' he
theorem Jq:∀(n:Nat) (b:r6) (l:List ES),EvB b l->CL l 0->EvB (fH pa n b l).1 (fH pa n b l).2
 |0,b,l,h,_=>h
 |n+1,b,l,h,hN=>by
  unfold fH;cases a:next l 0 with
  |none=>exact h
  |some s=>
   have hs:=hN.Vv (.inl rfl) a;exact Jq n _ _ (h.step pa hs) (hN.make h.nd hs)
variable{sd:Bool}{n:Nat}{n':f7}{r:Row}
section
section
variable{P:AC}{add:Bool}{sc D3:Nat->Nat}
theorem io{s:lV}{n:f7}{m:R7}(h:iX add s n sd r= .ok (n',m)):
  (∀x,x∈m.kC->x∈m.aX)/\(sd=qT->s.aG=3->m.aX=n.fJ.filter λx=>decide (dF x s.bP=r)):=by
 unfold iX OF uN at h;cases add<;>cases sd<;>grind
theorem kA:∀(t l:List Row) (x:Row),x∈cP l t↔x∈l\/x∈t
 |[],l,x=>by simp[cP]
 |y::t,l,x=>by
  have ih:=kA t (if y∈l then l else l++[y]) x;have hl:cP l (y::t)=cP (if y∈l then l else l++[y]) t:=rfl;rw[hl,ih];split<;>grind
theorem VE(w:jU)(aS:Nat)(sd:Bool)(r:Row):
  (∀x,x∈(fE P add w aS sd r).2.1->x∈(fE P add w aS sd r).1.aX aS)/\(∀j x,x∈w.aX j->x∈(fE P add w aS sd r).1.aX j)/\
  (sd=qT->(P.spec aS).aG=3->∃F:List Row,O F=(fE P add w aS sd r).2.2.1/\F.Sublist ((w.T aS).fJ.filter λx=>decide (dF x (P.spec aS).bP=r))/\∀x,x∈F->x∈(fE P add w aS sd r).1.aX aS):=by
 unfold fE;cases h:iX add (P.spec aS) (w.T aS) sd r with
 |error e=>exact⟨λx a=>by simp at a,λj x a=>a,λ_ _=>⟨[],rfl,List.nil_sublist _,λx a=>by simp at a⟩⟩
 |ok p=>
  obtain⟨n',m⟩:=p;let⟨g,d⟩:=io h;refine⟨λx a=> ?_,λj x a=> ?_,λc b=>⟨m.aX,rfl,d c b▸List.Sublist.refl _,λx a=> ?_⟩⟩
  .show x∈(if aS=aS then cP (w.aX aS) m.aX else w.aX aS);rw[bW rfl,kA];exact .inr (g x a)
  .show x∈(if j=aS then cP (w.aX aS) m.aX else w.aX j);split
   .rename_i e;rw[kA];exact .inl (e▸a)
   .exact a
  .show x∈(if aS=aS then cP (w.aX aS) m.aX else w.aX aS);rw[bW rfl,kA];exact .inr a
theorem Dr{aS:Nat}(G:aS<n)(sd:Bool)(C:sd=qT->(P.spec aS).aG=3):∀(l:List Row) (w:jU) (next g:List Row),l.Nodup->g.Nodup->(sd=qT->(w.T aS).fJ.Nodup)->(∀x,x∈g->x∈w.aX aS)->(sd=qT->∀x,x∈g->dF x (P.spec aS).bP∉l)->
  (∃i:List Row,i.Nodup/\(∀x,x∈i->x∈(gI P add aS sd l w next).1.aX aS)/\(gI P add aS sd l w next).1.aQ+O g<=w.aQ+O l+O i)/\
  (∀x,x∈(gI P add aS sd l w next).2->x∈next\/x∈(gI P add aS sd l w next).1.aX aS)/\∀j x,x∈w.aX j->x∈(gI P add aS sd l w next).1.aX j
 |[],w,next,g,_,ha,_,hs,_=>⟨⟨g,ha,hs,by simp[gI]⟩,λx c=> .inl (by simpa[gI]using c),λj x c=>by simpa[gI]using c⟩
 |r::l,w,next,g,hl,ha,hsr,hs,hp=>by
  rw[U8]at hl;let⟨A,q,v⟩:=VE (P:=P) (add:=add) w aS sd r;obtain⟨-,-,-,y,B,-,-⟩:=qS (P:=P) (add:=add) w G sd r;generalize hd:fE P add w aS sd r=d at A q v y B;have e:gI P add aS sd (r::l) w next=gI P add aS sd l {d.1 with aQ:=d.1.aQ+1+if sd then d.2.2.1 else 0} (next++d.2.1):=by rw[gI,hd]
  rw[e];obtain⟨w1,m⟩:∃w1:jU,{d.1 with aQ:=d.1.aQ+1+if sd then d.2.2.1 else 0}=w1:=⟨_,rfl⟩;have t1:w1.aX=d.1.aX:=by rw[<-m]
  have t2:w1.T=d.1.T:=by rw[<-m]
  have f:w1.aQ=w.aQ+1+if sd then d.2.2.1 else 0:=by rw[<-m,<-B]
  rw[m];obtain⟨F,f1,L,f3,k,f5⟩:∃F:List Row,F.Nodup/\(∀x,x∈F->x∈d.1.aX aS)/\O F=(if sd then d.2.2.1 else 0)/\(sd=qT->∀x,x∈F->dF x (P.spec aS).bP=r)/\(sd=rR->F=[]):=by
   cases sd with
   |false=>exact⟨[],B0,λx c=>by simp at c,rfl,λh=>by simp at h,λ_=>rfl⟩
   |true=>
    let⟨F,S,g2,g3⟩:=v rfl (C rfl);exact⟨F,List.Nodup.sublist g2 ((hsr rfl).filter _),g3,by simpa using S,λ_ x c=>by have:=g2.subset c;rw[LC]at this;exact of_decide_eq_true this.2,λh=>by cases h⟩
  have u:∀x,x∈g->x∉F:=λx c p=>by
   cases sd with
   |false=>rw[f5 rfl]at p;cases p
   |true=>exact hp rfl x c (by rw[k rfl x p];simp)
  let⟨⟨i,V,N,W⟩,o,z⟩:=Dr G sd C l w1 (next++d.2.1) (g++F) hl.2 (Fh.2 ⟨ha,f1,λa ha b hb e=>u a ha (e▸hb)⟩) (λh=>by rw[t2,y h];exact hsr h)
   (λx c=>by rw[t1];rcases yU.1 c with c|c;exact q _ _ (hs x c);exact L x c)
   (λh x c=>by rcases yU.1 c with c|c;exact λQ=>hp h x c (by simp[Q]);rw[k h x c];exact hl.1)
  refine⟨⟨i,V,N,by rw[E7,f]at W;rw[TT];omega⟩,λx c=> ?_,λj x c=>z j x (t1▸q j x c)⟩;rcases o x c with h|h
  .rcases yU.1 h with h|h
   .exact .inl h
   .exact .inr (z _ _ (t1▸A x h))
  .exact .inr h
end
end
def JU(P:AC):Nat->Nat->Nat
 |0,_=>0
 |f+1,aS=>match P.dI aS with
  |none=>0
  |some up=>1+JU P f up
theorem vi(g:Nat->Nat):∀(n i j:Nat),i<j->j<n->g i+g j<=((gz n).map g).sum
 |0,_,_,_,h=>Y
 |n+1,i,j,h,hj=>by
  rw[dr,QW,zo];have one:∀n i,i<n->g i<=((gz n).map g).sum:=λn i a=>by
   induction n<;>grind [List.range_succ]
  by_cases e:j=n
  .have:=one n i Y;simp only[KR,List.map_nil,oq,List.sum_nil];subst e;omega
  .have:=vi g n i j h Y;omega
theorem By{l m:List Row}(h:l.Nodup)(hs:∀x,x∈l->x∈m):O l<=O m:=C9 h hs
theorem aE2(P:AC)(add:Bool)(B:Nat)(r:∀u v,P.dI u=H v->v<P.n):
  RC P add B λf aS fl w=>(∀x,x∈fl->x∈w.aX aS)->(eT P add f aS fl w).aQ<=w.aQ+JU P f aS*(eT P add f aS fl w).count P.n:=by
 refine⟨λf aS fl w h _=> ?_,λf aS up fl w c y d l F b G j m=> ?_⟩
 .cases f<;>grind [eT]
 .by_cases q:fl=[]
  .grind [eT]
  .have e:eT P add (f+1) aS fl w=eT P add f up (gI P add up (P.dN aS) fl w []).2 (gI P add up (P.dN aS) fl w []).1:=by
    rw[eT,c];exact R q
   let⟨⟨p,a1,a2,a3⟩,a4,a5⟩:=Dr (P:=P) (add:=add) d (P.dN aS) (λh=>(b h).1) fl w [] [] l B0 (λh=>(b h).2.1) (λx a=>by cases a) (λ_ x a=>by cases a);generalize A:gI P add up (P.dN aS) fl w []=g at a2 a3 a4 a5 j e;have k:=j λx a=>(a4 x a).resolve_left J;have b2:=(qC (P:=P) (add:=add) r f up g.2 g.1).2.1;have z:=By l λx a=>a5 aS x (m x a);have n:=By a1 a2;have C:O (g.1.aX aS)+O (g.1.aX up)<=g.1.count P.n:=vi (λi=>O (g.1.aX i)) P.n aS up y d;have e2:JU P (f+1) aS=1+JU P f up:=by rw[JU,c]
   simp only[List.length_nil]at a3;rw[e,e2,zN];omega
variable{i:Nat}
section
section
variable{P:AC}{sc D3:Nat->Nat}{add:Bool}{jO:Nat->Bool}{bB:Nat->Option Row}
theorem Ca(f:tX P sc D3){w:jU}(h:tC P w.T)(g:i<P.n)(d:(P.spec i).aG=1)(j:(P.spec i).aH=512):
  ((∃e,fE P add w i rR r=(w,[],0,e)/\(e=191\/e=192\/e=31))\/((fE P add w i rR r).2.2.2=0/\tC P (eT P add P.n i (fE P add w i rR r).2.1 (fE P add w i rR r).1).T))/\
  ∀C,RC P add 512 C->C P.n i (fE P add w i rR r).2.1 (fE P add w i rR r).1:=by
 cases add with
 |true=>
  let⟨a,b⟩:=SI (r:=r) f h g d j;refine⟨?_,b⟩;rcases a with⟨a,-⟩|⟨a,-⟩|⟨a,-,-,c,-⟩
  .exact .inl ⟨_,a,J⟩
  .exact .inl ⟨_,a,J⟩
  .exact .inr ⟨a,c⟩
 |false=>
  let⟨a,b⟩:=GQ (r:=r) f h g d;refine⟨?_,b⟩;rcases a with⟨a,-⟩|⟨a,-,c,-⟩
  .exact .inl ⟨_,a,J⟩
  .exact .inr ⟨a,c⟩
theorem QD(k:tX P sc D3)(d:gZ->Prop)(B:∀T,d T->tC P T)(F:Nat->Nat->Nat)(q:∀i a b,a<=b->F i a<=F i b)(x:∀(w:jU) (i:Nat) (r:Row),i<P.n->(P.spec i).aG=1->(P.spec i).aH=512->bB i=H r->d w.T->d (eT P add P.n i (fE P add w i rR r).2.1 (fE P add w i rR r).1).T/\(eT P add P.n i (fE P add w i rR r).2.1 (fE P add w i rR r).1).aQ<=w.aQ+F i ((eT P add P.n i (fE P add w i rR r).2.1 (fE P add w i rR r).1).count P.n)):
  ∀(l:List Nat) (w:jU) (done:List Nat),(∀i,i∈l->i<P.n/\(P.spec i).aG=1/\(P.spec i).aH=512)->d w.T->
  d (bX P add jO bB l w done).1.T/\w.count P.n<=(bX P add jO bB l w done).1.count P.n/\(bX P add jO bB l w done).1.aQ<=w.aQ+(l.map λi=>1+F i ((bX P add jO bB l w done).1.count P.n)).sum
 |[],w,done,_,h=>⟨h,fV _,by simp[bX]⟩
 |i::l,w,done,hl,h=>by
  let⟨g,A,y⟩:=hl i J;have ih:=λ(w':jU) (AU:List Nat) (f:d w'.T)=>QD k d B F q x l w' AU (λj Q=>hl j (by simp[Q])) f;have up:∀(w1:jU) (AU:List Nat),d w1.T->w.count P.n<=w1.count P.n->w1.aQ<=w.aQ+1+F i (w1.count P.n)->
    d (bX P add jO bB l w1 AU).1.T/\w.count P.n<=(bX P add jO bB l w1 AU).1.count P.n/\(bX P add jO bB l w1 AU).1.aQ<=w.aQ+((i::l).map λi=>1+F i ((bX P add jO bB l w1 AU).1.count P.n)).sum:=by
   intro w1 AU N k2 S;let⟨c,a,b⟩:=ih w1 AU N;have:=q i _ _ a;rw[KR,oq];exact⟨c,Y,Y⟩
  rw[bX];split
  .exact up w done h (fV _) Y
  .simp only;have m:({w with aQ:=w.aQ+1}:jU).count P.n=w.count P.n:=rfl;cases C:bB i with
   |none=>exact up {w with aQ:=w.aQ+1} done h (kG m) (by show w.aQ+1<=_;omega)
   |some r=>
    simp only;obtain⟨a,-⟩:=Ca (add:=add) (w:={w with aQ:=w.aQ+1}) (r:=r) k (B _ h) g A y;have L:=qS (P:=P) (add:=add) {w with aQ:=w.aQ+1} g rR r;have G:=qC (P:=P) (add:=add) (n:=P.n) (λu v o=>(k.up u v o).2) P.n i (fE P add {w with aQ:=w.aQ+1} i rR r).2.1 (fE P add {w with aQ:=w.aQ+1} i rR r).1;let⟨b,p⟩:=x {w with aQ:=w.aQ+1} i r g A y C h;have z:({w with aQ:=w.aQ+1}:jU).aQ=w.aQ+1:=rfl;rw[m,z]at L;rw[z]at p;rcases a with⟨e,a,V⟩|⟨a,-⟩
    .rw[a];simp only;split
     .exact up {w with aQ:=w.aQ+1} done h (kG m) (by show w.aQ+1<=_;omega)
     .rw[bW Y,KR,oq];exact⟨h,fV _,by show w.aQ+1<=_;omega⟩
    .rw[R Y,R Y];exact up _ _ b Y Y
theorem ZQ(F G:Nat->Nat)(k:Nat)(h:∀i,F i<=G i*k):∀l:List Nat,(l.map F).sum<=(l.map G).sum*k
 |[]=>J
 |i::l=>by
  have:=ZQ F G k h l;have:=h i;simp only[KR,oq,zN];omega
theorem Ib(f:tX P sc D3)(l:List Nat)(w:jU)(done:List Nat)(hl:∀i,i∈l->i<P.n/\(P.spec i).aG=1/\(P.spec i).aH=512)(h:tC P w.T):
  tC P (bX P add jO bB l w done).1.T/\(bX P add jO bB l w done).1.aQ<=w.aQ+(l.map λi=>1+2*JU P P.n i).sum*(1+(bX P add jO bB l w done).1.count P.n):=by
 obtain⟨c,-,b⟩:=QD (add:=add) (jO:=jO) (bB:=bB) f (tC P) (λ_ h=>h) (λi k=>JU P P.n i*k) (λi a b h=>y' (fV _) h) (λw i r m j g _ d=>by
  let⟨a,b⟩:=Ca (add:=add) (r:=r) f d m j g;have:=b _ (aE2 P add 512 λu v h=>(f.up u v h).2) (VE w i rR r).1;rw[IA]at this;refine⟨?_,this⟩;rcases a with⟨e,a,-⟩|⟨-,a⟩
  .rw[a,RU];exact d
  .exact a) l w done hl h
 have:=ZQ (λi=>1+JU P P.n i*((bX P add jO bB l w done).1.count P.n)) (λi=>1+2*JU P P.n i) (1+(bX P add jO bB l w done).1.count P.n) (λi=>by
  simp only[zN,Nat.mul_add,Nat.two_mul];omega) l
 exact⟨c,Y⟩
end
end
variable{T0:gZ}
section
theorem ZM162{P:Prop}(h:P:=by
  by_cases e:x=p
  .exact hz x (e▸h0)
  .exact hz x (by simpa[fQ,e]using hx)):P:=h
def pT(s:lV)(n:f7):List Row:=if s.aG=1\/s.aG=2 then n.aM else n.fJ
def dp(s:lV)(n:f7):Prop:=s.aG=2->∀r,n.eG r≠0->r∈n.aM
section
variable{P:AC}{add:Bool}{jO:Nat->Bool}{bB:Nat->Option Row}
theorem aAS{s:lV}{n:f7}{m:R7}(hz:dp s n)(h:iX add s n sd r= .ok (n',m)):
  dp s n'/\(add=qT->(∀x,x∈pT s n->x∈pT s n')/\∀x,x∈m.aX->x∈pT s n')/\
  (add=rR->(∀x,x∈pT s n'->x∈pT s n)/\∀x,x∈m.aX->x∈pT s n)/\(m.aX=[]->pT s n'=pT s n):=by
 have j:∀{l:List Row} {a x:Row},x∈l->x≠a->x∈l.erase a:=λc q=>(List.mem_erase_of_ne q).2 c;have g:∀{l:List Row} {a x:Row},x∈l.erase a->x∈l:=λc=>z' c;unfold iX OF uN at h;by_cases k2:s.aG=2
 .have d:s.aG≠1:=Y;have i:∀n,pT s n=n.aM:=λn=>bW (.inr k2);have hz:=hz k2;rw[R d,R d,bW k2,bW k2]at h;simp only[i];generalize v:dF r s.eb=p at h;cases add with
  |true=>
   rw[bW rfl]at h;split at h
   .cases h
   .split at h
    .rename_i h0;split at h
     .cases h
     .rename_i u;have b:∀x,x∈qN s.aH n.aM p↔x∈n.aM\/x=p:=by
       intro x;unfold qN;split
       .grind
       .split<;>grind
      obtain⟨rfl,rfl⟩:=Prod.mk.inj (Except.ok.inj h);refine⟨λ_ x hx=>(b x).2 ?_,λ_=>⟨λx hx=>(b x).2 (.inl hx),λx hx=>(b x).2 (.inr (eP hx))⟩,(λh=>by cases h),(λh=>by cases h)⟩;by_cases e:x=p
      .exact .inr e
      .exact .inl (hz x (by simpa[fQ,e]using hx))
    .rename_i h0;obtain⟨rfl,rfl⟩:=Prod.mk.inj (Except.ok.inj h);refine⟨λ_ x hx=> ?_,λ_=>⟨λx hx=>hx,λx hx=> ?_⟩,(λh=>by cases h),(λh=>by cases h)⟩
     .exact ZM162
     .exact hz x ((show x=p by simpa using hx)▸h0)
  |false=>
   rw[R J]at h;split at h
   .cases h
   .rename_i h0;split at h
    .obtain⟨rfl,rfl⟩:=Prod.mk.inj (Except.ok.inj h);refine⟨λ_ x hx=> ?_,(λh=>by cases h),λ_=>⟨λx hx=>g hx,λx hx=>hz x ((show x=p by simpa using hx)▸h0)⟩,(λh=>by cases h)⟩;by_cases e:x=p
     .simp[fQ,e]at hx
     .exact j (hz x (by simpa[fQ,e]using hx)) e
    .obtain⟨rfl,rfl⟩:=Prod.mk.inj (Except.ok.inj h);refine⟨λ_ x hx=> ?_,(λh=>by cases h),λ_=>⟨λx hx=>hx,λx hx=>hz x ((show x=p by simpa using hx)▸h0)⟩,(λh=>by cases h)⟩;exact ZM162
 .unfold dp pT;refine⟨λh=>dY h k2,?_⟩;clear hz;cases add<;>cases sd<;>grind
structure pX(P:AC)(add:Bool)(T0:gZ)(w:jU):Prop where
 eG:∀v,dp (P.spec v) (w.T v)
 dD:∀v,(w.aX v).Nodup
 on:add=qT->∀v,(∀x,x∈pT (P.spec v) (T0 v)->x∈pT (P.spec v) (w.T v))/\∀x,x∈w.aX v->x∈pT (P.spec v) (w.T v)
 off:add=rR->∀v,(∀x,x∈pT (P.spec v) (w.T v)->x∈pT (P.spec v) (T0 v))/\∀x,x∈w.aX v->x∈pT (P.spec v) (T0 v)
 OE:∀v,w.aX v=[]->pT (P.spec v) (w.T v)=pT (P.spec v) (T0 v)
theorem LV:∀(t l:List Row),l.Nodup->(cP l t).Nodup
 |[],l,h=>h
 |x::t,l,h=>by
  have hl:cP l (x::t)=cP (if x∈l then l else l++[x]) t:=rfl;rw[hl];apply LV;split
  .exact h
  .rw[Fh];exact⟨h,J,λa ha b c e=>by grind⟩
theorem pX.fE{w:jU}(h:pX P add T0 w)(aS:Nat)(sd:Bool)(r:Row):pX P add T0 (fE P add w aS sd r).1:=by
 unfold YtohhhhfdpceppaaGreatDoor.fE;cases e:iX add (P.spec aS) (w.T aS) sd r with
 |error e=>exact h
 |ok p=>
  obtain⟨n',m⟩:=p;let⟨j,k2,d,i⟩:=aAS (h.eG aS) e;have c:∀v,yE w.T aS n' v=if v=aS then n' else w.T v:=λv=>rfl;refine⟨λv=> ?_,λv=> ?_,λha v=> ?_,λha v=> ?_,λv hv=> ?_⟩
  .show dp _ (yE w.T aS n' v);rw[c];split
   .rename_i e;rw[e];exact j
   .exact h.eG v
  .show(if v=aS then cP (w.aX aS) m.aX else w.aX v).Nodup;split
   .exact LV _ _ (h.dD aS)
   .exact h.dD v
  .show(∀x,x∈_->x∈pT (P.spec v) (yE w.T aS n' v))/\∀x,x∈(if v=aS then cP (w.aX aS) m.aX else w.aX v)->x∈pT (P.spec v) (yE w.T aS n' v);have q:=h.on ha v;rw[c];split
   .rename_i e;subst e;refine⟨λx a=>(k2 ha).1 x (q.1 x a),λx a=> ?_⟩;rcases(kA _ _ _).1 a with a|a
    .exact(k2 ha).1 x (q.2 x a)
    .exact(k2 ha).2 x a
   .exact q
  .show(∀x,x∈pT (P.spec v) (yE w.T aS n' v)->_)/\∀x,x∈(if v=aS then cP (w.aX aS) m.aX else w.aX v)->_;have q:=h.off ha v;rw[c];split
   .rename_i e;subst e;refine⟨λx a=>q.1 x ((d ha).1 x a),λx a=> ?_⟩;rcases(kA _ _ _).1 a with a|a
    .exact q.2 x a
    .exact q.1 x ((d ha).2 x a)
   .exact q
  .have b:(if v=aS then cP (w.aX aS) m.aX else w.aX v)=[]:=hv;show pT (P.spec v) (yE w.T aS n' v)=_;rw[c];split at b
   .rename_i e;subst e;have g:w.aX v=[]:=List.eq_nil_iff_forall_not_mem.2 λx a=>by have:=(kA m.aX (w.aX v) x).2 (.inl a);rw[b]at this;cases this
    have e2:m.aX=[]:=List.eq_nil_iff_forall_not_mem.2 λx a=>by have:=(kA m.aX (w.aX v) x).2 (.inr a);rw[b]at this;cases this
    rw[bW rfl,i e2];exact h.OE v g
   .rename_i e;rw[R e];exact h.OE v b
theorem pX.aQ{w:jU}(h:pX P add T0 w)(n:Nat):pX P add T0 {w with aQ:=n}:=⟨h.eG,h.dD,h.on,h.off,h.OE⟩
theorem pX.gI(aS:Nat)(sd:Bool):∀(l:List Row) (w:jU) (next:List Row),pX P add T0 w->pX P add T0 (gI P add aS sd l w next).1
 |[],_,_,h=>h
 |r::l,w,next,h=>pX.gI aS sd l _ _ ((h.fE aS sd r).aQ _)
theorem pX.eT:∀(f aS:Nat) (fl:List Row) (w:jU),pX P add T0 w->pX P add T0 (eT P add f aS fl w)
 |0,_,_,_,h=>h
 |f+1,aS,fl,w,h=>by
  unfold YtohhhhfdpceppaaGreatDoor.eT;split
  .exact h
  .split
   .exact h
   .exact pX.eT f _ _ _ (pX.gI _ _ _ _ _ h)
theorem pX.aD:∀(l:List Nat) (w:jU) (done:List Nat),pX P add T0 w->pX P add T0 (bX P add jO bB l w done).1
 |[],_,_,h=>h
 |i::l,w,done,h=>by
  rw[bX];split
  .exact pX.aD l _ _ h
  .simp only;split
   .exact pX.aD l _ _ (h.aQ _)
   .have hd:=(h.aQ (w.aQ+1)).fE i rR (by assumption);split
    .exact pX.aD l _ _ hd
    .split
     .exact hd
     .exact pX.aD l _ _ (pX.eT _ _ _ _ hd)
theorem IX(f g:Nat->Nat):∀l:List Nat,(∀i,i∈l->f i<=g i)->(l.map f).sum<=(l.map g).sum
 |[],_=>J
 |i::l,h=>by
  have:=IX f g l λj a=>h j (by simp[a]);have:=h i J;simp only[KR,oq];omega
theorem No{s:lV}(n:f7)(h:s.aG=1\/s.aG=2\/s.aG=3):lI s n=O (pT s n):=by unfold lI pT;grind
theorem pX.count{w:jU}(h:pX P add T0 w)(b:∀v,v<P.n->(P.spec v).aG=1\/(P.spec v).aG=2\/(P.spec v).aG=3)(a:∀v,v<P.n->(pT (P.spec v) (w.T v)).Nodup):
  (add=qT->w.count P.n<=eH P w.T)/\(add=rR->w.count P.n<=eH P T0/\eH P w.T<=eH P T0)/\(w.count P.n=0->eH P w.T=eH P T0):=by
 have hs:∀T:gZ,eH P T=((gz P.n).map λv=>O (pT (P.spec v) (T v))).sum:=λT=>by
  unfold eH;congr 1;apply vW;intro v hv;exact No _ (b v (wW.1 hv))
 rw[hs,hs];unfold jU.count;refine⟨λha=>IX _ _ _ λv _=>By (h.dD v) (h.on ha v).2,λha=>⟨IX _ _ _ λv _=>By (h.dD v) (h.off ha v).2,IX _ _ _ λv hv=>By (a v (wW.1 hv)) (h.off ha v).1⟩,λc=> ?_⟩;congr 1;apply vW;intro v hv;have:O (w.aX v)<=((gz P.n).map λi=>O (w.aX i)).sum:=jU.Cd w (wW.1 hv);rw[h.OE v (dt.1 Y)]
end
end
section
def WdT(P:AC)(T:gZ):Prop:=∀v,(P.spec v).aG=3->∀x,x∈(T v).fJ->O x=(P.spec v).kJ
def Mw(P:AC):Prop:=∀v,v<P.n->(P.spec v).aG=3->∀x y:Row,O x=(P.spec v).kJ->O y=(P.spec v).kJ->dF x (P.spec v).bP=dF y (P.spec v).bP->x=y
section
variable{P:AC}{add:Bool}{jO:Nat->Bool}{bB:Nat->Option Row}
theorem aIu{s:lV}{n:f7}{m:R7}(g:s.aG=3->∀x,x∈n.fJ->O x=s.kJ)(e:sd=rR->O r=s.kJ)(hs:sd=qT->s.aG=3)(h:iX add s n sd r= .ok (n',m)):
  (s.aG=3->∀x,x∈n'.fJ->O x=s.kJ)/\∀x,x∈m.kC->O x=s.bT:=by
 have d:∀{l:List Row} {a x:Row},x∈l.erase a->x∈l:=λb=>z' b;have c:O (dF r s.eb)=O s.eb:=by unfold dF;rw[r8]
 unfold iX OF uN at h;unfold lV.bT;cases add<;>cases sd<;>grind
theorem Yx{l:List Row}{f:Row->Bool}(hl:l.Nodup)(h:∀x y,x∈l->y∈l->f x=qT->f y=qT->x=y):O (l.filter f)<=1:=by
 have c:(l.filter f).Nodup:=hl.filter f;match e:l.filter f with
 |[]=>simp
 |[x]=>simp
 |x::y::t=>
  have a:x∈l.filter f:=by rw[e];simp
  have b:y∈l.filter f:=by rw[e];simp
  rw[LC]at a b;have:=h x y a.1 b.1 a.2 b.2;rw[e,U8]at c;exact dY (by simp[this]) c.1
theorem Zq(i:Mw P){w:jU}{aS:Nat}(c:aS<P.n)(b:WdT P w.T)(hs:sd=qT->(P.spec aS).aG=3/\(w.T aS).fJ.Nodup)(v:sd=rR->O r=(P.spec aS).kJ):
  WdT P (fE P add w aS sd r).1.T/\(∀x,x∈(fE P add w aS sd r).2.1->O x=(P.spec aS).bT)/\(fE P add w aS sd r).2.2.1<=1/\O (fE P add w aS sd r).2.1<=1:=by
 obtain⟨G,-,l,-⟩:=qS (P:=P) (add:=add) w c sd r;obtain⟨-,-,q⟩:=VE (P:=P) (add:=add) w aS sd r;have A:(fE P add w aS sd r).2.2.1<=1:=by
  cases sd with
  |false=>exact l rfl
  |true=>
   let⟨a,z⟩:=hs rfl;obtain⟨F,B,j,-⟩:=q rfl a;rw[<-B];refine j8 j.length_le (Yx z λx y g d C u=>i aS c a x y (b aS a x g) (b aS a y d) ?_);rw[of_decide_eq_true C,of_decide_eq_true u]
 refine⟨?_,?_,A,Y⟩<;>unfold fE<;>cases e:iX add (P.spec aS) (w.T aS) sd r with
 |error e=>grind
 |ok p=>
  obtain⟨n',m⟩:=p;let⟨f,k2⟩:=aIu (b aS) v (λh=>(hs h).1) e;grind [WdT,yE]
theorem aJK(B:Nat)(q:Mw P)(C:∀u v,P.dI u=H v->P.dN u=rR->(P.spec u).bT=(P.spec v).kJ):
  RC P add B λf aS fl w=>WdT P w.T->O fl<=1->(∀x,x∈fl->O x=(P.spec aS).bT)->WdT P (eT P add f aS fl w).T/\(eT P add f aS fl w).aQ<=w.aQ+2*JU P f aS:=by
 refine⟨λf aS fl w h F _ _=> ?_,λf aS up fl w a F c L k b o g G hl n=> ?_⟩
 .cases f<;>grind [eT]
 .by_cases i:fl=[]
  .grind [eT]
  .have e:eT P add (f+1) aS fl w=eT P add f up (gI P add up (P.dN aS) fl w []).2 (gI P add up (P.dN aS) fl w []).1:=by
    rw[eT,a];exact R i
   obtain⟨r,rfl⟩:∃r,fl=[r]:=List.length_eq_one_iff.1 (kX (List.length_pos_iff.2 i));let⟨l,k2,m,j⟩:=Zq (add:=add) q c (sd:=P.dN aS) (r:=r) G (λh=>⟨(b h).1,(b h).2.1⟩) (λh=>by rw[n r J,C aS up a h]);have z:=(qS (P:=P) (add:=add) w c (P.dN aS) r).2.2.2.2.1;let⟨d,hd⟩:=D (fE P add w up (P.dN aS) r);have y:gI P add up (P.dN aS) [r] w []=({d.1 with aQ:=d.1.aQ+1+if P.dN aS then d.2.2.1 else 0},d.2.1):=by rw[gI,gI,hd];rfl
   rw[hd]at l k2 m j z;rw[y]at g e;let⟨A,p⟩:=g l j k2;have e2:JU P (f+1) aS=1+JU P f up:=by rw[JU,a]
   rw[e,e2];refine⟨A,j8 p ?_⟩;show d.1.aQ+1+(if P.dN aS then d.2.2.1 else 0)+2*JU P f up<=_;split<;>omega
end
end
section
section
variable{P:AC}{sc D3:Nat->Nat}{add:Bool}{jO:Nat->Bool}{bB:Nat->Option Row}
theorem Qw(f:tX P sc D3)(j:Mw P)(z:∀u v,P.dI u=H v->P.dN u=rR->(P.spec u).bT=(P.spec v).kJ)(x:∀i r,(P.spec i).aG=1->bB i=H r->O r=(P.spec i).kJ)(l:List Nat)(w:jU)(done:List Nat)(hl:∀i,i∈l->i<P.n/\(P.spec i).aG=1/\(P.spec i).aH=512)(h:tC P w.T)(C:WdT P w.T):
  (bX P add jO bB l w done).1.aQ<=w.aQ+(l.map λi=>1+2*JU P P.n i).sum:=
 (QD (add:=add) (jO:=jO) (bB:=bB) f (λT=>tC P T/\WdT P T) (λ_ h=>h.1) (λi _=>2*JU P P.n i) (λi a b _=>fV _) (λw i r m d A B c=>by
  let⟨a,b⟩:=Ca (add:=add) (r:=r) f c.1 m d A;let⟨q,k2,F,p⟩:=Zq (add:=add) j m (sd:=rR) (r:=r) c.2 (λh=>by cases h) (λ_=>x i r d B);let⟨y,g⟩:=b _ (aJK 512 j z) q p k2;rw[IA]at g;refine⟨⟨?_,y⟩,g⟩;rcases a with⟨e,a,-⟩|⟨-,a⟩
  .rw[a,RU];exact c.1
  .exact a) l w done hl ⟨h,C⟩).2.2
end
end
variable{V m:Nat}{p:vZ}{q:bK}
theorem aAu(n:aB q=(0,p))(T:CL (cD (aJ q)) (cL q)):∀j,j<O p.aI->(eA p.aI j).aG=3->(eA p.aI (eA p.aI j).bP).vars=(eA p.aI j).vars:=by
 have f:EvB (cN (-1) (aJ q)) (cD (aJ q)):=by
  have hl:∀i,i<O (aJ q)->hJ (cN (-1) (aJ q)).1 i sT=⟨1,i,cB (hJ (aJ q) i 0),0,0,-1,rR⟩:=λi d=>by unfold cN;grind
  have G:∀i,i<O (aJ q)->hJ (cN (-1) (aJ q)).2 i 0=i:=λi d=>by unfold cN;grind
  have k:O (cN (-1) (aJ q)).1=O (aJ q):=by unfold cN;simp
  have F:O (cN (-1) (aJ q)).2=O (aJ q):=by unfold cN;simp
  refine⟨λe c=> ?_,λe c=> ?_,by rw[rL];exact B5,λe s c=> ?_,λj w y=> ?_⟩
  .rw[F]at c;rw[G e c,k];exact c
  .rw[rL,wW]at c;rw[F];exact c
  .let⟨i,d,u⟩:=vP.1 c;injection u with u e2;rw[u,G i d,hl i d,e2]
  .rw[k]at w;rw[hl j w]at y;simp at y
 unfold aB at n;split at n
 .rename_i hs;injection n with m v;exact dY m hs
 .split at n
  .injection n with m v;cases m
  .split at n
   .injection n with m v;cases m
   .rename_i b l m;let⟨B,g2⟩:=Jt _ _ _ f T b l m;have g3:EvB (b.1,l.map λx=>hJ b.2 x.1 0) (oP l):=by
     have L:∀i,i<O l->hJ (l.map λx=>hJ b.2 x.1 0) i 0=hJ b.2 (hJ l i sT).1 0:=λi d=>by grind
     have o:∀i,i<O l->hJ l i sT∈l:=λi d=>by grind
     have z:mV (oP l)=gz (O l):=by unfold oP;rw[rL,wn]
     refine⟨λe c=> ?_,λe c=> ?_,by rw[z];exact B5,λe s c=> ?_,B.aKz⟩
     .simp only[r8]at c;simp only;rw[L e c];exact B.C1 _ (B.Kr _ (kR.2 ⟨_,o e c⟩))
     .rw[z,wW]at c;simpa using c
     .let⟨i,d,u⟩:=vP.1 c;rw[r8]at d;injection u with u e2;show(hJ b.1 (hJ (l.map λx=>hJ b.2 x.1 0) e 0) sT).vars=cB s;have Q:hJ (l.map (·.2)) i 0=(hJ l i sT).2:=by grind
      have g:=B.now (hJ l i sT).1 (hJ l i sT).2 (o i d);rw[u,L i d,e2];exact g.ds (xE cB Q.symm)
    have P:CL (oP l) 0:=by
     have:CL l 0:=λa b m v=>⟨(g2 a b m v).1,λh=>by rw[yo]at h;cases h⟩;refine this.xJ λs=>⟨λ⟨x,hx,e⟩=> ?_,λ⟨x,hx,e⟩=> ?_⟩
     .obtain⟨i,d,rfl⟩:=vP.1 hx;rw[r8]at d;exact⟨hJ l i sT,BC,by rw[<-e];grind⟩
     .obtain⟨i,d,rfl⟩:=Na hx;exact⟨(i,s),vP.2 ⟨i,by rw[wn];exact d,BC⟩,rfl⟩
    have g5:=Jq (pa:= -1) cI _ _ g3 P;have v:p.aI=l9 (fH (-1) cI (b.1,l.map λx=>hJ b.2 x.1 0) (oP l)).1.1 (O b.1) (l.map λx=>hJ b.2 x.1 0):=(xE (λr:Int×vZ=>r.2.aI) n).symm;generalize V:fH (-1) cI (b.1,l.map λx=>hJ b.2 x.1 0) (oP l)=g at v g5;rw[v];intro j w y;have C:∀(N:List bE) low tops i,i<O N->eA (l9 N low tops) i={hJ N i sT with bS:=m8 N i,mL:=decide (low<=i)||decide (i∈tops)}:=λN low tops i d=>by unfold l9 eA;grind
    have A:∀(N:List bE) low tops,O (l9 N low tops)=O N:=λN low tops=>by unfold l9;simp
    simp only[A]at w;rw[C _ _ _ _ w]at y|-;let⟨S,k2⟩:=g5.aKz j w y;simp only;rw[C _ _ _ _ S];exact k2
theorem Pa(s:Nat):(cB s).Nodup:=List.nodup_range.filter _
theorem gU.aW4(h:gU V m p)(q:∀j,j<O p.aI->(eA p.aI j).aG=3->(eA p.aI (eA p.aI j).bP).vars=(eA p.aI j).vars):Mw (aZ p):=by
 intro v hv n x y c b a;have d:(eA p.aI v).aG=3:=n;have r:(eF p v).kJ=O (eA p.aI v).vars:=by unfold eF;simp[d]
 have e:(eF p v).bP=iJ (eA p.aI v).vars (eA p.aI v).vars:=by unfold eF;simp only[d,yN];rw[q v hv d]
 change O x=(eF p v).kJ at c;change O y=(eF p v).kJ at b;change dF x (eF p v).bP=dF y (eF p v).bP at a;rw[r]at c b;rw[e]at a;obtain⟨s,-,hs⟩:=(h.EN v hv).vars;have g:(eA p.aI v).vars.Nodup:=hs▸Pa s;generalize l:(eA p.aI v).vars=vs at c b a g;unfold dF iJ at a;rw[List.map_map,List.map_map,List.map_inj_left]at a;refine List.ext_getElem Y λi w u=> ?_;have:=a (vs[i]' Y) (gu _);simp only[Function.comp]at this;rw[g.idxOf_getElem i Y]at this;grind
def EQ(ns:List bE):Nat->Int->Nat
 |0,_=>0
 |f+1,aS=>if 0<=aS then 1+EQ ns f (eA ns aS.toNat).bS else 0
def RJ(p:vZ):Nat:=((List.range (O p.aI)).map λi=>if(eA p.aI i).aG=1 then 1+2*EQ p.aI (O p.aI) (eA p.aI i).bS else 0).sum
theorem ZD(h:∀i,i<O p.aI->0<=(eA p.aI i).bS->(eA p.aI i).bS.toNat<O p.aI):∀(f i:Nat),i<O p.aI->EQ p.aI f (eA p.aI i).bS=JU (aZ p) f i
 |0,_,_=>rfl
 |f+1,i,hi=>by
  have b:(aZ p).dI i=if i<O p.aI/\0<=(eA p.aI i).bS then H (eA p.aI i).bS.toNat else K:=rfl;unfold EQ JU;by_cases a:0<=(eA p.aI i).bS
  .rw[bW a,b,bW ⟨hi,a⟩,ZD h f _ (h i hi a)]
  .rw[R a,b,R λh=>a h.2]
theorem Iy(g:Nat->Nat)(m:Nat):∀n,m<=n->((gz n).map λi=>if i<m then g i else 0).sum=((gz m).map g).sum
 |0,h=>by
  have:m=0:=Y;subst this;rfl
 |n+1,h=>by
  by_cases e:m=n+1
  .subst e;congr 1;apply vW;intro i a;rw[bW (wW.1 a)]
  .rw[dr,QW,zo,Iy g m n Y];simp only[KR,List.map_nil,oq,List.sum_nil];rw[R Y];omega
theorem gU.update(h:gU V m p):RJ p=((gz m).map λi=>1+2*JU (aZ p) (aZ p).n i).sum:=by
 unfold RJ;rw[<-Iy _ m (O p.aI) h.CZ];congr 1;apply vW;intro i a;have a:=wW.1 a;have g:=ZD (p:=p) (λi a c=>by obtain⟨j,d,e,-⟩:=h.aAy i a c;rw[e];simpa using d) (O p.aI) i a;rw[g];by_cases b:i<m
 .rw[bW b,bW ((h.EN i a).leaf.2 b)];rfl
 .rw[R b,R λe=>b ((h.EN i a).leaf.1 e)]
variable{bB:Nat->Option Row}
theorem Rj{cells:Nat}(h:gU V m p){t:iL}(c:tC (aZ p) t.T){add:Bool}{jO:Nat->Bool}(hl:∀i,i<m->i<(aZ p).n/\((aZ p).spec i).aG=1/\((aZ p).spec i).aH=512)(b:(fC (aZ p) cells m t add jO bB).2.2.2=0):
  (fC (aZ p) cells m t add jO bB).2.1<=RJ p*(1+(fC (aZ p) cells m t add jO bB).2.2.1)/\
  ((fC (aZ p) cells m t add jO bB).2.2.1<=eH (aZ p) t.T\/(fC (aZ p) cells m t add jO bB).2.2.1<=eH (aZ p) (fC (aZ p) cells m t add jO bB).1.T)/\
  (eH (aZ p) (fC (aZ p) cells m t add jO bB).1.T<=cells\/eH (aZ p) (fC (aZ p) cells m t add jO bB).1.T<=eH (aZ p) t.T)/\
  ((fC (aZ p) cells m t add jO bB).2.2.1=0->eH (aZ p) (fC (aZ p) cells m t add jO bB).1.T=eH (aZ p) t.T)/\
  (Mw (aZ p)->(∀u v,(aZ p).dI u=H v->(aZ p).dN u=rR->((aZ p).spec u).bT=((aZ p).spec v).kJ)->(∀i r,((aZ p).spec i).aG=1->bB i=H r->O r=((aZ p).spec i).kJ)->WdT (aZ p) t.T->(fC (aZ p) cells m t add jO bB).2.1<=RJ p):=by
 have j:∀i,i∈gz m->i<(aZ p).n/\((aZ p).spec i).aG=1/\((aZ p).spec i).aH=512:=λi B=>hl i (wW.1 B);have hK:pX (aZ p) add t.T ⟨t.T,0,λ_=>[]⟩:=by
  refine⟨λv d r A=> ?_,λv=>B0,λ_ v=>⟨λx a=>a,λx a=>by cases a⟩,λ_ v=>⟨λx a=>a,λx a=>by cases a⟩,λv _=>rfl⟩;by_cases hv:v<(aZ p).n
  .exact((c.all v hv).FI d r).2 (by show 0<(t.T v).eG r;have:(t.T v).eG r≠0:=A;omega)
  .have:(eA p.aI v).aG=2:=d;have C:O p.aI<=v:=by have:(aZ p).n=O p.aI:=rfl;omega
   unfold eA at this;rw[gV,Bk C]at this;cases this
 let⟨a1,a2⟩:=Ib (add:=add) (jO:=jO) (bB:=bB) h.l9 (gz m) ⟨t.T,0,λ_=>[]⟩ [] j c;have a3:=λz F y f=>Qw (add:=add) (jO:=jO) (bB:=bB) h.l9 z F y (gz m) ⟨t.T,0,λ_=>[]⟩ [] j c f;have w:=pX.aD (jO:=jO) (bB:=bB) (gz m) ⟨t.T,0,λ_=>[]⟩ [] hK;rw[<-h.update]at a2;simp only[<-h.update]at a3;generalize l:bX (aZ p) add jO bB (gz m) ⟨t.T,0,λ_=>[]⟩ []=g at a1 a2 w;simp only[l]at a3;let⟨c1,c2,c3⟩:=w.count h.WE λv hv=>by
  unfold pT;have:=a1.all v hv;split
  .exact this.dD
  .rename_i d;exact(this.US (by rcases h.WE v hv with e|e|e<;>simp_all)).1
 unfold fC at b|-;simp only[l]at b|-;split at b
 .cases b
 .rename_i G;rw[R G];split at b
  .cases b
  .rename_i q;rw[R q];simp only[Nat.zero_add]at a2 a3|-;refine⟨a2,?_,?_,c3,a3⟩
   .cases add with
    |true=>exact .inr (c1 rfl)
    |false=>exact .inl (c2 rfl).1
   .cases add with
    |true=>exact .inl (eP q)
    |false=>exact .inr (c2 rfl).2
variable{F G sz x β:Nat}{v:aE}{w:aA}
section
section
variable{wa wr w2:aA}{ρ fD:bC}{q:bK}{b d cells N:Nat}{t:iL}
variable{q:bK}{cells:Nat}{t:iL}{add:Bool}{rel:dO}{r:Row}{bEs:iL×Nat×Nat×Nat}
def LS(β x:Nat):Prop:=CK β x\/x=1\/x=3\/x=5
theorem TI.ls(h:TI β x):LS β x:=by rcases h with h|h;exact .inl h;exact .inr (.inl h)
theorem aFH(h:x=0\/x=2\/x=4\/x=6\/x=7):¬LS 10 x:=by unfold LS CK;omega
theorem aFF(h:x<10)(a:x≠1):¬TI 10 x:=by unfold TI CK;omega
structure BM(wa wr:aA)(ρ:bC)(q:bK)(b d cells N:Nat)(t:iL):Prop where
 fK:bI wa (λ_=>0) (LS 10) wr ρ
 oU:lR wr ρ 10 b q cells t N N
 doc:Ff wr ρ 2 d (O (aB q).2.aI)
theorem BM.eU(h:BM wa wr ρ q b d cells N t):U wa [] wr []:=h.fK.uz λ_ _=>aFH (.inl rfl)
theorem BM.on(h:BM wa wr ρ q b d cells N t)(a:bI wr ρ eZ w2 fD):BM wa w2 fD q b d cells N t:=
 ⟨h.fK.ds (a.aL nZ),h.oU.eb a vF,h.doc.eb a id⟩
theorem BM.row(h:BM wa wr ρ q b d cells N t){α:Type}{f:α->Nat->aE}{e:α}{l:List α}(a:fM f e sz wa v l):lW f e sz wr ρ 0 v l:=
 (show lW f e sz wa (λ_=>0) 0 v l from⟨a,λ_ _ _=>rfl⟩).eb h.fK (aFH (.inl rfl))
theorem BM.O0{bEs:iL×Nat×Nat×Nat}(h:BM wa wr ρ q b d cells N t)(a:bI wr ρ (TI 10) w2 fD)(c:lR w2 fD 10 b q cells bEs.1 (N+1) (N+1)):BM wa w2 fD q b d cells (N+1) bEs.1:=
 ⟨h.fK.ds (a.aL λ_ h=>h.ls),c,h.doc.eb a (aFF E E)⟩
end
theorem Hh{a:pB}{r x:Row}(h:jI p a i r=H x):O x=O (eA p.aI i).vars:=by
 unfold jI at h;split at h
 .cases h
 .split at h
  .injection h with h;rw[<-h,sV,GN]
  .cases h
theorem RY{q:bK}(h:(aB q).1=0):fY q=0:=by
 by_cases hs:fY q=0
 .exact hs
 .rw[PU hs]at h;exact dY h hs
theorem Gz{q:bK}{c:Int}(h:mN q c=0):1<=c/\c<=65536:=by
 have a:=MH h;unfold mN at h;rw[R (by rw[a];simp)]at h;split at h
 .cases h
 .rename_i b;omega
theorem aKy{q:bK}(a:bo q)(h:BL (aJ q) (O (vars q)) (cL q)=rR):Mw (aZ (aB q).2):=
 a.wf.aW4 (aAu (Prod.ext a.aEa rfl) (aJ3 (λi=>by
  rw[gV];cases e:(aJ q)[i]?with
  |none=>exact Nat.two_pow_pos _
  |some s=>exact(qQ (RY a.aEa)).xJ s (ul e)) h))
theorem lR.wd{ρ:bC}{b cells:Nat}{q:bK}{t:iL}(h:lR w ρ β b q cells t F G):WdT (aZ (aB q).2) t.T:=by
 intro v a x c;by_cases hv:v<O (aB q).2.aI
 .obtain⟨nb,-,-,-,-,-,d,-⟩:=h.bd.zC (i:=v) hv;exact(d.Nr a x c).2
 .have:(eA (aB q).2.aI v).aG=3:=a;unfold eA at this;rw[gV,Bk Y]at this;cases this
theorem lR.RP{ρ:bC}{b cells:Nat}{q:bK}{t:iL}(h:lR w ρ β b q cells t F G):eH (aZ (aB q).2) t.T<=2752512:=by
 have d:eH (aZ (aB q).2) t.T<=O (aB q).2.aI*65536:=ZX (k:=O (aB q).2.aI) λi c=>by
  obtain⟨nb,-,-,-,-,-,a,-⟩:=h.bd.zC (i:=i) c;exact a.yZ
 have:=h.ok.oE;omega
theorem ZC(ns:List bE):∀(f:Nat) (a:Int),EQ ns f a<=f
 |0,_=>fV _
 |f+1,a=>by
  unfold EQ;have:=ZC ns f (eA ns a.toNat).bS;split<;>omega
def K4(ns:List bE)(k:Nat):Nat:=((List.range k).map λi=>if(eA ns i).aG=1 then 1+2*EQ ns (O ns) (eA ns i).bS else 0).sum
theorem ZG(ns:List bE)(k:Nat):K4 ns (k+1)=K4 ns k+if(eA ns k).aG=1 then 1+2*EQ ns (O ns) (eA ns k).bS else 0:=by
 unfold K4;rw[dr,QW,zo];simp
theorem ZH(ns:List bE):∀k,K4 ns k<=k*(1+2*O ns)
 |0=>by unfold K4;simp
 |k+1=>by
  rw[ZG,zN,Nat.one_mul];have:=ZH ns k;have:=ZC ns (O ns) (eA ns k).bS;split<;>omega
theorem aDw{q:bK}(b:bo q):RJ (aB q).2<=3570:=by
 have h:=ZH (aB q).2.aI (O (aB q).2.aI);have a:=b.oE;have:O (aB q).2.aI*(1+2*O (aB q).2.aI)<=42*85:=y' a Y;exact j8 h (j8 this E)
structure aSK(p:vZ)(cells:Nat)(clash:Bool)(t:iL)(bEs:iL×Nat×Nat×Nat):Prop where
 no:bEs.2.2.2≠0->bEs.1=t/\bEs.2.1=0/\bEs.2.2.1=0
 aQ:bEs.2.2.2=0->bEs.2.1<=RJ p*(1+bEs.2.2.1)
 aX:bEs.2.2.2=0->bEs.2.2.1<=eH (aZ p) t.T\/bEs.2.2.1<=eH (aZ p) bEs.1.T
 room:bEs.2.2.2=0->eH (aZ p) bEs.1.T<=cells\/eH (aZ p) bEs.1.T<=eH (aZ p) t.T
 OE:bEs.2.2.2=0->bEs.2.2.1=0->eH (aZ p) bEs.1.T=eH (aZ p) t.T
 aKz:bEs.2.2.2=0->clash=rR->bEs.2.1<=RJ p
theorem lR.a3s{ρ:bC}{b cells:Nat}{q:bK}{t:iL}(h:lR w ρ β b q cells t F G){add:Bool}{rel:dO}{r:Row}{bEs:iL×Nat×Nat×Nat}(c:fC (aZ (aB q).2) cells (O q.aD) t add (pD q rel) (d8 q r)=bEs):
  aSK (aB q).2 cells (BL (aJ q) (O (vars q)) (cL q)) t bEs:=by
 have hK:=Rj (cells:=cells) (add:=add) (jO:=pD q rel) (bB:=d8 q r) h.ok.wf h.ZM h.ok.wf.cN;rw[c]at hK;refine⟨λa=>⟨(RL h.ok h.ZM c a).1,?_⟩,λa=>(hK a).1,λa=>(hK a).2.1,λa=>(hK a).2.2.1,λa=>(hK a).2.2.2.1,λa l=>(hK a).2.2.2.2 (aKy h.ok l) (λu v e hs=> ?_) (λi x g d=> ?_) h.wd⟩
 .unfold fC at c;simp only at c;split at c
  .rw[<-c];exact⟨rfl,rfl⟩
  .split at c
   .rw[<-c];exact⟨rfl,rfl⟩
   .rw[<-c]at a;exact dY rfl a
 .have:=(h.ok.wf.aDs e).1;rw[hs]at this;exact this
 .rw[Hh d];have j:(eA (aB q).2.aI i).aG=1:=g;show _=(eF (aB q).2 i).kJ;unfold eF;simp[j]
end
theorem rIs(x m c v:Option Addr)(r i n j p q k2 l:Nat)(dQ a:Int)(w:aA):
  aK prog 52 #[.agg #[jS x r p,jS m i q,jS c n k2,mj mn dQ,jS v j l],mj mn a] w λe w'=>e=mi (nj (decide (0<=a)&&decide (a<n)))/\U w [] w' []:=by
 let⟨wa,u⟩:=D (i5 w (kd #[jS x r p,jS m i q,jS c n k2,X dQ,jS v j l] 53));have g:=Za u;have b2:h8 wa ⟨w,2,K⟩=H (jS c n k2):=u▸aP (mE w _) rfl;go_in;by_cases d:0<=a
 .have b:decide (0<=a)=qT:=kY d;rw[b,VN];go_wp2;go_ret;exact⟨rfl,g⟩
 .have b:decide (0<=a)=rR:=kE d;rw[b,Bool.false_and];go_wp2;go_ret;exact⟨rfl,g⟩
theorem aJ0(ns:List (bE×aE))(i:Nat):eA (ns.map (·.1)) i=(hJ ns i sT).1:=by
 unfold eA;rw[gV,gV,So];cases ns[i]? <;>rfl
theorem Vi(p0 p1 p4:Option Addr)(l0 l1 l4 k0 k1 k4:Nat)(nv:aE)(dQ:Int)(ns:List (bE×aE))(w:aA)(h:fM nS sT 7 w nv ns)(qj:O ns<=42)(hp:∀i,i<O ns->(eA (ns.map (·.1)) i).bS<O ns):
  aK prog 18 #[.agg #[jS p0 l0 k0,jS p1 l1 k1,nv,mj mn dQ,jS p4 l4 k4]] w λe w'=>e=mi (mj mn (K4 (ns.map (·.1)) (O ns):Int))/\U w [] w' []:=by
 obtain⟨ad,cap,rfl,-⟩:=h.len;obtain⟨P,hP⟩:=D (ns.map (·.1));obtain⟨n,hn⟩:=D (O ns);have hPn:O P=n:=by rw[<-hP,<-hn,wn]
 obtain⟨wa,dM⟩:=D (i5 w (kd #[jS p0 l0 k0,jS p1 l1 k1,jS ad n cap,mj mn dQ,jS p4 l4 k4] 53));have cV:=Za dM;obtain⟨B,hB⟩:=D (i7 w.heap);have lC:=Ze dM hB;have t:=Z (h.on cV);rw[hn]at hp qj t|-;rw[hP]at hp|-;have Tq:=Z hn;have N:=Z (λi=>hP▸aJ0 ns i:∀i,eA P i=(hJ ns i sT).1);have HP:=Z hp;have F:=Z hPn;have yM:=Z cV;have U7:=Z lC;clear h hp hP hn hPn cV lC;go_enter func18,ntmps18;go_upto_region 3 with(fail);clear dM;go_loopg [3,4] n (λgg s3 s4 wr=>∃k:Nat,k<=n/\gg=n-k/\s4=mj mn k/\s3=mj mn (K4 P k:Int)/\U wa [] wr [])
 case atStart=>exact⟨0,B6 _,rfl,rfl,rfl,U.refl _ _⟩
 case round=>
  obtain⟨k,hk,CP,rfl,rfl,hU⟩:=hrel;have v:=Z hU;have JY:=Z CP;have lC:=hU.aC U7.o J;obtain⟨b0,b1,b2,b3,b4⟩:=Z5 lC;clear hU CP lC;by_cases G:k<n
  .obtain⟨g,o,cap',hv,hg,n0,-,-,-,-,n5,-⟩:=(t.o.on v.o).at7 (i:=k) (by rw[Tq.o];exact G);rw[Tq.o]at hv;injection hv with x1 x2 x3;clear x2 x3;subst x1;rw[<-N.o k]at n0 n5;have BH:(k:Int)<(n:Int):=Y;have V:=ZH P k;have m:=ZG P k;have GX:k*(1+2*O P)<=42*85:=y' Y (by rw[F.o];omega);have C:=Z G;have Q:=Z (HP.o k G);obtain⟨S,hS⟩:=D (K4 P k);rw[hS]at V m|-;have VA:S<=3570:=Y;obtain⟨x,hx⟩:=D (eA P k);rw[hx]at n0 n5 Q m;clear V GX hS hx hg hk;by_cases A:x.aG=1
   .have g1:((x.aG:Int)==1)=qT:=by rw[A];rfl
    have g1':((x.aG:Int)!=1)=rR:=by rw[A];rfl
    rw[if_pos A,F.o]at m;have sy:=Z m;have d:=ZC P n x.bS;have L:=Z d;obtain⟨W,hW⟩:=D (EQ P n x.bS);rw[hW]at sy L;have HW:=Z hW;have JK:IntKind.i64.wrap ((S:Int)+1)=(S:Int)+1:=IntWalk.i64_in _ Y;clear m A d hW G;go_upto_region 9 with(fail);clear n0 n5;go_loopg [3,5,6] n (λgg s3 s5 s6 wi=>∃(j a:Nat) (z:Int),j<=n/\gg=n-j/\s6=mj mn j/\s5=mj mn z/\s3=mj mn ((S:Int)+1+2*a)/\a+EQ P (n-j) z=W/\z<n/\U wr [] wi [])
    case atStart=>exact⟨0,0,x.bS,B6 _,rfl,rfl,rfl,by go_num,by rw[Nat.zero_add];exact HW.o,Q.o,U.refl _ _⟩
    case round=>
     obtain⟨j,a,z,hj,Hv,rfl,rfl,rfl,l,hz,b⟩:=hrel;have HGJ:=Z Hv;have c:=Z b;have c0:=b.cell b0 J;have c1:=b.cell b1 J;have c2:=b.cell b2 J;have c3:=b.cell b3 J;have c4:=b.cell b4 J;have d:=L.o;clear b0 b1 b2 b3 b4 Hv b;by_cases Py:j<n
     .have uU:(j:Int)<(n:Int):=Y;have q:EQ P (n-j) z=if 0<=z then 1+EQ P (n-(j+1)) (eA P z.toNat).bS else 0:=by
       obtain⟨f,hf⟩:∃f,n-j=f+1:=⟨n-j-1,Y⟩;rw[hf,show n-(j+1)=f by omega];rfl
      by_cases p:0<=z
      .obtain⟨u,rfl⟩:=Int.eq_ofNat_of_zero_le p;have Po:u<n:=Y;obtain⟨g2,o2,gW,A8,-,-,-,-,-,-,m5,-⟩:=(t.o.on (v.o.ds c.o)).at7 (i:=u) (by rw[Tq.o];exact Po);rw[Tq.o]at A8;simp only[Value.slice.injEq,Option.some.injEq,Addr.mk.injEq,true_and,and_true]at A8;obtain⟨⟨rfl,rfl⟩,rfl⟩:=A8;rw[<-N.o u]at m5;rw[if_pos p,show((u:Int)).toNat=u from rfl]at q;have vm:=Z (HP.o u Po);obtain⟨y,hy⟩:=D ((eA P u).bS);rw[hy]at m5 q vm;have g3:(decide (0<=(u:Int))&&decide ((u:Int)<(n:Int)))=qT:=by rw[decide_eq_true p,decide_eq_true hz];rfl
       have HC:=Z (rIs (w:=wr) p0 p1 (H (Ad g o)) p4 l0 l1 n l4 k0 k1 cap k4 dQ (u:Int));rw[g3]at HC;have fh:IntKind.i64.wrap ((S:Int)+1+2*a+2)=(S:Int)+1+2*a+2:=IntWalk.i64_in _ Y;have T:a+1+EQ P (n-(j+1)) y=W:=Y;have HAW:=Z T;have HJ:=Z Py;clear l q hy T p g3 d;go_wp2_with (go_at_call 52;refine HC.o.mono ?_;rintro e w2 ⟨rfl,r⟩;have d2:=r.cell c2 J;have d5:=r.cell m5 J;have eQ:=Z r;clear r);go_roundg (n-(j+1))
       case measure=>have:=HGJ.o;have:=HJ.o;omega
       case rel=>exact⟨j+1,a+1,y,HJ.o,rfl,by go_num,rfl,by go_num,HAW.o,vm.o,c.o.ds eQ.o⟩
      .have g3:(decide (0<=z)&&decide (z<(n:Int)))=rR:=by rw[decide_eq_false p];rfl
       have HC:=Z (rIs (w:=wr) p0 p1 (H (Ad g o)) p4 l0 l1 n l4 k0 k1 cap k4 dQ z);rw[g3]at HC;rw[if_neg p]at q;have s:K4 P (k+1)=S+1+2*a:=by have:=sy.o;omega
       have HT:=Z s;clear l q p g3 s;go_wp2_with (go_at_call 52;refine HC.o.mono ?_;rintro e w2 ⟨rfl,r⟩;have eQ:=Z r;clear r);go_roundg (n-(k+1))
       case measure=>have:=JY.o;have:=C.o;omega
       case rel=>exact⟨k+1,C.o,rfl,by go_num,by rw[HT.o];go_num,v.o.ds (c.o.ds eQ.o)⟩
     .obtain rfl:j=n:=Y;have q:EQ P (j-j) z=0:=by rw[Nat.sub_self];rfl
      have s:K4 P (k+1)=S+1+2*a:=by have:=sy.o;omega
      have HT:=Z s;clear l q s;go_wp2;go_roundg (j-(k+1))
      case measure=>have:=JY.o;have:=C.o;omega
      case rel=>exact⟨k+1,C.o,rfl,by go_num,by rw[HT.o];go_num,v.o.ds c.o⟩
   .have g1:((x.aG:Int)==1)=rR:=by rw[beq_eq_false_iff_ne];omega
    have g1':((x.aG:Int)!=1)=qT:=by rw[bne,g1];rfl
    have sy:=Z (show K4 P (k+1)=S by rw[m,if_neg A];rfl);clear m A G;go_wp2;go_roundg (n-(k+1))
    case measure=>have:=JY.o;have:=C.o;omega
    case rel=>exact⟨k+1,C.o,rfl,by go_num,by rw[sy.o],v.o⟩
  .obtain rfl:k=n:=Y;go_wp2;go_ret;exact⟨rfl,yM.o.ds v.o⟩
variable{ps:List (dO×aE)}{av hv sv:aE}
theorem ZM86{P:Prop}(h:P:=by
  go_wp2;go_roundg (m-(k+1))
  case measure=>have:=JY.o;have:=HK.o;omega
  case rel=>exact⟨k+1,mI,t1,HK.o,rfl,by go_num,QR.o⟩):P:=h
theorem aCK{cells:Int}(h:ED w hv av ps q)(j:Tz w)(d:mN q cells≠0):
  aK prog 4 #[.agg #[mX q.name,hv,av],mj mn cells,sv] w λe w'=>e=mi (nj qT)/\U w [] w' []:=by
 obtain⟨ha,m,rfl,-⟩:=h.head.len;obtain⟨i,g,rfl,-⟩:=h.aD.len;have a:=h.len;rw[a]at h|-;let⟨wa,b⟩:=D (i5 w (kd #[mX q.name,jS ha (O q.head) m,jS i (O q.aD) g] 25));let⟨r,l⟩:=D (i7 w.heap);have cV:=Za b;have n:=Ze b l;obtain⟨b0,p,b2⟩:=Z3 n;have c:=(h.on cV);have XZ:=(j.on cV);have LL:=(Wc cells c XZ d);exact ZM67
theorem aHF{cs:List Chg}{cells:Nat}(h:ED w hv av ps q)(hs:TJ w sv cs)(hw:Tz w)(h0:(aB q).1=0)(Da:1<=cells/\cells<=65536):
  aK prog 4 #[.agg #[mX q.name,hv,av],mj mn (cells:Int),sv] w λe w'=>e=mi (nj qT)/\U w [] w' []:=by
 obtain⟨sa,sc,rfl,-⟩:=hs.rd.len;obtain⟨ha,hc,rfl,-⟩:=h.head.len;obtain⟨aa,ac,rfl,-⟩:=h.aD.len;have hlen:=h.len;rw[hlen]at h|-;obtain⟨wa,dM⟩:=D (i5 w (kd #[mX q.name,jS ha (O q.head) hc,jS aa (O q.aD) ac] 25));obtain⟨bq,EK⟩:=D (i7 w.heap);have cV:=Za dM;have lC:=Ze dM EK;obtain⟨b0,b1,b2⟩:=Z3 lC;have HBQ:=Z lC;have yM:=Z cV;have HQ:=Z (h.on cV);have XZ:=Z (hw.on cV);have LL:=Z (Wb (ρ:=λ_=>0) 10 cells HQ.o XZ.o h0 Da (λ_ _=>rfl) E);have HS:=Z (hs.on cV);obtain⟨m,hm⟩:=D (O cs);have rP:m<=1048576:=by rw[<-hm];exact hs.len
 rw[hm]at HS|-;have Q:=Z hm;have IG:=Z (RY h0);have HG:=Z (qQ IG.o);have h6:O (aJ q)<=6:=by unfold aJ;rw[wn];exact(gG IG.o).2.1
 have hhm:cL q<2^32:=Nat.lt_of_lt_of_le (zD _ _) (Nat.pow_le_pow_right E (by have:=(gG IG.o).2.2.1;omega));have H6:=Z (And.intro h6 hhm);clear h hs hw lC cV h0 hm h6 hhm;go_enter func4,ntmps4;go_upto_region 4 with(go_at_call 6;refine LL.o.mono ?_;rintro e w1 ⟨bt,d,dX,rfl,vm,zP,G⟩;have c0:=vm.eU.cell b0 J;have c1:=vm.eU.cell b1 J;have c2:=vm.eU.cell b2 J;have nT:=Z (BM.mk (cells:=cells) (vm.aL (T:=LS 10) (λ_ h=>h.elim)) zP G.is);have HD1:=Z G;have nN:=Z vm.eU;clear vm zP G);clear b0 b1 b2 dM;have HOF:=Z (jw _ _ ps q w1 (HQ.o.on nN.o) IG.o);go_upto_region 5 with(go_at_call 16;refine HOF.o.mono ?_;rintro e w2 ⟨ev,rfl,hE,u⟩;obtain⟨ea,ec,rfl,-⟩:=hE.len;have eQ:=Z u;have HE:=Z hE;clear u hE);obtain⟨w3,jA⟩:=D (i5 w2 (kd #[mj mn (O (vars q):Int),jS ea (O (aJ q)) ec] 64));obtain⟨bg,A⟩:=D (i7 w2.heap);have cW:=Za jA;have hBG:=Ze jA A;try rw[jA,A]
 obtain⟨g0,g1⟩:=Z2 hBG;have Y9:=Z (Lw (jS ea (O (aJ q)) ec) (aJ q) (O (vars q)) (cL q) w3 (HE.o.on cW).rd HG.o H6.o.1 H6.o.2);have iF:=Z (eQ.o.ds cW);obtain⟨zj,E9⟩:=D (BL (aJ q) (O (vars q)) (cL q));rw[E9]at Y9;have a5c:=Z E9;clear c0 c1 c2 cW hBG jA A E9;go_upto_region 6 with(go_at_call 17;refine Y9.o.mono ?_;rintro e w4 ⟨cx,cy,rfl,eJ⟩;have lH:=Z (iF.o.ds eJ);clear eJ);clear g0 g1;have hD4:=HD1.o.eb (lH.o.fL (S:=λ_=>False)) (λh=>h);have N:=Z (nT.o.on (lH.o.fL (S:=λ_=>False)));obtain⟨qh,qa,v0,v1,v2,v4,lv,ns,v,-,e0,e1,e2,e3,-,e4,-⟩:=hD4;obtain⟨p0,k0,rfl,-⟩:=e0.len;obtain⟨p1,k1,rfl,-⟩:=e1.len;obtain⟨p2,k2,rfl,-⟩:=e2.len;obtain⟨p4,k4,rfl,-⟩:=e4.len;have f:O ns=O (aB q).2.aI:=by rw[<-e3,wn]
 have Ry:=Z (Vi p0 p1 p4 (O (aB q).2.vars) (O (aB q).2.head) (O (aB q).2.tops) k0 k1 k4 _ (aB q).2.dQ ns w4 e2.1 (by rw[f];exact N.o.oU.ok.oE) (λi hi=>by
  rw[e3];rw[f]at hi|-;by_cases h0:0<=(eA (aB q).2.aI i).bS
  .obtain⟨j,hj,e,-⟩:=N.o.oU.ok.wf.aAy i hi h0;rw[e];exact_mod_cast hj
  .omega))
 rw[e3,f,show K4 (aB q).2.aI (O (aB q).2.aI)=RJ (aB q).2 from rfl]at Ry;have P5:=aDw N.o.oU.ok;obtain⟨aH,y⟩:=D (RJ (aB q).2);rw[y]at Ry P5;have HMO:=Z y;rw[f]at v;have dl:=iP (lt_of_block v);have d3:=Zc v 3;have d4:=Zc v 4;have d5:=Zc v 5;have d6:=Zc v 6;have d7:=Zc v 7;clear v e0 e1 e2 e3 e4 f y;go_upto_region 7 with(go_at_call 18;refine Ry.o.mono ?_;rintro e w5 ⟨rfl,cO⟩;have pL:=Z (N.o.on (cO.fL (S:=λ_=>False)));clear cO);clear d3 d4 d5 d6 d7 dl;go_upto_region 8 with(fail);go_loopg [62] m (λgg s62 wr=>∃(k:Nat) (QV:bC) (t:iL),k<=m/\gg=m-k/\s62=mj mn k/\BM wa wr QV q bt d cells k t)
 case atStart=>exact⟨0,dX,LU,B6 _,rfl,rfl,pL.o⟩
 case round=>
  obtain⟨k,QV,t,hk,CP,rfl,hL⟩:=hrel;have JY:=Z CP;have HL:=Z hL;clear CP hL;by_cases aY:k<m
  .have yh:k<O cs:=by rw[Q.o];exact aY
   obtain⟨g,o,cap,hv,-,dW⟩:=fM.aS (HS.o.rd.on HL.o.eU) yh;rw[Q.o]at hv;injection hv with x1 x2 x3;clear x2 x3;subst x1;have c0:=dW 0 E;have c1:=dW 1 E;have c2:=dW 2 E;rw[Nat.add_zero]at c0;obtain⟨zJ,pZ⟩:=HS.o.lD _ (bO (d:=Kb) yh);obtain⟨⟨add,rel,rv,r⟩,hc⟩:∃c,hJ cs k Kb=c:=⟨_,rfl⟩;rw[hc]at c0 c1 c2 zJ pZ;obtain⟨ra,rc,hrv,-⟩:=zJ.len;dsimp only at hrv;subst hrv;dsimp only[aKx]at c0 c1 c2 zJ pZ;obtain⟨w2,rM⟩:=D (i5 wr (kd #[nj add,mX rel,jS ra (O r) rc] 36));obtain⟨bx,mJ⟩:=D (i7 wr.heap);have u:=Za rM;have Lp:=Ze rM mJ;have EL:=HL.o.on (u.fL (S:=λ_=>False));have AY:=Z (yV EL.oU.bd EL.oU.ok.oE);have L:=EL.oU.RP;obtain⟨n,s⟩:=D (eH (aZ (aB q).2) t.T);rw[s]at AY L;have z:=Z (And.intro s L);have Ga:=Z EL;have Tu:=Z Lp;have aHg:=Z zJ;have a52:=Z pZ;have HK:=Z aY;have BH:(k:Int)<(m:Int):=Y;clear dW hc zJ pZ u Lp EL yh aY hk s L;go_upto_region 11 with(go_at_call 12;refine AY.o.mono ?_;rintro e w6 ⟨rfl,dR⟩;have lM:=Z dR;clear dR);clear c0 c1 c2;have V:=Ga.o.on (lM.o.fL (S:=λ_=>False));have P:=lM.o.aC Tu.o J;obtain⟨x0,x1,x2⟩:=Z3 P;have Ik:=Z (PZ (add:=add) (rel:=rel) V.oU Y (V.row aHg.o) (aFF E E) a52.o E);obtain⟨bEs,hR⟩:=D (fC (aZ (aB q).2) cells (O q.aD) t add (pD q rel) (d8 q r));have F:=Z (V.oU.a3s hR);rw[hR]at Ik;have AZ:=Z V;clear V P hR mJ rM;go_upto_region 12 with(go_at_call 8;refine Ik.o.mono ?_;rintro e w3 ⟨mI,rfl,xT,QC⟩;have pM:=Z (AZ.o.O0 xT QC);clear xT QC);clear x0 x1 x2;obtain⟨w4,uC⟩:=D (i5 w3 (kd #[mj mn (bEs.2.1:Int),mj mn (bEs.2.2.1:Int)] 38));obtain⟨bk,Ta⟩:=D (i7 w3.heap);have eJ:=Za uC;have B:=Ze uC Ta;try rw[uC,Ta]
   have XQ:=pM.o.on (eJ.fL (S:=λ_=>False));have C:=Z (yV XQ.oU.bd XQ.oU.ok.oE);have St:=XQ.oU.RP;obtain⟨t1,st,l,er⟩:=bEs;dsimp only at B C St F|-;obtain⟨S1,YL⟩:=D (eH (aZ (aB q).2) t1.T);rw[YL]at C St;have x:=F.o;have N:=Z XQ;obtain⟨y0,y1⟩:=Z2 B;have W:=Z (show er=0/\st<=aH*(1+l)/\(l<=n\/l<=S1)/\(S1<=cells\/S1<=n)/\(l=0->S1=n)/\(zj=rR->st<=aH)\/er≠0/\st=0/\l=0/\S1=n from by
    rw[a5c.o]at x;obtain⟨n1,n2,n3,n4,n5,n6⟩:=x;dsimp only at n1 n2 n3 n4 n5 n6;rw[HMO.o]at n2 n6;rw[z.o.1,YL]at n3 n4 n5;by_cases p:er=0
    .exact .inl ⟨p,n2 p,n3 p,n4 p,n5 p,n6 p⟩
    .obtain⟨a,b,c⟩:=n1 p;exact .inr ⟨p,b,c,by rw[<-YL,a];exact z.o.1⟩)
   have L:=z.o.2;clear eJ XQ B uC Ta YL x;go_upto_region 13 with(go_at_call 12;refine C.o.mono ?_;rintro e w7 ⟨rfl,gD⟩;have z0:=gD.cell y0 J;have z1:=gD.cell y1 J;have QR:=Z (N.o.on (gD.fL (S:=λ_=>False)));clear gD);clear y0 y1;rcases W.o with⟨rfl,r1,r2,r3,r4,r5⟩|⟨r0,rfl,rfl,rfl⟩
   .have g1:decide ((st:Int)<0)=rR:=decide_eq_false Y;have g2:decide ((l:Int)<0)=rR:=decide_eq_false Y;have htc:l<=2752512:=Y;have hmul:aH*(1+l)<=3570*2752513:=y' P5 Y;have Q9:((aH*(1+l):Nat):Int)=(aH:Int)*(1+(l:Int)):=by push_cast;rfl
    have oY:IntKind.i64.wrap (1+(l:Int))=1+(l:Int):=IntWalk.i64_in _ Y;have iA:IntKind.i64.wrap ((aH:Int)*(1+(l:Int)))=(aH:Int)*(1+(l:Int)):=IntWalk.i64_in _ (by rw[<-Q9];omega);have g3:decide ((aH:Int)*(1+(l:Int))<(st:Int))=rR:=decide_eq_false (by rw[<-Q9];omega);have q1:¬n<l\/n<l/\¬S1<l:=Y;have q2:¬cells<S1\/cells<S1/\¬n<S1:=Y;have q3:zj=qT\/zj=rR/\¬aH<st:=by
     cases zj
     .exact .inr ⟨rfl,by have:=r5 rfl;omega⟩
     .exact .inl rfl
    have q4:S1=n\/¬S1=n/\((S1:Int)!=(n:Int))=qT/\((l:Int)==0)=rR:=by
     by_cases h:S1=n
     .exact .inl h
     .exact .inr ⟨h,by rw[bne_iff_ne];omega,by rw[beq_eq_false_iff_ne];intro h2;exact h (r4 Y)⟩
    have Q3:=Z q3;have Q4:=Z q4;clear r1 r2 r3 r4 r5 hmul Q9 P5 q3 q4 L St htc W F;rcases q1 with q1|⟨q1,q1'⟩<;>rcases q2 with q2|⟨q2,q2'⟩<;>(try(exfalso;omega));all_goals
     go_upto_region 18 with(fail);rcases Q3.out with hq|⟨hq,q3⟩;all_goals
      subst hq;rcases Q4.out with hq|⟨q4,q4',a9m⟩<;>(try(exfalso;omega));all_goals
       clear Q3 Q4;try subst hq
       exact ZM86
   .have g0:((er:Int)==0)=rR:=by rw[beq_eq_false_iff_ne];omega
    have g0':((er:Int)!=0)=qT:=by rw[bne,g0];rfl
    clear r0 L St P5;exact ZM86
  .obtain rfl:k=m:=Y;go_wp2_with (go_at_call 7;refine(O2 (XZ.o.on HL.o.eU)).mono ?_;rintro e w2 ⟨rfl,u⟩;have eQ:=Z u;clear u);go_ret;exact⟨rfl,yM.o.ds (HL.o.eU.ds eQ.o)⟩
theorem aCL{cs:List Chg}{cells:Int}(h:ED w hv av ps q)(hs:TJ w sv cs)(b:Tz w):
  uJ 4 #[.agg #[mX q.name,hv,av],mj mn cells,sv] w λe w'=>e=mi (nj qT)/\U w [] w' []:=by
 by_cases a:mN q cells=0
 .let⟨c,d⟩:=Gz a;obtain⟨n,rfl⟩:=Int.eq_ofNat_of_zero_le (show 0<=cells by omega);exact aHF h hs b (MH a) ⟨Y,Y⟩
 .exact aCK h b a
end Go.Proofs.YtohhhhfdpceppaaGreatDoor
