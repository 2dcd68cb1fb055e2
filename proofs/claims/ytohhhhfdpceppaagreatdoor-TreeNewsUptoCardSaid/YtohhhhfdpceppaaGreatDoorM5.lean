/- Part of the proof that the tied card of a law of the tree holds; no condition is added. -/
import Derived.Test.YtohhhhfdpceppaaGreatDoorM4
namespace Go.Proofs.YtohhhhfdpceppaaGreatDoor
set_option maxHeartbeats 4000000
set_option maxRecDepth 100000
set_option linter.all false
open Go.RowKit Go.Maps Go.Proofs.Tryz Tryz
open _root_.Array renaming size→i7,replicate_succ→yo,replicate_zero→y',replicate→Lf
open _root_.Bool renaming false→rR,true→qT,not_false→L3
open _root_.Go.Ending renaming returned→mi
open _root_.Go.IntKind renaming i64→mn
open _root_.Go.Obj renaming cells→kd
open _root_.Go.Value renaming bool→nj,int→mj,ownBlock→i6,pointer→lr,slice→jS,string→mX,tuple→mr
open _root_.Go.World renaming alloc→i5,cell?→h8,setCell→hY
open _root_.Inhabited renaming default→sT
open _root_.List renaming getD→hJ,length→O,getElem?_replicate→oj,filter_cons→oq,replicate→x',append_toArray→zb,nodup_nil→zn,length_append→zo,getElem?_append_right→z',size_toArray→Bk,push_toArray→B0,length_erase_of_mem→B2,length_cons→B4,cons_append→B5,map_nil→B6,head?_cons→Ct,length_nil→Dc,nil_append→El,head?_nil→EA,mem_cons_of_mem→EB,map_congr_left→Ic,map_map→IF,ext_getElem?→I2,getElem?_set→I3,take_length→KH
open _root_.Option renaming none→K,some→H
open Go renaming World→aA,Value→aE,Calls→aK,TypeId→ap,maxLen→bH,Ending→cc,Addr→cg,Program→cj
open Go.RowKit renaming Hid→dT
open _root_.Nat renaming mul_le_mul→gz,le_refl→vW,le_of_lt→wn,zero_le→zN,le_trans→Co,reduceAdd→F6,reduceSub→H3,div_eq_of_lt→JJ,mul_add_div→L1
variable{mk:Bool}{F G n β:Nat}{r:Row}{ρ:bC}{uv v:aE}{w:aA}
def aEV(m:iM)(k:Nat)(r:Row)(n:Nat):iM:={m with
 bZ:=m.bZ.AR (mj mn 0) n,fP:=BZ m.fP n K,lc:=m.lc-1,
 sB:=BY m.sB k (λp=>if p=bR r then K else m.sB k p),gc:=PP m.gc k (m.gc k-1)}
def ay(m:iM)(k:Nat)(r:Row)(n:Nat)(m':iM):Prop:=(m.nM (n+1)≠[]/\m'=m)\/(m.nM (n+1)=[]/\m'=aEV m k r n)
def aQv(w:aA)(ρ:bC)(β:Nat)(L:JW)(m:iM)(mk:Bool)(uv:aE)(k:Nat)(r:Row)(n:Nat)(e:cc)(w':aA):Prop:=
 ∃bV m',e=mi (mr #[])/\bI w ρ (eX β) w' bV/\iW w' bV β L m' mk uv/\ay m k r n m'
theorem aOK{tr N:Nat}{L:JW}{m:iM}(k:Nat)(h:iW w ρ β L m mk uv)(hk:k<O m.gs)(hv:lW dV aR 3 w ρ tr v r)(pY:¬eX β tr)(hg:dU r)(a:O r=O (m.gs.getD k []))(hN:N=n+1)(hx:m.sB k (bR r)=H (N:Int))(P:N<m.aH*m.bQ+1)(hNm:N<=1048576)(hW:R6 m.bZ F G)(KY:m.bZ.dP n=qT)(V:m.bZ.kF n<m.bZ.jE)(Fq:m.fP n=H (m.bZ.kF n))(A:O (m.nM N)<=1048576):
  aK prog 279 #[lr (H ⟨L.b,0,K⟩),mj mn k,v] w (aQv w ρ β L m mk uv k r n):=by
 have i:=jd k h hk hv.1 hg.R5;have e0:m.cB k r=(m.sB k (bR r)).getD (-1):=by unfold iM.cB;rw[bW ⟨a,hg.1⟩]
 rw[e0,hx]at i;obtain⟨va,vc,rfl,-⟩:=hv.len;have HLI:=Z i;have HX:=Z hx;have HV:=Z hv;have HG:=Z hg;have HW:=Z hW;have O5:=Z pY;have HK:=Z hk;have f:=Z Fq;have HAL:=Z KY;have HGN:=Z V;have E4:=Z P;have HN:=Z hN;have Hr:n<=1048576:=by omega
 have xx:IntKind.i64.wrap ((N:Int)-1)=(n:Int):=by rw[QY _ (by omega)];omega
 have BH:(k:Int)<(O m.gs:Int):=by omega
 let⟨ol,g⟩:=D (O (m.nM N));have Y3:=Z g;rw[g]at A;clear i h hv hg hW Fq KY V e0 hx pY hk a P hN g;go_in;go_upto_region 1 with(go_at_call 208;apply HLI.cX;rintro e w1 ⟨dX,rfl,j,hS⟩;have HM:=Z j;have HS:=Z hS;clear j hS;dsimp only[Option.getD]);have hb:=HS.kW.cF;have b10:=Zc hb 10;clear hb HLI;go_upto_region 2 with(go_at_call 288;apply(aLP w1 HS.nM E4).cX;rintro e w2 ⟨fD,rfl,j,hA⟩;rw[Y3.o];have fu:=Z ((HV.eb HM O5).eb (j.zH (by decide)) O5);have EE:=Z (HM.ds (j.zH (by decide)));have tF:=Z (HS.Ai j hA);clear j hA;dsimp only);clear b10 HM HS HV;by_cases hz:0<ol
 .have hz':(0:Int)<(ol:Int):=by omega
  have q:ay m k r n m:=Or.inl ⟨λe=>by rw[<-HN.o]at e;have:=Y3.o;rw[e]at this;simp at this;omega,rfl⟩;have HR:=Z q;clear q hz;go_wp2;refine mY (v:=mr #[]) (by simp[results,go_sem]) rfl ?_;exact⟨_,_,rfl,EE,tF,HR⟩
 .obtain rfl:ol=0:=by omega
  clear hz A;go_upto_region 3 with(fail);have qP:=tF.kW.cF;have b8:=Zc qP 8;have b9:=Zc qP 9;clear qP;refine fj 99 (ez b8<|ey b9) (λw3 jA cW Q=> ?_);clear b8 b9;have wH:=Z (EE.kV cW);have x:=Z (tF.on cW);have PE:=Z (fu.on cW);have nQ:=x.aKv Hr f.o;unfold sS at nQ;clear jA cW EE tF fu;refine ek [0,4,8,1,5,9,2,6,3,7] ?_;refine Zo 10 λvm hK=> ?_;go_simp;try rw[xx]
  go_simp;refine Zk hK Q<|Zo 11 λvm hK=> ?_;go_simp;go_at_call 289;apply(aC0 w3 x.bZ HW HAL HGN).cX;rintro e w4 ⟨z,rfl,p,y⟩;dsimp only;have Q:=eI (p.cell Q.1 (by show¬_=_;rw[x.o.kW.cE];omega)) (p.cell Q.2 (by show¬_=_;rw[x.o.kW.cE];omega));have LM:=Z (wH.ds (p.zH (by decide)));have PD:=Z (PE.eb (p.zH (by decide)) O5);have Y1:=Z (x.Uz p y);clear p y nQ wH x PE;refine j5 ?_;clear hK vm;refine bD dJ ?_ _;clear Q;have hb4:=Y1.kW.cF;have b9:=Zc hb4 9;clear hb4;obtain⟨w5,dK,sA,-,Ln⟩:=Y1.aLG Hr f 0;have NI:=Z (LM.ds (sA.zH (by decide)));have bz:=Z (PD.eb (sA.zH (by decide)) O5);have Tp:=Z Ln;clear sA Ln;go_upto_region 5 with(fail);clear b9 LM Y1 PD dK;let⟨g2,o2,W,sY⟩:=Tp.kW.index HK.o;let⟨ib,l⟩:=D (L.XR.getD k 0);have b:=Z l;rw[l]at sY;clear l;have Qd:=Tp.kW.cF;rw[W]at Qd;have b7:=Zc Qd 7;clear Qd;refine fj 99 (ez b7<|ey sY) (λw6 iA dR Q=> ?_);clear b7 sY;have Fz:=Z (NI.kV dR);have te:=Z (Tp.on dR);have sq:=Z (bz.on dR);clear iA dR NI Tp bz;refine ek [0,4,7,1,2,3,5,6] ?_;refine Zo 8 λvm hK=> ?_;go_simp;go_at_call 232;apply(UF _ r w6 sq.1 HG).cX;rintro e w7 ⟨u,rfl,hO,gD⟩;dsimp only;replace Q:=gD.YZ Q;have MX:bI w6 z eZ w7 (up w6 (β+7) z):=gD.fK (S:=eZ) (β+7) (λ_ h=>dY h (by simp));have C:=Z (UV (ρ:=z) hO (β+7));have c:=Z (te.eb MX vF);have LA:=Z (Fz.ds (MX.aL (T:=eX β) nZ));obtain⟨ua,uc,rfl,-⟩:=hO.len;clear hO gD MX Fz te sq;refine Zk hK Q<|Zo 9 λvm hK=> ?_;go_simp;go_at_call 281;refine(Wi w7 (by rw[<-b.o];exact c.sB k HK) C (by omega) HG.eD HX).mono ?_;rintro e w8 ⟨rfl,d,B⟩;dsimp only;have d:bI w7 (up w6 (β+7) z) (·=β+(10+2*k)) w8 (up w6 (β+7) z):=by rw[<-Nat.add_assoc];exact d
  have fx:=Z (c.jj d (by rw[b.o];exact B));have TO:=Z (LA.ds (d.zH (by have h4:O m.gs<=4:=c.kW.oE;have:=HK.o;omega)));have Q:=(eI (d.cell Q.1 (by show¬_=_;rw[c.o.kW.cE];omega)) (d.cell Q.2 (by show¬_=_;rw[c.o.kW.hR.2 (by rw[c.o.kW.gbl];exact Sp (O9 _) HK) g2 (by rw[W];rfl)];omega)));clear d B LA c C;refine j5 ?_;clear hK vm;refine bD dJ ?_ _;clear Q;have q:ay m k r n (aEV m k r n):=Or.inr ⟨by rw[<-HN.o];exact dt.1 Y3,rfl⟩;have HR:=Z q;clear q;go_wp2;refine mY (v:=mr #[]) (by simp[results,go_sem]) rfl ?_;exact⟨_,_,rfl,TO,fx,HR⟩
variable{B:List mT}{lane:Nat}
section
theorem ZM35{P:Prop}(h:P:=by
  refine{wf:=h.wf,aH:=h.aH,jE:=h.jE,ord0:= ?_,grp1:=λk gP hk hm=> ?_,ksE:=λk gP hk=> ?_,dD:=h.dD,grp0:=h.grp0,gc:=h.gc,inj:=h.inj,cZ:=h.cZ,aM:=h.aM,JQ:=λn hd=> ?_,fP:=h.fP,lc:=h.lc,goodE:=m1,vN:=m2,oE:=m3}
  .rfl
  .let⟨n,h1,h2,h3⟩:=h.grp1 k gP hk hm;refine⟨n,h1,h2,?_⟩;rw[dB bEq _ (show k+1≠0 by omega)];exact(hp (n+1) Y).ds h3
  .rw[dB bEq _ (show k+1≠0 by omega)];exact h.ksE k gP hk
  .exact(hp (n+1) Y).ds (h.JQ n hd)):P:=h
theorem ZM141{P:Prop}(h:P:=by
  have Cx:=hd;have eB:n2≠n:=λe'=>by grind
  exact(hp (n2+1) Y).ds (h.JQ n2 Cx)):P:=h
theorem ZM166{P:Prop}(h:P:=by
  rw[dB bEq _ (show 0≠k+1 by omega)];exact(hp 0 Y).ds h.ord0):P:=h
section
variable{m:iM}{bEq:Nat->List mT}{ks:Nat->List Row}{F G:Nat}
theorem PT(f:Nat->List Nat)(n:Nat)(l:List Nat):put f n l n=l:=bW rfl
theorem UM(f:Nat->List Nat){k:Nat}(l:List Nat)(h:k≠n):put f n l k=f k:=R h
theorem eM.range(h:eM m bEq ks F G){k:Nat}(d:k<O m.gs){p:List Nat}{x:Int}(c:m.sB k p=H x):∃gP,gP∈ks k/\p=bR gP/\∃n:Nat,x=(n:Int)+1/\m.bZ.dP n=qT:=by
 by_cases b:∃gP,gP∈ks k/\bR gP=p
 .obtain⟨gP,a,rfl⟩:=b;obtain⟨n,g,i,-⟩:=h.grp1 k gP d a;grind
 .rw[h.grp0 k p d (λgP a e=>b ⟨gP,a,e⟩)]at c;cases c
theorem Jz{A:List mT}{e:mT}(h:((A++B).map (·.2)).Nodup)(j:∀x,x∈A++B->x.2≠e.2):((A++e::B).map (·.2)).Nodup:=by
 rw[QW,KR];rw[QW]at h;rw[Fh]at h|-;refine⟨h.1,U8.2 ⟨λg=> ?_,h.2.1⟩,λa ha b c=> ?_⟩
 .let⟨x,d,i⟩:=AE.1 g;grind
 .rcases xZ.1 c with rfl|c
  .obtain⟨x,d,rfl⟩:=AE.1 ha;grind
  grind
theorem eM.vO(h:eM m bEq ks F G){A:List mT}{e:mT}(g:bEq lane=A++B)(hl:lane<=O m.gs)(j:dU e.1/\O e.1=m.bT)(i:∀x,x∈bEq lane->x.2≠e.2)(l:O (bEq lane)<m.aH):
  (∀k x,k<=O m.gs->x∈RK bEq lane (A++e::B) k->dU x.1/\O x.1=m.bT)/\(∀k,k<=O m.gs->((RK bEq lane (A++e::B) k).map (·.2)).Nodup)/\∀k,k<=O m.gs->O (RK bEq lane (A++e::B) k)<=m.aH:=by
 refine⟨λk x a d=> ?_,λk a=> ?_,λk a=> ?_⟩
 .by_cases b:k=lane
  .subst b;rw[eK]at d;rcases yU.1 d with c|c
   .exact h.goodE k x a (by rw[g];simp[c])
   .rcases xZ.1 c with rfl|c
    .exact j
    .exact h.goodE k x a (by rw[g];simp[c])
  .rw[dB _ _ b]at d;exact h.goodE k x a d
 .by_cases b:k=lane
  .subst b;rw[eK];exact Jz (g▸h.vN k a) (g▸i)
  .rw[dB _ _ b];exact h.vN k a
 .by_cases b:k=lane
  .grind [eK]
  .rw[dB _ _ b];exact h.oE k a
theorem eM.aTg(h:eM m bEq ks F G){A:List mT}{e:mT}(d:bEq 0=A++B)(g:dU e.1/\O e.1=m.bT)(c:∀x,x∈bEq 0->x.2≠e.2)(b:O (bEq 0)<m.aH):
  eM {m with nM:=put m.nM 0 ((A++e::B).map (eL m 0))} (RK bEq 0 (A++e::B)) ks F G:=by
 let⟨m1,m2,m3⟩:=h.vO d (O9 _) g c b;have hp:∀x,x≠0->put m.nM 0 ((A++e::B).map (eL m 0)) x=m.nM x:=λx a=>UM _ _ a;exact ZM35
theorem N0{p:mT->Bool}{A:List mT}{e:mT}(h:p e=rR):(A++e::B).filter p=(A++B).filter p:=by grind
theorem eM.aJf(h:eM m bEq ks F G)(hs:KM m){k:Nat}(l:k<O m.gs){A:List mT}{e:mT}(g:bEq (k+1)=A++B)(f:dU e.1/\O e.1=m.bT)(N:∀x,x∈bEq (k+1)->x.2≠e.2)(L:O (bEq (k+1))<m.aH)(q:m.sB k (bR (cQ m k e.1))=H ((n:Int)+1))(C:cQ m k e.1∈ks k)(T:m.bZ.dP n=qT):
  eM {m with nM:=put m.nM (n+1) (((A++e::B).filter λx=>cQ m k x.1=cQ m k e.1).map (eL m (k+1)))} (RK bEq (k+1) (A++e::B)) ks F G:=by
 let⟨m1,vm,Q⟩:=h.vO g Y f N L;have hp:∀x,x≠n+1->put m.nM (n+1) (((A++e::B).filter λx=>cQ m k x.1=cQ m k e.1).map (eL m (k+1))) x=m.nM x:=λx q=>UM _ _ q;refine{wf:=h.wf,aH:=h.aH,jE:=h.jE,ord0:= ?_,grp1:=λk2 c b v=> ?_,ksE:=λk2 c b=> ?_,dD:=h.dD,grp0:=h.grp0,gc:=h.gc,inj:=h.inj,cZ:=h.cZ,aM:=h.aM,JQ:=λn2 hd=> ?_,fP:=h.fP,lc:=h.lc,goodE:=m1,vN:=vm,oE:=Q}
 .exact ZM166
 .let⟨n2,u,z,P⟩:=h.grp1 k2 c b v;by_cases w:n2=n
  .subst w;obtain⟨rfl,S⟩:=h.inj _ _ _ _ _ b l u q;obtain rfl:=oJ (h.mO hs l v) (h.mO hs l C) S;refine⟨n2,u,z,?_⟩;rw[eK];exact PT m.nM (n2+1) (((A++e::B).filter λx=>cQ m k2 x.1=cQ m k2 e.1).map (eL m (k2+1)))
  .refine⟨n2,u,z,?_⟩;refine(hp (n2+1) Y).ds (P.ds ?_);by_cases j:k2=k
   .subst j;rw[eK,g];have eB:cQ m k2 e.1≠c:=λe'=>w BC;have:=N0 (p:=λx:mT=>decide (cQ m k2 x.1=c)) (A:=A) (B:=B) (e:=e) (eP eB);exact xE (List.map (eL m (k2+1))) this.symm
   .rw[dB bEq _ (show k2+1≠k+1 by omega)];rfl
 .by_cases j:k2=k
  .subst j;rw[eK,h.ksE k2 c b,g];constructor
   .rintro⟨x,r,d⟩;exact⟨x,by rcases yU.1 r with a|a<;>simp[a],d⟩
   .rintro⟨x,r,d⟩;rcases yU.1 r with a|a
    .exact⟨x,by simp[a],d⟩
    .rcases xZ.1 a with rfl|a
     .have:=(h.ksE k2 _ b).1 C;rw[g]at this;obtain⟨y,o,i⟩:=this;exact⟨y,o,i.ds d⟩
     .exact⟨x,by simp[a],d⟩
  .rw[dB bEq _ (show k2+1≠k+1 by omega)];exact h.ksE k2 c b
 .exact ZM141
theorem eM.aJg(h:eM m bEq ks F G)(hs:KM m){k:Nat}(hk:k<O m.gs){A:List mT}{e:mT}(hE:bEq (k+1)=A++B)(hg:dU e.1/\O e.1=m.bT)(hf:∀x,x∈bEq (k+1)->x.2≠e.2)(hn:O (bEq (k+1))<m.aH)(hm:cQ m k e.1∉ks k)(qH:F+1<=G):
  eM {Jv m k (cQ m k e.1)with nM:=put m.nM (m.bZ.next+1) (((A++e::B).filter λx=>cQ m k x.1=cQ m k e.1).map (eL m (k+1)))} (RK bEq (k+1) (A++e::B)) (RK ks k (ks k++[cQ m k e.1])) F G:=by
 let⟨m1,m2,m3⟩:=h.vO hE Y hg hf hn;have nE:=h.room hs;have zK:=h.wf.wJ;have l:=NK m.bZ (X k);have f:=CX h.wf (X k);have CC:=RM h.wf (X k);obtain⟨n,Hr⟩:∃n,m.bZ.next=n:=⟨_,rfl⟩;let⟨gP,T⟩:=D (cQ m k e.1);have Sx:dU gP:=T▸(YtohhhhfdpceppaaGreatDoor.mO hs hg.1 hg.2 hk).1;unfold Jv;rw[Hr]at zK f CC|-;rw[T]at hm|-;have hp:∀x,x≠n+1->put m.nM (n+1) (((A++e::B).filter λx=>cQ m k x.1=gP).map (eL m (k+1))) x=m.nM x:=λx u=>UM _ _ u;have hq:∀k2 p,k2≠k->BY m.sB k (λp=>if p=bR gP then H ((n:Int)+1)else m.sB k p) k2 p=m.sB k2 p:=λk2 p v=>by simp[BY,v]
 have R1:BY m.sB k (λp=>if p=bR gP then H ((n:Int)+1)else m.sB k p) k (bR gP)=H ((n:Int)+1):=by simp[BY]
 have S:∀p,p≠bR gP->BY m.sB k (λp=>if p=bR gP then H ((n:Int)+1)else m.sB k p) k p=m.sB k p:=λp v=>by simp[BY,v]
 have W:∀i,(m.bZ.take (X k)).dP i=qT↔i=n\/m.bZ.dP i=qT:=λi=>by rw[f];simp
 have hAB:∀c,c≠gP->(∀x,(x∈A++e::B/\cQ m k x.1=c)↔(x∈bEq (k+1)/\cQ m k x.1=c)):=λc v x=>by
  grind
 have q:∀k2 c,k2<O m.gs->c∈ks k2->∃n2:Nat,BY m.sB k (λp=>if p=bR gP then H ((n:Int)+1)else m.sB k p) k2 (bR c)=H ((n2:Int)+1)/\(m.bZ.take (X k)).dP n2=qT/\
   put m.nM (n+1) (((A++e::B).filter λx=>cQ m k x.1=gP).map (eL m (k+1))) (n2+1)=((RK bEq (k+1) (A++e::B) (k2+1)).filter λe=>cQ m k2 e.1=c).map (eL m (k2+1)):=λk2 c d j=>by
  let⟨n2,vm,C,h3⟩:=h.grp1 k2 c d j;have v:n2≠n:=λP=>by grind
  refine⟨n2,?_,(W n2).2 (.inr C),?_⟩
  .by_cases g:k2=k
   .subst g;rw[S _ (λL=>hm (oJ (h.mO hs d j) Sx L▸j))];exact vm
   grind
  grind [eK,dB]
 have bAZ:∀k2 p x,k2<O m.gs->m.sB k2 p=H x->x≠(n:Int)+1:=λk2 p x d u P=>by
  let⟨_,_,_,n2,r,ha2⟩:=h.range d u;grind
 refine{wf:=h.wf.take nE qH _,aH:=l.1.ds h.aH,jE:=l.2.1.ds h.jE,ord0:= ?_,grp1:=λk2 c d j=> ?_,ksE:=λk2 c d=> ?_,dD:=λk2=> ?_,grp0:=λk2 p d z=> ?_,gc:=λk2 d=> ?_,inj:=λk2 k3 p p' x d A9 o r=> ?_,cZ:=λn2 ha=> ?_,aM:= ?_,JQ:=λn2 hd=> ?_,fP:=λn2=> ?_,lc:= ?_,goodE:=m1,vN:=m2,oE:=m3}
 .exact ZM166
 .by_cases g:k2=k
  .subst g;rw[eK]at j;rcases yU.1 j with Q|Q
   .exact q k2 c d Q
   .obtain rfl:c=gP:=eP Q;refine⟨n,R1,(W n).2 (.inl rfl),?_⟩;rw[eK];exact PT m.nM (n+1) _
  .rw[dB ks _ g]at j;exact q k2 c d j
 .by_cases g:k2=k
  .subst g;rw[eK,eK];by_cases w:c=gP
   .subst w;exact⟨λ_=>⟨e,J,T⟩,λ_=>J⟩
   .have vm:=h.ksE k2 c d;have C:=hAB c w;constructor
    .intro u;have:c∈ks k2:=by grind
     let⟨x,o,r⟩:=vm.1 this;exact⟨x,(C x).2 ⟨o,r⟩⟩
    .rintro⟨x,u⟩;exact yU.2 (.inl (vm.2 ⟨x,(C x).1 u⟩))
  .rw[dB ks _ g,dB bEq _ (show k2+1≠k+1 by omega)];exact h.ksE k2 c d
 .by_cases g:k2=k
  .subst g;rw[eK];exact Fh.2 ⟨h.dD k2,J,λa ha b hb P=>by
    grind⟩
  .rw[dB ks _ g];exact h.dD k2
 .by_cases g:k2=k
  .subst g;rw[eK]at z;refine(S p (λL=>z gP J L.symm)).ds (h.grp0 k2 p d λc j=>z c (by simp[j]))
  .rw[dB ks _ g]at z;exact(hq k2 p g).ds (h.grp0 k2 p d z)
 .show PP m.gc k (m.gc k+1) k2=_;by_cases g:k2=k
  .subst g;rw[eK];simp[PP,h.gc k2 d]
  .rw[dB ks _ g];simp[PP,g];exact h.gc k2 d
 .have o:=o;have r:=r;have QA:∀y N,y<O m.gs->BY m.sB k (λp=>if p=bR gP then H ((n:Int)+1)else m.sB k p) y N=H x->(x=(n:Int)+1/\y=k/\N=bR gP)\/(x≠(n:Int)+1/\m.sB y N=H x):=λy N Fs hx4=>by
   grind
  rcases QA k2 p d o with⟨a1,a2,a3⟩|⟨a1,a2⟩
  .grind
  .rcases QA k3 p' A9 r with⟨b1,-,-⟩|⟨-,b2⟩
   .exact dY b1 a1
   .exact h.inj _ _ _ _ _ d A9 a2 b2
 .rcases(W n2).1 ha with rfl|ha'
  .grind [eK]
  .let⟨k2,c,d,j,F7⟩:=h.cZ n2 ha';refine⟨k2,c,d,?_,?_⟩
   .grind [eK,dB]
   .by_cases g:k2=k
    .subst g;exact(S _ (λL=>hm (oJ (h.mO hs d j) Sx L▸j))).ds F7
    grind
 .show(m.bZ.take (X k)).aM<=_;rw[l.2.2];have vm:=ZS (λk=>O (ks k)) k (O (ks k)+1) hk;have C:BN (λk2=>O (RK ks k (ks k++[gP]) k2)) (O m.gs)=BN (RK (λk=>O (ks k)) k (O (ks k)+1)) (O m.gs):=IY λk2 _=>by
   grind [eK,dB]
  have h3:=h.aM;grind
 .have Cx:=hd;have v:n2≠n:=λP=>by grind
  have V:m.bZ.dP n2=rR:=by
   grind
  exact(hp (n2+1) Y).ds (h.JQ n2 V)
 .show BZ m.fP n (H (m.bZ.kF n+1)) n2=if(m.bZ.take (X k)).dP n2=qT then H ((m.bZ.take (X k)).kF n2)else K;rw[CC,f];unfold BZ;by_cases en:n2=n
  .simp[en]
  .simp only[en,E6,decide_false,Bool.false_or];exact h.fP n2
 .show m.lc+1=(m.bZ.take (X k)).aM;rw[l.2.2,h.lc]
end
end
section
theorem ZM92{P:Prop}(h:P:=by
  have:=N0 (p:=λx:mT=>decide (cQ m k2 x.1=lN)) (A:=A) (B:=B) (e:=e) (eP eB);exact xE (List.map (eL m (k2+1))) this):P:=h
section
variable{m:iM}{bEq:Nat->List mT}{ks:Nat->List Row}{F G:Nat}
theorem aJ5{A:List mT}{e x:mT}(h:x∈A++B):x∈A++e::B:=by rcases yU.1 h with a|a<;>simp[a]
theorem eM.fS(h:eM m bEq ks F G){A:List mT}{e:mT}(d:bEq lane=A++e::B):
  (∀k x,k<=O m.gs->x∈RK bEq lane (A++B) k->dU x.1/\O x.1=m.bT)/\(∀k,k<=O m.gs->((RK bEq lane (A++B) k).map (·.2)).Nodup)/\∀k,k<=O m.gs->O (RK bEq lane (A++B) k)<=m.aH:=by
 have g:=List.Sublist.append (List.Sublist.refl A) (List.sublist_cons_self e B);refine⟨λk x b c=> ?_,λk b=> ?_,λk b=> ?_⟩
 .by_cases a:k=lane
  .subst a;rw[eK]at c;exact h.goodE k x b BC
  .rw[dB _ _ a]at c;exact h.goodE k x b c
 .by_cases a:k=lane
  .subst a;rw[eK];have:=h.vN k b;grind
  .rw[dB _ _ a];exact h.vN k b
 .by_cases a:k=lane
  .subst a;rw[eK];have:=h.oE k b;grind
  .rw[dB _ _ a];exact h.oE k b
theorem eM.aIs(h:eM m bEq ks F G){A:List mT}{e:mT}(b:bEq 0=A++e::B):
  eM {m with nM:=put m.nM 0 ((A++B).map (eL m 0))} (RK bEq 0 (A++B)) ks F G:=by
 let⟨m1,m2,m3⟩:=h.fS b;have hp:∀x,x≠0->put m.nM 0 ((A++B).map (eL m 0)) x=m.nM x:=λx a=>UM _ _ a;exact ZM35
theorem eM.im(h:eM m bEq ks F G)(hs:KM m){k:Nat}(j:k<O m.gs){A:List mT}{e:mT}(g:bEq (k+1)=A++e::B)(l:m.sB k (bR (cQ m k e.1))=H ((n:Int)+1))(o:cQ m k e.1∈ks k)(f:m.bZ.dP n=qT)(eB:∃x,x∈A++B/\cQ m k x.1=cQ m k e.1):
  eM {m with nM:=put m.nM (n+1) (((A++B).filter λx=>cQ m k x.1=cQ m k e.1).map (eL m (k+1)))} (RK bEq (k+1) (A++B)) ks F G:=by
 let⟨m1,C,L⟩:=h.fS g;have hp:∀x,x≠n+1->put m.nM (n+1) (((A++B).filter λx=>cQ m k x.1=cQ m k e.1).map (eL m (k+1))) x=m.nM x:=λx l=>UM _ _ l;refine{wf:=h.wf,aH:=h.aH,jE:=h.jE,ord0:= ?_,grp1:=λk2 lN b u=> ?_,ksE:=λk2 lN b=> ?_,dD:=h.dD,grp0:=h.grp0,gc:=h.gc,inj:=h.inj,cZ:=h.cZ,aM:=h.aM,JQ:=λn2 hd=> ?_,fP:=h.fP,lc:=h.lc,goodE:=m1,vN:=C,oE:=L}
 .exact ZM166
 .let⟨n2,r,w,vm⟩:=h.grp1 k2 lN b u;by_cases v:n2=n
  .subst v;obtain⟨rfl,N⟩:=h.inj _ _ _ _ _ b j r l;obtain rfl:=oJ (h.mO hs j u) (h.mO hs j o) N;refine⟨n2,r,w,?_⟩;rw[eK];exact PT m.nM (n2+1) (((A++B).filter λx=>cQ m k2 x.1=cQ m k2 e.1).map (eL m (k2+1)))
  .refine⟨n2,r,w,?_⟩;refine(hp (n2+1) Y).ds (vm.ds ?_);by_cases i:k2=k
   .subst i;rw[eK,g];have eB:cQ m k2 e.1≠lN:=λe'=>v BC;exact ZM92
   .rw[dB bEq _ (show k2+1≠k+1 by omega)];rfl
 .by_cases i:k2=k
  .subst i;rw[eK,h.ksE k2 lN b,g];constructor
   .rintro⟨x,q,c⟩;rcases yU.1 q with a|a
    .exact⟨x,by simp[a],c⟩
    .rcases xZ.1 a with rfl|a
     .obtain⟨y,z,d⟩:=eB;exact⟨y,z,d.ds c⟩
     .exact⟨x,by simp[a],c⟩
   .rintro⟨x,q,c⟩;exact⟨x,aJ5 q,c⟩
  .rw[dB bEq _ (show k2+1≠k+1 by omega)];exact h.ksE k2 lN b
 .exact ZM141
theorem eM.il(h:eM m bEq ks F G)(hs:KM m){k:Nat}(q:k<O m.gs){A:List mT}{e:mT}(vm:bEq (k+1)=A++e::B)(w:m.sB k (bR (cQ m k e.1))=H ((n:Int)+1))(y:cQ m k e.1∈ks k)(S:m.bZ.dP n=qT)(fX:∀x,x∈A++B->cQ m k x.1≠cQ m k e.1)(EM:G<=F):
  eM (aEV {m with nM:=put m.nM (n+1) []} k (cQ m k e.1) n) (RK bEq (k+1) (A++B)) (RK ks k ((ks k).erase (cQ m k e.1))) F G:=by
 let⟨m1,m2,m3⟩:=h.fS vm;let⟨gP,N⟩:=D (cQ m k e.1);have V:dU gP:=N▸h.mO hs q y;have hp:∀x,x≠n+1->put m.nM (n+1) [] x=m.nM x:=λx w=>UM _ _ w;rw[N]at w y fX|-;have f:∀k2 p,k2≠k->BY m.sB k (λp=>if p=bR gP then K else m.sB k p) k2 p=m.sB k2 p:=λk2 p eB=>by simp[BY,eB]
 have R1:BY m.sB k (λp=>if p=bR gP then K else m.sB k p) k (bR gP)=K:=by simp[BY]
 have L:∀p,p≠bR gP->BY m.sB k (λp=>if p=bR gP then K else m.sB k p) k p=m.sB k p:=λp eB=>by simp[BY,eB]
 have v:∀k2 p x,BY m.sB k (λp=>if p=bR gP then K else m.sB k p) k2 p=H x->m.sB k2 p=H x:=λk2 p x W=>by
  grind
 have i:=DM (A:=m.bZ) (z:=X 0) S;have T:=SZ (A:=m.bZ) (z:=X 0) S;have mS:0<O (ks k):=List.length_pos_of_mem y;refine{wf:=h.wf.AR EM _ S,aH:=h.aH,jE:=h.jE,ord0:= ?_,grp1:=λk2 lN b l=> ?_,ksE:=λk2 lN b=> ?_,dD:=λk2=> ?_,grp0:=λk2 p b d=> ?_,gc:=λk2 b=> ?_,inj:=λk2 k3 p p' x b A9 vC W=>h.inj _ _ _ _ _ b A9 (v _ _ _ vC) (v _ _ _ W),cZ:=λn2 ha=> ?_,aM:= ?_,JQ:=λn2 hd=> ?_,fP:=λn2=> ?_,lc:= ?_,goodE:=m1,vN:=m2,oE:=m3}
 .exact ZM166
 .have c:lN∈ks k2/\(k2=k->lN≠gP):=by
   by_cases a:k2=k
   .subst a;rw[eK]at l;have:=(List.Nodup.mem_erase_iff (h.dD k2)).1 l;grind
   grind [dB]
  let⟨n2,o,h2,h3⟩:=h.grp1 k2 lN b c.1;have hen:n2≠n:=λj=>by
   subst j;obtain⟨rfl,g⟩:=h.inj _ _ _ _ _ b q o w;exact c.2 rfl (oJ (h.mO hs q c.1) V g)
  refine⟨n2,?_,?_,?_⟩
  .by_cases a:k2=k
   .subst a;exact(L _ (λg=>c.2 rfl (oJ (h.mO hs q c.1) V g))).ds o
   .exact(f _ _ a).ds o
  .show(m.bZ.AR (X 0) n).dP n2=qT;grind
  .refine(hp (n2+1) Y).ds (h3.ds ?_);by_cases a:k2=k
   .subst a;rw[eK,vm];have eB:cQ m k2 e.1≠lN:=λj=>c.2 rfl (j.symm.ds N);exact ZM92
   .rw[dB bEq _ (show k2+1≠k+1 by omega)];rfl
 .by_cases a:k2=k
  .subst a;rw[eK,eK,List.Nodup.mem_erase_iff (h.dD k2),h.ksE k2 lN b,vm];constructor
   .rintro⟨eB,x,Cn,C⟩;rcases yU.1 Cn with r|r
    .exact⟨x,by simp[r],C⟩
    .rcases xZ.1 r with rfl|r
     .grind
     .exact⟨x,by simp[r],C⟩
   .rintro⟨x,Cn,C⟩;have bAh:cQ m k2 x.1=lN:=C;grind
  .rw[dB ks _ a,dB bEq _ (show k2+1≠k+1 by omega)];exact h.ksE k2 lN b
 .by_cases a:k2=k
  .subst a;rw[eK];exact(h.dD k2).erase _
  .rw[dB ks _ a];exact h.dD k2
 .by_cases a:k2=k
  .subst a;rw[eK]at d;by_cases g:p=bR gP
   .rw[g];exact R1
   .exact(L p g).ds (h.grp0 k2 p b λlN l j=>d lN ((List.Nodup.mem_erase_iff (h.dD k2)).2 ⟨λe2=>g (by rw[<-j,e2]),l⟩) j)
  .rw[dB ks _ a]at d;exact(f k2 p a).ds (h.grp0 k2 p b d)
 .show PP m.gc k (m.gc k-1) k2=_;by_cases a:k2=k
  .subst a;rw[eK,B2 y];simp[PP,h.gc k2 b]
  .rw[dB ks _ a];simp[PP,a];exact h.gc k2 b
 .have ha:(m.bZ.AR (X 0) n).dP n2=qT:=ha;rw[i]at ha;simp only[My,Bool.not_eq_true',decide_eq_false_iff_not]at ha;let⟨k2,lN,b,l,F7⟩:=h.cZ n2 ha.2;have Q:k2=k->lN≠gP:=λe1 e2=>by
   grind
  refine⟨k2,lN,b,?_,?_⟩
  .grind [eK,dB]
  .by_cases a:k2=k
   .subst a;exact(L _ (λg=>Q rfl (oJ (h.mO hs q l) V g))).ds F7
   .exact(f _ _ a).ds F7
 .have o:=ZS (λk=>O (ks k)) k (O (ks k)-1) q;have h2:BN (λk2=>O (RK ks k ((ks k).erase gP) k2)) (O m.gs)=BN (RK (λk=>O (ks k)) k (O (ks k)-1)) (O m.gs):=IY λk2 _=>by
   grind [eK,dB]
  have h3:=h.aM;show m.bZ.aM-1<=BN (λk2=>O (RK ks k ((ks k).erase gP) k2)) (O m.gs);rw[h2];omega
 .have P:(m.bZ.AR (X 0) n).dP n2=rR:=hd;rw[i]at P;by_cases u:n2=n
  .rw[u];exact PT m.nM (n+1) []
  .simp[u]at P;exact(hp (n2+1) Y).ds (h.JQ n2 P)
 .show BZ m.fP n K n2=if(m.bZ.AR (X 0) n).dP n2=qT then H ((m.bZ.AR (X 0) n).kF n2)else K;rw[T,i];unfold BZ;by_cases u:n2=n
  .simp[u]
  .simp only[u,E6,decide_false,L3,VN];exact h.fP n2
 .show m.lc-1=m.bZ.aM-1;rw[h.lc]
end
end
variable{i j:Nat}
section
def C7(m:iM)(v:aE)(r:Row):iM:={m with
 bG:=m.bG.take v,row:=RK m.row m.bG.next r,lJ:=BZ m.lJ m.bG.next (H (m.bG.kF m.bG.next+1)),rc:=m.rc+1,
 wX:=λp=>if p=bR r then H (m.bG.next:Int)else m.wX p,wc:=m.wc+1}
def GE(m:iM)(z:aE)(r:Row)(s:Nat):iM:={m with
 wX:=λp=>if p=bR r then K else m.wX p,wc:=m.wc-1,bG:=m.bG.AR z s,lJ:=BZ m.lJ s K,rc:=m.rc-1}
section
variable{m:iM}{T:List mT}{F G:Nat}
theorem jY.Nh(h:jY m T F G)(c:(r,i)∈T)(b:(r,j)∈T):i=j:=by
 have a:=h.wher1 r i c;rw[h.wher1 r j b]at a;grind
theorem jY.OG(h:jY m T F G){A:List mT}(j:T=A++B)(y:dU r/\O r=m.bT)(vm:∀i,(r,i)∉T)(C:O T<m.aH)(w:F+1<=G)(v:aE):
  jY (C7 m v r) (A++(r,m.bG.next)::B) F G:=by
 have z:m.bG.aM<m.bG.aH:=by rw[h.aM,h.aH];exact C
 have g:=h.wf.wJ;have b:=NK m.bG v;have u:=CX h.wf v;have k:=RM h.wf v;have f:O T=O A+O B:=by rw[j,E7]
 have L:∀q,(q,m.bG.next)∉T:=λq a=>by rw[(h.dP _).2 ⟨q,a⟩]at g;cases g
 have c:∀x:mT,x∈A++(r,m.bG.next)::B↔x=(r,m.bG.next)\/x∈T:=λx=>by grind
 unfold C7;refine{wf:=h.wf.take z w v,aH:=b.1.ds h.aH,jE:=b.2.1.ds h.jE,aM:= ?_,KZ:= ?_,dP:=λi=> ?_,row:=λq i a=> ?_,dD:= ?_,good:=λq i a=> ?_,lJ:=λi=> ?_,rc:= ?_,wher1:=λq i a=> ?_,wher0:=λp l=> ?_,wc:= ?_}
 .grind [aM]
 .grind
 .grind [dP]
 .show RK m.row m.bG.next r i=q;rcases(c _).1 a with a|a
  .injection a with e1 e2;rw[e2,eK,e1]
  .rw[dB _ _ (λ(e:i=m.bG.next)=>L q (e▸a))];exact h.row q i a
 .refine Jz (j▸h.dD) λx N e=> ?_;grind
 .rcases(c _).1 a with a|a
  .grind
  .exact h.good q i a
 .show BZ m.lJ m.bG.next (H (m.bG.kF m.bG.next+1)) i=if(m.bG.take v).dP i=qT then H ((m.bG.take v).kF i)else K;rw[k,u];unfold BZ;by_cases n:i=m.bG.next
  .simp[n]
  .simp only[n,E6,decide_false,Bool.false_or];exact h.lJ i
 .show m.rc+1=_;rw[h.rc];simp;omega
 .show(if bR q=bR r then H (m.bG.next:Int)else m.wX (bR q))=H (i:Int);rcases(c _).1 a with a|a
  .injection a with e1 e2;rw[bW (by rw[e1]),e2]
  .rw[R (λd=>vm i (oJ (h.good q i a).1 y.1 d▸a))];exact h.wher1 q i a
 .show(if p=bR r then H (m.bG.next:Int)else m.wX p)=K;rw[R (λd=>l r m.bG.next ((c _).2 (.inl rfl)) d.symm)];exact h.wher0 p λq i a=>l q i ((c _).2 (.inr a))
 .show m.wc+1=_;rw[h.wc];simp;omega
theorem jY.aOF(h:jY m T F G){A:List mT}{s:Nat}(C:T=A++(r,s)::B)(f:G<=F)(z:aE):
  jY (GE m z r s) (A++B) F G:=by
 have N:O T=O A+O B+1:=by grind
 have c:∀x:mT,x∈T↔x=(r,s)\/x∈A++B:=λx=>by grind
 have l:(r,s)∈T:=(c _).2 (.inl rfl);have g:m.bG.dP s=qT:=(h.dP s).2 ⟨r,l⟩;have v:=h.dD;rw[C,List.map_append,List.map_cons,List.nodup_append,List.nodup_cons]at v;have hs:∀x,x∈A++B->x.2≠s:=λx y e=>by
  rcases yU.1 y with u|u
  .exact v.2.2 x.2 (AE.2 ⟨x,u,rfl⟩) s J e
  grind
 have j:=DM (A:=m.bG) (z:=z) g;have n:=SZ (A:=m.bG) (z:=z) g;have vm:=h.KZ;unfold GE;refine{wf:=h.wf.AR f z g,aH:=h.aH,jE:=h.jE,aM:= ?_,KZ:= ?_,dP:=λi=> ?_,row:=λq i b=>h.row q i ((c _).2 (.inr b)),dD:= ?_,good:=λq i b=>h.good q i ((c _).2 (.inr b)),lJ:=λi=> ?_,rc:= ?_,wher1:=λq i b=> ?_,wher0:=λp L=> ?_,wc:= ?_}
 .show m.bG.aM-1=_;rw[h.aM];simp;omega
 .grind
 .grind [dP]
 .grind
 .show BZ m.lJ s K i=if(m.bG.AR z s).dP i=qT then H ((m.bG.AR z s).kF i)else K;rw[n,j];unfold BZ;by_cases w:i=s
  .simp[w]
  .simp only[w,E6,decide_false,L3,VN];exact h.lJ i
 .show m.rc-1=_;rw[h.rc];simp;omega
 .have a:=(c _).2 (.inr b);show(if bR q=bR r then K else m.wX (bR q))=H (i:Int);rw[R (λd=>hs _ b (h.Nh (oJ (h.good q i a).1 (h.good r s l).1 d▸a) l))];exact h.wher1 q i a
 .show(if p=bR r then K else m.wX p)=K;by_cases d:p=bR r
  .rw[bW d]
  .rw[R d];refine h.wher0 p λq i b=> ?_;grind
 .show m.wc-1=_;rw[h.wc];simp;omega
end
end
variable{F' G':Nat}{E':Nat->List mT}{m1:iM}
section
def sW:List mT->Int
 |[]=> -1
 |e::_=>e.2
def nP(m:iM)(B:List mT)(r:Row):Nat->List mT
 |0=>B
 |k+1=>B.filter λx=>cQ m k x.1=cQ m k r
def zV(m:iM)(B:List mT)(r:Row):List Int:=(List.range m.bQ).map λlane=>sW (nP m B r lane)
theorem lG(m:iM)(B:List mT)(r:Row):O (zV m B r)=m.bQ:=by unfold zV;simp
theorem zU(m:iM)(B:List mT)(r:Row)(h:j<m.bQ):hJ (zV m B r) j 0=sW (nP m B r j):=by
 grind [zV]
theorem Cf{m m':iM}(h:m'.gs=m.gs)(B:List mT)(r:Row)(j:Nat):nP m' B r j=nP m B r j:=by
 simp_all [nP,cQ]
def wN(es Th:List mT)(j:Nat):Nat->List mT:=λl=>if l<j then Th else es
theorem Ce(es Th:List mT):wN es Th 0=λ_=>es:=by funext l;unfold wN;rw[R (Gd l)]
theorem ML(es Th:List mT)(j:Nat):wN es Th j j=es:=R (Nat.lt_irrefl j)
theorem zG(es Th:List mT)(j:Nat):RK (wN es Th j) j Th=wN es Th (j+1):=by
 grind [wN,RK]
section
variable{m:iM}{bEq:Nat->List mT}{ks:Nat->List Row}{T:List mT}{F G:Nat}
theorem eM.congr(h:eM m bEq ks F G)(b:∀l,l<=O m.gs->E' l=bEq l):eM m E' ks F G:=
 {wf:=h.wf,aH:=h.aH,jE:=h.jE,ord0:=by rw[b 0 (O9 _)];exact h.ord0,grp1:=λk gP a c=>by rw[b (k+1) Y];exact h.grp1 k gP a c,
  ksE:=λk gP a=>by rw[b (k+1) Y];exact h.ksE k gP a,dD:=h.dD,grp0:=h.grp0,gc:=h.gc,inj:=h.inj,cZ:=h.cZ,aM:=h.aM,JQ:=h.JQ,fP:=h.fP,lc:=h.lc,
  goodE:=λk e a=>by rw[b k a];exact h.goodE k e a,vN:=λk a=>by rw[b k a];exact h.vN k a,oE:=λk a=>by rw[b k a];exact h.oE k a}
theorem eM.mono(h:eM m bEq ks F G)(b:F<=F')(a:G<=G'):eM m bEq ks F' G':={h with wf:=h.wf.mono b a}
theorem jY.mono(h:jY m T F G)(b:F<=F')(a:G<=G'):jY m T F' G':={h with wf:=h.wf.mono b a}
theorem jY.bQ(h:jY m T F G)(ls:nV aE)(a:Nat->Option Nat)(c:Nat)(g:Nat->List Nat->Option Int)(gc:Nat->Nat)(o:Nat->List Nat):jY {m with bZ:=ls,fP:=a,lc:=c,sB:=g,gc:=gc,nM:=o} T F G:=
 ⟨h.wf,h.aH,h.jE,h.aM,h.KZ,h.dP,h.row,h.dD,h.good,h.lJ,h.rc,h.wher1,h.wher0,h.wc⟩
theorem eM.C7(h:eM m bEq ks F G)(v:aE)(r:Row):eM (YtohhhhfdpceppaaGreatDoor.C7 m v r) bEq ks F G:=
 ⟨h.wf,h.aH,h.jE,h.ord0,h.grp1,h.ksE,h.dD,h.grp0,h.gc,h.inj,h.cZ,h.aM,h.JQ,h.fP,h.lc,h.goodE,h.vN,h.oE⟩
theorem eM.GE(h:eM m bEq ks F G)(z:aE)(r:Row)(s:Nat):eM (YtohhhhfdpceppaaGreatDoor.GE m z r s) bEq ks F G:=
 ⟨h.wf,h.aH,h.jE,h.ord0,h.grp1,h.ksE,h.dD,h.grp0,h.gc,h.inj,h.cZ,h.aM,h.JQ,h.fP,h.lc,h.goodE,h.vN,h.oE⟩
structure Rw(mx:iM)(A B:List mT)(r:Row)(s j N F G:Nat):Prop where
 eD:N<mx.aH*mx.bQ+1
 fresh:∀y,s*mx.bQ+j∉mx.nM y
 ex:∃(PA:List Nat) (ks:Nat->List Row),mx.nM N=PA++(nP mx B r j).map (eL mx j)/\
  eM {mx with nM:=put mx.nM N (PA++(s*mx.bQ+j)::(nP mx B r j).map (eL mx j))} (wN (A++B) (A++(r,s)::B) (j+1)) ks F G
theorem eM.aTe{A:List mT}{s:Nat}(h:eM m (wN (A++B) (A++(r,s)::B) 0) ks F G)(c:dU r/\O r=m.bT)(b:∀x,x∈A++B->x.2≠s)(d:O (A++B)<m.aH):Rw m A B r s 0 0 F G:=by
 have a:=ML (A++B) (A++(r,s)::B) 0;refine⟨Y,h.fresh (lane:=0) (by grind [iM.bQ]) (a▸b),A.map (eL m 0),ks,?_,?_⟩
 .rw[h.ord0,a,QW];rfl
 .have:=h.aTg (e:=(r,s)) a c (a▸b) (a▸d);rw[zG,QW,KR]at this;exact this
theorem Ew.a0i{A:List mT}{s k:Nat}{N:Int}(y:Ew m k (cQ m k r) N m1)(h:eM m (wN (A++B) (A++(r,s)::B) (k+1)) ks F G)(hs:KM m)(c:k<O m.gs)(g:dU r/\O r=m.bT)(l:∀x,x∈A++B->x.2≠s)(u:O (A++B)<m.aH)(w:F+1<=G):
  ∃n:Nat,N=(n:Int)/\Rw m1 A B r s (k+1) n F G:=by
 have a:=ML (A++B) (A++(r,s)::B) (k+1);have v:=h.fresh (lane:=k+1) (s:=s) (by grind [iM.bQ]) (by rw[a];exact l);have f:=mO hs g.1 g.2 c;rcases y with⟨i,rfl⟩|⟨i,rfl,rfl⟩
 .obtain⟨gP,b,Q,n,rfl,C⟩:=h.range c i;obtain rfl:=oJ f.1 (h.mO hs c b) Q;let⟨n',q,g2,g3⟩:=h.grp1 k _ c b;rw[i]at q;obtain rfl:n'=n:=by grind
  have P:=xF (lQ g2) h.wf.len;rw[h.aH]at P;refine⟨n'+1,Y,Y,v,(A.filter λx=>cQ m1 k x.1=cQ m1 k r).map (eL m1 (k+1)),ks,?_,?_⟩
  .rw[g3,a,zdF,QW];rfl
  .have:=h.aJf hs c (e:=(r,s)) a g (by rw[a];exact l) (by rw[a];exact u) i b C;rw[zG,zdF,QW,oq]at this;simp only[decide_true,yN,KR]at this;exact this
 .have b:cQ m k r∉ks k:=λb=>by
   obtain⟨n',q,-,-⟩:=h.grp1 k _ c b;grind
  have L:=h.room hs;have o:=h.wf.Oq L;have z:=h.JQ _ h.wf.wJ;have S:∀x,x∈A++B->cQ m k x.1≠cQ m k r:=λx j e=>b ((h.ksE k _ c).2 ⟨x,by rw[a];exact j,e⟩);have vm:A.filter (λx=>decide (cQ m k x.1=cQ m k r))=[]:=zdE.2 λx j=>by grind
  have p:B.filter (λx=>decide (cQ m k x.1=cQ m k r))=[]:=zdE.2 λx j=>by grind
  have d:nP (Jv m k (cQ m k r)) B r (k+1)=[]:=p;refine⟨m.bZ.next+1,Y,?_,v,[],RK ks k (ks k++[cQ m k r]),?_,?_⟩
  .rw[h.aH]at o;show m.bZ.next+1<m.aH*m.bQ+1;omega
  .rw[d];exact z
  .have:=h.aJg hs c (e:=(r,s)) a g (by rw[a];exact l) (by rw[a];exact u) b w;rw[zG,zdF,oq,vm,p]at this;simp only[decide_true,yN,KR,Nb,B6]at this;rw[d];exact this
end
end
variable{L':List Nat}{tO:Nat}
section
theorem ZM120{P:Prop}(h:P:=by
  obtain⟨cG,h1,h2,h3⟩:=h;obtain⟨a,cap,e,hm⟩:=h2.len;exact⟨a,cap,by rw[e,h1],h1▸hm⟩):P:=h
theorem ZM130{P:Prop}(h:P:=by
  obtain⟨cG,h1,h2,h3⟩:=h;exact⟨cG,h1,h2.eb hM ho,λi hi=>(h3 i hi).eb hM hS⟩):P:=h
def L6(w:aA)(ρ:bC)(β b wd aH:Nat)(gs:List (List Nat))(aT:List Row)(F G:Nat):Prop:=
 ∃(L:JW) (m:iM) (ks:Nat->List Row) (es:List mT),L.b=b/\iW w ρ β L m rR (jS K 0 0)/\jY m es F G/\eM m (λ_=>es) ks F G/\m.bT=wd/\m.aH=aH/\m.gs=gs/\es.map (·.1)=aT
section
variable{w w':aA}{ρ bV:bC}{β b wd aH:Nat}{gs:List (List Nat)}{aT:List Row}{F G:Nat}
theorem L6.eb{S:Nat->Prop}(h:L6 w ρ β b wd aH gs aT F G)(a:bI w ρ S w' bV)(e:∀c,c<20->¬S (β+c)):L6 w' bV β b wd aH gs aT F G:=by
 obtain⟨L,m,ks,es,i,g,d⟩:=h;exact⟨L,m,ks,es,i,g.eb a e,d⟩
theorem L6.mono(h:L6 w ρ β b wd aH gs aT F G)(a:F<=F')(c:G<=G'):L6 w ρ β b wd aH gs aT F' G':=by
 obtain⟨L,m,ks,es,g,j,e,d,i⟩:=h;exact⟨L,m,ks,es,g,j,e.mono a c,d.mono a c,i⟩
theorem L6.good(h:L6 w ρ β b wd aH gs aT F G):∀r∈aT,dU r/\O r=wd:=by
 obtain⟨L,m,ks,es,i,j,a,g,rfl,rfl,rfl,rfl⟩:=h;intro r c;obtain⟨e,d,rfl⟩:=AE.1 c;exact a.good e.1 e.2 d
theorem jY.Jc{m:iM}{T:List mT}(h:jY m T F G):(T.map (·.1)).Nodup:=by
 have d:=h.dD;refine List.pairwise_map.2 ?_;have c:=List.pairwise_map.1 d;refine List.Pairwise.imp_of_mem (λ{a b} ha hb eB e=>eB ?_) c;obtain⟨a1,a2⟩:=a;obtain⟨g,b2⟩:=b;simp only at e;subst e;exact h.Nh ha hb
theorem L6.dD(h:L6 w ρ β b wd aH gs aT F G):aT.Nodup:=by
 obtain⟨L,m,ks,es,c,e,a,d,rfl,rfl,rfl,rfl⟩:=h;exact a.Jc
theorem L6.KZ(h:L6 w ρ β b wd aH gs aT F G):O aT<=aH:=by
 obtain⟨L,m,ks,es,c,e,a,d,rfl,rfl,rfl,rfl⟩:=h;rw[r8];exact a.KZ
end
def iY(w:aA)(ρ:bC)(tO t:Nat)(v:aE)(aT:List Row):Prop:=
 ∃cG:List aE,O cG=O aT/\lW GA undef 1 w ρ tO v cG/\∀i,i<O aT->lW dV aR 3 w ρ t (hJ cG i undef) (hJ aT i [])
theorem iY.eb{w w':aA}{ρ bV:bC}{t:Nat}{aT:List Row}{S:Nat->Prop}(h:iY w ρ tO t v aT)(hM:bI w ρ S w' bV)(ho:¬S tO)(hS:¬S t):iY w' bV tO t v aT:=ZM130
theorem iY.on{w w':aA}{ρ:bC}{t:Nat}{aT:List Row}(h:iY w ρ tO t v aT)(a:U w [] w' L'):iY w' ρ tO t v aT:=h.eb (S:=eZ) a.fL id id
def QO(w:aA)(ρ:bC)(tO t:Nat)(v:aE)(aT:List Row):Prop:=
 ∃cG:List aE,O cG=O aT/\pI GA undef 34 1 w ρ tO v cG/\∀i,i<O aT->lW dV aR 3 w ρ t (hJ cG i undef) (hJ aT i [])
theorem QO.rws{w:aA}{ρ:bC}{t:Nat}{aT:List Row}(h:QO w ρ tO t v aT):iY w ρ tO t v aT:=by
 obtain⟨cG,b,c,a⟩:=h;exact⟨cG,b,c.rd,a⟩
theorem QO.eb{w w':aA}{ρ bV:bC}{t:Nat}{aT:List Row}{S:Nat->Prop}(h:QO w ρ tO t v aT)(hM:bI w ρ S w' bV)(ho:¬S tO)(hS:¬S t):QO w' bV tO t v aT:=ZM130
theorem QO.nil(w:aA)(ρ:bC)(tO t:Nat):QO w ρ tO t (jS K 0 0) []:=⟨[],rfl,pI.nil _ _ _,λi a=>dY a (Gd i)⟩
theorem QO.len{w:aA}{ρ:bC}{t:Nat}{aT:List Row}(h:QO w ρ tO t v aT):∃a cap,v=jS a (O aT) cap/\O aT<=bH:=ZM120
theorem iW.aM0{w w':aA}{ρ bV:bC}{β:Nat}{L:JW}{m:iM}{S:Nat->Prop}(h:iW w ρ β L m mk uv)(a:bI w ρ S w' bV)(b:∀c,c<20->c≠7->¬S (β+c)):iW w' bV β L m mk uv:=
 ⟨h.kW.eb a (b 0 Y Y),h.bG.eb a (b 1 Y Y),h.lJ.eb a (h.J2▸b 2 Y Y),(a.cE _ h.lJ.lt).ds h.J2,h.bZ.eb a (b 3 Y Y),
  h.fP.eb a (h.xP▸b 4 Y Y),(a.cE _ h.fP.lt).ds h.xP,h.nM.eb a (b 5 Y Y),λi v hv=>(h.cG i v hv).eb a (b 6 Y Y),h.wX.eb a (b 8 Y Y) (b 9 Y Y),
  λk g=>by
   have:=h.kW.oE;have e:β+10+2*k=β+(10+2*k):=Y;have d:β+10+2*k+1=β+(11+2*k):=Y;exact(h.sB k g).eb a (e▸b _ Y Y) (d▸b _ Y Y)⟩
def mF(wd aH:Nat)(aT:List Row)(r:Row):Bool×Nat×List Row:=
 if¬(O r=wd/\dS r=qT)then(rR,62,aT)else if r∈aT then(rR,0,aT)else if O aT=aH then(rR,31,aT)else(qT,0,aT++[r])
def lE(wd:Nat)(aT:List Row)(r:Row):Bool×Nat×List Row:=
 if¬(O r=wd/\dS r=qT)then(rR,62,aT)else if r∈aT then(qT,0,aT.erase r)else(rR,0,aT)
end
variable{a:Act}{listed:Array Bool}{fuel:Nat}
section
section
variable{P:cj}{ops:Array Oper}{bEr:Exit->Act->aA->Prop}{md:Region.Mode}{S:aA->Prop}{L:Nat}
theorem sI{o:Oper}(c:Region.ready md ops listed=[i])(l:ops[i]? =H o)(d:Region.wanted o (yielded ops a.tmps)=qT)(h:∀vm:Act->aA->Prop,dT (∀a' w',(i≠L->S w')->jC P md ops bEr S L fuel (listed.setIfInBounds i qT) a' w'->vm a' w')->Oper.wp P o a w vm bEr):
  jC P md ops bEr S L (fuel+1) listed a w:=by
 refine⟨λh=>(by rw[c]at h;cases h),λj b=> ?_⟩;rw[c]at b;obtain rfl:j=i:=eP b;have:=h (λa' w'=>(j≠L->S w')/\jC P md ops bEr S L fuel (listed.setIfInBounds j qT) a' w') (Z λa' w' g e=>⟨g,e⟩);unfold wpOp;simp only[l,d,yN];exact .inl this
end
end
variable{id:Nat}{oi:Oper}
section
section
variable{P:cj}{ops:Array Oper}{bEr:Exit->Act->aA->Prop}{md:Region.Mode}{S:aA->Prop}{L:List Nat}
def CV(P:cj)(md:Region.Mode)(ops:Array Oper)(bEr:Exit->Act->aA->Prop)(S:aA->Prop)(L:List Nat):Nat->Array Bool->Act->aA->Prop
 |0,listed,a,w=>Region.ready md ops listed=[]/\bEr .normal a w
 |fuel+1,listed,a,w=>
  (Region.ready md ops listed=[]->bEr .normal a w)/\
  ∀i∈Region.ready md ops listed,wpOp P ops bEr i (λa' w'=>(i∉L->S w')/\CV P md ops bEr S L fuel (listed.setIfInBounds i qT) a' w') a w
theorem Z1:∀(fuel:Nat) (listed:Array Bool) (a:Act) (w:aA),CV P md ops bEr S L fuel listed a w->wpAny P md ops bEr fuel listed a w
 |0,_,_,_,h=>h
 |fuel+1,_,_,_,h=>⟨h.1,λi c=>wpOp_mono (λa' w' b=>Z1 fuel _ a' w' b.2) (h.2 i c)⟩
theorem RE(A:ops[i]? =H oi)(x:∀(j:Nat) (o:Oper) cs b,ops[j]? =H o->o.op≠ .select cs b)(hl:(L.all λl=>waits md ops l i)=qT)(G:∀c a w,bEr (.panic c) (a.put oi.dst v) w->bEr (.panic c) a w):
  ∀(fuel:Nat) (listed:Array Bool) (a:Act) (w:aA),
   (∀j d,ops[j]? =H d->j≠i->listed.getD j qT=rR->(∀e∈d.after,Region.binds md e=qT->e.on≠i)->oi.apart ops d=qT)->
   i∈Region.ready md ops listed->YieldsIf P ops S oi v a->S w->
   CV P md ops bEr S L fuel (listed.setIfInBounds i qT) (a.put oi.dst v) w->CV P md ops bEr S L (fuel+1) listed a w
 |fuel,listed,a,w,hfree,hr,hy,hS,s=>by
  refine⟨λh=>(by rw[h]at hr;cases hr),λj u=> ?_⟩;by_cases m:j=i
  .subst m;exact hy.wpOp A hS ⟨λ_=>hS,s⟩
  .have n:j∉L:=λe=>ME (Tv.1 hl j e) hr u;cases fuel with
   |zero=>
    have:=ready_mono u m;rw[s.1]at this;cases this
   |succ fuel=>
    have W:=s.2 j (ready_mono u m);let⟨p,d,g,QA⟩:=mem_ready.1 u;have B:∀e∈d.after,Region.binds md e=qT->e.on≠i:=λe f V z=>by
     have q:=QA e f V;have vm:=(mem_ready.1 hr).1;rw[z]at q;rcases YB i listed.size with y|y
     .simp[y]at vm q;rw[vm]at q;cases q
     .simp[Array.getElem?_eq_none y]at q
    have Q:=wpOp_putIf g (hfree j d g m p B) (λcs b=>x i oi cs b A) (λcs b=>x j d cs b g) G hy W;have og:∀k ok,ops[k]? =H ok->k≠i->(listed.setIfInBounds j qT).getD k qT=rR->
      (∀e∈ok.after,Region.binds md e=qT->e.on≠i)->oi.apart ops ok=qT:=λk ok T N F fX=>by
     refine hfree k ok T N ?_ fX;by_cases C:j=k
     .subst C;exact p
     .rw[getD_set_ne qT C]at F;exact F
    refine wpOp_mono (λa' w' r=>⟨λ_=>r.2.1 n,RE A x hl G fuel (listed.setIfInBounds j qT) a' w' og (ready_mono hr (Ne.symm m)) r.1 (r.2.1 n) ?_⟩) Q;rw[Array.setIfInBounds_comm _ _ m];exact r.2.2
theorem sG(d:Option Tmp)(b:ops[i]? =H oi)(hd:oi.dst=d)(hs:Region.noSelect ops=qT)(n:Region.free md ops listed i=qT)(m:(Region.ready md ops listed).contains i=qT)(hl:(L.all λl=>waits md ops l i)=qT)(e:∀c a w,bEr (.panic c) (a.put oi.dst v) w->bEr (.panic c) a w)(g:YieldsIf P ops S oi v a)(j:S w)(h:CV P md ops bEr S L fuel (listed.setIfInBounds i qT) (a.put d v) w):CV P md ops bEr S L (fuel+1) listed a w:=
 RE b (Region.noSelect_spec hs) hl e fuel listed a w (Region.free_spec b n) (eP m) g j (hd▸h)
theorem sH{o:Oper}(c:Region.ready md ops listed=[i])(m:ops[i]? =H o)(e:o.guard=K)(h:∀vm:Act->aA->Prop,dT (∀a' w',(i∉L->S w')->CV P md ops bEr S L fuel (listed.setIfInBounds i qT) a' w'->vm a' w')->Oper.wp P o a w vm bEr):
  CV P md ops bEr S L (fuel+1) listed a w:=by
 refine⟨λh=>(by rw[c]at h;cases h),λj b=> ?_⟩;rw[c]at b;obtain rfl:j=i:=eP b;have l:Region.wanted o (yielded ops a.tmps)=qT:=by simp[Region.wanted,e]
 have:=h (λa' w'=>(j∉L->S w')/\CV P md ops bEr S L fuel (listed.setIfInBounds j qT) a' w') (Z λa' w' d g=>⟨d,g⟩);unfold wpOp;simp only[m,l,yN];exact .inl this
theorem Uc(b:Region.ready md ops listed=[])(h:bEr .normal a w):∀fuel,CV P md ops bEr S L fuel listed a w
 |0=>⟨b,h⟩
 |_+1=>⟨λ_=>h,by rw[b];simp⟩
theorem Ub(L:List Nat)(S:aA->Prop)(b:P.follows .mixedOrders=qT)(c:S w.drew)(h:S w.drew->CV P .any ops bEr S L ops.size (Lf ops.size rR) a w.drew):(Code.region id ops qT).wp P bEr a w:=
 wp_region_any b (Z1 _ _ _ _ (h c))
end
end
variable{nb ta γ:Nat}{ks:Nat->List Row}{mx:iM}{gL:bC}{av uk:aE}{wk wr wx wy:aA}
theorem ZM190{P:Prop}(h:P:=by
  rintro e wz ⟨K3,mz,kz,rfl,hZ⟩;dsimp only;have HZ:=Z hZ;have SQ:=hZ.st.kW.cF;rw[show mz.bQ=Kl from(by unfold iM.bQ;rw[hZ.yA.2.2];exact rF.o)]at SQ;have hXz:=hZ.Jj;have y0:=Zc hXz 0;have c2:=Zc SQ 2;have CR:=Zc SQ 10;have Q:=And.intro c2 (And.intro CR y0);clear hZ HSd TK SQ hXz c2 CR y0;refine Zk hK Q ?_;clear hK vm;refine bD (by kernel_rfl) ?_ _;clear Q;go_wp2;go_roundg (Kl-(j+1))
  case measure=>have:=HJ.o;have:=rF.o;omega
  case rel=>exact⟨j+1,mz,K3,kz,by have:=HJ.o;have:=rF.o;omega,rfl,by go_num,HZ.o⟩):P:=h
theorem ZM8{P:Prop}(h:P:=by
  clear d0;have d0:=TK.o.ah.1.cells (i:=j) (by rw[lG];exact HJ.o) 0 E;rw[zU m B r HJ.o,HB.o]at d0;simp only[fI,sW,Nat.mul_one,Nat.add_zero]at d0;have Ft:=TK.o.st.kW.cF;rw[show mo.bQ=Kl from(by unfold iM.bQ;rw[TK.o.yA.2.2];exact rF.o)]at Ft;have hXo:=TK.o.Jj;have y0:=Zc hXo 0;have c2:=Zc Ft 2;have CR:=Zc Ft 10;clear Ft hXo;go_upto_region 12 with(fail);refine e7 99 (ez c2<|ez CR<|ey y0) (λQ=> ?_);clear c2 CR y0;have HSd:=Z (TK.o.on ((U.refl _ []).drew));refine ek [0,4,6,11,13,14,19,1,5,7,15,2,8,16,3,9,17,10,18,12,20] ?_;refine Zo 21 λvm hK=> ?_;go_simp;go_at_call 286;refine(HSd.o.bef nI.o HJ.o TL.o HB.o _ _ ?_ ?_).mono ?_
  .first|exact HC.o|(rw[HW.o.1];exact HC.o)|(rw[HW.o.1,HW.o.2];exact HC.o)
  .first|exact HD.o|(rw[HWX.o.1];exact HD.o)|(rw[HWX.o.1,HWX.o.2];exact HD.o)
  exact ZM190):P:=h
theorem ZM9{P:Prop}(h:P:=by
  clear d0;have d0:=TK.o.ah.1.cells (i:=j) (by rw[lG];exact HJ.o) 0 E;rw[zU m B r HJ.o,HB.o]at d0;simp only[fI,sW,Nat.mul_one,Nat.add_zero]at d0;have Ft:=TK.o.st.kW.cF;rw[show mo.bQ=Kl from(by unfold iM.bQ;rw[TK.o.yA.2.2];exact rF.o)]at Ft;have hXo:=TK.o.Jj;have y0:=Zc hXo 0;have c2:=Zc Ft 2;have CR:=Zc Ft 10;clear Ft hXo;go_upto_region 13 with(fail);refine e7 99 (ez c2<|ez CR<|ey y0) (λQ=> ?_);clear c2 CR y0;have HSd:=Z (TK.o.on ((U.refl _ []).drew));refine ek [0,4,5,7,12,1,6,8,2,9,3,10,11,13] ?_;refine Zo 14 λvm hK=> ?_;go_simp;go_at_call 287;refine(HSd.o.app nI.o HJ.o TL.o HB.o _ _ Tr.o ?_).mono ?_
  .first|exact HC.o|(rw[HW.o.1];exact HC.o)|(rw[HW.o.1,HW.o.2];exact HC.o)
  exact ZM190):P:=h
theorem ZM55{P:Prop}(h:P:=by
  rw[hl]at hL;refine⟨bV,_,Fn,rfl,h.fK.ds hM',hS,h.yY.bQ _ _ _ _ _ _,hL,h.bG,h.yA,hM.aC h.Jj (by show¬_=_;rw[h.EG];omega),(hM.cE nb (dG h.Jj)).ds h.EG,h.row.eb hM' (by unfold eX;omega),h.ah.eb hM' mZ⟩):P:=h
theorem ZM142{P:Prop}(h:P:=by
  rw[hl,h.yA.2.1];have:(s+1)*m.bQ<=m.aH*m.bQ:=Sq _ hs;rw[Nat.succ_mul]at this;omega):P:=h
def fI(x:Int)(_:Nat):aE:=mj mn x
def aRD(w:aA)(ρ:bC)(β:Nat)(L:JW)(m:iM)(mk:Bool)(uv v:aE)(A B:List mT)(r:Row)(F G:Nat)(e:cc)(w':aA):Prop:=
 ∃bV m' ks',e=mi (mj mn m.bG.next)/\bI w ρ (eX β) w' bV/\iW w' bV β L m' mk uv/\jY m' (A++(r,m.bG.next)::B) F G/\eM m' (λ_=>A++(r,m.bG.next)::B) ks' F G/\m'.bG=m.bG.take v/\m'.bT=m.bT/\m'.aH=m.aH/\m'.gs=m.gs
structure FF(w:aA)(ρ:bC)(β ta:Nat)(L:JW)(m mx:iM)(mk:Bool)(uv v av:aE)(A B:List mT)(r:Row)(s nb γ F G:Nat)(ks:Nat->List Row)(j:Nat)(wx:aA)(gL:bC):Prop where
 fK:bI w ρ (eX β) wx gL
 st:iW wx gL β L mx mk uv
 yY:jY mx (A++(r,s)::B) F G
 xo:eM mx (wN (A++B) (A++(r,s)::B) j) ks F G
 bG:mx.bG=m.bG.take v
 yA:mx.bT=m.bT/\mx.aH=m.aH/\mx.gs=m.gs
 Jj:wx.heap[nb]? =H (kd #[mj mn s,mj mn γ] 348 (0,0))
 EG:gL nb=β+7
 row:lW dV aR 3 wx gL (β+6) v r
 ah:lW fI 0 1 wx gL ta av (zV m B r)
structure G4(w:aA)(ρ:bC)(β ta:Nat)(L:JW)(m mx:iM)(mk:Bool)(uv v av:aE)(A B:List mT)(r:Row)(s nb γ F G N j:Nat)(wx:aA)(gL:bC):Prop where
 fK:bI w ρ (eX β) wx gL
 st:iW wx gL β L mx mk uv
 yY:jY mx (A++(r,s)::B) F G
 mid:Rw mx A B r s j N F G
 bG:mx.bG=m.bG.take v
 yA:mx.bT=m.bT/\mx.aH=m.aH/\mx.gs=m.gs
 Jj:wx.heap[nb]? =H (kd #[mj mn s,mj mn γ] 348 (0,0))
 EG:gL nb=β+7
 row:lW dV aR 3 wx gL (β+6) v r
 ah:lW fI 0 1 wx gL ta av (zV m B r)
theorem Ew.rest{m:iM}{k:Nat}{N:Int}(h:Ew m k r N m1):m1.bG=m.bG/\m1.bT=m.bT/\m1.aH=m.aH/\m1.gs=m.gs/\∀T F G,jY m T F G->jY m1 T F G:=by
 rcases h with⟨-,rfl⟩|⟨-,-,rfl⟩
 .exact⟨rfl,rfl,rfl,rfl,λ_ _ _ h=>h⟩
 .exact⟨rfl,rfl,rfl,rfl,λ_ _ _ h=>h.bQ _ _ _ _ _ _⟩
theorem FF.aMT{L:JW}{m:iM}{A:List mT}{s k:Nat}(h:FF w ρ β ta L m mx mk uv v av A B r s nb γ F G ks (k+1) wr gL)(Q:¬eX β ta)(d:k<O mx.gs)(f:dU r/\O r=m.bT)(hf:∀x,x∈A++B->x.2≠s)(hn:O (A++B)<m.aH)(vm:F+1<=G)(hG:G<=1073741824)(q:bN dV aR 90 3 wr wk uk (cQ mx k r))(hU:U wr [] wk []):
  uJ 285 #[lr (H ⟨L.b,0,K⟩),mj mn k,uk] wk λe w'=>∃(N:Nat) (mo:iM) (c:bC),e=mi (mj mn (N:Int))/\G4 w ρ β ta L m mo mk uv v av A B r s nb γ F G N (k+1) w' c:=by
 have u:dU r/\O r=mx.bT:=⟨f.1,h.yA.1▸f.2⟩;have Hr:O (A++B)<mx.aH:=h.yA.2.1▸hn;have l:=h.st.kW.yA;have P:=mO l u.1 u.2 d;have nE:=h.xo.room l;have g:bI wr gL eZ wk (up wr (β+7) gL):=hU.fK (S:=eZ) (β+7) (λ_ h=>dY h J);have z:lW dV aR 3 wk (up wr (β+7) gL) (β+7) uk (cQ mx k r):=q.rd.jR (λh0 b hb=>q.2 b (eV.cZ q.1 hb)) (β+7) gL;have o:=h.st.eb g vF;have h5:mx.bQ<=5:=by have:=l.oE;unfold iM.bQ;omega
 have G9:=gz l.kw.2 h5;have y:mx.gc k<mx.aH:=by
  rw[h.xo.gc k d];have:=h.xo.aMZ d;rw[ML]at this;omega
 refine(aOL k o d z (by unfold eX;omega) P.1 P.2 h.xo.wf nE (kG h.xo.aH) vm hG (by rw[h.xo.fP,h.xo.wf.wJ];rfl) (by rw[h.xo.lc];have:=h.xo.aH;omega) y (λn hx=>by obtain⟨_,_,_,n',rfl,_⟩:=h.xo.range d hx;omega)).mono ?_;rintro e wo ⟨c,mo,n,rfl,a,C,i⟩;obtain⟨N,rfl,V⟩:=i.a0i h.xo l d u hf Hr vm;obtain⟨r1,r2,r3,r4,W⟩:=i.rest;have p:=(g.cE nb (dG h.Jj)).ds h.EG;have j:=g.aC h.Jj id;refine⟨N,mo,c,rfl,(h.fK.ds (g.aL (T:=eX β) nZ)).ds a,C,W _ _ _ h.yY,V,r1.ds h.bG,⟨r2.ds h.yA.1,r3.ds h.yA.2.1,r4.ds h.yA.2.2⟩,a.aC j (by rw[p];unfold eX;omega),(a.cE nb (dG j)).ds p,?_,?_⟩
 .exact(h.row.eb g id).eb a (by unfold eX;omega)
 .exact(h.ah.eb g id).eb a Q
theorem G4.on{L:JW}{m:iM}{A:List mT}{s N:Nat}(h:G4 w ρ β ta L m mx mk uv v av A B r s nb γ F G N j wx gL)(a:U wx [] wy L'):G4 w ρ β ta L m mx mk uv v av A B r s nb γ F G N j wy gL:=
 ⟨h.fK.kV a,h.st.on a,h.yY,h.mid,h.bG,h.yA,a.aC h.Jj J,h.EG,h.row.on a,h.ah.on a⟩
theorem jY.lt{m:iM}{T:List mT}(h:jY m T F G)(b:(r,i)∈T):i<m.aH:=by
 have c:=(h.dP i).2 ⟨r,b⟩;have d:=lQ c;have a:=h.wf.len;rw[h.aH]at a;omega
theorem G4.app{L:JW}{m:iM}{A:List mT}{s N:Nat}(h:G4 w ρ β ta L m mx mk uv v av A B r s nb γ F G N j wx gL)(mZ:¬eX β ta)(q:j<m.bQ)(hs:s<m.aH)(n:nP m B r j=[])(i z:Int)(b:i=(N:Int))(l:z=((s*m.bQ+j:Nat):Int)):
  uJ 287 #[lr (H ⟨L.ob,0,K⟩),mj mn i,mj mn z] wx λe w'=>∃bV m' Fn,e=mi (mj mn 0)/\FF w ρ β ta L m m' mk uv v av A B r s nb γ F G Fn (j+1) w' bV:=by
 subst b l;obtain⟨PA,Fn,d,hL⟩:=h.mid.ex;have hl:mx.bQ=m.bQ:=by unfold iM.bQ;rw[h.yA.2.2]
 have a:=(Cf h.yA.2.2 B r j).ds n;rw[a]at d hL;have g:=h.mid.fresh;rw[hl]at g;refine(ro (c:=s*m.bQ+j) wx h.st.nM h.mid.eD ?_ g).mono ?_
 .exact ZM142
 .rintro e w' ⟨bV,rfl,hM,p⟩;have hM':=hM.zH (β:=β) (c:=5) E;have hS:=h.st.Ai hM p;rw[d]at hS;simp only[B6,ui]at hS;exact ZM55
theorem G4.bef{L:JW}{m:iM}{A:List mT}{s N:Nat}(h:G4 w ρ β ta L m mx mk uv v av A B r s nb γ F G N j wx gL)(mZ:¬eX β ta)(q:j<m.bQ)(hs:s<m.aH){x:mT}{B':List mT}(l:nP m B r j=x::B')(z y:Int)(i:z=((s*m.bQ+j:Nat):Int))(g:y=((x.2*m.bQ+j:Nat):Int)):
  uJ 286 #[lr (H ⟨L.ob,0,K⟩),mj mn z,mj mn y] wx λe w'=>∃bV m' Fn,e=mi (mj mn 0)/\FF w ρ β ta L m m' mk uv v av A B r s nb γ F G Fn (j+1) w' bV:=by
 subst i g;obtain⟨PA,Fn,a,hL⟩:=h.mid.ex;have hl:mx.bQ=m.bQ:=by unfold iM.bQ;rw[h.yA.2.2]
 have b:=(Cf h.yA.2.2 B r j).ds l;rw[b]at a hL;have d:=h.mid.fresh;rw[hl]at d;have p:eL mx j x=x.2*m.bQ+j:=by unfold eL;rw[hl]
 rw[KR,p]at a hL;refine(rn (c:=s*m.bQ+j) wx h.st.nM ?_ d a).mono ?_
 .exact ZM142
 .rintro e w' ⟨bV,rfl,hM,n⟩;have hM':=hM.zH (β:=β) (c:=5) E;have hS:=h.st.Ai hM n;exact ZM55
theorem aOM{L:JW}{m:iM}{A:List mT}(h:iW w ρ β L m mk uv)(n:jY m (A++B) F G)(hL:eM m (λ_=>A++B) ks F G)(hv:lW dV aR 3 w ρ (β+6) v r)(hg:dU r/\O r=m.bT)(fX:∀i,(r,i)∉A++B)(hn:O (A++B)<m.aH)(qH:F+1<=G)(hG:G<=1073741824)(ha:lW fI 0 1 w ρ ta av (zV m B r))(mZ:¬eX β ta):
  aK prog 275 #[lr (H ⟨L.b,0,K⟩),v,av] w (aRD w ρ β L m mk uv v A B r F G):=by
 obtain⟨va,vc,rfl,-⟩:=hv.len;obtain⟨Kl,Qs⟩:=D (m.bQ);have rF:=Z Qs;obtain⟨aa,ac,hav,-⟩:=ha.len;rw[lG,Qs]at hav;subst hav;have Q6:m.bG.aM<m.bG.aH:=by rw[n.aM,n.aH];exact hn
 have Lc:=n.wf.Oq Q6;rw[n.aH]at Lc;have SO:=h.kW.kw;have aFi:m.bG.next<=1048576:=Y;have a18:(m.bG.next:Int)<65536:=Y;have aGH:=n.wf.wJ;have b:m.lJ m.bG.next=K:=by rw[n.lJ,aGH];rfl
 have hrc:m.rc<=1048576:=by rw[n.rc];omega
 have Wv:m.wX (bR r)=K:=n.wher0 _ λq i hq e=>fX i (oJ (n.good q i hq).1 hg.1 e▸hq);have hwc:m.wc<m.aH:=by rw[n.wc];exact hn
 have IN:∀x,x∈A++B->x.2≠m.bG.next:=λx hx e=>by
  have:=(n.dP x.2).2 ⟨x.1,hx⟩;rw[e,aGH]at this;cases this
 have hTW:=n.wf;have hTL:=n.OG rfl hg fX hn qH (jS va (O r) vc);have hLL:=hL.C7 (jS va (O r) vc) r;have hb:=h.kW.cF;have b4:=Zc hb 4;have c:=Z h;have HV:=Z hv;have HA:=Z ha;have nI:=Z mZ;have HG:=Z hg;have HTW:=Z hTW;have g:=Z (And.intro Q6 (And.intro qH hG));have HRF:=Z (And.intro b hrc);have HWN:=Z (And.intro Wv hwc);have BT:=Z IN;have HTL:=Z hTL;have A0:=Z hLL;have HN:=Z hn;have aM6:∀i x,m.bG.pP i=H x->zv w ρ (β+6) x (m.row i):=h.cG;have aN6:=Z aM6;have TL:=Z (show m.bG.next<m.aH from Lc);clear h n hL hv hg fX hn qH hG ha mZ Qs Q6 aGH b hrc Wv hwc IN hTW hTL hLL hb aM6;go_enter func275,ntmps275;go_upto_region 2 with(go_at_call 283;refine(aCX va (O r) vc w c.o.bG HTW.o g.o.1 g.o.2.1 g.o.2.2).mono ?_;rintro e w2 ⟨fD,rfl,hM,hA⟩;have EE:=Z hM;have HA2:=Z hA;clear hM hA);have hV2:∀i x,(m.bG.take (jS va (O r) vc)).pP i=H x->zv w2 fD (β+6) x (RK m.row m.bG.next r i):=λi x hx=>by
  rw[ir HTW.o]at hx;by_cases e:i=m.bG.next
  .rw[if_pos e]at hx;rw[e,eK,<-Option.some.inj hx];exact HV.o.eb EE.o (by show¬_=_;omega)
  .rw[if_neg e]at hx;rw[dB _ _ e];exact(aN6.o i x hx).eb EE.o (by show¬_=_;omega)
 have tF:=Z (c.o.Ux EE.o HA2.o hV2);obtain⟨γ,SJ⟩:=D (m.bG.kF m.bG.next+1);have aFU:(m.bG.kF m.bG.next:Int)+1=(γ:Int):=Y;try rw[aFU]
 have HGA:=Z SJ;obtain⟨s,hs⟩:=D (m.bG.next);obtain⟨w3,jA⟩:=D (i5 w2 (kd #[mj mn m.bG.next,mj mn γ] 348));have cW:=Za jA;have QB:=Zb jA;rw[jA];have xT:bI w2 fD (λ_=>False) w3 (up w2.heap.size (β+7) fD):=cW.fK (S:=λ_=>False) (β+7) (λ_ h=>absurd h J);have E3:=Z (tF.o.eb xT (λ_ _ h=>h));have wH:=Z ((EE.o.zH E).ds (xT.aL (T:=eX β) (λ_ h=>h.elim)));have PE:=Z (HV.o.eb wH.o (by unfold eX;omega));have HA3:=Z (HA.o.eb wH.o nI.o);have NF:=Z QB;obtain⟨nb,TW⟩:=D (i7 w2.heap);rw[TW]at QB NF E3 wH PE HA3|-;obtain⟨mI,nD⟩:=D (up nb (β+7) fD);have PG:dT (mI nb=β+7):=Z (nD▸cY (vW _));rw[nD]at E3 wH PE HA3;rw[hs]at TL QB NF HRF BT HTL aFi a18 E3|-;have V:=Z hs;have WN:=E3.o.kW.cF;obtain⟨x0,x1⟩:=Z2 QB;have c5:=Zc WN 5;clear nD xT SJ aFU jA cW QB TW WN b4 hV2 tF c HV HA EE HA2 aN6 hs;refine e7 7 (ez c5<|ez x0<|ey x1) (λQ=> ?_);clear c5 x0 x1;obtain⟨w4,uC⟩:=D (w3.drew);have eJ:U w3 [] w4 []:=uC▸(U.refl w3 []).drew;rw[uC]at Q|-;have LM:=Z (wH.o.kV eJ);have Y1:=Z (E3.o.on eJ);have PD:=Z (PE.o.on eJ);have HA4:=Z (HA3.o.on eJ);obtain⟨w5,dK,sA,cO,Ln⟩:=Y1.o.aO0 (i:=s) γ aFi HRF.o.1 HRF.o.2;have NI:=Z (LM.o.ds (sA.zH E));have Tp:=Z Ln;have bz:=Z (PD.o.eb (sA.zH E) (by unfold eX;omega));have HA5:=Z (HA4.o.eb (sA.zH E) nI.o);have zy:=Z (cO.aC (eJ.aC NF.o J) (by simp only[List.mem_singleton];exact λe=>(Y1.o.lJ.ne (eJ.aC NF.o J)) e.symm));unfold sS at dK;clear sA cO Ln uC eJ LM PD wH PE NF E3 HA3 HA4;refine I 0 ?_;refine I 4 ?_;refine I 6 ?_;refine I 1 ?_;refine I 5 ?_;refine I 2 ?_;refine I 3 ?_;refine Zo 7 λvm hK=> ?_;go_simp;refine Zl hK ?_;clear hK vm;clear Q dK Y1;have Qd:=Tp.o.kW.cF;have Lj:=zy.o;have b6:=Zc Qd 6;have x0:=Zc Lj 0;clear Lj Qd;go_upto_region 3 with(fail);refine e7 99 (ez b6<|ey x0) (λQ=> ?_);clear b6 x0;obtain⟨w6,iA⟩:=D (w5.drew);have dR:U w5 [] w6 []:=iA▸(U.refl w5 []).drew;rw[iA]at Q|-;have Fz:=Z (NI.o.kV dR);have te:=Z (Tp.o.on dR);have sq:=Z (bz.o.on dR);have HA6:=Z (HA5.o.on dR);have Tl:=Z (dR.aC zy.o J);clear iA dR NI Tp bz zy HA5;refine I 0 ?_;refine I 4 ?_;refine I 6 ?_;refine I 1 ?_;refine I 7 ?_;refine I 2 ?_;refine I 3 ?_;refine Zo 5 λvm hK=> ?_;go_simp;go_at_call 232;refine(UF _ r w6 sq.o.1 HG.o.1).mono ?_;rintro e w7 ⟨u,rfl,hO,gD⟩;dsimp only;obtain⟨tK,tJ⟩:=Q;have Q:=And.intro ((gD).cell tK J) ((gD).cell tJ J);clear tK tJ;have MX:bI w6 mI (λ_=>False) w7 (up w6.heap.size (β+7) mI):=gD.fK (S:=λ_=>False) (β+7) (λ_ h=>absurd h J);have HK7:=Z (UV (ρ:=mI) hO (β+7));have U0:=Z (te.o.eb MX (λ_ _ h=>h));have LA:=Z (Fz.o.ds (MX.aL (T:=eX β) (λ_ h=>h.elim)));have HV7:=Z (sq.o.eb MX (λh=>h));have HA7:=Z (HA6.o.eb MX (λh=>h));have HX7:=Z (gD.aC Tl.o J);have Sa:dT (up w6.heap.size (β+7) mI nb=β+7):=Z (by unfold up;split;rfl;exact PG.o);obtain⟨ua,uc,rfl,-⟩:=hO.len;obtain⟨Mx,Wr⟩:=D (up w6.heap.size (β+7) mI);rw[Wr]at HK7 U0 LA HV7 HA7 Sa;clear hO gD MX Fz te Tl sq HA6 Wr PG;refine Zk hK Q ?_;clear hK vm;refine Zo 8 λvm hK=> ?_;go_simp;go_at_call 284;refine(aM1 (s:Int) w7 U0.o.wX HK7.o Y HG.o.1.eD HWN.o.1 HWN.o.2).mono ?_;rintro e w8 ⟨CM,rfl,pW,hI8⟩;dsimp only;have fx:=Z (U0.o.Nu pW hI8);have TO:=Z (LA.o.ds (pW.zH E));have HV8:=Z (HV7.o.eb (pW.zH E) (by unfold eX;omega));have HA8:=Z (HA7.o.eb (pW.zH E) nI.o);have HX8:=Z (pW.aC HX7.o (by show¬_=_;rw[Sa.o];omega));have HT8:dT (CM nb=β+7):=Z ((pW.cE nb (lt_of_block HX7.o)).ds Sa.o);have hX8:=HX8.o;have x0:=Zc hX8 0;have Q:=(And.intro (pW.cell Q.1 (by show¬_=_;rw[U0.o.kW.cE];omega)) x0);clear hX8 x0 pW hI8 LA U0 HX7 HK7 HV7 HA7 Sa;refine Zk hK Q ?_;clear hK vm;refine bD (by kernel_rfl) ?_ _;clear Q;have hS8:iW w8 CM β L (C7 m (jS va (O r) vc) r) mk uv:=by
  unfold C7;rw[HGA.o,V.o];exact fx.o
 have d:FF w ρ β ta L m (C7 m (jS va (O r) vc) r) mk uv (jS va (O r) vc) (jS aa Kl ac) A B r s nb γ F G ks 0 w8 CM:=
  ⟨TO.o,hS8,HTL.o,by rw[Ce];exact A0.o,rfl,⟨rfl,rfl,rfl⟩,HX8.o,HT8.o,HV8.o,HA8.o⟩
 obtain⟨m1,rP⟩:=D (C7 m (jS va (O r) vc) r);rw[rP]at d;have Y5:=Z d;have hb8:=d.st.kW.cF;have H5:dT (m.bQ<=5):=Z (by have:=d.st.kW.oE;rw[d.yA.2.2]at this;unfold iM.bQ;omega);have hl8:m1.bQ=m.bQ:=by unfold iM.bQ;rw[d.yA.2.2]
 rw[hl8]at hb8;have b2:=Zc hb8 2;clear hS8 d rP hb8 hl8 TO fx HTL A0 HX8 HT8 HV8 HA8 HTW HRF HWN HGA aFi Lc;have Qs:=rF.o;rw[Qs]at b2;have hK5:(Kl:Int)<=5:=by have:=H5.o;omega
 clear Qs;go_upto_region 5 with(fail);go_loopg [41] Kl (λgg s41 wr=>∃(j:Nat) (mx:iM) (gL:bC) (Fn:Nat->List Row),j<=Kl/\gg=Kl-j/\s41=mj mn j/\FF w ρ β ta L m mx mk uv (jS va (O r) vc) (jS aa Kl ac) A B r s nb γ F G Fn j wr gL)
 case atStart=>exact⟨0,m1,CM,ks,zN _,rfl,rfl,Y5.o⟩
 case round=>
  obtain⟨j,mx,gL,Fn,hj,rfl,rfl,d⟩:=hrel;by_cases aY:j<Kl
  .have KF:j<m.bQ:=by rw[rF.o];exact aY
   obtain⟨ga,oa,ca,oN,-,hac⟩:=fM.aS d.ah.1 (i:=j) (by rw[lG];exact KF);have d0:=hac 0 E;rw[zU m B r KF]at d0;simp only[fI,Nat.mul_one,Nat.add_zero]at d0;injection oN with x1 x2 x3;clear x2 x3;subst x1;have hX:=d.Jj;have x0:=Zc hX 0;have uU:(j:Int)<(Kl:Int):=Y;have a:=Z d;have HJ:=Z KF;have W:dT (dU r/\O r=mx.bT):=Z ⟨HG.o.1,by rw[d.yA.1];exact HG.o.2⟩;have HN':dT (O (A++B)<mx.aH):=Z (by rw[d.yA.2.1];exact HN.o);obtain⟨C,hC⟩:=D (s*Kl);have hC0:(s:Int)*(Kl:Int)=(C:Int):=by rw[<-hC];simp
   have hs5:s*Kl<=65536*5:=gz (by have:=TL.o;have:=a.o.st.kW.kw;rw[a.o.yA.2.1]at this;omega) Y;have eW:IntKind.i64.wrap ((s:Int)*(Kl:Int))=(C:Int):=by rw[IntWalk.i64_in _ Y];exact hC0
   have rM:IntKind.i64.wrap ((C:Int)+(j:Int))=(C:Int)+(j:Int):=IntWalk.i64_in _ Y;have HC:dT ((C:Int)+(j:Int)=((s*m.bQ+j:Nat):Int)):=Z (by rw[rF.o,hC];simp);have HW:=Z (And.intro eW rM);clear d hX hac aY hj KF Q hC hC0 hs5 eW rM;cases hB:nP m B r j with
   |nil=>
    have HB:=Z hB;rw[hB]at d0;simp only[sW]at d0;clear hB;by_cases h0:j=0
    .have y:G4 w ρ β ta L m mx mk uv (jS va (O r) vc) (jS (H (Ad ga oa)) Kl ac) A B r s nb γ F G 0 j wr gL:=
      ⟨a.o.fK,a.o.st,a.o.yY,by have hl:=a.o.xo;subst h0;exact hl.aTe W.out BT.o HN'.out,a.o.bG,a.o.yA,a.o.Jj,a.o.EG,a.o.row,a.o.ah⟩
     have TK:=Z y;have Tr:dT ((0:Int)=((0:Nat):Int)):=Z rfl;have hjz:¬(0<j):=Y;obtain⟨mo,p⟩:=D (mx);rw[p]at TK;clear y h0 p;go_upto_region 10 with(fail);exact ZM9
    .obtain⟨k,hk⟩:∃k,k+1=j:=⟨j-1,Y⟩;have hjp:0<j:=Y;have Xk:k<O mx.gs:=by have:=HJ.o;rw[a.o.yA.2.2];unfold iM.bQ at this;omega
     have hwk:IntKind.i64.wrap ((j:Int)-1)=(k:Int):=by rw[IntWalk.i64_in _ Y];omega
     have uf:=Z (vk k a.o.st.kW Xk a.o.row.1 W.out.2);have HKM:=Z Xk;have P:=Z hk;clear Xk h0 hk;go_upto_region 10 with(first|(go_at_call 280;refine uf.o.mono ?_;rintro e wk ⟨uk,rfl,hO,hU⟩;have HO:=Z hO;have z:=Z hU;clear hO hU)|(go_at_call 285;refine((show FF w ρ β ta L m mx mk uv (jS va (O r) vc) (jS (H (Ad ga oa)) Kl ac) A B r s nb γ F G Fn (k+1) wr gL from P.o.symm▸a.o).aMT nI.o HKM.o HG.o BT.o HN.o g.o.2.1 g.o.2.2 HO.o z.o).mono ?_;rintro e wo ⟨N,mo,ρo,rfl,y⟩;have TK:=Z (P.o▸y);clear y));have Tr:dT ((N:Int)=((N:Nat):Int)):=Z rfl;clear HO z uf;exact ZM9
   |cons x B'=>
    have HB:=Z hB;rw[hB]at d0;simp only[sW]at d0;have hxm:x.2<m.aH:=by
     have hx:x∈A++(r,s)::B:=by
      have h1:x∈nP m B r j:=by rw[hB];simp
      have h2:x∈B:=by
       cases j with
       |zero=>exact h1
       |succ k=>exact(List.mem_filter.1 h1).1
      simp[h2]
     have:=a.o.yY.lt (show(x.1,x.2)∈_ from hx);rw[a.o.yA.2.1]at this;exact this
    obtain⟨bEp,hD⟩:=D (x.2*Kl);have Pm:x.2*Kl<=65536*5:=gz (by have:=a.o.st.kW.kw;rw[a.o.yA.2.1]at this;omega) Y;have hD0:(x.2:Int)*(Kl:Int)=(bEp:Int):=by rw[<-hD];simp
    have HWX:=Z (And.intro (show IntKind.i64.wrap ((x.2:Int)*(Kl:Int))=(bEp:Int) by rw[IntWalk.i64_in _ Y];exact hD0) (show IntKind.i64.wrap ((bEp:Int)+(j:Int))=(bEp:Int)+(j:Int)from IntWalk.i64_in _ Y));have HD:dT ((bEp:Int)+(j:Int)=((x.2*m.bQ+j:Nat):Int)):=Z (by rw[rF.o,hD];simp);obtain⟨x1,x2⟩:=x;dsimp only at d0 HWX HD;have hxp:(0:Int)<=(x2:Int):=Y;clear hB hxm hD Pm hD0;by_cases h0:j=0
    .have y:G4 w ρ β ta L m mx mk uv (jS va (O r) vc) (jS (H (Ad ga oa)) Kl ac) A B r s nb γ F G 0 j wr gL:=
      ⟨a.o.fK,a.o.st,a.o.yY,by have hl:=a.o.xo;subst h0;exact hl.aTe W.out BT.o HN'.out,a.o.bG,a.o.yA,a.o.Jj,a.o.EG,a.o.row,a.o.ah⟩
     have TK:=Z y;have Tr:dT ((0:Int)=((0:Nat):Int)):=Z rfl;have hjz:¬(0<j):=Y;obtain⟨mo,p⟩:=D (mx);rw[p]at TK;clear y h0 p;go_upto_region 10 with(fail);exact ZM8
    .obtain⟨k,hk⟩:∃k,k+1=j:=⟨j-1,Y⟩;have hjp:0<j:=Y;have Xk:k<O mx.gs:=by have:=HJ.o;rw[a.o.yA.2.2];unfold iM.bQ at this;omega
     have hwk:IntKind.i64.wrap ((j:Int)-1)=(k:Int):=by rw[IntWalk.i64_in _ Y];omega
     have uf:=Z (vk k a.o.st.kW Xk a.o.row.1 W.out.2);have HKM:=Z Xk;have P:=Z hk;clear Xk h0 hk;go_upto_region 10 with(first|(go_at_call 280;refine uf.o.mono ?_;rintro e wk ⟨uk,rfl,hO,hU⟩;have HO:=Z hO;have z:=Z hU;clear hO hU)|(go_at_call 285;refine((show FF w ρ β ta L m mx mk uv (jS va (O r) vc) (jS (H (Ad ga oa)) Kl ac) A B r s nb γ F G Fn (k+1) wr gL from P.o.symm▸a.o).aMT nI.o HKM.o HG.o BT.o HN.o g.o.2.1 g.o.2.2 HO.o z.o).mono ?_;rintro e wo ⟨N,mo,ρo,rfl,y⟩;have TK:=Z (P.o▸y);clear y));have Tr:dT ((N:Int)=((N:Nat):Int)):=Z rfl;clear HO z uf;exact ZM8
  .obtain rfl:j=Kl:=Y;have a:=Z d;have hX:=d.Jj;have x0:=Zc hX 0;clear d hX;go_wp2;go_ret;refine⟨gL,mx,Fn,by rw[V.o];rfl,a.o.fK,a.o.st,by rw[V.o];exact a.o.yY,?_,a.o.bG,a.o.yA⟩;rw[V.o];refine a.o.xo.congr λl hl=> ?_;rw[a.o.yA.2.2]at hl;exact(if_pos (by have:=rF.o;unfold iM.bQ at this;omega)).symm
section
section
variable{m:iM}{bEq:Nat->List mT}{ks:Nat->List Row}{T:List mT}{F G:Nat}
theorem eM.a0d{A:List mT}{s:Nat}(h:eM m (wN (A++(r,s)::B) (A++B) 0) ks F G):
  ∃PA:List Nat,m.nM 0=PA++(s*m.bQ+0)::(nP m B r 0).map (eL m 0)/\
   eM {m with nM:=put m.nM 0 (PA++(nP m B r 0).map (eL m 0))} (wN (A++(r,s)::B) (A++B) 1) ks F G:=by
 have a:=ML (A++(r,s)::B) (A++B) 0;refine⟨A.map (eL m 0),?_,?_⟩
 .rw[h.ord0,a,QW];rfl
 .have:=h.aIs (e:=(r,s)) a;rw[zG,QW]at this;exact this
theorem eM.a0c{A:List mT}{s k:Nat}(h:eM m (wN (A++(r,s)::B) (A++B) (k+1)) ks F G)(hs:KM m)(g:k<O m.gs)(C:G<=F):
  ∃(n:Nat) (PA:List Nat),m.sB k (bR (cQ m k r))=H (((n+1:Nat):Int))/\m.bZ.dP n=qT/\n+1<m.aH*m.bQ+1/\m.nM (n+1)=PA++(s*m.bQ+(k+1))::(nP m B r (k+1)).map (eL m (k+1))/\
   O (PA++(nP m B r (k+1)).map (eL m (k+1)))<=m.aH/\
   ∀m',ay {m with nM:=put m.nM (n+1) (PA++(nP m B r (k+1)).map (eL m (k+1)))} k (cQ m k r) n m'->∃v,eM m' (wN (A++(r,s)::B) (A++B) (k+2)) v F G:=by
 have b:=ML (A++(r,s)::B) (A++B) (k+1);have i:cQ m k r∈ks k:=(h.ksE k _ g).2 ⟨(r,s),by rw[b];simp,rfl⟩;let⟨n,j,g2,g3⟩:=h.grp1 k _ g i;have L:=xF (lQ g2) h.wf.len;rw[h.aH]at L;have q:=h.oE (k+1) Y;rw[b]at q;have hcut:(A.filter λx=>cQ m k x.1=cQ m k r).map (eL m (k+1))++(nP m B r (k+1)).map (eL m (k+1))=((A++B).filter λx=>cQ m k x.1=cQ m k r).map (eL m (k+1)):=by
  rw[zdF,QW];rfl
 refine⟨n,(A.filter λx=>cQ m k x.1=cQ m k r).map (eL m (k+1)),by rw[j];rfl,g2,Y,?_,?_,?_⟩
 .rw[g3,b,zdF,QW,oq];simp only[decide_true,yN,KR];rfl
 .rw[hcut,r8];have a:=zdG (λx:mT=>decide (cQ m k x.1=cQ m k r)) (A++B);simp only[E7,TT]at q a|-;omega
 .rw[hcut];intro m' w;rcases w with⟨a,rfl⟩|⟨a,rfl⟩
  .have a:((A++B).filter λx=>cQ m k x.1=cQ m k r).map (eL m (k+1))≠[]:=λe=>a (by show put m.nM (n+1) _ (n+1)=[];rw[PT];exact e);have vm:∃x,x∈A++B/\cQ m k x.1=cQ m k r:=by
    cases d:(A++B).filter λx=>cQ m k x.1=cQ m k r with
    |nil=>rw[d]at a;exact dY rfl a
    |cons y l=>
     have:y∈(A++B).filter λx=>cQ m k x.1=cQ m k r:=by rw[d];simp
     let⟨z,u⟩:=LC.1 this;exact⟨y,z,by simpa using u⟩
   have:=h.im hs g (e:=(r,s)) b j i g2 vm;rw[zG]at this;exact⟨ks,this⟩
  .have a:((A++B).filter λx=>cQ m k x.1=cQ m k r).map (eL m (k+1))=[]:=by
    have c:put m.nM (n+1) (((A++B).filter λx=>cQ m k x.1=cQ m k r).map (eL m (k+1))) (n+1)=[]:=a;rw[PT]at c;exact c
   have N:∀x,x∈A++B->cQ m k x.1≠cQ m k r:=λx d e=>by
    have f:=List.map_eq_nil_iff.1 a;have p:x∈(A++B).filter λx=>cQ m k x.1=cQ m k r:=LC.2 ⟨d,by simpa using e⟩;rw[f]at p;cases p
   have:=h.il hs g (e:=(r,s)) b j i g2 N C;rw[zG]at this;rw[a];exact⟨_,this⟩
end
end
variable{PA:List Nat}{my:iM}
section
theorem Z0:wV prog 50 3 1 8 #[mj mn 0]:= .QZ (z:=X 0) underlying50 dJ rfl rfl
theorem eX.not{β tb:Nat}(h:∀c,c<20->tb≠β+c):¬eX β tb:=λhs=>by
 unfold eX at hs;exact h (tb-β) Y Y
structure DZ(w:aA)(ρ:bC)(β tb:Nat)(L:JW)(m mx:iM)(mk:Bool)(uv v:aE)(A B:List mT)(r:Row)(s F G bb bc:Nat)(bl:List Int)(wx:aA)(gL:bC):Prop where
 fK:bI w ρ (eX β) wx gL
 st:iW wx gL β L mx mk uv
 yY:jY mx (A++(r,s)::B) F G
 bG:mx.bG=m.bG
 yA:mx.bT=m.bT/\mx.aH=m.aH/\mx.gs=m.gs
 row:lW dV aR 3 wx gL (β+6) v r
 bh:pI fI 0 3 1 wx gL tb (jS (H ⟨bb,0,K⟩) (O bl) bc) bl
 aLS:i7 w.heap<=bb
section
variable{w wx wy:aA}{ρ gL ρy:bC}{β tb:Nat}{L:JW}{m mx:iM}{mk:Bool}{uv v:aE}{A B:List mT}{r:Row}{s F G bb bc j:Nat}{bl:List Int}{ks:Nat->List Row}
theorem DZ.bQ(h:DZ w ρ β tb L m mx mk uv v A B r s F G bb bc bl wx gL):mx.bQ=m.bQ:=by unfold iM.bQ;rw[h.yA.2.2]
theorem DZ.on(h:DZ w ρ β tb L m mx mk uv v A B r s F G bb bc bl wx gL)(a:U wx [] wy L'):DZ w ρ β tb L m mx mk uv v A B r s F G bb bc bl wy gL:=
 ⟨h.fK.kV a,h.st.on a,h.yY,h.bG,h.yA,h.row.on a,h.bh.on a,h.aLS⟩
theorem DZ.move(h:DZ w ρ β tb L m mx mk uv v A B r s F G bb bc bl wx gL)(d:∀c,c<20->tb≠β+c)(a:bI wx gL (eX β) wy ρy)(e:iW wy ρy β L my mk uv)(i:jY my (A++(r,s)::B) F G)(g:my.bG=mx.bG)(b:my.bT=mx.bT/\my.aH=mx.aH/\my.gs=mx.gs):DZ w ρ β tb L m my mk uv v A B r s F G bb bc bl wy ρy:=
 ⟨h.fK.ds a,e,i,g.ds h.bG,⟨b.1.ds h.yA.1,b.2.1.ds h.yA.2.1,b.2.2.ds h.yA.2.2⟩,h.row.eb a (by unfold eX;omega),h.bh.eb a (eX.not d),h.aLS⟩
theorem DZ.set(h:DZ w ρ β tb L m mx mk uv v A B r s F G bb bc bl wx gL)(a:∀c,c<20->tb≠β+c)(d:i<O bl)(x:Int):DZ w ρ β tb L m mx mk uv v A B r s F G bb bc (bl.set i x) (hY wx ⟨bb,i,K⟩ (mj mn x)) gL:=by
 obtain⟨g,cap,hv,-,n,-,-,-⟩:=h.bh.aS d;injection hv with x1 x2 x3;injection x1 with x1;injection x1 with x1;subst x1;have b:bI wx gL (·=tb) (hY wx (Ad bb i) (X x)) gL:=(bI.refl wx gL _).setCell (.inl n) _;have l:=h.bh.Aj (j:=0) d E x (X x) (λq u=>by
  obtain rfl:q=0:=Y;rw[bW rfl];rfl)
 rw[yC,qZ]at l;refine⟨h.fK.setCell (.inr h.aLS) _,h.st.eb b (λc p e=>a c p e.symm),h.yY,h.bG,h.yA,h.row.eb b (λe=>a 6 E e.symm),?_,h.aLS⟩;grind
theorem DZ.cell(h:DZ w ρ β tb L m mx mk uv v A B r s F G bb bc bl wx gL)(c:i<O bl):h8 wx ⟨bb,i,K⟩=H (mj mn (hJ bl i 0))/\wx.frozen? ⟨bb,i,K⟩=rR/\bb<i7 wx.heap:=by
 obtain⟨g,cap,hv,a,e,b,d,-⟩:=h.bh.aS c;injection hv with x1 x2 x3;injection x1 with x1;injection x1 with x1;subst x1;have:=b 0 E;rw[yC,qZ]at this;exact⟨this,d i,a⟩
structure Mk(mx:iM)(A B:List mT)(r:Row)(s F G j n:Nat)(PA:List Nat):Prop where
 eD:n<mx.aH*mx.bQ+1
 aS:mx.nM n=PA++(s*mx.bQ+j)::(nP mx B r j).map (eL mx j)
 aW2:j=0->∃ks',eM {mx with nM:=put mx.nM n (PA++(nP mx B r j).map (eL mx j))} (wN (A++(r,s)::B) (A++B) (j+1)) ks' F G
 a3a:∀k,j=k+1->∃n',n=n'+1/\mx.sB k (bR (cQ mx k r))=H (n:Int)/\mx.bZ.dP n'=qT/\O (PA++(nP mx B r j).map (eL mx j))<=mx.aH/\
  ∀m',ay {mx with nM:=put mx.nM n (PA++(nP mx B r j).map (eL mx j))} k (cQ mx k r) n' m'->∃ks',eM m' (wN (A++(r,s)::B) (A++B) (j+1)) ks' F G
theorem Mk.of(hs:KM mx)(h:eM mx (wN (A++(r,s)::B) (A++B) j) ks F G)(p:j<mx.bQ)(g:G<=F):∃n PA,Mk mx A B r s F G j n PA:=by
 cases j with
 |zero=>
  obtain⟨PA,c,b⟩:=h.a0d;exact⟨0,PA,Y,c,λ_=>⟨ks,b⟩,λk a=>Y⟩
 |succ k=>
  have a:k<O mx.gs:=by grind [iM.bQ]
  let⟨n,PA,c,b,e,d,i,l⟩:=h.a0c hs a g;refine⟨n+1,PA,e,d,λh=>Y,λk' m=> ?_⟩;grind
theorem DZ.next(h:DZ w ρ β tb L m mx mk uv v A B r s F G bb bc bl wx gL)(b:Mk mx A B r s F G j n PA)(z:Int)(a:z=((s*m.bQ+j:Nat):Int)):
  uJ 211 #[lr (H ⟨L.ob,0,K⟩),mj mn z] wx λe w'=>e=mi (mr #[mj mn (jK ((nP mx B r j).map (eL mx j)).head?),mj mn 0])/\wx=w':=by
 subst a;rw[<-h.bQ];exact aHH wx h.st.nM b.aS
theorem DZ.rem(h:DZ w ρ β tb L m mx mk uv v A B r s F G bb bc bl wx gL)(b:∀c,c<20->tb≠β+c)(g:Mk mx A B r s F G j n PA)(z:Int)(i:z=((s*m.bQ+j:Nat):Int)):
  uJ 278 #[lr (H ⟨L.ob,0,K⟩),mj mn z] wx λe w'=>∃bV,e=mi (mj mn 0)/\DZ w ρ β tb L m {mx with nM:=put mx.nM n (PA++(nP mx B r j).map (eL mx j))} mk uv v A B r s F G bb bc bl w' bV:=by
 subst i;rw[<-h.bQ];apply(rj wx h.st.nM g.aS).cX;rintro e w' ⟨bV,rfl,a,d⟩;exact⟨bV,rfl,h.move b (a.zH (β:=β) (c:=5) E) (h.st.Ai a d) (h.yY.bQ _ _ _ _ _ _) rfl ⟨rfl,rfl,rfl⟩⟩
theorem DZ.aMM{k:Nat}(h:DZ w ρ β tb L m m1 mk uv v A B r s F G bb bc bl wx gL)(rP:m1={mx with nM:=put mx.nM n (PA++(nP mx B r j).map (eL mx j))})(u:∀c,c<20->tb≠β+c)(C:Mk mx A B r s F G j n PA)(a:eM mx (wN (A++(r,s)::B) (A++B) j) ks F G)(Q:j=k+1)(vm:k<O m1.gs)(hG:G<1073741824)(o:dU r/\O r=m.bT)(d:bN dV aR 90 3 wx wk uk (cQ m1 k r))(hU:U wx [] wk []):
  uJ 279 #[lr (H ⟨L.b,0,K⟩),mj mn k,uk] wk λe w'=>∃bV m' g,e=mi (mr #[])/\DZ w ρ β tb L m m' mk uv v A B r s F G bb bc bl w' bV/\eM m' (wN (A++(r,s)::B) (A++B) (j+1)) g F G:=by
 subst rP;obtain⟨n',rfl,g1,g2,g3,W⟩:=C.a3a k Q;have l:=h.st.kW.yA;have x:dU r/\O r=mx.bT:=⟨o.1,by have:mx.bT=m.bT:=h.yA.1;rw[this];exact o.2⟩;have P:=mO l x.1 x.2 vm;have f:bI wx gL eZ wk (up wx (β+7) gL):=hU.fK (S:=eZ) (β+7) (λ_ h=>dY h (by simp));have i:lW dV aR 3 wk (up wx (β+7) gL) (β+7) uk (cQ mx k r):=d.rd.jR (λh0 b hb=>d.2 b (eV.cZ d.1 hb)) (β+7) gL;have z:=h.move u (f.aL (T:=eX β) nZ) (h.st.eb f vF) h.yY rfl ⟨rfl,rfl,rfl⟩;have h5:mx.bQ<=5:=by have:O mx.gs<=4:=l.oE;grind [iM.bQ]
 have SO:mx.aH<=65536:=l.kw.2;have G9:mx.aH*mx.bQ<=327680:=gz SO h5;have oB:=C.eD;have bAw:=a.wf.al n' g2;refine(aOK k z.st vm i (by unfold eX;omega) P.1 P.2 (N:=n'+1) rfl g1 oB (by omega) a.wf g2 (by show mx.bZ.kF n'<mx.bZ.jE;have:mx.bZ.jE=1073741824:=a.jE;omega) (by have:=a.fP n';grind) (by grind [PT])).mono ?_;rintro e w' ⟨bV,m',rfl,V,hS,y⟩;let⟨g,q⟩:=W m' y;have p:jY m' (A++(r,s)::B) F G/\m'.bG=mx.bG/\m'.bT=mx.bT/\m'.aH=mx.aH/\m'.gs=mx.gs:=by
  rcases y with⟨-,rfl⟩|⟨-,rfl⟩
  .exact⟨h.yY,rfl,rfl,rfl,rfl⟩
  .exact⟨h.yY.bQ _ _ _ _ _ _,rfl,rfl,rfl,rfl⟩
 exact⟨bV,m',g,rfl,z.move u V hS p.1 p.2.1 p.2.2,q⟩
def KL(m:iM)(B:List mT)(r:Row)(j:Nat):List Int:=(zV m B r).take j++List.replicate (m.bQ-j) 0
theorem IC{m:iM}(B:List mT)(r:Row){j:Nat}(h:j<=m.bQ):O (KL m B r j)=m.bQ:=by grind [KL,lG]
theorem rr(m:iM)(B:List mT)(r:Row):KL m B r 0=x' m.bQ 0:=by unfold KL;simp
theorem aCU(m:iM)(B:List mT)(r:Row):KL m B r m.bQ=zV m B r:=by grind [KL,lG]
theorem Mc{m:iM}(B:List mT)(r:Row){j:Nat}(h:j<m.bQ):(KL m B r j).set j (sW (nP m B r j))=KL m B r (j+1):=by
 apply I2;intro i;unfold KL;rw[I3];have hl:=lG m B r;have ha:=zU m B r h;grind
end
end
variable{tb:Nat}
theorem ZM5{P:Prop}(h:P:=by
  have mJ:=HBe.st.kW.cF;rw[HBe.o.bQ,rF.o]at mJ;have c2:=Zc mJ 2;have CR:=Zc mJ 10;clear mJ;try go_upto_region 10 with(fail)
  refine e7 99 (ez c2<|ey CR) (λQ=> ?_);clear c2 CR;have HBf:=Z (HBe.on ((U.refl _ []).drew));refine ek [0,4,5,10,1,6,2,7,3,8,9,11] ?_;refine Zo 12 λvm hK=> ?_;go_simp;go_at_call 278;refine(HBf.rem KO FH _ ?_).mono ?_
  .first|exact HC.o|(rw[HW.o.1];exact HC)|(rw[HW.o.1,HW.o.2];exact HC)
  rintro e wz ⟨K3,rfl,hZ⟩;let⟨m1,rP⟩:=D (({mx with nM:=put mx.nM n (PA++(nP mx B r j).map (eL mx j))}:iM));rw[rP]at hZ;have HZ:=Z hZ;have CU:=Z rP.symm;have SQ:=hZ.st.kW.cF;rw[hZ.bQ,rF.o]at SQ;have c2:=Zc SQ 2;have CR:=Zc SQ 10;have Q:=eI c2 CR;clear hZ rP SQ c2 CR HBe HBf;refine j5 ?_;clear hK vm;refine bD dJ ?_ _;clear Q;by_cases h0:j=0
  .have hjz:¬(0<j):=Y;let⟨kz,hLz⟩:=FH.aW2 h0;rw[<-CU.o]at hLz;have HLZ:=Z hLz;clear hLz h0;go_wp2;go_roundg (Kl-(j+1))
   .exact⟨j+1,m1,K3,kz,pN HJ.o rF.o,rfl,eY,HZ,HLZ⟩
   have:=HJ.o;have:=rF.o;omega
  .obtain⟨k,hk⟩:∃k,k+1=j:=⟨j-1,Y⟩;have hjp:0<j:=Y;have Xk:k<O m1.gs:=by have:=HJ.o;rw[HZ.o.yA.2.2];unfold iM.bQ at this;omega
   have hwk:IntKind.i64.wrap ((j:Int)-1)=(k:Int):=by rw[QY _ Y];omega
   have uf:=Z (vk k HZ.st.kW Xk HZ.row.1 (by rw[HZ.o.yA.1];exact HG.2));have HKM:=Z Xk;have HKJ:=Z hk;clear Xk h0 hk;go_upto_region 13 with(first|(go_at_call 280;apply uf.cX;rintro e wk ⟨uk,rfl,hO,hU⟩;have HO:=Z hO;have HUK:=Z hU;clear hO hU)|(go_at_call 279;apply(HZ.aMM CU KO FH HLX HKJ.symm HKM HGG.2 HG HO HUK).cX;rintro e wo ⟨ρo,mo,ko,rfl,hBo,hLo⟩;have HBO:=Z hBo;have HLO:=Z hLo;clear hBo hLo));go_wp2;go_roundg (Kl-(j+1))
   .exact⟨j+1,mo,ρo,ko,pN HJ.o rF.o,rfl,eY,HBO,HLO⟩
   have:=HJ.o;have:=rF.o;omega):P:=h
theorem ZM117{P:Prop}(h:P:=by
  rw[ic];refine QC.congr λi j hi hj=> ?_;obtain rfl:j=0:=Y;rw[gV,List.getElem?_replicate,bW hi];rfl):P:=h
def aHQ(w:aA)(ρ:bC)(β tb:Nat)(L:JW)(m:iM)(mk:Bool)(uv:aE)(A B:List mT)(r:Row)(s F G:Nat)(e:cc)(w':aA):Prop:=
 ∃bV m' ks' bv,e=mi bv/\bI w ρ (eX β) w' bV/\iW w' bV β L m' mk uv/\jY m' (A++B) F G/\eM m' (λ_=>A++B) ks' F G/\m'.bG=m.bG.AR (jS K 0 0) s/\m'.bT=m.bT/\m'.aH=m.aH/\m'.gs=m.gs/\lW fI 0 1 w' bV tb bv (zV m B r)
theorem aEM{s:Nat}{L:JW}{m:iM}{A:List mT}(h:iW w ρ β L m mk uv)(hT:jY m (A++(r,s)::B) F G)(hL:eM m (λ_=>A++(r,s)::B) ks F G)(EM:G<=F)(hG:G<1073741824)(rN:∀c,c<20->tb≠β+c):
  aK prog 273 #[lr (H ⟨L.b,0,K⟩),mj mn s] w (aHQ w ρ β tb L m mk uv A B r s F G):=by
 have iD:(r,s)∈A++(r,s)::B:=J;have KY:m.bG.dP s=qT:=(hT.dP s).2 ⟨r,iD⟩;have zJ:=hT.row r s iD;obtain⟨v,hth⟩:∃v,m.bG.pP s=H v:=Option.isSome_iff_exists.1 (by rw[VP];exact KY);have hv:lW dV aR 3 w ρ (β+6) v r:=by have:=h.cG s v hth;rw[zJ]at this;exact this
 obtain⟨va,vc,rfl,-⟩:=hv.len;have a:m.lJ s=H (m.bG.kF s):=by rw[hT.lJ,bW KY]
 have oB:=hT.lt iD;have SO:=h.kW.kw;have Xb:s<=1048576:=Y;have hg:=hT.good r s iD;have f:=Z h;have HT:=Z hT;have HL:=Z hL;have HV:=Z hv;have HG:=Z hg;have V:=Z KY;have HTH:=Z hth;have HRF:=Z a;have KO:=Z rN;have HGG:=Z (eI EM hG);have TL:=Z oB;let⟨Kl,Qs⟩:=D (m.bQ);have rF:=Z Qs;have a3E:(Kl:Int)<=5:=by have:=h.kW.oE;unfold iM.bQ at Qs;omega
 have a3F:0<Kl:=by unfold iM.bQ at Qs;omega
 let⟨γ,SJ⟩:=D (m.bG.kF s);have HGA:=Z SJ;have hb:=h.kW.cF;have b4:=Zc hb 4;have b5:=Zc hb 5;clear h hT hL hv hg iD KY zJ hth a oB rN EM hG Qs SJ hb SO;go_in;go_upto_region 1 with(fail);refine fj 99 (ez b4<|ey b5) (λw1 eW cT Q=> ?_);clear b4 b5;have nN:=Z cT;have Y2:=Z (f.on cT);have nQ:=Y2.ql Xb (HRF.ds (xE H HGA));unfold sS at nQ;clear eW cT;refine ek [0,4,8,1,5,2,6,3,7] ?_;refine Zo 9 λvm hK=> ?_;go_simp;refine Zk hK Q<|Zo 10 λvm hK=> ?_;go_simp;go_at_call 205;have b:=Rn va (O r) vc w1 Y2.bG V HTH.o;rw[HGA.o]at b;apply b.cX;rintro e w2 ⟨rfl,hU⟩;dsimp only;replace Q:=hU.YZ Q;have eQ:=Z (nN.ds hU);have tF:=Z (Y2.on hU);clear b hU nQ nN Y2;refine Zk hK Q<|I 11 ?_;refine ek [12,14,13,15] ?_;refine bD dJ ?_ _;clear Q;have qP:=tF.kW.cF;rw[rF.o]at qP;have c2:=Zc qP 2;clear qP;have uS:=Z0.xO Kl Kl (fV _) Y GC;simp only[yC]at uS;go_upto_region 3 with(fail);let⟨bb,oz⟩:=D (i7 w2.heap);have QC:=Z0.yY Kl Kl (fV _) GC w2 Y;simp only[yC]at QC;let⟨w3,jA⟩:=D (i5 w2 (kd (madeCells #[mj mn 0] Kl) 3));have cW:=Za jA;rw[jA,oz]at QC;rw[jA,oz];have xT:bI w2 ρ eZ w3 (up w2 tb ρ):=cW.fK (S:=eZ) tb (λ_ h=>dY h J);have tV:DZ w ρ β tb L m m mk uv (jS va (O r) vc) A B r s F G bb Kl (KL m B r 0) w3 (up w2 tb ρ):=by
  refine⟨(eQ.fL (S:=eX β) (ρ:=ρ)).ds (xT.aL nZ),tF.eb xT vF,HT,rfl,⟨rfl,rfl,rfl⟩,(HV.on eQ).eb xT id,?_,by rw[<-oz];exact eQ.size⟩;rw[rr,rF.o,ic];refine⟨?_,λg hg=>(show bb=g by simpa[i6]using hg)▸oz▸cY (fV _)⟩;exact ZM117
 let⟨mI,nD⟩:=D (up w2 tb ρ);rw[nD]at tV;have QS:=Z tV;have c2:=(cW.cell c2 J:h8 w3 ⟨L.b,2,K⟩=_);clear tV nD xT QC cW jA oz eQ tF;go_upto_region 4 with(fail);go_loopg [34] Kl (λgg s34 wr=>∃(j:Nat) (mx:iM) (gL:bC) (Fn:Nat->List Row),j<=Kl/\gg=Kl-j/\s34=mj mn j/\DZ w ρ β tb L m mx mk uv (jS va (O r) vc) A B r s F G bb Kl (KL m B r j) wr gL/\eM mx (wN (A++(r,s)::B) (A++B) j) Fn F G)
 .exact⟨0,m,mI,ks,Y,rfl,rfl,QS,by rw[Ce];exact HL⟩
 obtain⟨j,mx,gL,Fn,hj,rfl,rfl,lC,W⟩:=hrel;by_cases aY:j<Kl
 .have KF:j<m.bQ:=by rw[rF.o];exact aY
  let⟨n,PA,b⟩:=Mk.of lC.st.kW.yA W (by rw[lC.bQ];exact KF) HGG.1;have uU:(j:Int)<(Kl:Int):=Y;have N:=Z lC;have HLX:=Z W;have FH:=Z b;have HJ:=Z KF;let⟨C,hC⟩:=D (s*Kl);have hC0:(s:Int)*(Kl:Int)=(C:Int):=by rw[<-hC];simp
  have hs5:s*Kl<=1048576*5:=gz Y Y;have HW:=Z (eI (show IntKind.i64.wrap ((s:Int)*(Kl:Int))=(C:Int) by rw[QY _ Y];exact hC0) (show IntKind.i64.wrap ((C:Int)+(j:Int))=(C:Int)+(j:Int)from QY _ Y));have HC:dT ((C:Int)+(j:Int)=((s*m.bQ+j:Nat):Int)):=Z (by rw[rF.o,hC];simp);have mJ:=lC.st.kW.cF;rw[lC.bQ,rF.o]at mJ;have c2:=Zc mJ 2;have CR:=Zc mJ 10;clear lC W b mJ KF aY hj hC hC0 hs5;have hlB:=Cf N.yA.2.2 B r j;cases hB:nP m B r j with
  |nil=>
   have HLB:=Z (hlB.ds hB);have HB:=Z hB;clear hlB hB;go_upto_region 6 with(fail);refine fj 99 (ez c2<|ey CR) (λwd fF pH Q=> ?_);clear c2 CR;have q:=Z (N.on pH);clear fF pH;refine ek [0,6,7,12,1,8,2,9,3,10,4,11,5,13] ?_;refine Zo 14 λvm hK=> ?_;go_simp;go_at_call 211;refine(q.next FH _ ?_).mono ?_
   .first|exact HC.o|(rw[HW.o.1];exact HC)|(rw[HW.o.1,HW.o.2];exact HC)
   rintro e wz ⟨rfl,rfl⟩;rw[HLB.o];simp only[B6,KR,EA,Ct,jK];try rw[HY.o]
   refine Zk hK Q<|I 15 ?_;refine ek [16,18,17,19] ?_;refine bD dJ ?_ _;have z:=q.cell (i:=j) (by rw[IC B r (wn HJ.o)];exact HJ);have c2:=Q.1;have CR:=Q.2;have bj:=z.1;have bf:=z.2.1;have bl:=iP z.2.2;clear Q z N;go_upto_region 8 with(fail);have GW:=Mc B r HJ.o;rw[HB.o]at GW;simp only[sW]at GW;let⟨we,MQ⟩:=D (hY wd (Ad bb j) (mj mn (-1)));have YM:=q.set KO (i:=j) (by rw[IC B r (wn HJ.o)];exact HJ) (-1);rw[MQ,GW]at YM;rw[MQ];have HBe:=Z YM;clear GW MQ YM bj bf bl c2 CR q;exact ZM5
  |cons x B'=>
   obtain⟨x1,x2⟩:=x;have HLB:=Z (hlB.ds hB);have HB:=Z hB;have JI:eL mx j (x1,x2)=x2*Kl+j:=by unfold eL;rw[N.o.bQ,rF.o]
   let⟨y,hy⟩:=D (eL mx j (x1,x2));rw[hy]at JI;have hxm:x2<m.aH:=by
    have hx:(x1,x2)∈A++(r,s)::B:=by
     have h1:(x1,x2)∈nP m B r j:=by rw[hB];simp
     have h2:(x1,x2)∈B:=by
      cases j with
      |zero=>exact h1
      |succ k=>exact(LC.1 h1).1
     simp[h2]
    exact HT.lt hx
   have Pm:x2*Kl<=65536*5:=gz (by have:=N.st.kW.kw;rw[N.o.yA.2.1]at this;omega) Y;have hyd:y/Kl=x2:=by rw[JI,Nat.mul_comm,L1 a3F,JJ Y];rfl
   have a0z:x2<=65536:=by have:=N.st.kW.kw;rw[N.o.yA.2.1]at this;omega
   have HYQ:=Z (show wrap64 ((y:Int)/(Kl:Int))=(x2:Int) by unfold wrap64;rw[<-Int.natCast_ediv,hyd];omega);have hyp:(0:Int)<=(y:Int):=Y;have HY:=Z hy;clear hlB hB JI hxm Pm hyd hy a0z;go_upto_region 6 with(fail);refine fj 99 (ez c2<|ey CR) (λwd fF pH Q=> ?_);clear c2 CR;have q:=Z (N.on pH);clear fF pH;refine ek [0,6,7,12,1,8,2,9,3,10,4,11,5,13] ?_;refine Zo 14 λvm hK=> ?_;go_simp;go_at_call 211;refine(q.next FH _ ?_).mono ?_
   .first|exact HC.o|(rw[HW.o.1];exact HC)|(rw[HW.o.1,HW.o.2];exact HC)
   rintro e wz ⟨rfl,rfl⟩;rw[HLB.o];simp only[B6,KR,EA,Ct,jK];try rw[HY.o]
   refine Zk hK Q<|I 15 ?_;refine ek [16,18,17,19] ?_;refine bD dJ ?_ _;have z:=q.cell (i:=j) (by rw[IC B r (wn HJ.o)];exact HJ);have c2:=Q.1;have CR:=Q.2;have bj:=z.1;have bf:=z.2.1;have bl:=iP z.2.2;clear Q z N;go_upto_region 8 with(fail);let⟨we,MQ⟩:=D (hY wd (Ad bb j) (mj mn (-1)));have YM:=q.set KO (i:=j) (by rw[IC B r (wn HJ.o)];exact HJ) (-1);rw[MQ]at YM;rw[MQ];have ye:j<O ((KL m B r j).set j (-1)):=by rw[TS,IC B r (wn HJ.o)];exact HJ.o
   have GW:=Mc B r HJ.o;rw[HB.o]at GW;simp only[sW]at GW;have hBf:=YM.set KO ye (x2:Int);rw[List.set_set,GW]at hBf;have z:=YM.cell ye;have mJ:=YM.st.kW.cF;rw[YM.bQ,rF.o]at mJ;clear bj bf bl c2 CR;have bj:=z.1;have bf:=z.2.1;have bl:=iP z.2.2;have c2:=Zc mJ 2;have HBe:=Z hBf;clear GW MQ YM z mJ ye hBf q;go_upto_region 10 with(fail);rw[<-HYQ.o]at HBe;let⟨wf,tT⟩:=D (hY we (Ad bb j) (mj mn (wrap64 ((y:Int)/(Kl:Int)))));rw[tT]at HBe;rw[tT];clear tT c2 bj bf bl;exact ZM5
 .obtain rfl:j=Kl:=Y;have N:=Z lC;have HLX:=Z (W.congr (E':=λ_=>A++B) λl hl=>by
   have:l<m.bQ:=by rw[lC.yA.2.2]at hl;unfold iM.bQ;omega
   exact(bW (kX rF.o)).symm)
  clear lC W;go_upto_region 14 with(fail);have mJ:=N.st.kW.cF;have b6:=Zc mJ 6;clear mJ;refine fj 99 (ey b6) (λw5 oY cO Q=> ?_);clear b6;have BA:=Z (N.on cO);clear oY cO N;refine ek [0,4,1,2,3] ?_;refine Zo 5 λvm hK=> ?_;go_simp;go_at_call 232;apply(UF _ r w5 BA.row.1 HG.1).cX;rintro e w6 ⟨u,rfl,hO,dR⟩;dsimp only;have Q:=dR.cell Q J;have SX:bI w5 gL eZ w6 (up w5 (β+7) gL):=dR.fK (S:=eZ) (β+7) (λ_ h=>dY h J);have HK6:=Z (UV (ρ:=gL) hO (β+7));have P:=Z (BA.move KO (SX.aL (T:=eX β) nZ) (BA.st.eb SX vF) BA.yY rfl ⟨rfl,rfl,rfl⟩);obtain⟨ua,uc,rfl,-⟩:=hO.len;let⟨qJ,XG⟩:=D (up w5 (β+7) gL);rw[XG]at HK6 P;clear hO dR SX BA XG;refine Zk hK Q<|Zo 6 λvm hK=> ?_;go_simp;go_at_call 281;apply(Wi w6 P.st.wX HK6 Y HG.1.eD (P.yY.wher1 r s J)).cX;rintro e w7 ⟨rfl,MX,hI7⟩;dsimp only;have U0:=Z (P.st.Nu MX hI7);have aQN:=MX.zH (β:=β) (c:=8) E;have LA:=Z (P.fK.ds aQN);have HR7:=Z (P.bh.eb aQN (eX.not KO));have Q:=MX.cell Q (by show¬_=_;rw[P.o.st.kW.cE];omega);have HTU:=Z (P.yY.aOF rfl HGG.1 cR);have HLU:=Z (HLX.GE cR r s);have BS:=Z P.yY;have d:=Z (eI P.bG P.yA);clear MX aQN hI7 P HK6 HLX;refine j5 ?_;clear hK vm;refine bD dJ ?_ _;clear Q;have a:mx.lJ s=H γ:=by rw[BS.o.lJ,d.o.1,bW V.o,HGA.o]
  have HRX:=Z a;have OK:=U0.kW.cF;have b4:=Zc OK 4;have b5:=Zc OK 5;clear a OK;go_upto_region 15 with(fail);refine fj 99 (ez b4<|ey b5) (λw8 DH jB Q=> ?_);clear b4 b5;have fx:=Z (U0.on jB);have TO:=Z (LA.kV jB);have th:=Z (HR7.on jB);have nQ:=fx.ql Xb HRX.o;unfold sS at nQ;clear DH jB U0 LA HR7;refine ek [0,4,8,1,5,2,6,3,7] ?_;refine Zo 9 λvm hK=> ?_;go_simp;refine Zk hK Q<|Zo 10 λvm hK=> ?_;go_simp;go_at_call 282;have hGv:=aCZ w8 fx.bG BS.wf (by rw[d.o.1];exact V) (i:=s) (by have h1:=BS.wf.al s (by rw[d.o.1];exact V);have h2:=BS.jE;have h3:=HGG.2;show mx.bG.kF s<mx.bG.jE;omega);rw[show({mx with wX:=λp=>if p=bR r then K else mx.wX p,wc:=mx.wc-1}:iM).bG.kF s=γ from by show mx.bG.kF s=γ;rw[d.o.1];exact HGA.o]at hGv;apply hGv.cX;rintro e w9 ⟨X8,rfl,Td,hA9⟩;dsimp only;have aQL:=Td.zH (β:=β) (c:=1) E;have Q:=eI (Td.cell Q.1 (by show¬_=_;rw[fx.o.kW.cE];omega)) (Td.cell Q.2 (by show¬_=_;rw[fx.o.kW.cE];omega));have HS9:=Z (fx.Ux Td hA9 (row':=mx.row) (λi v hv=>by
   have a25:mx.bG.dP s=qT:=by rw[d.o.1];exact V.o
   rw[qk (A:=mx.bG) a25]at hv;by_cases e:i=s
   .rw[bW e]at hv;cases hv
   .rw[R e]at hv;exact(fx.cG i v hv).eb Td (by show¬_=_;omega)))
  have HM9:=Z (TO.ds aQL);have Ms:=Z (th.eb aQL (eX.not KO));clear hGv Td aQL hA9 nQ fx TO th;refine j5 ?_;clear hK vm;refine bD dJ ?_ _;clear Q;have hb9:=HS9.kW.cF;have b5:=Zc hb9 5;clear hb9;obtain⟨wa,dK,kK,-,WQ⟩:=HS9.aQj Xb HRX 0;have aQJ:=kK.zH (β:=β) (c:=2) E;have YU:=Z WQ;have G6:=Z (HM9.ds aQJ);have HRA:=Z (Ms.eb aQJ (eX.not KO));clear kK aQJ WQ HS9 HM9 Ms;go_wp2;go_ret;refine⟨_,_,_,_,rfl,G6,YU,HTU,HLU,?_,d.2.1,d.2.2.1,d.2.2.2,?_⟩
  .show mx.bG.AR _ s=_;rw[d.o.1]
  .have:=HRA.rd;rw[<-rF.o,aCU,lG]at this;rw[<-rF.o];exact this
variable{w':aA}
section
section
variable{m:iM}{T:List mT}{F G:Nat}{r:Row}
theorem iM.I6{m:iM}{r:Row}:m.I7 r=qT↔O r=m.bT/\dS r=qT:=by unfold iM.I7;simp
theorem jY.jg(h:jY m T F G)(b:(r,i)∈T):m.I7 r=qT/\m.UG r=(i:Int):=by
 have a:=h.good r i b;have c:m.I7 r=qT:=iM.I6.2 ⟨a.2,a.1.1⟩;refine⟨c,?_⟩;unfold iM.UG;rw[bW c,h.wher1 r i b];rfl
theorem jY.Ns(h:jY m T F G)(c:CE r)(g:r∉T.map (·.1)):m.UG r= -1:=by
 unfold iM.UG;split
 .rename_i a;have d:dU r:=⟨(iM.I6.1 a).2,λx a=>(c.2 x a).2⟩;rw[h.wher0 (bR r) λq i b e=>g (AE.2 ⟨(q,i),b,oJ (h.good q i b).1 d e⟩)];rfl
 .rfl
theorem jY.split(b:r∈T.map (·.1)):∃A B i,T=A++(r,i)::B:=by
 obtain⟨e,c,rfl⟩:=AE.1 b;let⟨A,B,a⟩:=List.append_of_mem c;exact⟨A,B,e.2,a⟩
theorem Zf{A:List mT}(h:((A++(r,i)::B).map (·.1)).Nodup):((A++(r,i)::B).map (·.1)).erase r=(A++B).map (·.1):=by
 rw[QW,KR]at h|-;have a:r∉A.map (·.1):=λb=>(Fh.1 h).2.2 r b r J rfl;rw[List.erase_append_right _ a,List.erase_cons_head,QW]
end
def aH3(w:aA)(ρ:bC)(β b wd aH:Nat)(gs:List (List Nat))(aT:List Row)(F G:Nat)(v:aE)(e:cc)(w':aA):Prop:=
 ∃bV,e=mi v/\bI w ρ (eX β) w' bV/\L6 w' bV β b wd aH gs aT F G
section
variable{w:aA}{ρ:bC}{β b wd aH F G:Nat}{gs:List (List Nat)}{aT:List Row}{v:aE}{r:Row}
theorem zu.Gp{L:JW}{m:iM}{x:aE}{e:cc}{es:List mT}(h:zu w ρ β L m rR (jS K 0 0) x e w')(g:L.b=b)(i:jY m es F G)(d:eM m (λ_=>es) ks F G):aH3 w ρ β b m.bT m.aH m.gs (es.map (·.1)) F G x e w':=by
 obtain⟨bV,rfl,a,c⟩:=h;exact⟨bV,rfl,a,L,m,ks,es,g,c,i,d,rfl,rfl,rfl,rfl⟩
theorem aIz(h:L6 w ρ β b wd aH gs aT F G)(hv:fM dV aR 3 w v r)(d:CE r):
  uJ 210 #[lr (H ⟨b,0,K⟩),v] w λe w'=>∃n:Int,aH3 w ρ β b wd aH gs aT F G (mj mn n) e w'/\(r∈aT->0<=n)/\(r∉aT->n= -1):=by
 obtain⟨L,m,ks,es,rfl,g,a,i,rfl,rfl,rfl,rfl⟩:=h;apply(Aa g hv d).cX;intro e w' j;refine⟨_,j.Gp rfl a i,λc=> ?_,λc=>a.Ns d c⟩;obtain⟨x,l,rfl⟩:=AE.1 c;rw[(a.jg (show(x.1,x.2)∈es from l)).2];omega
theorem aEK(h:L6 w ρ β b wd aH gs aT F G)(hv:fM dV aR 3 w v r)(l:CE r):
  aK prog 277 #[lr (H ⟨b,0,K⟩),v] w (aH3 w ρ β b wd aH gs aT F G (nj (decide (r∈aT)))):=by
 have m:=(aIz h hv l);obtain⟨va,vc,rfl,-⟩:=hv.len;by_cases d:r∈aT
 .rw[kY d];clear h hv l;go_in;go_wp2_with (go_at_call 210;apply m.cX;rintro e w1 ⟨n,⟨dX,rfl,i,a⟩,g,c⟩;have g:=g d;have j:=Z a;clear a c);go_ret;exact⟨_,rfl,i,j⟩
 .rw[kE d];clear h hv l;go_in;go_wp2_with (go_at_call 210;apply m.cX;rintro e w1 ⟨n,⟨dX,rfl,i,a⟩,g,c⟩;have c:=c d;subst c;have j:=Z a;clear a g);go_ret;exact⟨_,rfl,i,j⟩
theorem Nq(h:L6 w ρ β b wd aH gs aT F G):
  aK prog 84 #[lr (H ⟨b,0,K⟩)] w λe w'=>e=mi (mj mn (O aT))/\w=w':=by
 obtain⟨L,m,ks,es,rfl,a,i,j,rfl,rfl,rfl,rfl⟩:=h;have d:=(aHO w a.bG);have g:=a.kW.cF;have l:=Zc g 4;have hl:m.bG.aM=O (es.map (·.1)):=by rw[i.aM,r8]
 let⟨n,c⟩:=D (O (es.map (·.1)));rw[hl,c]at d;rw[c];clear a i j g hl c;go_in;go_wp2_with (go_at_call 131;apply d.dC;rintro w1 rfl);go_ret;exact⟨rfl,rfl⟩
end
def aSG(w:aA)(ρ:bC)(β b wd aH:Nat)(gs:List (List Nat))(aT:List Row)(F G:Nat)(x:Bool×Nat×List Row)(e:cc)(w':aA):Prop:=
 ∃bV,e=mi (mr #[nj x.1,mj mn (x.2.1:Int)])/\bI w ρ (eX β) w' bV/\L6 w' bV β b wd aH gs x.2.2 F G
theorem IZ{w:aA}{ρ:bC}{β b wd aH F G:Nat}{gs:List (List Nat)}{aT:List Row}{v:aE}{r:Row}(h:L6 w ρ β b wd aH gs aT F G)(hv:fM dV aR 3 w v r)(hf:CE r)(EM:G<=F)(hG:G<1073741824):
  aK prog 269 #[lr (H ⟨b,0,K⟩),v] w (aSG w ρ β b wd aH gs aT F G (lE wd aT r)):=by
 obtain⟨L,m,ks,es,rfl,d,n,hL,rfl,rfl,rfl,rfl⟩:=h;obtain⟨va,vc,rfl,-⟩:=hv.len;let⟨wa,dM⟩:=D (i5 w (kd #[lr (H ⟨L.b,0,K⟩)] 181));have cV:=Za dM;have Q:=Zb dM;let⟨bx,mJ⟩:=D (i7 w.heap);have x:bI w ρ eZ wa (up w (β+7) ρ):=cV.fK (S:=eZ) (β+7) (λ_ h=>dY h J);have C:=d.eb x vF;have mZ:up w (β+7) ρ bx=β+7:=cY Y;have oN:=hv.on cV;generalize nC:up w (β+7) ρ=ρa at x C mZ;rw[mJ]at Q;have q:=(je C.kW oN hf);have HTX:=(show bx<i7 wa.heap from dG Q);have HL:=Z hL;have k:=(eI EM hG);have x0:=Zc Q 0;clear d hv cV nC hL EM hG;by_cases i:m.I7 r=qT
 .rw[i]at q;have f:=iM.I6.1 i;by_cases p:r∈es.map (·.1)
  .obtain⟨A,B,s,rfl⟩:=jY.split p;have iD:(r,s)∈A++(r,s)::B:=J;have y:=(n.jg iD).2;have he:=Zf n.Jc;have l:lE m.bT ((A++(r,s)::B).map (·.1)) r=(qT,0,(A++B).map (·.1)):=by unfold lE;rw[R (by simp[f]),bW p,he]
   rw[l];have Su:(0:Int)<=(s:Int):=Y;have u:=Z λwz (z:U wa [] wz [])=>Aa (C.on z) (oN.on z) hf;rw[y]at u;clear l he y iD p f i;go_in;go_upto_region 6 with(first|(go_at_call 233;apply q.dC;intro w1 a;have x0:=a.cell x0 J)|(go_at_call 210;apply(u.o _ a).cX;rintro e w2 ⟨fD,rfl,g,d⟩;have uG:=g.cell ((a.cell (aP Q (j:=0) rfl) J)) (by rw[mZ];unfold eX;omega);have W:=Z (g.ds (bI.refl _ _ _));have tF:=Z d;clear g d));clear dM mJ x0 q u;have E8:=(W.cE bx (pN a.size HTX)).ds mZ;go_upto_region 7 with(go_at_call 273;apply(aEM tF n HL k.1 k.2 (tb:=β+20) (λc f=>Y)).cX;rintro e w3 ⟨mI,m3,k3,bv,rfl,g,d,QC,qY,-,P,e2,V,N⟩;obtain⟨ba,bc,rfl,-⟩:=N.len;have x0:=g.cell uG (by rw[E8];unfold eX;omega);have wH:=Z g;have E3:=Z d;have pM:=Z qY;have HE3:=Z (eI P (eI e2 V));clear g d qY P e2 V N);let⟨w4,uC⟩:=D (i5 w3 (kd #[jS ba (O (zV m B r)) bc] 50));have eJ:=Za uC;rw[uC];have Y1:=Z (E3.on eJ);have x4:=eJ.cell x0 J;have LM:=(((x.aL (T:=eX β) nZ).ds ((a.fL (S:=eX β)).ds (W.ds wH))).kV eJ);have vm:=Y1.kW.cF;have b11:=Zc vm 11;clear uC eJ x0 uG vm;go_wp2;go_ret2;obtain⟨P,e2,V⟩:=HE3.o;exact⟨mI,rfl,LM,L,m3,k3,A++B,rfl,Y1,QC,pM,P,e2,V,rfl⟩
  .have y:=n.Ns hf p;have l:lE m.bT (es.map (·.1)) r=(rR,0,es.map (·.1)):=by unfold lE;rw[R (by simp[f]),R p]
   rw[l];have u:=Z λwz (z:U wa [] wz [])=>Aa (C.on z) (oN.on z) hf;rw[y]at u;clear l y p f i;go_in;go_wp2_with (first|(go_at_call 233;apply q.dC;intro w1 a;have x0:=a.cell x0 J)|(go_at_call 210;apply(u.o _ a).cX;rintro e w2 ⟨fD,rfl,g,d⟩;have W:=Z g;have tF:=Z d;clear g d));go_ret2;exact⟨fD,rfl,(x.aL (T:=eX β) nZ).ds ((a.fL (S:=eX β)).ds W),L,m,ks,es,rfl,tF,n,HL,rfl,rfl,rfl,rfl⟩
 .have i:m.I7 r=rR:=eP i;rw[i]at q;have l:lE m.bT (es.map (·.1)) r=(rR,62,es.map (·.1)):=by
   unfold lE;rw[bW];intro hx;rw[iM.I6.2 hx]at i;cases i
  rw[l];clear l i;go_in;go_wp2_with (go_at_call 233;apply q.dC;intro w1 a;have x0:=a.cell x0 J);go_ret2;exact⟨ρa,rfl,(x.aL (T:=eX β) nZ).kV a,L,m,ks,es,rfl,C.on a,n,HL,rfl,rfl,rfl,rfl⟩
end
variable{gs:List (List Nat)}{aT:List Row}{b aH:Nat}
def tA(n j:Nat):List Int:=List.replicate j (-1)++List.replicate (n-j) 0
theorem Dw(h:j<=n):O (tA n j)=n:=by unfold tA;simp;omega
theorem aCG(n:Nat):tA n 0=x' n 0:=by unfold tA;simp
theorem aGm(n:Nat):tA n n=x' n (-1):=by unfold tA;simp
theorem aGl(h:j<n):(tA n j).set j (-1)=tA n (j+1):=by
 apply I2;intro i;unfold tA;rw[I3];by_cases e:j=i
 .subst e;rw[bW rfl,bW (by simp;omega),zbE J,oj,bW Y]
 .rw[R e];rcases YB i j with b|b
  .rw[zbE (by simp;omega),zbE (by simp;omega),oj,oj,bW b,bW Y]
  .rw[z' (by simp;omega),z' (by simp;omega),oj,oj,ic,ic];by_cases a:i-j<n-j
   .rw[bW a,bW Y]
   .rw[R a,R Y]
theorem si(m:iM)(r:Row):zV m [] r=x' m.bQ (-1):=by
 apply List.ext_getElem
 .rw[lG,ic]
 .intro i b c;rw[lG]at b;have a:=zU m [] r b;rw[gV,kU (by rw[lG];exact b)]at a;simp only[O8]at a;rw[a,List.getElem_replicate];cases i<;>rfl
def ax(w:aA)(ρ:bC)(β b wd aH:Nat)(gs:List (List Nat))(aT:List Row)(F G:Nat)(x:Bool×Nat×List Row)(e:cc)(w':aA):Prop:=
 ∃bV,e=mi (mr #[nj x.1,mj mn (x.2.1:Int)])/\bI w ρ (eX β) w' bV/\L6 w' bV β b wd aH gs x.2.2 F G
theorem PN{wd:Nat}{tr:Nat}(h:L6 w ρ β b wd aH gs aT F G)(hv:lW dV aR 3 w ρ tr v r)(pY:¬eX β tr)(V:CE r)(qH:F+1<=G)(hG:G<=1073741824):
  aK prog 271 #[lr (H ⟨b,0,K⟩),v] w (ax w ρ β b wd aH gs aT F G (mF wd aH aT r)):=by
 obtain⟨L,m,ks,es,rfl,p,k,hL,rfl,rfl,rfl,rfl⟩:=h;obtain⟨va,vc,rfl,-⟩:=hv.len;let⟨wa,dM⟩:=D (i5 w (kd #[lr (H ⟨L.b,0,K⟩)] 181));have cV:=Za dM;have kI:=Zb dM;let⟨bx,mJ⟩:=D (i7 w.heap);have kK:bI w ρ eZ wa (up w (β+7) ρ):=cV.fK (S:=eZ) (β+7) (λ_ h=>dY h J);have WQ:=p.eb kK vF;have mZ:up w (β+7) ρ bx=β+7:=cY Y;have oN:=hv.eb kK id;generalize nC:up w (β+7) ρ=ρa at kK WQ mZ oN;rw[mJ]at kI;have HF:=Z (je WQ.kW oN.1 V);have yM:=Z (kK.aL (T:=eX β) nZ);have YU:=Z WQ;have nI:=Z mZ;have Rx:=Z oN;have O5:=Z pY;have uY:=Z kI;have HTX:=Z (show bx<i7 wa.heap from dG kI);have HT:=Z k;have HL:=Z hL;have HFR:=Z V;have x0:=Zc kI 0;clear pY p hv cV kK WQ mZ oN nC kI hL;have HGG:=Z (eI qH hG);clear qH hG;by_cases z:m.I7 r=qT
 .rw[z]at HF;have hc:=iM.I6.1 z;by_cases P:r∈es.map (·.1)
  .let⟨x,hx,XH⟩:=AE.1 P;obtain⟨r',s⟩:=x;simp only at XH;subst XH;have IN:=(k.jg hx).2;have y:mF m.bT m.aH (es.map (·.1)) r'=(rR,0,es.map (·.1)):=by unfold mF;rw[R (by simp[hc]),bW P]
   rw[y];have Su:(0:Int)<=(s:Int):=Y;have BT:=Z λq (B:U wa [] q [])=>Aa (YU.o.on B) (Rx.o.on B).1 HFR.o;rw[IN]at BT;clear y IN hx P hc z V k;go_in;go_wp2_with (first|(go_at_call 233;apply HF.o.cX;rintro e w1 ⟨rfl,l⟩;have c:=Z l;have x0:=l.cell x0 J;clear l)|(go_at_call 210;apply(BT.o _ c.o).cX;rintro e w2 ⟨fD,rfl,a,p⟩;have A:=a.cell ((c.o.cell (aP uY.o (j:=0) rfl) J)) (by rw[nI.o];unfold eX;omega);have Ih:=Z ((a.cE bx (pN c.o.size HTX.o)).ds nI.o);have EE:=Z (yM.o.ds ((c.o.fL (S:=eX β)).ds a));have f:=Z p;have fu:=Z ((Rx.o.on c.o).eb a O5.o);clear a p));go_ret2;exact⟨fD,rfl,EE.o,L,m,ks,es,rfl,f.o,HT.o,HL.o,rfl,rfl,rfl,rfl⟩
  .have IN:=k.Ns V P;have BT:=Z λq (B:U wa [] q [])=>Aa (YU.o.on B) (Rx.o.on B).1 HFR.o;rw[IN]at BT;have Ld:m.bG.aM=O es:=k.aM;have GZ:=k.KZ;by_cases hn:O es=m.aH
   .have y:mF m.bT m.aH (es.map (·.1)) r=(rR,31,es.map (·.1)):=by unfold mF;rw[R (by simp[hc]),R P,bW (by rw[r8];exact hn)]
    rw[y];clear y IN P hc z V k;go_in;have U5:dT (∀(q:aA) (K3:bC),iW q K3 β L m rR cR->uJ 84 #[lr (H ⟨L.b,0,K⟩)] q λe w'=>e=mi (X m.aH)/\q=w'):=Z λq K3 B=>by
     have:=Nq ⟨L,m,ks,es,rfl,B,HT.o,HL.o,rfl,rfl,rfl,rfl⟩;rw[r8,hn]at this;exact this
    clear hn Ld GZ;go_upto_region 5 with(first|(go_at_call 233;apply HF.o.cX;rintro e w1 ⟨rfl,l⟩;have c:=Z l;have x0:=l.cell x0 J;clear l)|(go_at_call 210;apply(BT.o _ c.o).cX;rintro e w2 ⟨fD,rfl,a,p⟩;have A:=a.cell ((c.o.cell (aP uY.o (j:=0) rfl) J)) (by rw[nI.o];unfold eX;omega);have Ih:=Z ((a.cE bx (pN c.o.size HTX.o)).ds nI.o);have EE:=Z (yM.o.ds ((c.o.fL (S:=eX β)).ds a));have f:=Z p;have fu:=Z ((Rx.o.on c.o).eb a O5.o);clear a p));have qP:=f.o.kW.cF;have b1:=Zc qP 1;clear qP;refine fj 99 (ez A<|ey b1) (λw3 jA C Q=> ?_);clear A b1;have W:=Z (f.o.on C);have wH:=Z (EE.o.kV C);have PE:=Z (fu.o.on C);have NF:=Z (show bx<i7 w3.heap from IL Q.1);clear jA C f EE fu;refine ek [0,2,3,4,5] ?_;refine Zo 1 λvm hK=> ?_;go_simp;go_at_call 84;apply(U5.o w3 fD W.o).cX;rintro e w4 ⟨rfl,rfl⟩;dsimp only;refine j5 ?_;clear hK vm;refine ek [6,7] ?_;refine bD dJ ?_ _;have A:=Q.1;clear Q;go_wp2;go_ret2;exact⟨fD,rfl,wH.o,L,m,ks,es,rfl,W.o,HT.o,HL.o,rfl,rfl,rfl,rfl⟩
   .have y:mF m.bT m.aH (es.map (·.1)) r=(qT,0,es.map (·.1)++[r]):=by unfold mF;rw[R (by simp[hc]),R P,R (by rw[r8];exact hn)]
    rw[y];have U5:dT (∀(q:aA) (K3:bC),iW q K3 β L m rR cR->uJ 84 #[lr (H ⟨L.b,0,K⟩)] q λe w'=>e=mi (X (O es))/\q=w'):=Z λq K3 B=>by
     have:=Nq ⟨L,m,ks,es,rfl,B,HT.o,HL.o,rfl,rfl,rfl,rfl⟩;rw[r8]at this;exact this
    have NH:=Z (show∀i,(r,i)∉es++[]from λi hi=>P (AE.2 ⟨(r,i),by simpa using hi,rfl⟩));have E4:=Z (show(es++[]).length<m.aH by rw[ui];omega);have Mv:=Z (show dU r/\O r=m.bT from⟨⟨hc.2,λx hx=>(V.2 x hx).2⟩,hc.1⟩);generalize hnn:O es=n at U5 hn;have eB:((n:Int)==(m.aH:Int))=rR:=by simp;omega
    have aFm:¬((n:Int)=(m.aH:Int)):=Y;clear y P hc z V k hn Ld GZ IN hnn;go_in;go_upto_region 5 with(first|(go_at_call 233;apply HF.o.cX;rintro e w1 ⟨rfl,l⟩;have c:=Z l;have x0:=l.cell x0 J;clear l)|(go_at_call 210;apply(BT.o _ c.o).cX;rintro e w2 ⟨fD,rfl,a,p⟩;have A:=a.cell ((c.o.cell (aP uY.o (j:=0) rfl) J)) (by rw[nI.o];unfold eX;omega);have Ih:=Z ((a.cE bx (pN c.o.size HTX.o)).ds nI.o);have EE:=Z (yM.o.ds ((c.o.fL (S:=eX β)).ds a));have f:=Z p;have fu:=Z ((Rx.o.on c.o).eb a O5.o);clear a p));have qP:=f.o.kW.cF;have b1:=Zc qP 1;clear qP;refine fj 99 (ez A<|ey b1) (λw3 jA C Q=> ?_);clear A b1;have W:=Z (f.o.on C);have wH:=Z (EE.o.kV C);have PE:=Z (fu.o.on C);have NF:=Z (show bx<i7 w3.heap from IL Q.1);clear jA C f EE fu;refine ek [0,2,3,4,5] ?_;refine Zo 1 λvm hK=> ?_;go_simp;go_at_call 84;apply(U5.o w3 fD W.o).cX;rintro e w4 ⟨rfl,rfl⟩;dsimp only;refine j5 ?_;clear hK vm;refine ek [6,7] ?_;refine bD dJ ?_ _;have A:=Q.1;clear Q;go_upto_region 7 with(fail);clear dM mJ eB aFm HF BT U5 uY;let⟨d,Qs⟩:=D (m.bQ);have rF:=Z Qs;have a3E:(d:Int)<=5:=by have:=W.o.kW.oE;unfold iM.bQ at Qs;omega
    have WN:=W.o.kW.cF;rw[Qs]at WN;have b2:=Zc WN 2;clear WN Qs;have uS:=Z0.xO d d (fV _) Y GC;simp only[yC]at uS;go_upto_region 8 with(fail);let⟨bb,oz⟩:=D (i7 w3.heap);have QC:=Z0.yY d d (fV _) GC w3 Y;simp only[yC]at QC;let⟨w4,uC⟩:=D (i5 w3 (kd (madeCells #[X 0] d) 3));have eJ:=Za uC;rw[uC,oz]at QC;rw[uC,oz];have XQ:bN fI 0 3 1 w3 w4 (eC bb 0 d d) (tA d 0):=by
     rw[aCG];refine⟨?_,λg hg=>by have:bb=g:=(by simpa[i6]using hg);omega⟩;exact ZM117
    have lH:=Z eJ;have LN:=Z XQ;have tE:=Z (show i7 w3.heap<=bb by omega);have HX0:=Z A;clear QC uC oz eJ XQ A b2 uS;go_upto_region 9 with(fail);go_loopg [34] d (λgg s34 wr=>∃j:Nat,j<=d/\gg=d-j/\s34=X j/\U w3 [] wr []/\bN fI 0 3 1 w3 wr (eC bb 0 d d) (tA d j))
    .exact⟨0,Y,rfl,rfl,lH.o,LN.o⟩
    obtain⟨j,hj,rfl,rfl,Lk,yq⟩:=hrel;by_cases aY:j<d
    .obtain⟨g,cap,yP,-,Hs,hc',hf',-⟩:=eV.block yq.1 (kG (Dw hj));injection yP with x1 x2 x3;injection x1 with x1;injection x1 with x1;subst x1;have bj:=hc' j 0 (by rw[Dw hj];exact aY) E;rw[yC,qZ]at bj;have bf:=hf' j;have bl:=iP Hs;have uU:(j:Int)<(d:Int):=Y;have HUR:=Z Lk;have HLR:=Z yq;have HJ:=Z aY;clear Lk yq hc' hf' Hs x2 x3 aY hj;go_wp2;go_roundg (d-(j+1))
     .have h1:=HLR.o.EW (i:=j) (j:=0) (by rw[Dw (wn HJ.o)];exact HJ.o) E (-1) (X (-1)) (λj' uU=>by
       obtain rfl:j'=0:=Y;rw[bW rfl];rfl)
      rw[yC,qZ,aGl HJ.o]at h1;exact⟨j+1,HJ.o,rfl,eY,HUR.o.setCell (.inr tE.o) _|>.to (λ_ h=> .inl h),h1⟩
     have:=HJ.o;omega
    .have ej:j=d:=Y;subst ej;have xD:bI w3 fD eZ wr (up w3 (β+7) fD):=Lk.fK (S:=eZ) (β+7) (λ_ h=>dY h J);have hA4:lW fI 0 1 wr (up w3 (β+7) fD) (β+7) (eC bb 0 j j) (x' j (-1)):=by
      have:=(yq.jR (β+7) fD).rd;rw[aGm]at this;exact this
     have N:=Z (W.o.eb xD vF);have HMr:=Z (wH.o.ds (xD.aL (T:=eX β) nZ));have HVr:=Z (PE.o.eb xD id);have HAr:=Z hA4;have HXr:=Z (Lk.cell (HX0.o) J);have HTr:=Z ((xD.cE bx NF.o).ds Ih.o);generalize a0r:up w3 (β+7) fD=ρr at N HMr HVr HAr HTr;have AN:O r<=100000:=pN Mv.o.2 N.o.kW.xA;have Y9:=Z (TA _ r wr HVr.o.1 AN);clear Lk yq xD hA4 a0r AN W wH PE LN lH;go_upto_region 14 with(go_at_call 206;apply Y9.o.cX;rintro e w5 ⟨u,rfl,hO,l⟩;obtain⟨ua,uc,rfl,-⟩:=hO.len;have TN:=Z hO;have gN:=Z l;clear hO l);have sA:bI wr ρr eZ w5 (up wr (β+6) ρr):=gN.o.fK (S:=eZ) (β+6) (λ_ h=>dY h J);have hK5:=(TN.o.jR (β+6) ρr).rd;generalize GS:up wr (β+6) ρr=oT at sA hK5;let⟨w6,iA⟩:=D (i5 w5 (kd #[jS ua (O r) uc] 34));have dR:=Za iA;have mK:=Zb iA;have SX:bI w5 oT eZ w6 (up w5 (β+7) oT):=dR.fK (S:=eZ) (β+7) (λ_ h=>dY h J);rw[iA];have Yi:=sA.ds SX;have te:=Z (N.o.eb Yi vF);have Fz:=Z (HMr.o.ds (Yi.aL (T:=eX β) nZ));have HK6:=Z (hK5.eb SX id);have HA6:dT (lW fI 0 1 w6 (up w5 (β+7) oT) (β+7) (eC bb 0 j j) (zV m [] r)):=Z (by rw[si,rF.o];exact HAr.o.eb Yi id);have Tl:=Z (Yi.cell HXr.o id);have HT6:=Z ((Yi.cE bx (IL HXr.o)).ds HTr.o);generalize XG:up w5 (β+7) oT=qJ at te Fz HK6 HA6 HT6;generalize KE:i7 w5.heap=kb at mK|-;have hx6:=Tl.o;have k0:=Zc mK 0;clear sA hK5 GS iA dR mK SX Yi XG KE N HMr HVr HAr HXr HTr Y9 TN gN;have HTN:dT (jY m (es++[]) F G):=Z (by rw[ui];exact HT.o);have U5:dT (eM m (λ_=>es++[]) ks F G):=Z (by rw[ui];exact HL.o);go_upto_region 15 with(go_at_call 275;refine(aOM te.o HTN.o U5.o HK6.o Mv.o NH.o E4.o HGG.o.1 HGG.o.2 HA6.o (by unfold eX;omega)).mono ?_;rintro e w7 ⟨Mx,m7,k7,rfl,a,p,hT7,yQ,-,e1,e2,e3⟩;have hx7:=a.cell hx6 (by rw[HT6.o];unfold eX;omega);have LA:=Z (Fz.o.ds a);have U0:=Z p;have Sa:=Z hT7;have QR:=Z yQ;have HE7:=Z (eI e1 (eI e2 e3));clear a p hT7 yQ e1 e2 e3);have OK:=U0.o.kW.cF;have b11:=Zc OK 11;clear OK hx6 k0;go_wp2;go_ret2;obtain⟨e1,e2,e3⟩:=HE7.o;exact⟨Mx,rfl,LA.o,L,m7,k7,_,rfl,U0.o,Sa.o,QR.o,e1,e2,e3,J⟩
 .have z:m.I7 r=rR:=eP z;rw[z]at HF;have y:mF m.bT m.aH (es.map (·.1)) r=(rR,62,es.map (·.1)):=by
   unfold mF;rw[bW];intro hx;rw[iM.I6.2 hx]at z;cases z
  rw[y];clear y z V k;go_in;go_wp2_with (go_at_call 233;apply HF.o.cX;rintro e w1 ⟨rfl,l⟩;have c:=Z l;have x0:=l.cell x0 J;clear l);go_ret2;exact⟨ρa,rfl,yM.o.kV c.o,L,m,ks,es,rfl,YU.o.on c.o,HT.o,HL.o,rfl,rfl,rfl,rfl⟩
theorem aJC{L:JW}{m:iM}{es:List mT}(h:iW w ρ β L m mk uv)(l:jY m es F G)(x:(r,i)∈es)(hl:lane<m.bQ)(z:Int)(n:z=((i*m.bQ+lane:Nat):Int)):
  aK prog 177 #[lr (H ⟨L.b,0,K⟩),mj mn z] w λe w'=>∃u,e=mi u/\bN dV aR 90 3 w w' u r/\U w [] w' []:=by
 subst n;have q:m.bG.dP i=qT:=(l.dP i).2 ⟨r,x⟩;have zJ:=l.row r i x;obtain⟨v,d⟩:∃v,m.bG.pP i=H v:=Option.isSome_iff_exists.1 (VP▸q);have hv:lW dV aR 3 w ρ (β+6) v r:=by have:=h.cG i v d;rw[zJ]at this;exact this
 obtain⟨va,vc,rfl,-⟩:=hv.len;have a:m.lJ i=H (m.bG.kF i):=by rw[l.lJ,bW q]
 have aY:=l.lt x;have SO:=h.kW.kw;have S:i<=1048576:=Y;have AN:O r<=100000:=pN (l.good r i x).2 h.kW.xA;have Y9:=Z λg (n:U w [] g [])=>TA _ r g (hv.on n).1 AN;generalize T:m.bQ=c at hl|-;let⟨y,N⟩:=D (i*c+lane);have C:y/c=i:=by rw[<-N,Nat.mul_comm,L1 Y,JJ hl];rfl
 have hq:IntKind.i64.wrap ((y:Int)/(c:Int))=(i:Int):=by rw[<-Int.natCast_ediv,C];exact QY (i:Int) Y
 have hK0:¬(c=0):=Y;have hK5:(c:Int)<=5:=by have:=h.kW.oE;unfold iM.bQ at T;omega
 have hy5:(y:Int)<=10485760:=by have:i*c<=1048576*5:=gz S Y;omega
 rw[N];let⟨γ,P⟩:=D (m.bG.kF i);have f:=Rn va (O r) vc w h.bG q d;rw[P]at f a;have FH:=Z λg (n:U w [] g [])=>(show uJ 205 #[lr (H ⟨L.sb,0,K⟩),.agg #[X i,It γ]] g λe w'=>e=mi (mr #[(jS va (O r) vc),X 0])/\U g [] w' [] by rw[<-P];exact Rn va (O r) vc g (h.bG.on n) q d);have p:=h.kW.cF;rw[T]at p;have b2:=Zc p 2;have b4:=Zc p 4;have b5:=Zc p 5;go_in;go_upto_region 1 with(fail);refine fj 99 (ez b2<|ez b4<|ey b5) (λw1 b B Q=> ?_);have nQ:=(h.on B).ql S a;unfold sS at nQ;refine ek [0,4,8,9,1,5,10,2,6,11,3,7,12,13] ?_;refine Zo 14 λvm hK=> ?_;go_simp;try rw[hq]
 try go_simp
 refine j5 ?_;clear hK vm;refine Zo 15 λvm hK=> ?_;go_simp;go_at_call 205;apply(FH.o w1 B).cX;rintro e w2 ⟨rfl,j⟩;dsimp only;obtain⟨tK,tJ,W⟩:=Q;have Q:=eI ((j).cell tK J) (eI ((j).cell tJ J) ((j).cell W J));have A:=(B.ds j);refine j5 ?_;clear hK vm;refine ek [16,17,19,18,20] ?_;refine bD dJ ?_ _;go_wp2_with (go_at_call 206;apply(Y9.o w2 A).cX;rintro e w3 ⟨u,rfl,V,j⟩);go_ret;exact⟨_,rfl,V.eO A.size,A.ds j⟩
variable{xs:List Int}
def VJ(w:aA)(v:aE)(xs:List Int):Prop:=eV w v 3 1 (O xs) (λi _=>mj mn (hJ xs i 0))
theorem aJo:(prog.info? 3).map (λi=>(i.zero,i.size,i.bytes))=H (H (mj mn 0),1,8):=by kernel_rfl
theorem VJ.lt(h:VJ w v xs):∀g,i6 v=H g->g<i7 w.heap:=eV.lt h
theorem VJ.yD{x:Int}(h:eV w v 3 1 (O xs+1) (yD (λi _=>mj mn (hJ xs i 0)) (O xs) [mj mn x])):VJ w v (xs++[x]):=by
 unfold VJ;rw[E7,Ty];refine h.congr λi j c b=> ?_;unfold YtohhhhfdpceppaaGreatDoor.yD;by_cases a:i=O xs
 .subst a;have:j=0:=Y;subst this;simp
 .rw[R a];simp only[gV];rw[zbE Y]
theorem VJ.aS(h:VJ w v xs){x:Int}(a:xs[i]? =H x):
  ∃g cap,v=jS (H ⟨g,0,K⟩) (O xs) cap/\i6 v=H g/\h8 w ⟨g,i,K⟩=H (mj mn x):=by
 have d:i<O xs:=by
  rcases YB i (O xs) with h|h
  .exact h
  .rw[List.getElem?_eq_none h]at a;cases a
 let⟨g,cap,hv,b,_,c,_⟩:=eV.block h Y;refine⟨g,cap,hv,b,?_⟩;have:=c i 0 d Y;rw[yC,qZ]at this;rw[this,gV,a];rfl
def D8(l:List Nat):List Int:=l.map λx:Nat=>(x:Int)
theorem FQ(l:List Nat):O (D8 l)=O l:=by simp[D8]
theorem Gw(a b:List Nat):D8 (a++b)=D8 a++D8 b:=by simp[D8]
theorem kq:jK K= -1:=rfl
theorem kn(x:Nat):jK (H x)=x:=rfl
def aFL:aE->Nat|jS _ k _=>k|_=>0
variable{ops:Array Oper}{bEr:Exit->Act->aA->Prop}{cap e g sz:Nat}{P:cj}
theorem eV.aO5{eO:Nat}{xs:List aE}(h:w.ownsRow eO e sz v n xs):eV w v e sz n (λi j=>hJ xs (i*sz+j) undef):=by
 rcases h.2 with c|⟨g,cap,cur,hv,_,m,d,p,hs,b⟩
 .exact .inl c
 .refine .inr ⟨g,cap,cur,hv,m,d,p,hs,λi j r q=> ?_⟩;have l:i*sz+j<n*sz:=by
   calc i*sz+j<i*sz+sz:=Y
    _=(i+1)*sz:=by rw[Nat.succ_mul]
    _<=n*sz:=Sq _ Y
  have a:=h.1;have:xs[i*sz+j]? =cur[i*sz+j]? :=by rw[<-b,List.getElem?_take,bW l,Array.getElem?_toList]
  rw[<-this];show xs[i*sz+j]? =H (hJ xs (i*sz+j) undef);rw[gV,kU Y];rfl
theorem VJ.aJW{eO:Nat}(h:w.ownsRow eO 3 1 (jS (H ⟨g,0,K⟩) 0 cap) 0 []):VJ w (jS (H ⟨g,0,K⟩) 0 cap) []:=
 (eV.aO5 h).congr (λi j a=>Y)
theorem OA{F:Fence}{k:Nat}(w:aA){rest:List Oper}{o:Oper}(V:o.guard=K)(s x:Operand)(t:ap)(d:o.op= .call {callee:= .builtin .append,args:=#[s,x],argTypes:=#[t,t]})(e:ap)(i:TypeInfo)(z:aE)(size bytes:Nat)(m:P.underlying t=H (.slice e))(G:P.info? e=H i)(us:i.zero=H z)(Q:i.size=size)(y:i.bytes=bytes)(W:z.cells.size=size)(v:aE)(n:Nat)(b:Nat->Nat->aE)(l:eV w v e size n b)(hs:a.eval s=v)(news:List aE)(p:a.eval x=jS (H ⟨w,0,K⟩) 1 1)(hl:O news=size)(T:news.all Value.oneCell'=qT)(f:(n+1)*bytes<=140737488355328)(r:n+1<=bH)(h:∀v' w',eV w' v' e size (n+1) (yD b n news)->w.grownBy w' (i6 v)->(∀k,i6 v'=H k->i6 v=H k\/i7 w.heap<=k)->(∃g cap,v'=jS (H ⟨g,0,K⟩) (n+1) cap)->
   wpListIn F k P ops bEr rest (a.put o.dst v') w'):wpListIn F k P ops bEr (o::rest) a (i5 w (kd news.toArray e)):=by
 refine wpListIn_plain V λvm hK=> ?_;let⟨v',w',C,A,S,B,q⟩:=M7 (P:=P) (i5 w (kd news.toArray e)) t o.type e i z size bytes m G us Q y W v n b (l.aC λg e=>Below.heap_alloc _ _ _ (l.lt g e)) ⟨w,0,K⟩ 1 news hl
  (Ke w news e) (λu L=>Tv.1 T u L) f r
 unfold Oper.wpIn;refine⟨?_,?_⟩
 .simp[Oper.about,d,resolve,Target.leads,Sem.run_pure]
 .rw[Oper.semAt_plain F _ _ (by rw[d];intro c j;cases j)];simp[execOp,d,resolve,invoke,builtin,hs,p,C,Result.andThen];exact hK _ _ (h v' w' A (I4 S) (λk N=>(B k N).imp id (λh=>by simp at h;omega)) q)
variable{tmps:Array aE}{assign body:Code}{S S':List Nat}{gf:Nat}{Start:aA->Nat->aA->Prop}
theorem ZM4{P:Prop}(h:P:=by
  rintro g k x W ⟨hi,hl,hk⟩ hx;have aY:i7 w.heap+1<i7 W.heap:=(Array.getElem?_eq_some_iff.1 hl).1;have hy:=run_yield (P:=P) (args:=Rc x) hl BC;rw[Q5]at hy;refine⟨fn,_,assign,body,hy,roundIn_of_wpIn trivial (Qe x W _ ⟨_,run_beginRound hl (by rw[Q5]),?_⟩)⟩;obtain⟨W',Dj⟩:∃W',W.putObj (i7 w.heap+1) (.loop {rec .ready K with state:= .busy})=W':=⟨_,rfl⟩;have IQ:W'.heap[i7 w.heap+1]? =H (.loop {rec .ready K with state:= .busy}):=by grind [World.putObj_heap_same]
  have oZ:W'.heap[i7 w.heap]? =H (.deferred (H [])):=by grind [World.putObj_heap_other]
  have CP:∀o,g≠i7 w.heap+1->(W.putObj (i7 w.heap+1) o).heap[g]? =W.heap[g]? :=λo h=>World.putObj_heap_other h;rw[Dj];have Yw:∀(jump:Option Code) (W3:aA),(W3.heap[i7 w.heap+1]? =W'.heap[i7 w.heap+1]?/\W3.heap[i7 w.heap]? =W'.heap[i7 w.heap]?)->
    (Instr.endRound (i7 w.heap+1) jump).run P W3= .ok (nj jump.isNone) (W3.putObj (i7 w.heap+1) (.loop (rec (if jump.isNone then .ready else .done) jump)))/\
    (W3.putObj (i7 w.heap+1) (.loop (rec (if jump.isNone then .ready else .done) jump))).heap[i7 w.heap+1]? =H (.loop (rec (if jump.isNone then .ready else .done) jump))/\
    (W3.putObj (i7 w.heap+1) (.loop (rec (if jump.isNone then .ready else .done) jump))).heap[i7 w.heap]? =H (.deferred (H [])):=λjump W3 A9=>by
   have hl3:=A9.1.ds IQ;have:=run_endRound (P:=P) jump hl3;grind [World.putObj_heap_same,World.putObj_heap_other]
  refine wpIn_mono (aGN g k x W' BC hx) ?_;rintro e a3 W3 hp;cases e with
  |normal=>
   obtain⟨A9,hg3,nw⟩:=hp;let⟨hr,nt,Fs⟩:=Yw K W3 A9;have Hu:=eB g _ _ hi;exact⟨_,_,hr,.inl ⟨rfl,⟨hI _ _ _ _ nw,nt,Fs⟩,(World.putObj_heap_other Hu).ds (hg3.ds BC)⟩⟩
  |ret=>
   obtain⟨A9,nw⟩:=hp;let⟨hr,nt,Fs⟩:=Yw (H .ret) W3 A9;exact⟨_,_,hr,.inr ⟨rfl,.ret,hIx _ _ _ _ _ nw,nt,Fs⟩⟩
  |exit id=>
   obtain⟨A9,nw⟩:=hp;let⟨hr,nt,Fs⟩:=Yw (H (.exit id)) W3 A9;exact⟨_,_,hr,.inr ⟨rfl,.exit id,hIx _ _ _ _ _ nw,nt,Fs⟩⟩
  |goto t=>
   obtain⟨A9,nw⟩:=hp;let⟨hr,nt,Fs⟩:=Yw (H (.goto t)) W3 A9;exact⟨_,_,hr,.inr ⟨rfl,.goto t,hIx _ _ _ _ _ nw,nt,Fs⟩⟩
  |panic ch=>exact hp.elim
  |outgrown=>exact hp.elim):P:=h
theorem ZM38{P:Prop}(h:P:=by
  rintro e W2 ⟨⟨v,rfl⟩,g,(⟨hi,hl,hk⟩|⟨k,Xl,c,hi,hl,hk⟩)⟩
  .exact⟨K,_,by have:=run_endLoop (P:=P) hl (by rw[Q5];simp);rw[Q5]at this;exact this,Li g _ (hI _ _ _ _ hi) ((World.putObj_heap_other Y).ds hk)⟩
  .exact⟨H c,_,by have:=run_endLoop (P:=P) hl (by rw[Q5];simp);rw[Q5]at this;exact this,aF4 c g k _ Xl (hIx _ _ _ _ _ hi) ((World.putObj_heap_other Y).ds hk)⟩):P:=h
theorem ZM57{P:Prop}(h:P:=by
  rw[<-ym,Q5];have:=World.alloc_heap_new (w.alloc (.deferred (H []))) (.loop {state:= .ready,pending:=K,fn,tmps:=a.tmps,params:=ps,assign,body,defers:=i7 w.heap});rwa[World.size_alloc]at this):P:=h
theorem ZM161{P:Prop}(h:P:=by
  rw[<-ym];exact(Below.heap_alloc _ _ _ J).ds (World.alloc_heap_new w _)):P:=h
theorem U.putObj(h:U w S w' S'){l:Nat}(hl:l∈S\/i7 w.heap<=l)(o:Obj):U w S (w'.putObj l o) S':=
 ⟨h.os,h.tape,h.output,by rw[World.putObj_size];exact h.size,λk a b=>(World.putObj_heap_other (λe=>by grind)).ds (h.block k a b),h.fresh⟩
def bw{α:Type}(P:cj)(gf:Nat)(lb:Array aE)(encs:α->Array aE)(xs:List α)(Start:aA->Nat->aA->Prop)(W:aA):Prop:=
 ∀(l:Nat) (bEn Jx:Nat->Nat->aA->Prop),(∀g W1,Start W g W1->bEn g 0 W1)->
  (∀g k x W1,bEn g k W1->xs[k]? =H x->YieldAt Fence.wide 0 P l (encs x) W1 λe W'=>
   (e=mi (nj qT)/\bEn g (k+1) W'/\W'.heap[g]? =W1.heap[g]?)\/(e=mi (nj rR)/\Jx g (k+1) W'))->
  CallsIn Fence.wide 0 P gf (#[.func (.yield l) #[] #[]]++lb) W λe W'=>(∃v,e=mi v)/\∃g,bEn g (O xs) W'\/∃k,k<=O xs/\Jx g k W'
def aFN(l bEp:Nat)(g:Nat)(W:aA)(bEm:aA->Prop)(Ix:Code->aA->Prop):Exit->Act->aA->Prop
 | .normal,_,W'=>(W'.heap[l]? =W.heap[l]?/\W'.heap[bEp]? =W.heap[bEp]?)/\W'.heap[g]? =W.heap[g]?/\bEm W'
 | .ret,_,W'=>(W'.heap[l]? =W.heap[l]?/\W'.heap[bEp]? =W.heap[bEp]?)/\Ix .ret W'
 | .exit id,_,W'=>(W'.heap[l]? =W.heap[l]?/\W'.heap[bEp]? =W.heap[bEp]?)/\Ix (.exit id) W'
 | .goto t,_,W'=>(W'.heap[l]? =W.heap[l]?/\W'.heap[bEp]? =W.heap[bEp]?)/\Ix (.goto t) W'
 | .panic _,_,_=>False
 | .outgrown,_,_=>False
def qR(w:aA)(fn:FuncId)(tmps:Array aE)(ps:Array Tmp)(assign body:Code):aA:=
 (w.alloc (.deferred (H []))).alloc (.loop {state:= .ready,pending:=K,fn,tmps,params:=ps,assign,body,defers:=i7 w.heap})
theorem wQ{fn:FuncId}{ps:Array Tmp}:U w [] (qR w fn tmps ps assign body) []:=
 ((U.refl w []).alloc _).alloc _
theorem JP{fn:FuncId}{ps:Array Tmp}:i7 (qR w fn tmps ps assign body).heap=i7 w.heap+2:=by simp[qR]
theorem aAq{α:Type}{g:Operand}{ps:Array Tmp}{lb:Array aE}(m:a.eval g= .func (.func gf) #[] lb)(y:∀args w,(callFunc gf args).run P w= .ok (.enter gf args) w){Rc:α->Array aE}{xs:List α}(l:∀x,(Rc x).size=ps.size)(jO:∀fn,bw P gf lb Rc xs Start (qR w fn a.tmps ps assign body))(u:∀fn g W1,Start (qR w fn a.tmps ps assign body) g W1->W1.heap[i7 w.heap+1]? =(qR w fn a.tmps ps assign body).heap[i7 w.heap+1]?/\W1.heap[i7 w.heap]? =(qR w fn a.tmps ps assign body).heap[i7 w.heap]?)(b:Nat->Nat->aA->Prop)(Ix:Code->Nat->Nat->aA->Prop)(eB:∀g k W,b g k W->g≠i7 w.heap+1)(hI:∀g k W o,b g k W->b g k (W.putObj (i7 w.heap+1) o))(hIx:∀c g k W o,Ix c g k W->Ix c g k (W.putObj (i7 w.heap+1) o))(r:∀fn g W1,Start (qR w fn a.tmps ps assign body) g W1->b g 0 W1)(a₁:α->Act)(Qe:∀(x:α) (W:aA) (vm:Act->aA->Prop),vm (a₁ x) W->
   assign.wpIn (Fence.wide.inRound (i7 w.heap+1)) 0 P (Exit.then vm (λ_ _ _=>False)) {tmps:=(ps.zip (Rc x)).foldl (λt (p,v)=>t.setIfInBounds p v) a.tmps,defers:=[]} W)(aGN:∀(g k:Nat) (x:α) (W:aA),b g k W->xs[k]? =H x->
   body.wpIn (Fence.wide.inRound (i7 w.heap+1)) 0 P (aFN (i7 w.heap+1) w.heap.size g W (b g (k+1)) (λc=>Ix c g (k+1))) (a₁ x) W)(Li:∀g W,b g (O xs) W->W.heap[i7 w.heap]? =H (.deferred (H []))->bEr .normal {a with defers:={target:= .collected w.heap.size,args:=#[]}::a.defers} W)(aF4:∀c g k W,k<=O xs->Ix c g k W->W.heap[i7 w.heap]? =H (.deferred (H []))->c.wpIn Fence.wide 0 P bEr {a with defers:={target:= .collected w.heap.size,args:=#[]}::a.defers} W):
  (Code.rangeFunc g ps assign body).wpIn Fence.wide 0 P bEr a w:=by
 refine wpIn_rangeFunc ?_;intro fn _;have i:Fence.wide.round=K:=rfl;rw[i];obtain⟨rec,Q5⟩:∃rec:LoopState->Option Code->Loop,rec=λst n=>{state:=st,pending:=n,fn,tmps:=a.tmps,params:=ps,assign,body,defers:=i7 w.heap}:=⟨_,rfl⟩;let⟨W1,ym⟩:=D (qR w fn a.tmps ps assign body);have q:W1.heap[i7 w.heap+1]? =H (.loop (rec .ready K)):=ZM57;have j:W1.heap[i7 w.heap]? =H (.deferred (H [])):=ZM161;refine⟨i7 w.heap+1,[{target:= .collected w.heap.size,args:=#[]}],W1,{target:= .fn (.func gf) lb,args:=#[.func (.yield (i7 w.heap+1)) #[] #[]]},W1,gf,
  #[.func (.yield (i7 w.heap+1)) #[] #[]]++lb,W1,?_,?_,?_,?_,?_,?_⟩
 .rw[<-ym];exact run_enterLoop_outer _ _ _ _ _
 .simp only[resolve,m];simp[go_sem]
 .intro f' _;trivial
 .grind [invoke]
 .intro h;cases h
 .have d:=jO fn;rw[ym]at d;refine(d (i7 w.heap+1)
   (λg k W=>b g k W/\W.heap[i7 w.heap+1]? =H (.loop (rec .ready K))/\W.heap[i7 w.heap]? =H (.deferred (H [])))
   (λg k W=>∃c,Ix c g k W/\W.heap[i7 w.heap+1]? =H (.loop (rec .done (H c)))/\W.heap[i7 w.heap]? =H (.deferred (H []))) ?_ ?_).mono ?_
  .grind
  .exact ZM4
  .exact ZM38
variable{fp fo:List Nat}{C L c:Nat}{W' W1 w0:aA}
section
attribute [local go_sem] Oper.semAt_some
noncomputable def told(f:Nat->List Nat)(n:Int)(L:Nat):List Nat:=open Classical in if sE n L then[]else f n.toNat
theorem aDt(b:Nat)(n:Int)(w:aA):aK prog 176 #[lr (H ⟨b,0,K⟩),mj mn n] w λe w'=>
  e=mi (.func (.func 203) #[] #[lr (H ⟨w,0,K⟩),lr (H ⟨i7 w.heap+1,0,K⟩)])/\
  w'=i5 (i5 w (kd #[lr (H ⟨b,0,K⟩)] 252)) (kd #[mj mn n] 3):=by
 exact ZM184
def aWk(l:Nat)(bEn Jx:Nat->Nat->aA->Prop)(g k c:Nat)(W:aA):Prop:=
 YieldAt Fence.wide 0 prog l #[mj mn c] W λe W'=>(e=mi (nj qT)/\bEn g (k+1) W'/\W'.heap[g]? =W.heap[g]?)\/(e=mi (nj rR)/\Jx g (k+1) W')
def aRF(f:Nat->List Nat)(n:Int)(L:Nat)(bEn Jx:Nat->Nat->aA->Prop)(e:cc)(W':aA):Prop:=
 (∃v,e=mi v)/\∃g,bEn g (O (told f n L)) W'\/∃k,k<=O (told f n L)/\Jx g k W'
theorem ke{k:Nat}(h:i6 (jS (H ⟨g,0,K⟩) n c)=H k):g=k:=by grind [i6]
def aCo(f:Nat->List Nat)(W1:aA)(n:Nat)(v c:aE)(wr:aA):Prop:=
 ∃A B,f n=A++B/\c=mj mn (jK B.head?)/\VJ wr v (D8 A)/\U W1 [] wr []/\(∃g cap,v=jS (H ⟨g,0,K⟩) (O A) cap/\i7 W1.heap<=g)
theorem aFQ{f:Nat->List Nat}(l N B1:Nat)(n:Int)(W:aA)(a Jx:Nat->Nat->aA->Prop)(hC:nU W b C L f fp)(lC:W.heap[N]? =H (kd #[lr (H ⟨b,0,K⟩)] 252 (0,0)))(fR:W.heap[B1]? =H (kd #[mj mn n] 3 (0,0)))(Pu:N∉fp)(YK:B1∉fp)(h0:∀g W1 p,nU W1 b C L f p->U W fp W1 p->i7 W.heap<=g->g∉p->(0<(told f n L).length->g<i7 W1.heap)->a g 0 W1)(hR:∀g k c W1,a g k W1->(told f n L)[k]? =H c->aWk l a Jx g k c W1):
  CallsIn Fence.wide 0 prog 203 #[.func (.yield l) #[] #[],lr (H ⟨N,0,K⟩),lr (H ⟨B1,0,K⟩)] W (aRF f n L a Jx):=by
 have c0:h8 W ⟨N,0,K⟩=H (lr (H ⟨b,0,K⟩)):=cell_of_one lC;have c1:h8 W ⟨B1,0,K⟩=H (mj mn n):=cell_of_one fR;by_cases s:sE n L
 .have r:told f n L=[]:=if_pos s;have o:=Z r;have d:=h0 W.heap.size W fp hC (U.refl _ _) (vW _) (λhm=>by have:=hC.lt _ hm;omega) (λh=>by grind);obtain⟨m,na,ne,va,ve,hL,z,rfl,rfl,rfl⟩:=hC;clear r;refine callsIn_of_wp func203 rfl trivial ?_ rfl;simp only[ntmps203,Bk,B4,Dc,F6,H3,yo,y',B0,zb,El,B5];gi_wp2_with (refine⟨trivial,rfl,?_⟩;gi_at_call 204;refine(callsIn_wide.2 (UT n W hL s)).mono ?_;rintro e w' ⟨rfl,rfl⟩)
  refine bodyPost_ret (results_none rfl _ _ _) rfl ?_;exact⟨⟨_,rfl⟩,_,.inl (by rw[o.o];exact d)⟩
 .obtain⟨n,rfl,aY⟩:=sE.no s;have r:told f n L=f n:=if_neg s;have o:=Z r;have HR:=Z hR;have H0:=Z h0;clear s r hR h0;obtain⟨m,na,ne,va,ve,hL,z,rfl,rfl,rfl⟩:=hC;obtain⟨i0,hi,Wt,S,P⟩:=info_parts aJo;have hlen:=z.length n;have hcc:=hL.hc;refine callsIn_of_wp func203 rfl trivial ?_ rfl;simp only[ntmps203,Bk,B4,Dc,F6,H3,yo,y',B0,zb,El,B5];have b2:i0.bytes*(f n).length<=281474976710656:=by rw[P];omega
  have b3:(f n).length<=bH:=by grind [bH]
  gi_wp2_with (first
   |(gi_at_make;(refine wpListIn_make_own _ rfl _ _ 50 rfl W1.heap.size 3 i0 (mj mn 0) 1 underlying50 hi Wt S mn mn _ (f n).length (by rfl) (by rfl) rfl b2 b3 (vW _) ?_;intro W2 BG j;have e0:h8 W2 ⟨g,n*3,K⟩=_:=j.cell Fo (by simp)))
   |(refine⟨trivial,rfl,?_⟩;gi_at_call 204;refine(callsIn_wide.2 (SF n W hL aY)).mono ?_;rintro e W1 ⟨KA,XB,g,rfl,Xh,y,F,vm⟩;have u:=F.zR y Xh;rw[z.Dz n]at u;obtain⟨Fo,vC,uG⟩:=u;have d0:=vm.cell c0 Pu;have d1:=vm.cell c1 YK;have HG:=Z y;clear y))
  clear b2 b3;have bM:U W1 [] W2 []:=(U.refl W1 []).grown j (λk e=>by cases e);have hI2:=VJ.aJW BG;clear Fo vC uG e0 j BG;gi_loopw [6,7,27] (λv c _ wr=>aCo f W1 n v c wr) (λv _ _ _=>(f n).length+1-aFL v)
  case atStart=>exact⟨[],f n,rfl,rfl,hI2,bM,_,_,rfl,vW _⟩
  case round=>
   obtain⟨A,B,w,rfl,hI,Q,g3,G0,rfl,hg3⟩:=hrel;have yq:=F.eU Q (λ_ _ h=>by cases h);have Le:A.length+B.length=(f n).length:=by rw[w];simp
   have ou:=Q.cell d0 (λh=>by cases h);cases B with
   |nil=>
    simp only[EA,kq];rw[List.append_nil]at w;subst w;have hCr:nU wr b m.cells m.bZ f (gF b va XB):=⟨m,_,_,_,_,yq,z,rfl,rfl,rfl⟩;have Lk:U W (gF b va ve) wr (gF b va XB):=vm.ds ((Q.aL (T:=gF b va XB) (λ_ h=>by cases h)).to (λ_ h=> .inl h));have d:=H0.o g3 wr _ hCr Lk (by have:=vm.size;omega) (λhm=>by have:=F.lt g3 hm;omega) (λ_=>hI.lt g3 rfl);have HJ:=Z d;clear d;obtain⟨wo,rfl⟩:∃wo:aA,wo=wr:=⟨_,rfl⟩;gi_wp2
    gi_loopw [9,44] (λ_ i wr=>∃k:Nat,k<=(f n).length/\i=mj mn k/\a g3 k wr/\wr.heap[g3]? =wo.heap[g3]?) (λ_ i _=>(f n).length-(intOf i).toNat)
    case atStart=>exact⟨0,zN _,rfl,HJ.o,rfl⟩
    case round=>
     obtain⟨k,hk,rfl,d,xR⟩:=hrel;have HK:=Z xR;have V:=Z d;clear xR d;by_cases Xl:k<(f n).length
     .obtain⟨x,u⟩:∃x,(f n)[k]? =H x:=⟨_,List.getElem?_eq_getElem Xl⟩;have hI3:VJ wr _ _:=hI.aC (λg' e=>by rw[<-ke e];exact HK.o);obtain⟨g4,d4,hg4,_,hc4⟩:=hI3.aS (i:=k) (x:=(x:Int)) (by simp[D8,u]);injection hg4 with e1 e2 e3;injection e1 with e1;injection e1 with e1;subst e1;obtain⟨fn,tmps,assign,body,hy,aPv⟩:=HR.o g3 k x wr V.o (by rw[o.o];exact u);have HX:=Z u;clear u e2 e3;gi_wp2
      refine⟨rfl,aPv.mono ?_⟩;rintro e W4 (⟨rfl,hJ4,Fs⟩|⟨rfl,aQZ⟩)
      .gi_wp2
       go_roundw
       case rel=>exact⟨k+1,by omega,by go_num,hJ4,Fs.ds HK.o⟩
       grind [intOf]
      .gi_wp2
       refine bodyPost_ret (results_none rfl _ _ _) rfl ?_;exact⟨⟨_,rfl⟩,g3,.inr ⟨k+1,by rw[o.o];omega,aQZ⟩⟩
     .gi_wp2
      refine bodyPost_end (results_none rfl _ _ _) rfl ?_;exact⟨⟨_,rfl⟩,g3,.inl (by rw[o.o,show(f n).length=k from by omega];exact V.o)⟩
   |cons x B=>
    simp only[Ct,kn];have jW:x∈f n:=by rw[w];simp
    have G:=yq.lT (z.wM jW);obtain⟨ga,bBr,oN,q⟩:=yq.NL G;obtain⟨hy0,hy1,hy2⟩:=CQ (yq.lZ q G) (z.OG n A x B w);have JK:=yq.c1;rw[oN]at JK;have oC:((D8 A).length+1)*8<=140737488355328:=by grind [FQ]
    have qP:(D8 A).length+1<=bH:=by grind [bH]
    have HF:=Z w;have Ga:=Z Le;clear w Le oN;have yt:N≠g3:=λe=>by have:=lt_of_block lC;have:=vm.size;omega
    have hbg:b≠g3:=λe=>by have:=lt_of_block F.cF;omega
    have hag:ga≠g3:=λe=>by have:=F.qK.lt ga q;omega
    clear q;gi_wp2_with (gi_at_builtin;refine OA wr rfl _ _ 50 rfl 3 i0 (mj mn 0) 1 8 underlying50 hi Wt S P rfl _ (D8 A).length _ hI (by rfl) [mj mn x] (by rfl) rfl rfl oC qP ?_;rintro v' w2 r hg hk ⟨g',cap',rfl⟩;have hd2:=hg.cell ou (λe=>by injection e with e;exact yt e);have TY:=hg.cell JK (λe=>by injection e with e;exact hbg e);have hy3:=hg.cell hy2 (λe=>by injection e with e;exact hag e))
    go_roundw
    case rel=>
     refine⟨A++[x],B,by rw[HF.o];simp,rfl,?_,Q.grown hg (λk e=> .inr (by grind [ke])),g',cap',by rw[FQ,zo,List.length_singleton],?_⟩
     .rw[Gw];exact VJ.yD r
     .rcases hk g' rfl with h'|h'
      .grind [ke]
      .have:=Q.size;omega
    case measure=>
     have:=Ga.o;grind [aFL,FQ]
def CS(b C L:Nat)(f:Nat->List Nat)(fp:List Nat)(n:Int)(W:aA)(g:Nat)(W1:aA):Prop:=
 ∃fp1,nU W1 b C L f fp1/\U W fp W1 fp1/\i7 W.heap<=g/\g∉fp1/\(0<O (told f n L)->g<i7 W1.heap)
theorem aAP{f:Nat->List Nat}(a B1:Nat)(n:Int)(W:aA)(q:nU W b C L f fp)(v:W.heap[a]? =H (kd #[lr (H ⟨b,0,K⟩)] 252 (0,0)))(z:W.heap[B1]? =H (kd #[mj mn n] 3 (0,0)))(y:a∉fp)(x:B1∉fp):
  bw prog 203 #[lr (H ⟨a,0,K⟩),lr (H ⟨B1,0,K⟩)] (λc:Nat=>#[mj mn c]) (told f n L) (CS b C L f fp n) W:=
 λl d w i p=>aFQ l a B1 n W d w q v z y x (λg W1 e F r A u m=>i g W1 ⟨e,F,r,A,u,m⟩) (λg k c W1 B j=>p g k c W1 B j)
def G7(w0:aA)(g N:Nat)(W:aA)(fp:List Nat):Prop:=
 (i7 w0.heap+1∉fp/\i7 w0.heap∉fp)/\i7 w0.heap+2<=i7 W.heap/\i7 w0.heap+2<=g/\g∉fp/\(0<N->g<i7 W.heap)
theorem G7.eU{W:aA}{N:Nat}(h:G7 w0 g N W fp)(a:U W fp W' fo)(l:0<N):
  ((W'.heap[i7 w0.heap+1]? =W.heap[i7 w0.heap+1]?/\W'.heap[i7 w0.heap]? =W.heap[i7 w0.heap]?)/\W'.heap[g]? =W.heap[g]?)/\G7 w0 g N W' fo:=by
 obtain⟨⟨d,c⟩,m,j,b,i⟩:=h;have e:=i l;have:=a.size;exact⟨⟨⟨a.block _ Y d,a.block _ Y c⟩,a.block _ e b⟩,⟨a.Bc Y d,a.Bc Y c⟩,Y,j,a.Bc e b,λ_=>Y⟩
theorem G7.putObj{W:aA}{N:Nat}(h:G7 w0 g N W fp)(l:Nat)(o:Obj):G7 w0 g N (W.putObj l o) fp:=by
 obtain⟨a,d,c,b,e⟩:=h;exact⟨a,by simp_all,c,b,by simp_all⟩
theorem G7.ne{W:aA}{N:Nat}(h:G7 w0 g N W fp):g≠i7 w0.heap+1:=kX h.2.2.1
theorem CS.jT{f:Nat->List Nat}{n:Int}{W:aA}(h:CS b C L f fp n W g W1)(hs:i7 W.heap=i7 w0.heap+2)(d:∀k,k∈fp->k<i7 w0.heap):
  ∃a,nU W1 b C L f a/\U W fp W1 a/\G7 w0 g (O (told f n L)) W1 a:=by
 obtain⟨a,e,c,l,j,i⟩:=h;have:=c.size;refine⟨a,e,c,⟨c.Bc Y (λh=>by have:=d _ h;omega),c.Bc Y (λh=>by have:=d _ h;omega)⟩,Y,Y,j,i⟩
theorem CS.aC{f:Nat->List Nat}{n:Int}{W:aA}(h:CS b C L f fp n W g W1)(hs:i7 W.heap=i7 w0.heap+2)(c:∀k,k∈fp->k<i7 w0.heap):
  W1.heap[i7 w0.heap+1]? =W.heap[i7 w0.heap+1]?/\W1.heap[i7 w0.heap]? =W.heap[i7 w0.heap]? :=by
 obtain⟨d,e,a,_⟩:=h;exact⟨a.block _ Y (λh=>by have:=c _ h;omega),a.block _ Y (λh=>by have:=c _ h;omega)⟩
end
variable{vm:Act->aA->Prop}
section
section
variable{P:cj}{ops:Array Oper}{bEr:Exit->Act->aA->Prop}{md:Region.Mode}{S:aA->Prop}{L l:Nat}
theorem Oj{o:Oper}(hd:∀c,o.op≠ .defer c)(h:o.wp P a w vm bEr):o.wpIn (Fence.wide.inRound l) 0 P a w vm bEr:=by
 refine⟨λ_ _=>trivial,?_⟩;rw[Oper.semAt_eq _ _ _ hd];unfold Oper.wp at h;generalize (execOp a.eval o).run P w=r at*;cases r with
 |ok x w'=>
  cases x<;>simp only[Oper.upon,Oper.uponIn]at h|-
  case enter=>exact⟨λhs=>(by cases hs),callsIn_wide.2 h⟩
  case row=>exact⟨λhs=>(by cases hs),λc cs _=>let ⟨v,w',r,s⟩:=h c cs;⟨v,w',r,stepsIn_wide.2 s⟩⟩
  all_goals exact h
 |halt x w'=>cases x<;>simp only[Oper.upon,Oper.uponIn]at h|-<;>exact h
theorem BW(hd:∀(j:Nat) (o:Oper),ops[j]? =H o->∀c,o.op≠ .defer c)(d:¬LetsOut bEr):∀(fuel:Nat) (listed:Array Bool) (a:Act) (w:aA),jC P md ops bEr S L fuel listed a w->wpAnyIn (Fence.wide.inRound l) 0 P md ops bEr fuel listed a w
 |0,_,_,_,h=>h
 |fuel+1,listed,a,w,h=>⟨h.1,λi p=>by
  have b:=h.2 i p;unfold wpOp at b;unfold wpOpIn;split
  .rename_i n;rw[n]at b;exact BW hd d fuel _ _ _ b.2
  .rename_i o g;rw[g]at b;simp only at b;split
   .rename_i e;rw[bW e]at b;rcases b with b|b
    .exact Oj (hd i o g) (Oper.wp_mono (λa' w' m=>BW hd d fuel _ a' w' m.2) b)
    .exact dY b.2 d
   .rename_i e;rw[R e]at b;exact⟨λ_ _=>trivial,BW hd d fuel _ _ _ b.2⟩⟩
def Op(ops:Array Oper):Bool:=ops.all λo=>match o.op with| .defer _=>rR|_=>qT
theorem Oo(h:Op ops=qT):∀(j:Nat) (o:Oper),ops[j]? =H o->∀c,o.op≠ .defer c:=λj o e c b=>by
 unfold Op at h;rw[Array.all_eq_true]at h;let⟨a,d⟩:=Array.getElem?_eq_some_iff.1 e;have:=h j a;rw[d,b]at this;cases this
theorem Gh(L:Nat)(S:aA->Prop)(c:P.follows .mixedOrders=qT)(hd:Op ops=qT)(b:¬LetsOut bEr)(d:S w.drew)(h:S w.drew->jC P .any ops bEr S L ops.size (Lf ops.size rR) a w.drew):(Code.region id ops qT).wpIn (Fence.wide.inRound l) 0 P bEr a w:=
 wpIn_region_any c (BW (Oo hd) b _ _ _ _ (h d))
end
end
variable{Th:List mT}{K':List Nat}{dX:bC}{w1 w2:aA}
section
attribute [local go_sem] Oper.semAt_some
theorem Zj:kD prog 46 34 1 24:= .QZ (z:=cR) underlying46 dJ rfl
structure be(w:aA)(ρ:bC)(β t:Nat)(L:JW)(m:iM)(aT:List Row)(oc bx:Nat)(w3:aA)(N g k:Nat)(W:aA)(gL:bC)(ov:aE)(cG:List aE):Prop where
 fK:bI w ρ (eX β) W gL
 st:iW W gL β L m rR (jS K 0 0)
 och:W.heap[oc]? =H (kd #[ov] 46 (0,0))
 bxh:W.heap[bx]? =H (kd #[lr (H ⟨L.b,0,K⟩)] 181 (0,0))
 ocn:i7 w.heap<=oc
 aTa:gL oc=β+7
 aFG:gL (i7 w3.heap+1)=β+7/\gL w3.heap.size=β+7
 cZ:pI GA undef 34 1 W gL (β+7) ov cG
 Vo:∀b,i6 ov=H b->i7 w.heap<=b
 aAQ:O cG=k
 aT:∀i,i<k->lW dV aR 3 W gL t (hJ cG i undef) (hJ aT i [])
 bes:G7 w3 g N W (oc::ov.ownBlock.toList)
 aQq:bx<i7 w3.heap/\oc<i7 w3.heap/\bx≠oc
section
variable{w:aA}{ρ:bC}{β t:Nat}{L:JW}{m:iM}{aT:List Row}{oc bx:Nat}{w3:aA}{N g k:Nat}{W W':aA}{gL:bC}{ov:aE}{cG:List aE}
theorem be.putObj(h:be w ρ β t L m aT oc bx w3 N g k W gL ov cG)(p:∀c,c<20->t≠β+c)(l:Nat)(hl:l=i7 w3.heap+1\/l=i7 w3.heap)(C:i7 w.heap<=i7 w3.heap)(o:Obj):be w ρ β t L m aT oc bx w3 N g k (W.putObj l o) gL ov cG:=by
 have a:U W [l] (W.putObj l o) [l]:=(U.refl W [l]).putObj (.inl J) o;have u:gL l=β+7:=by rcases hl with rfl|rfl;exact h.aFG.1;exact h.aFG.2
 have j:bI W gL (·=β+7) (W.putObj l o) gL:=a.qO (λk d=> .inl (by rw[show k=l by simpa using d];exact u));have n:l∉oc::ov.ownBlock.toList:=by rcases hl with rfl|rfl;exact h.bes.1.1;exact h.bes.1.2
 have z:l≠oc:=λe=>n (by rw[e];simp);have B:=h.aQq;have q:bI w ρ (eX β) (W.putObj l o) gL:=by
  refine⟨h.fK.os,h.fK.tape,h.fK.output,by rw[World.putObj_size];exact h.fK.size,λk d v=> ?_,h.fK.cE⟩;rw[World.putObj_heap_other Y];exact h.fK.block k d v
 exact⟨q,h.st.aM0 j (λc _ y e=>y Y),a.aC h.och (by simpa using λe=>z e.symm),a.aC h.bxh (by simp;omega),h.ocn,h.aTa,h.aFG,h.cZ.eU a (λb r x=>n (by rw[show l=b from(by simpa using x:b=l).symm];simp[r])),h.Vo,h.aAQ,λi A=>(h.aT i A).eb j (λe=>p 7 E e),h.bes.putObj l o,h.aQq⟩
end
theorem bI.bJ{w:aA}{ρ:bC}{S:Nat->Prop}{vm:List Nat}(h:bI w ρ S w1 dX)(a:U w1 vm w2 K')(hK:∀b,b∈vm->i7 w.heap<=b)(t:Nat):bI w ρ S w2 (up w1 t dX):=
 ⟨a.os.ds h.os,a.tape.ds h.tape,a.output.ds h.output,j8 h.size a.size,λk c d=>(a.block k (xF c h.size) (λe=>dY (hK k e) Y)).ds (h.block k c d),λk c=>(fG (xF c h.size)).ds (h.cE k c)⟩
def aHU(w:aA)(ρ:bC)(β t:Nat)(L:JW)(m:iM)(aT:List Row)(e:cc)(w':aA):Prop:=
 ∃bV v,e=mi v/\bI w ρ (eX β) w' bV/\iW w' bV β L m rR (jS K 0 0)/\QO w' bV (β+7) t v aT
theorem Us{w:aA}{ρ:bC}{β t:Nat}{L:JW}{m:iM}{es:List mT}(h:iW w ρ β L m rR (jS K 0 0))(hT:jY m es F G)(n:Int)(Pp:told m.nM n (m.aH*m.bQ+1)=Th.map (eL m lane))(hl:lane<m.bQ)(GU:∀e∈Th,e∈es)(V:O Th<=65536)(ht:∀c,c<20->t≠β+c):
  aK prog 132 #[lr (H ⟨L.b,0,K⟩),mj mn n] w (aHU w ρ β t L m (Th.map (·.1))):=by
 obtain⟨wa,dM⟩:=D (i5 w (kd #[lr (H ⟨L.b,0,K⟩)] 181));have cV:=Za dM;have kI:wa.heap[i7 w.heap]? =H (kd #[lr (H ⟨L.b,0,K⟩)] 181 (0,0)):=by grind [heap_alloc_new]
 have hsa:i7 wa.heap=i7 w.heap+1:=by rw[<-dM];simp
 obtain⟨wb,qG⟩:=D (i5 wa (kd #[jS K 0 0] 46));have oD:=Za qG;have VB:wb.heap[i7 wa.heap]? =H (kd #[jS K 0 0] 46 (0,0)):=by grind [heap_alloc_new]
 obtain⟨bx,mJ⟩:=D (i7 w.heap);obtain⟨oc,hoc⟩:=D (i7 wa.heap);have hU:=cV.ds oD;have lC:=oD.aC kI (by simp);have hS:=h.on hU;have y:=hS.kW.cF;have b10:=Zc y 10;rw[mJ]at lC;rw[hoc]at VB;have x0:=Zc lC 0;have y0:=Zc VB 0;have hsb:i7 wb.heap=oc+1:=by rw[<-qG];simp[hoc]
 have aBb:oc=bx+1:=by omega
 obtain⟨fp,hC0,hfp⟩:=h.nM;have R3:=hC0.lt;have H0:=Z h;have HC0:=Z hC0;have HFP:=Z hfp;have v:=Z R3;have HT:=Z hT;have HU:=Z hU;have Tu:=Z lC;have HOC:=Z VB;have Rz:=Z Pp;have BS:=Z ht;have a4Y:=Z GU;have U5:=Z hl;have QQ:=Z (And.intro hsb (And.intro aBb (And.intro mJ V)));refine(callsIn_wide (n:=0)).1 ?_;refine callsIn_of_wp_marks func132 rfl trivial ?_ rfl;simp only[ntmps132,Bk,B4,Dc,F6,H3,yo,y',B0,zb,El,B5];clear h hT Pp hl GU V ht cV kI hsa oD VB hU lC hS y hsb aBb hC0 hfp R3;gi_wp2_with fail
 refine⟨trivial,rfl,?_⟩;refine(callsIn_wide.2 (aDt L.ob n wb)).mono ?_;rintro e w3 ⟨rfl,jA⟩;have cW:U wb [] w3 []:=by rw[jA];exact((U.refl wb []).alloc _).alloc _
 have lC:w3.heap[i7 wb.heap]? =H (kd #[lr (H ⟨L.ob,0,K⟩)] 252 (0,0)):=by grind [lP]
 have fR:w3.heap[i7 wb.heap+1]? =H (kd #[mj mn n] 3 (0,0)):=by grind [lO]
 have aUA:i7 w3.heap=i7 wb.heap+2:=by rw[jA];simp
 have U7:=Z lC;have j7:=Z fR;have iF:=Z (HU.o.ds cW);have a4n:=Z (cW.aC HOC.o (by simp));have a5e:=Z (cW.aC Tu.o (by simp));have QP:=Z aUA;have HC3:=Z (HC0.o.eU iF.o (λ_ _ h=>by cases h));clear x0 y0 b10 jA cW lC fR aUA;gi_wp2_with fail
 have HFW:dT (∀x,x∈fp->x<i7 w3.heap):=Z λx hx=>by
  obtain⟨n1,n2,n3,n4⟩:=QQ.o;have n5:=QP.o;have:=v.o x hx;omega
 refine aAq rfl (enters_of func203 (by kernel_rfl) rfl) (λ_=>rfl)
  (λfn=>aAP wb.heap.size (i7 wb.heap+1) n _ (HC3.o.eU wQ (λ_ _ h=>by cases h)) (wQ.aC U7.o (λh=>by cases h)) (wQ.aC j7.o (λh=>by cases h)) (λh=>by have:=v.o _ h;have:=QQ.o;omega) (λh=>by have:=v.o _ h;have:=QQ.o;omega))
  (λfn g W1 hS=>hS.aC JP HFW.o)
  (λg k W=>∃gL ov cG,be w ρ β t L m (Th.map (·.1)) oc bx w3 (O (told m.nM n (m.aH*m.bQ+1))) g k W gL ov cG) (λ_ _ _ _=>False)
  (λg k W ⟨_,_,_,hB⟩=>hB.bes.ne) ?stab (λ_ _ _ _ _ h=>h) ?start ?a1 ?assign ?body ?done (λ_ _ _ _ _ h=>h.elim)
 case stab=>
  rintro g k W o ⟨gL,ov,cG,p⟩;exact⟨_,_,_,p.putObj BS.o _ (.inl rfl) (by have:=QQ.o;have:=QP.o;omega) o⟩
 case start=>
  suffices gP:∀(We:aA) (g:Nat) (W1:aA),U w3 [] We []->i7 We.heap=i7 w3.heap+2->CS L.ob (m.aH*m.bQ) (m.aH*m.bQ+1) m.nM fp n We g W1->∃gL ov cG,be w ρ β t L m (Th.map (·.1)) oc bx w3 (O (told m.nM n (m.aH*m.bQ+1))) g 0 W1 gL ov cG from λfn g W1 hS=>gP _ g W1 wQ JP hS
  intro We g W1 WP V5 hS;obtain⟨n1,n2,n3,n4⟩:=QQ.o;have n5:=QP.o;have hfw:=HFW.o;obtain⟨fp1,Qu,cT,hB⟩:=hS.jT V5 hfw;have pw:=iF.o.ds WP;have hM0:bI w ρ (λ_=>False) We (up w.heap.size (β+7) ρ):=pw.fK (S:=λ_=>False) (β+7) (λ_ h=>absurd h (by simp));have hSe:=H0.o.eb hM0 (λ_ _ h=>h);have F8:=Ek (HC0.o.eU pw (λ_ _ h=>by cases h)) (t:=β+5) (ρ:=up w.heap.size (β+7) ρ) (λk q=>by rw[fG (v.o k q)];exact HFP.o k q) Qu cT;have YL:=hSe.Ai F8.1 F8.2;refine⟨_,jS K 0 0,[],(hM0.aL (T:=eX β) (λ_ h=>h.elim)).ds (F8.1.zH (by decide)),YL,?_,?_,by omega,?_,⟨?_,?_⟩,pI.nil _ _ _,(λb y=>by cases y),rfl,(λi hi=>by omega),?_,⟨by omega,by omega,by omega⟩⟩
  .exact cT.aC (WP.aC a4n.o (by simp)) (λz=>by have:=v.o _ z;omega)
  .exact cT.aC (WP.aC a5e.o (by simp)) (λz=>by have:=v.o _ z;omega)
  .grind [fG,cY]
  .grind [fG,cY]
  .grind [fG,cY]
  .obtain⟨b1,b2,b3,b4,b5⟩:=hB;refine⟨⟨?_,?_⟩,b2,b3,?_,b5⟩<;>simp[i6]<;>omega
 case assign=>
  intro x W vm hK;gi_wp2
  exact hK
 case body=>
  rintro g k c W ⟨gL,ov,cG,p⟩ hx;have OJ:0<O (told m.nM n (m.aH*m.bQ+1)):=by grind
  rw[Rz.o,List.getElem?_map,Option.map_eq_some_iff]at hx;obtain⟨⟨r,i⟩,he,hce⟩:=hx;have z:=a4Y.o _ (List.mem_of_getElem? he);have Xl:k<O Th:=(List.getElem?_eq_some_iff.1 he).1;have hrk:hJ (Th.map (·.1)) k []=r:=by grind
  obtain⟨N,l,rfl,-⟩:=p.cZ.len;have XI:=p.aAQ;have hc:=p.och;have y:=p.bxh;have y0:=Zc hc 0;have x0:=Zc y 0;have d:=Z p;have HM:=Z z;have a4h:=Z OJ;have HRK:=Z hrk;have rF:=Z (show O cG<65536 by have:=QQ.o;omega);have HCE:=Z (show(c:Int)=((i*m.bQ+lane:Nat):Int)from congrArg Int.ofNat hce.symm);have Tm:=Z XI;clear p z OJ hrk hc y he hce Xl XI;gi_wp2_with fail
  refine Gh 6 (λw'=>h8 w' ⟨oc,0,K⟩=H (jS N (O cG) l)/\h8 w' ⟨bx,0,K⟩=H (lr (H ⟨L.b,0,K⟩))) (by kernel_rfl) (by kernel_rfl) (by rintro⟨a,w,hf⟩;exact hf) ⟨y0,x0⟩ (λQ=> ?_);clear y0 x0;obtain⟨wd,fF⟩:=D (W.drew);have pH:U W [] wd []:=fF▸(U.refl W []).drew;rw[fF]at Q|-;have O4:=Z pH;have HSd:=Z (d.o.st.on pH);clear fF pH;refine ek [0,1,2] ?_;refine Zo 3 λvm hK=> ?_;go_simp;go_at_call 177;refine(aJC (lane:=lane) HSd.o HT.o HM.o U5.o _ HCE.o).mono ?_;rintro e w4 ⟨u,rfl,hO,eJ⟩;obtain⟨ua,uc,rfl,-⟩:=hO.len;dsimp only;obtain⟨tK,P⟩:=Q;have Q:=And.intro ((eJ).cell tK (by simp)) ((eJ).cell P (by simp));clear tK P;have IR:=Q;have aVa:=O4.o.ds eJ;have C:bI W gL (λ_=>False) w4 (up wd.heap.size t gL):=(O4.o.fL).ds (eJ.fK (S:=λ_=>False) t (λ_ h=>absurd h (by simp)));have hK4:=(hO.jR t gL).rd;have Qi:=d.o.st.eb C (λ_ _ h=>h);have hW4:=d.o.cZ.eb C (λh=>h);have Sb:=Z (C.aC d.o.och (λh=>h));have HX4:=Z (C.aC d.o.bxh (λh=>h));have aXV:=Z (λi (hi:i<k)=>(d.o.aT i hi).eb C (λh=>h));have aXj:=Z (d.o.fK.ds (C.aL (T:=eX β) (λ_ h=>h.elim)));have s:=Z (And.intro ((C.cE oc (lt_of_block d.o.och)).ds d.o.aTa) (And.intro ((C.cE _ (by have:=d.o.bes.2.1;omega)).ds d.o.aFG.1) ((C.cE _ (by have:=d.o.bes.2.1;omega)).ds d.o.aFG.2)));have aXI:=Z aVa;obtain⟨G8,Hk⟩:=D (up wd.heap.size t gL);rw[Hk]at hK4 Qi hW4 aXV aXj s;have HK4:=Z hK4;have Y1:=Z Qi;have A:=Z hW4;clear eJ aVa C hK4 Qi hW4 Hk hO;refine Zk hK Q ?_;clear hK vm;refine Zo 4 λvm hK=> ?_;go_simp;have nY:U w4 [] (i5 w4 (kd #[jS ua (O r) uc] 34)) []:=(U.refl w4 []).alloc _;obtain⟨tK,P⟩:=Q;have Q:=And.intro ((nY).cell tK (by simp)) ((nY).cell P (by simp));clear tK P;refine Zk hK Q ?_;clear hK vm;refine Zo 5 λvm hK=> ?_;obtain⟨g6,c6,w6,dK,nR,-,JL,-⟩:=iT (ty:=46) (news:=[jS ua (O r) uc]) (T:=34) Zj (by omega) (A.o.cZ w4) (OB w4) (vW _) (zN _) (jS ua (O r) uc:aE) rfl (dE rfl) (λj hj=>rfl) (by have:=rF.o;omega) (by have:=rF.o;unfold bH;omega);refine dL _ _ rfl (by rfl) (by rfl) dK ?_;have Q:=IR;have fX:oc∉(jS N (O cG) l).ownBlock.toList:=λz=>A.o.ne Sb.o (by decide) (by simpa using z);have Lc:bx∉(jS N (O cG) l).ownBlock.toList:=λz=>A.o.ne HX4.o (by decide) (by simpa using z);obtain⟨tK,P⟩:=Q;have Q:=And.intro ((JL).cell tK (fX)) ((JL).cell P (Lc));clear tK P;have f:=JL.aC Sb.o fX;have Hx:=JL.aC HX4.o Lc;have bf:=aN f;have bl:=iP (lt_of_block f);have NH:=Z fX;have HO6:=Z f;have Tl:=Z Hx;have AZ:=Z (nR.ON A.o JL);have B:=Z JL;clear dK nR JL nY IR fX Lc f Hx;refine Zk hK Q ?_;clear hK vm;refine Zo 6 λvm hK=> ?_;go_simp;refine Zl hK ?_;clear hK vm;clear Q bf bl;obtain⟨w7,vV⟩:=D (hY w6 ⟨oc,0,K⟩ (jS (H ⟨g6,0,K⟩) (O cG+1) c6));have rT:U w6 [oc] w7 [oc]:=vV▸(U.refl w6 [oc]).setCell (a:=⟨oc,0,K⟩) (.inl (by simp)) _;have hO7:w7.heap[oc]? =H (kd #[jS (H ⟨g6,0,K⟩) (O cG+1) c6] 46 (0,0)):=by rw[<-vV,aF _ HO6.o];rfl
  rw[vV];have a2Y:=d.o.aQq;have hW:=d.o.bes.2.1;have Ll:U W (oc::(jS N (O cG) l).ownBlock.toList) w7 (oc::(jS (H ⟨g6,0,K⟩) (O cG+1) c6).ownBlock.toList):=by
   have u1:U W (oc::(jS N (O cG) l).ownBlock.toList) w4 (oc::(jS N (O cG) l).ownBlock.toList):=(aXI.o.aL (λ_ h=>by cases h)).to (λ_ h=> .inl h);have u2:U w4 (oc::(jS N (O cG) l).ownBlock.toList) w6 (oc::[g6]):=(B.o.aL (λk q=>EB _ q)).to (λk q=>by
    rcases List.mem_cons.1 q with rfl|q
    .grind
    .exact(B.o.fresh k q).imp (EB _) id)
   exact(u1.ds u2).ds ((rT.aL (T:=oc::[g6]) (λk q=>by simp at q;simp[q])).to (λk q=> .inl (by grind [i6])))
  obtain⟨⟨⟨h1,h2⟩,h3⟩,h4⟩:=d.o.bes.eU Ll a4h.o;have aMh:∀b,b∈(jS N (O cG) l).ownBlock.toList->i7 w.heap<=b:=λb y=>d.o.Vo b (by simpa using y);have a2y:bI w4 G8 (·=β+7) w6 (up w4.heap.size (β+7) G8):=A.o.fK (v':=jS (H ⟨g6,0,K⟩) (O cG+1) c6) B.o rfl;have ho4:oc<i7 w4.heap:=lt_of_block Sb.o;have a1K:up w4.heap.size (β+7) G8 oc=β+7:=(fG ho4).ds s.o.1;have aBv:bI w6 (up w4.heap.size (β+7) G8) (·=β+7) w7 (up w4.heap.size (β+7) G8):=rT.qO (λk q=> .inl (by grind));have aQQ:=a2y.ds aBv;have hs4:i7 w3.heap+2<=i7 w4.heap:=by have:=aXI.o.size;omega
  refine⟨⟨h1,h2⟩,h3,up w4.heap.size (β+7) G8,_,cG++[jS ua (O r) uc],?_,Y1.o.aM0 aQQ (λc _ h7 e=>h7 (by omega)),hO7,rT.aC Tl.o (by simp;omega),d.o.ocn,a1K,⟨?_,?_⟩,?_,?_,by rw[zo,Tm.o];rfl,?_,h4,a2Y⟩
  .rw[<-vV];exact(aXj.o.bJ B.o aMh (β+7)).setCell (a:=⟨oc,0,K⟩) (.inr d.o.ocn) _
  .rw[fG (by omega)];exact s.o.2.1
  .rw[fG (by omega)];exact s.o.2.2
  .refine AZ.o.eU rT (λb y z=>AZ.o.ne HO6.o (by decide) ?_);rw[y,show b=oc by simpa using z]
  .intro b y;rcases B.o.fresh b (by grind [i6])with h'|h'
   .exact aMh b h'
   omega
  .intro j hj;rw[iZ,Tm.o];by_cases e:j=k
   .subst e;rw[if_pos rfl,HRK.o];exact HK4.o.eb aQQ (λe=>BS.o 7 (by decide) e)
   .rw[if_neg e];exact(aXV.o j (by omega)).eb aQQ (λe=>BS.o 7 (by decide) e)
 case done=>
  rintro g W ⟨gL,ov,cG,p⟩ hK;obtain⟨N,l,rfl,-⟩:=p.cZ.len;have rU:=p.putObj BS.o w3.heap.size (.inr rfl) (by have:=QQ.o;have:=QP.o;omega) (.deferred K);have hc:=p.och;have y0:=Zc hc 0;have d:=Z p;have HK:=Z hK;have II:=Z rU;clear p hK rU hc;gi_wp2_with fail
  refine⟨by simp,.inl ⟨_,_,rfl,run_takeDeferred HK.o,?_⟩⟩;refine⟨_,results_tmp rfl _ _ _,?_⟩;refine⟨gL,_,rfl,II.o.fK,II.o.st,cG,?_,II.o.cZ,λi hi=>II.o.aT i ?_⟩
  .rw[II.o.aAQ,Rz.o];simp
  .rw[Rz.o];simpa using hi
end
variable{gP:Row}{kv:aE}
def aHV(w:aA)(ρ:bC)(β b t wd aH:Nat)(gs:List (List Nat))(aT:List Row)(F G:Nat)(out:List Row)(e:cc)(w':aA):Prop:=
 ∃bV v,e=mi v/\bI w ρ (eX β) w' bV/\L6 w' bV β b wd aH gs aT F G/\QO w' bV (β+7) t v out
theorem aJA{t wd:Nat}(h:L6 w ρ β b wd aH gs aT F G)(l:∀c,c<20->t≠β+c):
  aK prog 85 #[lr (H ⟨b,0,K⟩)] w (aHV w ρ β b t wd aH gs aT F G aT):=by
 obtain⟨L,m,ks,es,rfl,a,d,g,rfl,rfl,rfl,rfl⟩:=h;have r:told m.nM 0 (m.aH*m.bQ+1)=es.map (eL m 0):=by
  unfold told;rw[R (by unfold sE;omega)];exact g.ord0
 have u:=d.KZ;have x:=a.kW.kw;have p:=(Us a d 0 r (by unfold iM.bQ;omega) (λ_ h=>h) Y l);have i:=Z g;go_in;go_wp2_with (go_at_call 132;apply p.cX;rintro e w1 ⟨dX,v,rfl,j,a,n⟩;have q:=Z a);go_ret;exact⟨dX,_,rfl,j,⟨L,m,ks,es,rfl,q,d,i,rfl,rfl,rfl,rfl⟩,n⟩
theorem aA4{k:Nat}{L:JW}{m:iM}(h:fq w ρ β L m mk uv)(a:k<O m.gs):
  aK prog 207 #[lr (H ⟨L.b,0,K⟩),mj mn k] w λe w'=>e=mi (nj rR)/\w=w':=by
 have c:=h.cF;have l:=h.oE;have d:=Zc c 3;generalize i:O m.gs=n at a d;have j:(k:Int)<(n:Int):=Y;have g:¬((k:Int)<0):=Y;have p:¬((n:Int)<=(k:Int)):=Y;exact ZM184
theorem DS(p:Row->Bool):∀es:List mT,(es.filter λe=>p e.1).map (·.1)=(es.map (·.1)).filter p
 |[]=>rfl
 |e::es=>by
  rw[oq,KR,oq];split
  .rw[KR,DS p es]
  .exact DS p es
theorem aEL{t wd k:Nat}(h:L6 w ρ β b wd aH gs aT F G)(i:k<O gs)(hv:fM dV aR 3 w kv gP)(C:CE gP)(W:∀c,c<20->t≠β+c):
  aK prog 178 #[lr (H ⟨b,0,K⟩),mj mn k,kv] w λe w'=>∃T,e=(match T with|mi v=>mi (mr #[v,mj mn 0])|x=>x)/\aHV w ρ β b t wd aH gs aT F G (aT.filter λr=>decide (dF r (hJ gs k [])=gP)) T w':=by
 obtain⟨L,m,ks,es,rfl,a,z,g,rfl,rfl,rfl,rfl⟩:=h;have SO:=a.kW.kw;have GZ:=z.KZ;have o:=a.kW.yA;have rQ:=a.kW.oE;have Q:told m.nM (m.cB k gP) (m.aH*m.bQ+1)=(es.filter λe=>decide (cQ m k e.1=gP)).map (eL m (k+1)):=by
  unfold iM.cB;split
  .rename_i q;have A:dU gP:=⟨q.2,λx q=>(C.2 x q).2⟩;by_cases vm:gP∈ks k
   .let⟨n,h1,h2,h3⟩:=g.grp1 k gP i vm;have aY:=xF (lQ h2) g.wf.len;rw[g.aH]at aY;rw[h1];unfold told;rw[R (by simp only[O8];unfold sE;omega)];simp only[O8];rw[show((n:Int)+1).toNat=n+1 from by omega,h3]
   .rw[g.aJm o i A vm];unfold told;rw[bW (by simp only[Option.getD_none];unfold sE;omega)];have:(es.filter λe=>decide (cQ m k e.1=gP))=[]:=zdE.2 λe j u=>vm ((g.ksE k gP i).2 ⟨e,j,by simpa using u⟩);rw[this];rfl
  .rename_i q;unfold told;rw[bW (by unfold sE;omega)];have:(es.filter λe=>decide (cQ m k e.1=gP))=[]:=zdE.2 λe j u=>by
    have u:cQ m k e.1=gP:=eP u;have A:=z.good e.1 e.2 j;have S:=mO o A.1 A.2 i;rw[u]at S;exact q ⟨S.2,S.1.1⟩
   rw[this];rfl
 have d:O (es.filter λe=>decide (cQ m k e.1=gP))<=65536:=j8 (zdG _ _) Y;have l:=DS (λr=>decide (cQ m k r=gP)) es;have y:=Z (jd k a i hv C);let⟨N,hN⟩:=D (m.cB k gP);rw[hN]at Q y;have Rz:=Z Q;have HT:=Z z;have HL:=Z g;have BS:=Z W;have dk:=Z d;have B:=Z l;have P:=Z (show k+1<m.bQ by unfold iM.bQ;omega);have f:=Z (aA4 a.kW i);obtain⟨va,vc,rfl,-⟩:=hv.len;clear a z g SO GZ o rQ Q d l W hv C i hN;go_in;go_wp2_with (first|(go_at_call 207;apply f.o.dC;rintro w1 rfl)|(go_at_call 208;apply y.o.cX;rintro e w2 ⟨fD,rfl,p,a⟩;have EE:=Z p;have tF:=Z a;clear p a)|(go_at_call 132;apply(Us tF.o HT.o N Rz.o P.o (λe j=>(LC.1 j).1) dk.o BS.o).cX;rintro e w3 ⟨mI,v,rfl,p,a,hR⟩;have wH:=Z (EE.o.ds p);have E3:=Z a;have V:=Z hR;clear p a hR));go_ret2;refine⟨mi _,rfl,mI,_,rfl,wH.o,⟨L,m,ks,es,rfl,E3.o,HT.o,HL.o,rfl,rfl,rfl,rfl⟩,?_⟩;rw[B.o]at V;exact V.o
variable{yR:List aE}{bV:bC}{x4 x5 x6 x7 y10 y8 y9:aE}
section
theorem aW9:kD prog 250 249 1 8:= .QZ (z:=lr K) underlying250 dJ rfl
def N3(xA aH:Nat)(gs:List (List Nat)):iM where
 bT:=xA
 aH:=aH
 gs:=gs
 bG:=⟨aH,1073741824,[],[],0⟩
 bZ:=⟨aH*(O gs+1),1073741824,[],[],0⟩
 lJ:=λ_=>K
 rc:=0
 fP:=λ_=>K
 lc:=0
 wX:=λ_=>K
 wc:=0
 sB:=λ_ _=>K
 gc:=λ_=>0
 nM:=λ_=>[]
 row:=λ_=>[]
theorem In(aH F G:Nat):R6 (⟨aH,1073741824,[],[],0⟩:nV aE) F G:=by
 refine⟨O9 _,zn,λi=> ?_,rfl,λi _=> ?_,λi a=> ?_⟩
 .simp
 .simp[nV.kF]
 .simp[nV.dP]at a
theorem aGr(xA aH:Nat)(gs:List (List Nat))(F G:Nat):jY (N3 xA aH gs) [] F G where
 wf:=In _ _ _
 aH:=rfl
 jE:=rfl
 aM:=rfl
 KZ:=O9 _
 dP:=λi=>by simp[N3,nV.dP]
 row:=λ_ _ h=>by cases h
 dD:=zn
 good:=λ_ _ h=>by cases h
 lJ:=λi=>by simp[N3,nV.dP]
 rc:=rfl
 wher1:=λ_ _ h=>by cases h
 wher0:=λ_ _=>rfl
 wc:=rfl
theorem aGs(xA aH:Nat)(gs:List (List Nat))(F G:Nat):eM (N3 xA aH gs) (λ_=>[]) (λ_=>[]) F G where
 wf:=In _ _ _
 aH:=rfl
 jE:=rfl
 ord0:=rfl
 grp1:=λ_ _ _ h=>by cases h
 ksE:=λ_ _ _=>J
 dD:=λ_=>zn
 grp0:=λ_ _ _ _=>rfl
 gc:=λ_ _=>rfl
 inj:=λ_ _ _ _ _ _ _ h _=>by cases h
 cZ:=λn h=>by simp[N3,nV.dP]at h
 aM:=O9 _
 JQ:=λ_ _=>rfl
 fP:=λn=>by simp[N3,nV.dP]
 lc:=rfl
 goodE:=λ_ _ _ h=>by cases h
 vN:=λ_ _=>zn
 oE:=λ_ _=>O9 _
structure Ez(w:aA)(ρ:bC)(β b:Nat)(kW:Array aE)(wx:aA)(gL:bC):Prop where
 eU:U w [b] wx [b]
 BD:∀k,k<i7 w.heap->gL k=ρ k
 cF:wx.heap[b]? =H (kd kW 255 (0,0))
 cE:gL b=β
section
variable{w wx wy:aA}{ρ gL:bC}{β b:Nat}{kW:Array aE}
theorem Ez.new(h:Ez w ρ β b kW wx gL)(a:U wx [] wy [])(t:Nat):Ez w ρ β b kW wy (up wx t gL)/\bI wx gL eZ wy (up wx t gL):=
 ⟨⟨h.eU.ds ((a.aL (λ_ h=>by cases h)).to (λ_ h=> .inl h)),λk c=>(fG (xF c h.eU.size)).ds (h.BD k c),a.aC h.cF J,(fG (dG h.cF)).ds h.cE⟩,a.fK (S:=eZ) t (λ_ h=>dY h J)⟩
theorem Ez.set(h:Ez w ρ β b kW wx gL)(i:Nat)(v:aE):Ez w ρ β b (kW.setIfInBounds i v) (hY wx ⟨b,i,K⟩ v) gL/\bI wx gL (·=β) (hY wx ⟨b,i,K⟩ v) gL/\U wx [b] (hY wx ⟨b,i,K⟩ v) [b]:=
 ⟨⟨h.eU.setCell (a:=Ad b i) (.inl J) v,h.BD,aF _ h.cF,h.cE⟩,(bI.refl wx gL _).setCell (a:=Ad b i) (.inl h.cE) v,qX wx b i v⟩
end
abbrev WI(xA aH n:Nat)(ga:Option cg)(sC:Nat)(x4 x5 x6 x7 x8 x9 Gf:aE)(mk:Bool)(uv:aE):Array aE:=
 #[mj mn xA,mj mn aH,mj mn (n+1:Nat),jS ga n sC,x4,x5,x6,x7,x8,x9,Gf,nj mk,uv]
def aC5(w:aA)(ρ:bC)(t M:Nat):Prop:=gM w 3 M (λ_=>K) 0/\ρ M=t
theorem aC5.eb{w:aA}{ρ:bC}{t M:Nat}{S:Nat->Prop}(h:aC5 w ρ t M)(a:bI w ρ S w' bV)(b:¬S t):aC5 w' bV t M:=⟨h.1.eb a (h.2▸b),(a.cE _ h.1.lt).ds h.2⟩
def aWq(w:aA)(ρ:bC)(β b xA aH:Nat)(gs:List (List Nat))(mk:Bool)(uv:aE)(e:cc)(w':aA):Prop:=
 ∃bV L,e=mi (mr #[])/\L.b=b/\U w [b] w' [b]/\(∀k,k<i7 w.heap->bV k=ρ k)/\iW w' bV β L (N3 xA aH gs) mk uv
theorem W8(w:aA):(Instr.makeMap 248 K).run prog w= .ok (.map (H w.heap.size)) (w.alloc (.map #[] 0)):=rfl
structure XX(w:aA)(ρ:bC)(β b xA aH n:Nat)(ga:Option cg)(sC sb rm wb:Nat)(x8 x9 Gf:aE)(mk:Bool)(uv:aE)(j:Nat)(ha:Option cg)(jD:Nat)(XR:List Nat)(wx:aA)(gL:bC):Prop where
 p:Ez w ρ β b (WI xA aH n ga sC (lr (H ⟨sb,0,K⟩)) (.map (H rm)) (lr (H ⟨wb,0,K⟩)) (jS ha j jD) x8 x9 Gf mk uv) wx gL
 sl:BV wx gL (β+1) sb ⟨aH,1073741824,[],[],0⟩
 rm:aC5 wx gL (β+2) rm
 wh:Ix wx gL (β+8) wb aH (λ_=>K) 0
 cZ:pI Zd 0 249 1 wx gL β (jS ha j jD) XR
 len:O XR=j
 Vo:∀g,i6 (jS ha j jD)=H g->i7 w.heap<=g
 ix:∀i,i<j->Ix wx gL (β+10+2*i) (hJ XR i 0) aH (λ_=>K) 0
section
variable{w wx wy:aA}{ρ gL:bC}{β b xA aH n sC sb rm wb j jD:Nat}{ga ha:Option cg}{x8 x9 Gf uv:aE}{mk:Bool}{XR:List Nat}
theorem XX.new(h:XX w ρ β b xA aH n ga sC sb rm wb x8 x9 Gf mk uv j ha jD XR wx gL)(a:U wx [] wy [])(t:Nat):XX w ρ β b xA aH n ga sC sb rm wb x8 x9 Gf mk uv j ha jD XR wy (up wx t gL):=by
 let⟨p,m⟩:=h.p.new a t;exact⟨p,h.sl.eb m id,h.rm.eb m id,h.wh.eb m id id,h.cZ.eb m id,h.len,h.Vo,λi c=>(h.ix i c).eb m id id⟩
theorem XX.on(h:XX w ρ β b xA aH n ga sC sb rm wb x8 x9 Gf mk uv j ha jD XR wx gL)(a:U wx [] wy []):XX w ρ β b xA aH n ga sC sb rm wb x8 x9 Gf mk uv j ha jD XR wy gL:=by
 have m:bI wx gL eZ wy gL:=a.fL;exact⟨⟨h.p.eU.ds ((a.aL (λ_ h=>by cases h)).to (λ_ h=> .inl h)),h.p.BD,a.aC h.p.cF J,h.p.cE⟩,h.sl.eb m id,h.rm.eb m id,h.wh.eb m id id,h.cZ.eb m id,h.len,h.Vo,λi c=>(h.ix i c).eb m id id⟩
theorem XX.set(h:XX w ρ β b xA aH n ga sC sb rm wb x8 x9 Gf mk uv j ha jD XR wx gL)(i:Nat)(v:aE)(e:(WI xA aH n ga sC (lr (H ⟨sb,0,K⟩)) (.map (H rm)) (lr (H ⟨wb,0,K⟩)) (jS ha j jD) x8 x9 Gf mk uv).setIfInBounds i v=WI xA aH n ga sC (lr (H ⟨sb,0,K⟩)) (.map (H rm)) (lr (H ⟨wb,0,K⟩)) (jS ha j jD) y8 y9 y10 mk uv):
  XX w ρ β b xA aH n ga sC sb rm wb y8 y9 y10 mk uv j ha jD XR (hY wx ⟨b,i,K⟩ v) gL/\bI wx gL (·=β) (hY wx ⟨b,i,K⟩ v) gL:=by
 let⟨p,m,u⟩:=h.p.set i v;rw[e]at p;exact⟨⟨p,h.sl.eb m (by show¬_=_;omega),h.rm.eb m (by show¬_=_;omega),h.wh.eb m (by show¬_=_;omega) (by show¬_=_;omega),h.cZ.eU u (λg a c=>h.cZ.ne h.p.cF E (by rw[a,show g=b by simpa using c])),h.len,h.Vo,λi d=>(h.ix i d).eb m (by show¬_=_;omega) (by show¬_=_;omega)⟩,m⟩
end
theorem aTZ{w:aA}{ρ:bC}{β b xA aH sC:Nat}{ga:Option cg}{x8 x9 Gf uv:aE}{mk:Bool}(hb:w.heap[b]? =H (kd (WI xA aH (O gs) ga sC x4 x5 x6 x7 x8 x9 Gf mk uv) 255 (0,0)))(Wy:ρ b=β)(Hu:O yR=O gs)(gR:lW GA undef 1 w ρ β (jS ga (O gs) sC) yR)(gRn:∀g,Value.nL (jS ga (O gs) sC)=H g->g≠b)(gE:∀k,k<O gs->lW fN 0 1 w ρ β (hJ yR k undef) (hJ gs k []))(gEn:∀k,k<O gs->∀g,Value.nL (hJ yR k undef)=H g->g≠b)(aFV:xA<=30)(SO:1<=aH/\aH<=65536)(rQ:O gs<=4)(WJ:∀k,k<O gs->O (hJ gs k [])<=30/\∀c∈hJ gs k [],c<xA):
  aK prog 129 #[lr (H ⟨b,0,K⟩)] w (aWq w ρ β b xA aH gs mk uv):=by
 have P0:Ez w ρ β b (WI xA aH (O gs) ga sC x4 x5 x6 x7 x8 x9 Gf mk uv) w ρ:=⟨U.refl _ _,λ_ _=>rfl,hb,Wy⟩;let⟨n,hn⟩:=D (O gs);have HGL:=Z Hu;have Mv:=Z gR;have a5S:=Z gRn;have HGE:=Z gE;have ug:=Z gEn;have a44:=Z (eI aFV (eI SO (eI rQ WJ)));have HN:=Z hn;rw[hn]at P0 rQ;have HP0:=Z P0;have h0:=P0.cF;have o:=Zc h0 1;have rP:(1:Int)<=(aH:Int):=Y;have NW:(aH:Int)<=65536:=Y;have hn4:(n:Int)<=4:=Y;clear hb Wy Hu gR gRn gE gEn aFV SO rQ WJ hn P0 h0;go_in;go_upto_region 1 with(go_at_call 172;apply(aHM aH 1073741824 (β+1) w ρ ⟨Y,Y,E,E⟩).cX;rintro e w1 ⟨sb,rfl,m,r⟩;have nN:=Z m;have HA1:=Z r;have a:=(HP0.new m (β+1)).1.cF;have q:=Zc a 4;have y:=aN a;have z:=iP (dG a);clear m r a);clear o q y z;let⟨p1,m1⟩:=HP0.new nN (β+1);let⟨dX,oM⟩:=D (up w (β+1) ρ);have hA1:=HA1.o;rw[oM]at p1 hA1;obtain⟨q2,m2,-⟩:=p1.set 4 (lr (H ⟨sb,0,K⟩));let⟨w2,rM⟩:=D (hY w1 ⟨b,4,K⟩ (lr (H ⟨sb,0,K⟩)));rw[rM]at q2 m2;rw[rM];have HP2:dT (Ez w ρ β b (WI xA aH n ga sC (lr (H ⟨sb,0,K⟩)) x5 x6 x7 x8 x9 Gf mk uv) w2 dX):=Z q2;have aXP:=Z (hA1.eb m2 (by show¬_=_;omega));clear p1 m1 oM hA1 q2 m2 rM HP0 HA1 nN;let⟨w3,jA⟩:=D (w2.alloc (.map #[] 0));let⟨rm,f⟩:=D (i7 w2.heap);have cW:=Za jA;let⟨p3,m3⟩:=HP2.new cW (β+2);let⟨mI,nD⟩:=D (up w2 (β+2) dX);have rZ:aC5 w3 mI (β+2) rm:=⟨by rw[<-jA,<-f];exact gM.xO _ _,by rw[<-nD,f];exact cY (fV _)⟩;have VA:=aXP.eb m3 id;rw[nD]at p3 VA;obtain⟨q4,m4,-⟩:=p3.set 5 (.map (H rm));have a:=p3.cF;have q:=Zc a 5;have y:=aN a;have z:=iP (dG a);have N:=W8 w2;rw[jA,f]at N;let⟨w4,uC⟩:=D (hY w3 ⟨b,5,K⟩ (.map (H rm)));rw[uC]at q4 m4;have tt:dT (Ez w ρ β b (WI xA aH n ga sC (lr (H ⟨sb,0,K⟩)) (.map (H rm)) x6 x7 x8 x9 Gf mk uv) w4 mI):=Z q4;have aXO:=Z (VA.eb m4 (by show¬_=_;omega));have aXU:=Z (rZ.eb m4 (by show¬_=_;omega));clear cW p3 m3 nD rZ VA q4 m4 a jA f HP2 aXP;go_upto_region 2 with(fail);try rw[uC]
 clear uC N q y z;have a:=tt.cF;have o:=Zc a 1;clear a;go_upto_region 3 with(go_at_call 173;apply(aM2 aH (β+8) w4 mI ⟨Y,Y⟩).cX;rintro e w5 ⟨wb,rfl,m,r⟩;have gN:=Z m;have G:=Z r;have a:=(tt.new m (β+8)).1.cF;have q:=Zc a 6;have y:=aN a;have z:=iP (dG a);clear m r a);clear o q y z;let⟨p5,m5⟩:=tt.new gN (β+8);let⟨oT,GS⟩:=D (up w4 (β+8) mI);have u:=G.o;have Ln:=aXO.eb m5 id;have tU:=aXU.eb m5 id;rw[GS]at p5 u Ln tU;obtain⟨q6,m6,-⟩:=p5.set 6 (lr (H ⟨wb,0,K⟩));let⟨w6,iA⟩:=D (hY w5 ⟨b,6,K⟩ (lr (H ⟨wb,0,K⟩)));rw[iA]at q6 m6;rw[iA];have hP6:=q6;have XO:=Ln.eb m6 (by show¬_=_;omega);have lA:=tU.eb m6 (by show¬_=_;omega);have Hx:=u.eb m6 (by show¬_=_;omega) (by show¬_=_;omega);obtain⟨q7,m7,-⟩:=hP6.set 7 cR;have a:=hP6.cF;have q:=Zc a 7;have y:=aN a;have z:=iP (dG a);let⟨w7,vV⟩:=D (hY w6 ⟨b,7,K⟩ cR);rw[vV]at q7 m7;have P:dT (XX w ρ β b xA aH n ga sC sb rm wb x8 x9 Gf mk uv 0 K 0 [] w7 oT):=Z ⟨q7,XO.eb m7 (by show¬_=_;omega),lA.eb m7 (by show¬_=_;omega),Hx.eb m7 (by show¬_=_;omega) (by show¬_=_;omega),pI.nil _ _ _,rfl,(λg A=>by cases A),λi hi=>dY hi (Gd i)⟩;clear p5 m5 GS u Ln tU q6 m6 hP6 XO lA Hx q7 m7 a iA tt aXO aXU gN G;go_upto_region 4 with(fail);try rw[vV]
 clear vV q y z;have a:=P.p.cF;have b3:=Zc a 3;clear a;go_upto_region 5 with(fail);clear b3;go_loopg [38] n (λgg s38 wr=>∃(j jD:Nat) (ha:Option cg) (XR:List Nat) (gL:bC),j<=n/\gg=n-j/\s38= .int mn j/\XX w ρ β b xA aH n ga sC sb rm wb x8 x9 Gf mk uv j ha jD XR wr gL)
 .exact⟨0,0,K,[],oT,Y,rfl,rfl,P⟩
 obtain⟨j,jD,ha,XR,gL,hj,rfl,rfl,hG⟩:=hrel;by_cases aY:j<n
 .have uU:(j:Int)<(n:Int):=Y;have HG:=Z hG;have HJ:=Z aY;have a:=hG.p.cF;have o:=Zc a 1;have hj4:j+1<=1000:=Y;have HJ4:=Z hj4;clear hG aY hj a hj4;go_upto_region 7 with(go_at_call 173;apply(aM2 aH (β+10+2*j) wr gL ⟨Y,Y⟩).cX;rintro e w5 ⟨ib,rfl,m,r⟩;have gN:=Z m;have G:=Z r;clear m r);have hG5:=HG.new gN (β+10+2*j);let⟨qJ,XG⟩:=D (up wr (β+10+2*j) gL);have u:=G.o;rw[XG]at hG5 u;have d:=Z hG5;have zy:=Z u;have a:=hG5.p.cF;have q:=Zc a 7;clear o XG u hG5 a G gN HG;go_upto_region 8 with(at_builtin;refine cK aW9 rfl _ _ rfl (d.cZ.cZ w5) (OB w5) Yr [lr (H ⟨ib,0,K⟩)] ib Yr rfl (dE rfl) rfl (pN HJ4.o d.len) (by have:=HJ4.o;have:=d.len;unfold bH;omega) ?_;rintro g6 c6 w6 nR dR xS xC;rw[d.o.len]at nR|-;have fX:b∉(jS ha j jD).ownBlock.toList:=(λhm=>d.cZ.ne d.p.cF E (eP hm));have mK:=xS.aC d.p.cF fX;have q:=Zc mK 7;have y:=aN mK;have z:=iP (dG mK);have AZ:=Z nR;have dm:=Z xS;have NH:=Z fX;have BU:=Z mK;clear nR dR xS xC fX mK);clear q y z;have SX:bI w5 qJ (·=β) w6 (up w5 β qJ):=d.cZ.fK (v':=jS (H ⟨g6,0,K⟩) (j+1) c6) dm rfl;have hO6:=AZ.ON d.cZ dm.o;have hp6:Ez w ρ β b (WI xA aH n ga sC (lr (H ⟨sb,0,K⟩)) (.map (H rm)) (lr (H ⟨wb,0,K⟩)) (jS ha j jD) x8 x9 Gf mk uv) w6 (up w5 β qJ):=by
   refine⟨?_,λk a=>(fG (xF a d.p.eU.size)).ds (d.p.BD k a),BU,(fG (dG d.p.cF)).ds d.p.cE⟩;exact⟨dm.os.ds d.p.eU.os,dm.tape.ds d.p.eU.tape,dm.output.ds d.p.eU.output,j8 d.p.eU.size dm.size,λk a hn=>(dm.block k (xF a d.p.eU.size) (λhm=>by have:=d.Vo k (eP hm);omega)).ds (d.p.eU.block k a hn),d.p.eU.fresh⟩
  let⟨p7,m7,u7⟩:=hp6.set 7 (jS (H ⟨g6,0,K⟩) (j+1) c6);have Yi:=SX.ds m7;have hG7:XX w ρ β b xA aH n ga sC sb rm wb x8 x9 Gf mk uv (j+1) (H ⟨g6,0,K⟩) c6 (XR++[ib]) (hY w6 ⟨b,7,K⟩ (jS (H ⟨g6,0,K⟩) (j+1) c6)) (up w5 β qJ):=by
   refine⟨p7,d.sl.eb Yi (by show¬_=_;omega),d.rm.eb Yi (by show¬_=_;omega),d.wh.eb Yi (by show¬_=_;omega) (by show¬_=_;omega),?_,by rw[E7,d.o.len];rfl,λg A=> ?_,λi hi=> ?_⟩
   .exact hO6.eU u7 (λg A hm=>hO6.ne hp6.cF E (by rw[A,show g=b by simpa using hm]))
   .rcases dm.fresh g (by simpa[i6,eq_comm]using A)with h'|h'
    .exact d.Vo g (eP h')
    .exact j8 d.p.eU.size h'
   .rw[iZ,d.o.len];by_cases e:i=j
    .subst e;rw[bW rfl];exact zy.eb Yi (by show¬_=_;omega) (by show¬_=_;omega)
    .rw[R e];exact(d.ix i Y).eb Yi (by show¬_=_;omega) (by show¬_=_;omega)
  have P:=Z hG7;clear SX hO6 hp6 p7 m7 u7 Yi hG7;go_wp2;go_roundg (n-(j+1))
  .exact⟨j+1,c6,_,_,_,HJ,rfl,eY,P⟩
  have:=HJ.o;omega
 .obtain rfl:j=n:=Y;have HG:=Z hG;have a:=hG.p.cF;have o:=Zc a 1;have b2:=Zc a 2;let⟨C,hC⟩:=D (aH*(j+1));have HC:=Z hC;have hC5:aH*(j+1)<=65536*5:=gz Y Y;have Qu:1*1<=aH*(j+1):=gz Y Y;have hC0:(aH:Int)*((j+1:Nat):Int)=(C:Int):=by rw[<-hC];simp
  have hCw:IntKind.i64.wrap ((aH:Int)*((j+1:Nat):Int))=(C:Int):=hC0▸QY _ Y;let⟨ln,ye⟩:=D (j+1);have U5:=Z ye;rw[ye]at hCw;have L:h8 wr ⟨b,2,K⟩=H (.int mn (ln:Nat)):=ye▸b2;have hCb:(C:Int)<=327680:=Y;have hCa:(1:Int)<=(C:Int):=Y;have aWI:IntKind.i64.wrap ((C:Int)+1)=(C:Int)+1:=QY _ Y;have HCW:=Z (eI hCw aWI);clear hG a hj aY hC hC5 Qu hC0 ye b2 hCw aWI;go_upto_region 9 with(fail);refine fj 99 (ez o<|ey L) (λwd fF pH Q=> ?_);clear o L;have O4:=Z pH;clear fF pH;refine ek [0,1,5,2,6,3,7,4,8,9] ?_;refine Zo 10 λvm hK=> ?_;go_simp;try rw[HCW.o.1]
  try go_simp
  go_at_call 174;apply(aHN C 1073741824 (β+3) wd gL ⟨Y,Y,E,E⟩).cX;rintro e w8 ⟨lb,rfl,m,r⟩;dsimp only;have hG8:=(HG.on O4).new m (β+3);let⟨CM,V0⟩:=D (up wd (β+3) gL);rw[V0]at hG8 r;let⟨hG9,m9⟩:=hG8.set (y8:=lr (H ⟨lb,0,K⟩)) (y9:=x9) (y10:=Gf) 8 (lr (H ⟨lb,0,K⟩)) rfl;have Lo:=r.eb m9 (by show¬_=_;omega);let⟨w9,TV⟩:=D (hY w8 ⟨b,8,K⟩ (lr (H ⟨lb,0,K⟩)));rw[TV]at hG9 m9 Lo;replace Q:=m.YZ Q;have a:=hG8.p.cF;have q:=Zc a 8;have y:=aN a;have z:=iP (dG a);have HG9:=Z hG9;have HL9:=Z Lo;have HW9:=Z TV;clear m r hG8 V0 hG9 m9 Lo a TV HG O4;refine Zk hK Q<|I 11 ?_;refine ek [12,13,14,15] ?_;refine Zo 16 λvm hK=> ?_;go_simp;rw[HW9.o];have a:=HG9.p.cF;have Q:=eI (aP a (j:=1) rfl:h8 w9 ⟨b,1,K⟩=H (.int mn aH)) (show h8 w9 ⟨b,2,K⟩=H (.int mn (ln:Nat)) by rw[<-U5.o];exact aP a (j:=2) rfl);clear q y z a;refine j5 ?_;clear hK vm;refine bD dJ ?_ _;clear Q;let⟨IU,GT⟩:=D (w9.alloc (.map #[] 0));let⟨Fm,aKQ⟩:=D (i7 w9.heap);have yH:=Za GT;have W:=HG9.new yH (β+4);have XP:bI w9 CM eZ IU (up w9 (β+4) CM):=yH.fK (S:=eZ) (β+4) (λ_ h=>dY h J);let⟨LO,Ws⟩:=D (up w9 (β+4) CM);have H9:aC5 IU LO (β+4) Fm:=⟨by rw[<-GT,<-aKQ];exact gM.xO _ _,by rw[<-Ws,aKQ];exact cY (fV _)⟩;have aBx:=HL9.eb XP id;rw[Ws]at W aBx;let⟨aQ3,m11⟩:=W.set (y8:=lr (H ⟨lb,0,K⟩)) (y9:= .map (H Fm)) (y10:=Gf) 9 (.map (H Fm)) rfl;have a:=W.p.cF;have q:=Zc a 9;have y:=aN a;have z:=iP (dG a);have N:=W8 w9;rw[GT,aKQ]at N;let⟨V,Ho⟩:=D (hY IU ⟨b,9,K⟩ (.map (H Fm)));rw[Ho]at aQ3 m11;have aRo:=Z aQ3;have aXo:=Z (aBx.eb m11 (by show¬_=_;omega));have tm:=Z (H9.eb m11 (by show¬_=_;omega));clear yH XP W Ws H9 aBx aQ3 m11 a GT aKQ HG9 HL9 HW9;go_upto_region 11 with(fail);try rw[Ho]
  clear Ho N q y z;have a:=aRo.p.cF;have o:=Zc a 1;have L:h8 V ⟨b,2,K⟩=H (.int mn (ln:Nat)):=U5.o▸aP a (j:=2) rfl;clear a;refine fj 99 (ez o<|ey L) (λwe MQ WP Q=> ?_);clear o L;have HUe:=Z WP;clear MQ WP;refine ek [0,1,5,10,14,2,6,11,15,3,7,12,16,4,8,13,17,9,18,19] ?_;refine Zo 20 λvm hK=> ?_;go_simp;try rw[HCW.o.1]
  try rw[HCW.o.2]
  try go_simp
  go_at_call 175;apply(show uJ 175 #[.int mn (C:Int),.int mn ((C:Int)+1)] we _ from aLO C (C+1) (β+5) we LO ⟨Y,Y,Y,Y⟩).cX;rintro e w12 ⟨ob,rfl,m,r⟩;dsimp only;have T:=(aRo.on HUe).new m (β+5);have aBw:bI V LO eZ w12 (up we (β+5) LO):=(HUe.fL).ds (m.fK (S:=eZ) (β+5) (λ_ h=>dY h J));have aQX:=aXo.eb aBw id;have aQA:=tm.eb aBw id;let⟨aIl,aM4⟩:=D (up we (β+5) LO);rw[aM4]at T r aQX aQA;let⟨aQ2,B7⟩:=T.set (y8:=lr (H ⟨lb,0,K⟩)) (y9:= .map (H Fm)) (y10:=lr (H ⟨ob,0,K⟩)) 10 (lr (H ⟨ob,0,K⟩)) rfl;have aQE:=r.eb B7 (by show¬_=_;omega);have aQW:=aQX.eb B7 (by show¬_=_;omega);have aPz:=aQA.eb B7 (by show¬_=_;omega);let⟨w13,aOz⟩:=D (hY w12 ⟨b,10,K⟩ (lr (H ⟨ob,0,K⟩)));rw[aOz]at aQ2 aQE aQW aPz;replace Q:=m.YZ Q;have a:=T.p.cF;have q:=Zc a 10;have y:=aN a;have z:=iP (dG a);have B:=Z aQ2;have a4p:=Z aQE;have a5J:=Z aQW;have aX1:=Z aPz;have a4M:=Z aOz;clear m r T aBw aQX aQA aM4 aQ2 B7 aQE aQW aPz a aOz aRo aXo tm HUe;refine Zk hK Q<|I 21 ?_;refine ek [22,23,24,25] ?_;refine Zo 26 λvm hK=> ?_;go_simp;rw[a4M.o];have a:=B.p.cF;have Q:=eI (aP a (j:=1) rfl:h8 w13 ⟨b,1,K⟩=H (.int mn aH)) (show h8 w13 ⟨b,2,K⟩=H (.int mn (ln:Nat)) by rw[<-U5.o];exact aP a (j:=2) rfl);clear q y z a;refine j5 ?_;clear hK vm;refine bD dJ ?_ _;clear Q;go_wp2;refine mY (v:=mr #[]) (by simp[results,go_sem]) rfl ?_;have hu:=B.p.eU;have zL:∀{v:aE} {k:Nat},(∀g,Value.nL v=H g->g<i7 w.heap)->Value.nL v=H k->aIl k=ρ k:=λhv a=>B.p.BD _ (hv _ a);obtain⟨s1,s2,s3,s4⟩:=a44.o;have fX:∀l,qM (λ_=>K) l=K:=λl=>by
   by_cases hx:∃i:Nat,l= .int mn (i:Int)
   .obtain⟨i,rfl⟩:=hx;exact oI rfl
   .exact AJ λi e=>hx ⟨i,e⟩
  have F:=HN.o;refine⟨aIl,⟨b,ga,sC,yR,ha,jD,XR,sb,rm,wb,lb,Fm,ob⟩,rfl,rfl,hu,B.p.BD,⟨⟨?_,B.p.cE,HGL,B.len.ds F.symm,?_,?_,?_,s1,s2,s3,s4⟩,B.sl,B.rm.1.congr (λl=>fX l) rfl,B.rm.2,?_,aX1.1.congr (λl=>fX l) rfl,aX1.2,?_,?_,B.wh,?_⟩⟩
  .have:=B.p.cF;rw[<-F]at this;exact this
  .exact⟨Rd.eU Mv.1 hu (λg A=>by simpa using a5S.o g A),λh0 k a=>(zL (λg A=>Rd.cF Mv.1 h0 A) a).ds (Mv.2 h0 k a)⟩
  .exact λk a=>⟨Rd.eU (HGE.o k a).1 hu (λg A=>by simpa using ug.o k a g A),λh0 x hx=>(zL (λg A=>Rd.cF (HGE.o k a).1 h0 A) hx).ds ((HGE.o k a).2 h0 x hx)⟩
  .have:=B.cZ.rd;rw[<-F]at this;exact this
  .have:=a5J.o;rw[<-HC.o,<-F]at this;exact this
  .have:=a4p.o;rw[<-HC.o,<-F]at this;exact this
  .exact λi v hv=>by simp[N3,nV.pP]at hv
  .exact λk a=>B.ix k (F▸a)
end
theorem aJU(y j:Nat):(fN y j).oneCell'=qT:=rfl
theorem aJT(y:dO)(j:Nat):(yK y j).oneCell'=qT:=rfl
theorem aEi(y:j6)(j:Nat):(j6.cell y j).oneCell'=qT:=by unfold j6.cell;split<;>(try split)<;>(try split)<;>rfl
theorem NZ(v:aE)(l:List Nat)(w:aA)(h:fM fN 0 1 w v l)(hl:O l<=100000):
  aK prog 80 #[v] w λe w'=>∃u,e=mi u/\bN fN 0 3 1 w w' u l/\U w [] w' []:=by
 have q:∀(w:aA) (a:Option cg) (n c n' c':Nat),(binOp .eql 50 (jS a n c) (jS K n' c')).run prog w= .ok (nj a.isNone) w:=λw a n c n' c'=>Lib.run_eql_slice_nil w _ _ a n c n' c' underlying50;obtain⟨a,cap,rfl,-⟩:=h.len;cases a with
 |none=>
  exact ZM68
 |some ad=>
  go_in;go_upto_region 3 with(fail);let⟨w1,d⟩:=D (i5 w (kd #[] 3));have b:=(d▸(U.refl w []).alloc (kd #[] 3):U w [] w1 []);have m:dT (bN fN 0 3 1 w w1 (jS (H ⟨w,0,K⟩) 0 0) []):=Z (GM (d▸mE w _) (fV _));go_wp2_with (at_builtin;refine jP Z0.ok E rfl _ _ rfl m b (fV _) b.size (h.on b) (λy p j z=>aJU y j) Yr Yr (by simp;omega) (by unfold bH;simp;omega) ?_;rintro g5 r w5 i cO x;have pL:=Z i);exact ZM177
theorem aCQ(v:aE)(l:List dO)(w:aA)(h:fM yK bU 1 w v l)(hl:O l<=100000):
  aK prog 34 #[v] w λe w'=>∃u,e=mi u/\bN yK bU 9 1 w w' u l/\U w [] w' []:=by
 have q:∀(w:aA) (a:Option cg) (n c n' c':Nat),(binOp .eql 22 (jS a n c) (jS K n' c')).run prog w= .ok (nj a.isNone) w:=λw a n c n' c'=>Lib.run_eql_slice_nil w _ _ a n c n' c' underlying22;obtain⟨a,cap,rfl,-⟩:=h.len;cases a with
 |none=>
  exact ZM68
 |some ad=>
  go_in;go_upto_region 3 with(fail);let⟨w1,d⟩:=D (i5 w (kd #[] 9));have b:=(d▸(U.refl w []).alloc (kd #[] 9):U w [] w1 []);have m:dT (bN yK bU 9 1 w w1 (jS (H ⟨w,0,K⟩) 0 0) []):=Z (GM (d▸mE w _) (fV _));go_wp2_with (at_builtin;refine jP aNx.ok E rfl _ _ rfl m b (fV _) b.size (h.on b) (λy p j z=>aJT y j) Yr Yr (by simp;omega) (by unfold bH;simp;omega) ?_;rintro g5 r w5 i cO x;have pL:=Z i);exact ZM177
theorem rg(v:aE)(l:List j6)(w:aA)(h:fM j6.cell sT 4 w v l)(hl:O l<=100000):
  aK prog 35 #[v] w λe w'=>∃u,e=mi u/\bN j6.cell sT 92 4 w w' u l/\U w [] w' []:=by
 have q:∀(w:aA) (a:Option cg) (n c n' c':Nat),(binOp .eql 85 (jS a n c) (jS K n' c')).run prog w= .ok (nj a.isNone) w:=λw a n c n' c'=>Lib.run_eql_slice_nil w _ _ a n c n' c' underlying85;obtain⟨a,cap,rfl,-⟩:=h.len;cases a with
 |none=>
  exact ZM68
 |some ad=>
  go_in;go_upto_region 3 with(fail);let⟨w1,d⟩:=D (i5 w (kd #[] 92));have b:=(d▸(U.refl w []).alloc (kd #[] 92):U w [] w1 []);have m:dT (bN j6.cell sT 92 4 w w1 (jS (H ⟨w,0,K⟩) 0 0) []):=Z (GM (d▸mE w _) (fV _));go_wp2_with (at_builtin;refine jP Ua.ok E rfl _ _ rfl m b (fV _) b.size (h.on b) (λy p j z=>aEi y j) Yr Yr (by simp;omega) (by unfold bH;simp;omega) ?_;rintro g5 r w5 i cO x;have pL:=Z i);exact ZM177
variable{f8:List Nat}
theorem aTR:wV prog 103 50 1 24 #[jS K 0 0]:= .QZ (z:=cR) underlying103 dJ rfl rfl
def aSC(w:aA)(gv:aE)(gs:List (List Nat)):Prop:=∃yR:List aE,O yR=O gs/\fM GA undef 1 w gv yR/\∀k,k<O gs->fM fN 0 1 w (hJ yR k undef) (hJ gs k [])
def MA(f8:List Nat)(w:Nat):Prop:=f8.Pairwise (·<·)/\∀c∈f8,c<w
theorem MA.len{w:Nat}(h:MA f8 w):O f8<=w:=by
 have hd:f8.Nodup:=h.1.imp λh=>Nat.ne_of_lt h;have:=Pf (l:=f8) (m:=List.range w) hd λx a=>wW.2 (h.2 x a);simpa using this
def Pj(f8:List Nat):Nat->Int
 |0=> -1
 |i+1=>(hJ f8 i 0:Nat)
theorem MA.next{w:Nat}(h:MA f8 w)(a:i<O f8):Pj f8 i<(f8.getD i 0:Int)/\f8.getD i 0<w:=by
 have b:f8.getD i 0∈f8:=by rw[gV,kU a];exact gu a
 refine⟨?_,h.2 _ b⟩;cases i with
 |zero=>show(-1:Int)<_;omega
 |succ i=>
  have:=List.pairwise_iff_getElem.1 h.1 i (i+1) Y a Y;show((f8.getD i 0:Nat):Int)<_;rw[gV,kU Y,gV,kU a];simp only[O8];omega
structure aHW(w:aA)(b xA aH n:Nat)(gs:List (List Nat))(j:Nat)(ga:Option cg)(sC:Nat)(yR:List aE)(wx:aA):Prop where
 eU:U w [] wx []
 bn:i7 w.heap<=b
 cF:wx.heap[b]? =H (kd #[mj mn xA,mj mn aH,mj mn ((n:Int)+1),jS ga j sC,lr K,.map K,lr K,jS K 0 0,lr K,.map K,lr K,nj rR,jS K 0 0] 255 (0,0))
 cZ:bN GA undef 50 1 w wx (jS ga j sC) yR
 len:O yR=j
 lD:∀k,k<j->bN fN 0 3 1 w wx (hJ yR k undef) (hJ gs k [])
theorem Np(β xA aH:Nat)(p:aE)(gs:List (List Nat))(h:aSC w p gs)(aFV:xA<=30)(SO:1<=aH/\aH<=65536)(rQ:O gs<=4)(hr:∀k,k<O gs->MA (hJ gs k []) xA):
  aK prog 81 #[mj mn xA,mj mn aH,p] w λe w'=>∃b bV,e=mi (mr #[lr (H ⟨b,0,K⟩),mj mn 0])/\U w [] w' []/\(∀k,k<i7 w.heap->bV k=ρ k)/\L6 w' bV β b xA aH gs [] 0 0:=by
 obtain⟨yR,Hu,xS,xC⟩:=h;obtain⟨aa,ac,rfl,-⟩:=xS.len;rw[Hu];let⟨n,hn⟩:=D (O gs);have HGL:=Z Hu;have Mv:=Z xS;have HGE:=Z xC;have HR:=Z hr;have HN:=Z hn;have HM:=Z SO;rw[hn]at rQ|-;have h1:¬((30:Int)<(xA:Int)):=Y;have h2:¬((aH:Int)<1):=Y;have h3:¬((65536:Int)<(aH:Int)):=Y;have h4:¬((4:Int)<(n:Int)):=Y;have h5:(n:Int)<=4:=Y;have h6:(0:Int)<=(xA:Int):=Y;have h7:decide ((xA:Int)<0)=rR:=J;clear Hu xS xC hr hn SO rQ;go_in;go_upto_region 8 with(fail);clear h1 h2 h3 h4 h6 h7;let⟨b,hb⟩:=D (i7 w.heap);let⟨wa,dM⟩:=D (i5 w (kd #[X xA,X aH,X ((n:Int)+1),cR,lr K,.map K,lr K,cR,lr K,.map K,lr K,nj rR,cR] 255));have HMa:dT (aHW w b xA aH n gs 0 K 0 [] wa):=Z ⟨Za dM,Y,by rw[<-dM,<-hb];exact mE w _,bN.nil _ _,rfl,λk l=>dY l (Gd k)⟩;rw[dM,hb];clear dM hb;go_upto_region 9 with(fail);go_loopg [41] n (λgg s41 wr=>∃(j sC:Nat) (ga:Option cg) (p:List aE),j<=n/\gg=n-j/\s41=X j/\aHW w b xA aH n gs j ga sC p wr)
 .exact⟨0,0,K,[],Y,rfl,rfl,HMa.o⟩
 obtain⟨j,sC,ga,p,hj,rfl,rfl,d⟩:=hrel;by_cases aY:j<n
 .have B:j<O gs:=by rw[HN.o];exact aY
  obtain⟨go,oo,co,hvo,-,P⟩:=fM.aS (Mv.o.on d.eU) (i:=j) (by rw[HGL.o];exact B);have d0:=P 0 E;simp only[yC,qZ,GA]at d0;have hE:=(HGE.o j B).on d.eU;obtain⟨ea,ec,A,-⟩:=hE.len;rw[A]at d0 hE;injection hvo with x1 x2 x3;subst x1;clear x2 x3 P;let⟨f8,WJ⟩:=D (hJ gs j []);have r:=HR.o j B;rw[WJ]at d0 hE A r;have a:=Z d;have HJ:=Z aY;have HE:=Z hE;have HRS:=Z r;have HEV:=Z A;have HCO:=Z WJ;have uU:(j:Int)<(n:Int):=Y;have hlen:O f8<=30:=kX r.len;let⟨m,hm⟩:=D (O f8);have o:=Z hm;rw[hm]at d0 HE hlen;clear d aY hE r A WJ B hj hm;go_upto_region 13 with(fail);obtain⟨wo,hwo⟩:∃wo:aA,wo=wr:=⟨_,rfl⟩;subst hwo;go_loopg [11,47] m (λgg s11 s47 wi=>∃i:Nat,i<=m/\gg=m-i/\s11=X (Pj f8 i)/\s47=X i/\wo=wi)
  .exact⟨0,Y,rfl,rfl,rfl,rfl⟩
  obtain⟨i,hi,rfl,rfl,rfl,rfl⟩:=hrel;by_cases Cs:i<m
  .obtain⟨ge,oe,ce,hve,-,hce⟩:=fM.aS HE.o (i:=i) (by rw[o.o];exact Cs);have e0:=hce 0 E;simp only[yC,qZ,fN]at e0;injection hve with x1 x2 x3;subst x1;clear x2 x3 hce;let⟨n1,n2⟩:=HRS.o.next (i:=i) (by rw[o.o];exact Cs);have Sw:Pj f8 (i+1)=(f8.getD i 0:Int):=rfl;let⟨c,hc⟩:=D (hJ f8 i 0);let⟨la,f⟩:=D (Pj f8 i);rw[hc]at e0 n1 n2 Sw;rw[f]at n1;rw[f];have g1:¬((c:Int)<=la):=Y;have g2:¬((xA:Int)<=(c:Int)):=Y;have g3:decide ((c:Int)<=la)=rR:=kE g1;have BI:(i:Int)<(m:Int):=Y;have HI:=Z Cs;have nT:=Z Sw;clear n1 n2 Sw hc f Cs hi;go_wp2;go_roundg (m-(i+1))
   .exact⟨i+1,HI.o,rfl,by rw[nT.o],eY,rfl⟩
   have:=HI.o;omega
  .obtain rfl:i=m:=Y;clear hi Cs;have l:=a.o.cF;have b3:=Zc l 3;clear l;go_upto_region 19 with(fail);refine fj 11 (ey b3) (λwd fF pH Q=> ?_);clear b3;have O4:=Z pH;clear fF pH;refine ek [0,1,5,2,3,4] ?_;refine Zo 6 λvm hK=> ?_;go_simp;go_at_call 80;refine(NZ _ f8 wd (HE.o.on O4.o) (kG o.o)).mono ?_;rintro e w4 ⟨u,rfl,hO,eJ⟩;obtain⟨ua,uc,rfl,-⟩:=hO.len;dsimp only;have Q:=eJ.cell Q J;have IR:=Q;have G:=Z (O4.o.ds eJ);have Sb:=Z (hO.eO (wb:=w) (pN O4.o.size a.o.eU.size));clear eJ hO;refine j5 ?_;clear hK vm;refine Zo 7 λvm hK=> ?_;go_simp;have nY:U w4 [] (i5 w4 (kd #[jS ua (O f8) uc] 50)) []:=(U.refl w4 []).alloc _;have Q:=nY.cell Q J;refine j5 ?_;clear hK vm;refine Zo 8 λvm hK=> ?_;let⟨g6,c6,w6,dK,nR,dR,JL,hg6⟩:=iT (ty:=103) (news:=[jS ua (O f8) uc]) (T:=50) aTR.ok Y (a.o.cZ.on G.o) (a.o.eU.ds G.o) (fV _) (j8 a.o.eU.size G.o.size) (jS ua (O f8) uc:aE) rfl (dE rfl) (λj hj=>rfl) (kX a.o.len) (by have:=a.o.len;unfold bH;omega);refine dL _ _ rfl Yr Yr dK ?_;have AA:=G.o.aC a.o.cF J;have SV:=a.o.cZ.on G.o;have fX:b∉(jS ga j sC).ownBlock.toList:=SV.ne AA E;have Q:=JL.cell IR fX;have N:=JL.aC AA fX;have ci:=Zc N 3;have fi:=aN N;have li:=iP (dG N);have XO:∀S',U w6 [b] S' [b]->True:=λ_ _=>trivial;let⟨w7,vV⟩:=D (hY w6 (Ad b 3) (eC g6 0 (O p+1) c6));have rT:U w6 [b] w7 [b]:=vV▸qX w6 b 3 _;have FX:w7.heap[b]? =H (kd #[X xA,X aH,X ((n:Int)+1),eC g6 0 (O p+1) c6,lr K,.map K,lr K,cR,lr K,.map K,lr K,nj rR,cR] 255 (0,0)):=by rw[<-vV,aF _ N];rfl
   have V:∀k,k<j+1->bN fN 0 3 1 w w7 (hJ (p++([jS ua (O f8) uc]:List aE)) k undef) (hJ gs k []):=λk l=>by
    have h4:bN fN 0 3 1 w w4 (hJ (p++([jS ua (O f8) uc]:List aE)) k undef) (hJ gs k []):=by
     rw[iZ,a.o.len];by_cases e:k=j
     .rw[bW e,e,HCO.o];exact Sb.o
     .rw[R e];exact(a.o.lD k Y).on G.o
    exact(h4.jT SV E JL).set N E rT
   have yQ:=nR.set N E rT;have W:U w [] w7 []:=((a.o.eU.ds G.o).bJ JL (λx hx=>a.o.cZ.2 x (eP hx))).bJ rT (λx hx=>by rw[show x=b by simpa using hx];exact a.o.bn);have MX:aHW w b xA aH n gs (j+1) (H (Ad g6 0)) c6 (p++[jS ua (O f8) uc]) w7:=by
    rw[a.o.len]at FX yQ;exact⟨W,a.o.bn,FX,yQ,by rw[E7,a.o.len];rfl,V⟩
   have LA:=Z MX;have HW7:=Z vV;clear dK nR dR JL hg6 AA SV fX N XO rT FX V yQ W MX vV nY IR;refine j5 ?_;clear hK vm;refine Zo 9 λvm hK=> ?_;go_simp;refine j5 ?_;clear hK vm;refine I 10 ?_;refine Zo 11 λvm hK=> ?_;go_simp;rw[HW7.o];refine LP ?_;clear hK vm;clear Q ci fi li;go_wp2;go_roundg (n-(j+1))
   .exact⟨j+1,c6,_,_,HJ.o,rfl,eY,LA.o⟩
   have:=HJ.o;omega
 .obtain rfl:j=n:=Y;have C:=d.cF;rw[show((j:Int)+1)=((j+1:Nat):Int)from by omega]at C;have q:=HN.o;have Qc:=d.bn;have h0:∀{v:aE} {g:Nat},i6 v=H g->i7 w.heap<=g->up w.heap.size β ρ g=β:=λ_ h=>cY h;have ny:=(d.cZ.jR β ρ).rd;have hgE:∀k,k<O gs->lW fN 0 1 wr (up w.heap.size β ρ) β (hJ p k undef) (hJ gs k []):=λk l=>((d.lD k Y).jR β ρ).rd;have BG:∀g,i6 (jS ga j sC)=H g->g≠b:=λg F e=>d.cZ.ne d.cF E (by rw[<-e];simpa using F);rw[<-q]at C ny;have Xi:=aTZ (uv:=cR) (mk:=rR) C (cY Qc) (d.len.ds q.symm) ny (λg F=>BG g (by
   rcases d.cZ.1 with⟨hv,_⟩|⟨x,y,z,hv,_⟩
   .rw[q,hv]at F;cases F
   .rw[q,hv]at F;rw[hv];simpa[i6,Value.nL]using F)) hgE (λk l g F e=>by
   have h1:=d.lD k Y;exact h1.ne d.cF E (by rw[<-e];simpa using eV.cZ h1.1 F)) aFV HM.o Y (λk l=>⟨j8 (HR.o k l).len aFV,(HR.o k l).2⟩)
  have HLY:=Z Xi;have a:=Z d;clear C Qc h0 ny hgE BG Xi d hj aY q;go_wp2_with (go_at_call 129;apply HLY.o.cX;rintro e w9 ⟨X8,L,rfl,hLb,rY,ht9,S⟩;have HLB:=Z hLb;have Fx:=Z rY;have sx:=Z ht9;have HS9:=Z S;clear hLb rY ht9 S);go_ret2;refine⟨b,X8,rfl,a.o.eU.bJ Fx.o (λx hx=>by rw[show x=b by simpa using hx];exact a.o.bn),λk l=>(sx.o k (xF l a.o.eU.size)).ds (fG l),L,_,λ_=>[],[],HLB.o,HS9.o,aGr xA aH gs 0 0,aGs xA aH gs 0 0,rfl,rfl,rfl,rfl⟩
variable{aM aMX:List Row}{lb rb x τ:Nat}
def sk(w:aA)(ρ:bC)(tO t:Nat)(v:aE)(m:R7):Prop:=∃fv tv,v= .agg #[fv,tv]/\iY w ρ tO t fv m.kC/\iY w ρ tO t tv m.aX
theorem sk.eb{t:Nat}{m:R7}{S:Nat->Prop}(h:sk w ρ tO t v m)(a:bI w ρ S w' bV)(b:¬S tO)(c:¬S t):sk w' bV tO t v m:=by
 obtain⟨fv,tv,e,d,g⟩:=h;exact⟨fv,tv,e,d.eb a b c,g.eb a b c⟩
theorem iY.nil(w:aA)(ρ:bC)(tO t:Nat):iY w ρ tO t (jS K 0 0) []:=⟨[],rfl,lW.nil _ _ _,λi a=>dY a (Gd i)⟩
def YS(w:aA)(ρ:bC)(τ t:Nat)(v:aE)(m:R7):Prop:=
 ∃fv tv t1 t2,v= .agg #[fv,tv]/\(t1=t\/t1=τ+97)/\(t2=t\/t2=τ+98)/\iY w ρ t1 t fv m.kC/\iY w ρ t2 t tv m.aX
theorem sk.toN{t:Nat}{m:R7}(h:sk w ρ t t v m)(τ:Nat):YS w ρ τ t v m:=by
 obtain⟨fv,tv,e,a,b⟩:=h;exact⟨fv,tv,t,t,e,.inl rfl,.inl rfl,a,b⟩
theorem YS.eb{t:Nat}{m:R7}{S:Nat->Prop}(h:YS w ρ τ t v m)(c:bI w ρ S w' bV)(a:¬S t)(i:¬S (τ+97))(d:¬S (τ+98)):YS w' bV τ t v m:=by
 obtain⟨fv,tv,t1,t2,e,b,e2,j,g⟩:=h;exact⟨fv,tv,t1,t2,e,b,e2,j.eb c (by rcases b with rfl|rfl;exact a;exact i) a,g.eb c (by rcases e2 with rfl|rfl;exact a;exact d) a⟩
structure z4(w:aA)(ρ:bC)(τ lb rb:Nat)(s:lV)(aM:List Row)(F G:Nat):Prop where
 ex:∃ka kc sa sc ua uc,w.heap[lb]? =H (kd #[mj mn s.aG,mj mn s.kJ,jS ka (O s.eb) kc,jS sa (O s.bP) sc,jS ua (O s.up) uc,mj mn s.aH,lr (H ⟨rb,0,K⟩)] 185 (0,0))/\
  lW fN 0 1 w ρ τ (jS ka (O s.eb) kc) s.eb/\lW fN 0 1 w ρ τ (jS sa (O s.bP) sc) s.bP
 cE:ρ lb=τ
 Gp:L6 w ρ (τ+20) rb s.bT s.aH [s.up] aM F G
 ok:QN s
def fU(τ x:Nat):Prop:=eX (τ+20) x\/eX (τ+40) x\/eX (τ+60) x\/x=τ+1
theorem fU.not(h:x<τ+1\/τ+100<=x):¬fU τ x:=by unfold fU eX;omega
theorem z4.eb{s:lV}{S:Nat->Prop}(h:z4 w ρ τ lb rb s aM F G)(a:bI w ρ S w' bV)(b:¬S τ)(p:∀c,c<20->¬S (τ+20+c)):z4 w' bV τ lb rb s aM F G:=by
 obtain⟨⟨l,g,i,sc,ua,uc,e,m,hs⟩,d,j,n⟩:=h;exact⟨⟨l,g,i,sc,ua,uc,a.aC e (d▸b),m.eb a b,hs.eb a b⟩,(a.cE _ (dG e)).ds d,j.eb a p,n⟩
theorem z4.xI{s:lV}(h:z4 w ρ τ lb rb s aM F G)(a:bI w ρ (eX (τ+20)) w' bV)(i:L6 w' bV (τ+20) rb s.bT s.aH [s.up] aMX F G):z4 w' bV τ lb rb s aMX F G:=by
 obtain⟨⟨j,e,g,sc,ua,uc,d,l,hs⟩,c,n,m⟩:=h;have b:¬eX (τ+20) τ:=by unfold eX;omega
 exact⟨⟨j,e,g,sc,ua,uc,a.aC d (c▸b),l.eb a b,hs.eb a b⟩,(a.cE _ (dG d)).ds c,i,m⟩
theorem nJ(t:Nat)(hv:fM dV aR 3 w v r)(hl:O r<=100000):
  aK prog 270 #[v] w λe w'=>∃g,e=mi (jS (H ⟨g,0,K⟩) 1 1)/\U w [] w' []/\iY w' (up w t ρ) t t (jS (H ⟨g,0,K⟩) 1 1) [r]:=by
 have d:=Z (TA v r w hv hl);obtain⟨va,vc,rfl,-⟩:=hv.len;go_in;go_wp2_with (go_at_call 206;apply d.cX;rintro e w1 ⟨u,rfl,a,b⟩;obtain⟨ua,uc,rfl,-⟩:=a.len);go_ret;have c:U w1 [] (i5 w1 (kd #[jS ua (O r) uc] 34)) []:=(U.refl w1 []).alloc _;refine⟨_,rfl,b.ds c,[jS ua (O r) uc],rfl,⟨FM (news:=[jS ua (O r) uc]) (mE w1 _) rfl _ (dE rfl),λ_ k j=>cY ?_⟩,λi l=> ?_⟩
 .have:i7 w1.heap=k:=by simpa[Value.nL]using j
  have:=b.size;omega
 .obtain rfl:i=0:=eP l;exact((a.jR t ρ).rd).on c
variable{bm g2 g3 kb:Nat}{w3:aA}
theorem ZM203{P:Prop}(h:P:=by
  go_wp2;let⟨q1,q2,q3⟩:=nT.qB tD lX tZ cR cR;refine mY (aW (A:=Ad bm 0) (T:=228) rfl Yr (v:=BF) (by go_simp)) rfl ?_;exact⟨dX,q2,rfl,q1⟩):P:=h
theorem ZM195{P:Prop}(h:P:=by
  exact ZM203):P:=h
theorem ZM19{P:Prop}(h:P:=by
  clear l6 k0;have B9:=Z (Rx.eb HM (λh=>O5.o (.inl h)));go_wp2_with (first|(go_at_call 270;apply(nJ (ρ:=up w1 t dX) t (B9.on sr).1 A0).cX;rintro e w3 ⟨g3,rfl,cW,rZ⟩;have Ry:=Z cW;have FG:=Z rZ;have tV:=cW.aC (sr.aC j7 J) J;obtain⟨z0,z1⟩:=Z2 tV;have zf:=aN tV;have zl:=iP (dG tV);clear cW rZ tV)|(go_at_call 270;apply(nJ (ρ:=dX) t B9.1 A0).cX;rintro e w2 ⟨g2,rfl,bM,rU⟩;have sr:=Z bM;have II:=Z rU;clear bM rU));let⟨m3,hMv⟩:=YD sr II Ry FG.o;have qY:=nT.eb m3 id vF;have hN3:=tD.ds (m3.aL (T:=fU τ) nZ);have QC:=(m3.cE bm (dG j7)).ds tZ.o;let⟨q1,q2,q3⟩:=qY.qB hN3 lX QC (eC g2 0 1 1) (eC g3 0 1 1);refine mY (aW (A:=Ad bm 0) (T:=228) rfl Yr (v:= .agg #[eC g2 0 1 1,eC g3 0 1 1]) (by go_simp)) rfl ?_;exact⟨_,q2,_,rfl,q1,hMv.eb q3 (kX BS.o) (kX BS.o)⟩):P:=h
theorem ZM29{P:Prop}(h:P:=by
  go_in;go_upto_region 2 with(go_at_call 271;apply L8.cX;rintro e w1 ⟨dX,rfl,hM,hS⟩;have HM:=Z hM;have fR:=hM.aC uY (by rw[nI.o];unfold eX;omega);have j7:=Z fR;have tZ:=Z ((hM.cE bm (dG uY)).ds nI);have nT:=Z (EP.xI hM hS);have tD:=Z ((G6.aL (T:=fU τ) nZ).ds (hM.aL (λ_ h=> .inl h)));clear hM hS fR);have hB:=j7.o;obtain⟨z0,z1⟩:=Z2 hB;have zf:=aN hB;have zl:=iP (dG hB);clear hB l6 k0;exact ZM195):P:=h
theorem ZM75{P:Prop}(h:P:=by
  exact ZM195):P:=h
abbrev BF:aE:= .agg #[jS K 0 0,jS K 0 0]
def aH2(w:aA)(ρ:bC)(τ t lb rb:Nat)(s:lV)(F G:Nat)(aM:List Row)(x:Except Nat (List Row×R7))(e:cc)(w':aA):Prop:=
 ∃bV,bI w ρ (fU τ) w' bV/\match x with
 | .error er=>e=mi (mr #[BF,mj mn (er:Int)])/\z4 w' bV τ lb rb s aM F G
 | .ok (l',m)=>∃mv,e=mi (mr #[mv,mj mn 0])/\z4 w' bV τ lb rb s l' F G/\sk w' bV t t mv m
theorem YD{t:Nat}(e:U w1 [] w2 [])(d:iY w2 (up w1 t dX) t t (jS (H ⟨g2,0,K⟩) 1 1) [r])(b:U w2 [] w3 [])(c:iY w3 (up w2 t (up w1 t dX)) t t (jS (H ⟨g3,0,K⟩) 1 1) [r]):
  bI w1 dX eZ w3 (up w2 t (up w1 t dX))/\sk w3 (up w2 t (up w1 t dX)) t t (.agg #[jS (H ⟨g2,0,K⟩) 1 1,jS (H ⟨g3,0,K⟩) 1 1]) ⟨[r],[r]⟩:=by
 have g:bI w1 dX eZ w2 (up w1 t dX):=e.fK (S:=eZ) t (λ_ h=>dY h J);have a:bI w2 (up w1 t dX) eZ w3 (up w2 t (up w1 t dX)):=b.fK (S:=eZ) t (λ_ h=>dY h J);exact⟨g.ds a,_,_,rfl,d.eb a id id,c⟩
theorem z4.qB{s:lV}(h:z4 w1 dX τ lb rb s aM F G)(g:bI w ρ (fU τ) w1 dX)(e:i7 w.heap<=bm)(b:dX bm=τ+99)(x y:aE):
  z4 (hY (hY w1 ⟨bm,0,K⟩ x) ⟨bm,1,K⟩ y) dX τ lb rb s aM F G/\bI w ρ (fU τ) (hY (hY w1 ⟨bm,0,K⟩ x) ⟨bm,1,K⟩ y) dX/\bI w1 dX (·=τ+99) (hY (hY w1 ⟨bm,0,K⟩ x) ⟨bm,1,K⟩ y) dX:=by
 have d:bI w1 dX (·=τ+99) (hY (hY w1 (Ad bm 0) x) (Ad bm 1) y) dX:=((bI.refl w1 dX _).setCell (a:=Ad bm 0) (.inl b) x).setCell (a:=Ad bm 1) (.inl b) y;exact⟨h.eb d (by show¬_=_;omega) (λc i=>by show¬_=_;omega),(g.setCell (a:=Ad bm 0) (.inr e) x).setCell (a:=Ad bm 1) (.inr e) y,d⟩
theorem aOq{t tr:Nat}{s:lV}(fr:Int)(h:z4 w ρ τ lb rb s aM F G)(N:w.heap[kb]? =H (kd #[lr (H ⟨lb,0,K⟩)] 188 (0,0)))(hv:lW dV aR 3 w ρ tr v r)(u:¬fU τ tr)(a:dU r/\O r=s.bT)(B:F+1<=G)(P:G<=1073741824)(L:t<τ\/τ+100<=t):
  aK prog 266 #[lr (H ⟨kb,0,K⟩),mj mn fr,v] w (aH2 w ρ τ t lb rb s F G aM (if r∈aM then .error 191 else if O aM=s.aH then .error 31 else .ok (aM++[r],⟨[r],[r]⟩))):=by
 obtain⟨⟨ka,kc,sa,sc,ua,uc,z,b,c⟩,C,n,k⟩:=h;have V:=n;obtain⟨va,vc,rfl,-⟩:=hv.len;let⟨wa,dM⟩:=D (i5 w (kd #[cR,cR] 228));have j:=Za dM;have y:=Zb dM;let⟨bm,LE⟩:=D (i7 w.heap);have g:bI w ρ eZ wa (up w (τ+99) ρ):=j.fK (S:=eZ) (τ+99) (λ_ h=>dY h J);have q:up w (τ+99) ρ bm=τ+99:=cY Y;have m:=n.eb g vF;have p:=hv.eb g id;have x:z4 wa (up w (τ+99) ρ) τ lb rb s aM F G:=z4.eb ⟨⟨ka,kc,sa,sc,ua,uc,z,b,c⟩,C,n,k⟩ g id vF;generalize Q:up w (τ+99) ρ=ρa at g q m p x;have f:=j.aC z J;have vm:=j.aC N J;rw[LE]at y;have l6:=Zc f 6;have k0:=Zc vm 0;have G6:=Z g;have nI:=Z q;have YU:=Z m;have Rx:=Z p;have EP:=Z x;have uY:=Z y;have BS:=Z L;have O5:=Z u;have HG:=Z a;have lX:=Z (show i7 w.heap<=bm by omega);have d:=PN m p (λh=>u (.inl h)) a.1.R5 B P;by_cases i:r∈aM
 .rw[bW i];rw[show mF s.bT s.aH aM r=(rR,0,aM) by unfold mF;rw[R (by simp[a.1.1,a.2]),bW i]]at d;have L8:=Z d;clear z b c C n k V hv u a B P L j y g q m p x Q f vm N d i;exact ZM29
 .rw[R i];by_cases l:O aM=s.aH
  .rw[bW l];rw[show mF s.bT s.aH aM r=(rR,31,aM) by unfold mF;rw[R (by simp[a.1.1,a.2]),R i,bW l]]at d;have L8:=Z d;clear z b c C n k V hv u a B P L j y g q m p x Q f vm N d i l;exact ZM29
  .rw[R l];rw[show mF s.bT s.aH aM r=(qT,0,aM++[r]) by unfold mF;rw[R (by simp[a.1.1,a.2]),R i,R l]]at d;have L8:=Z d;have W:O r<=100000:=kX a.1.len;have A0:=Z W;clear z b c C n k V hv u a B P L j y g q m p x Q f vm N d i l W;go_in;go_upto_region 6 with(go_at_call 271;apply L8.cX;rintro e w1 ⟨dX,rfl,hM,hS⟩;have HM:=Z hM;have fR:=hM.aC uY (by rw[nI.o];unfold eX;omega);have j7:=Z fR;have tZ:=Z ((hM.cE bm (dG uY)).ds nI);have nT:=Z (EP.xI hM hS);have tD:=Z ((G6.aL (T:=fU τ) nZ).ds (hM.aL (λ_ h=> .inl h)));clear hM hS fR);exact ZM19
theorem aJl{t tr:Nat}{s:lV}(fr:Int)(h:z4 w ρ τ lb rb s aM F G)(KE:w.heap[kb]? =H (kd #[lr (H ⟨lb,0,K⟩)] 188 (0,0)))(hv:lW dV aR 3 w ρ tr v r)(L:¬fU τ tr)(b:dU r/\O r=s.bT)(W:G<=F)(hG:G<1073741824)(V:t<τ\/τ+100<=t):
  aK prog 265 #[lr (H ⟨kb,0,K⟩),mj mn fr,v] w (aH2 w ρ τ t lb rb s F G aM (if r∈aM then .ok (aM.erase r,⟨[r],[r]⟩)else .error 192)):=by
 obtain⟨⟨ka,kc,sa,sc,ua,uc,C,c,g⟩,N,p,f⟩:=h;have hW:=p;obtain⟨va,vc,rfl,-⟩:=hv.len;let⟨wa,dM⟩:=D (i5 w (kd #[cR,cR] 228));have l:=Za dM;have z:=Zb dM;let⟨bm,LE⟩:=D (i7 w.heap);have d:bI w ρ eZ wa (up w (τ+99) ρ):=l.fK (S:=eZ) (τ+99) (λ_ h=>dY h J);have x:up w (τ+99) ρ bm=τ+99:=cY Y;have m:=p.eb d vF;have q:=hv.eb d id;have y:z4 wa (up w (τ+99) ρ) τ lb rb s aM F G:=z4.eb ⟨⟨ka,kc,sa,sc,ua,uc,C,c,g⟩,N,p,f⟩ d id vF;generalize nC:up w (τ+99) ρ=ρa at d x m q y;have Xl:=l.aC C J;have P:=l.aC KE J;rw[LE]at z;have l6:=Zc Xl 6;have k0:=Zc P 0;have G6:=Z d;have k:=Z x;have YU:=Z m;have Rx:=Z q;have EP:=Z y;have vm:=Z z;have BS:=Z V;have O5:=Z L;have HG:=Z b;have lX:=Z (show i7 w.heap<=bm by omega);have i:=IZ m q.1 b.1.R5 W hG;by_cases j:r∈aM
 .rw[bW j];rw[show lE s.bT aM r=(qT,0,aM.erase r) by unfold lE;rw[R (by simp[b.1.1,b.2]),bW j]]at i;have Q:=Z i;have AN:O r<=100000:=kX b.1.len;have A0:=Z AN;clear C c g N p f hW hv L b W hG V l z d x m q y nC Xl P KE i j AN;go_in;go_upto_region 4 with(go_at_call 269;apply Q.cX;rintro e w1 ⟨dX,rfl,a,n⟩;have HM:=Z a;have u:=a.aC vm (by rw[k.o];unfold eX;omega);have j7:=Z u;have tZ:=Z ((a.cE bm (dG vm)).ds k);have nT:=Z (EP.xI a n);have tD:=Z ((G6.aL (T:=fU τ) nZ).ds (a.aL (λ_ h=> .inl h)));clear a n u);exact ZM19
 .rw[R j];rw[show lE s.bT aM r=(rR,0,aM) by unfold lE;rw[R (by simp[b.1.1,b.2]),R j]]at i;have Q:=Z i;clear C c g N p f hW hv L b W hG V l z d x m q y nC Xl P KE i j;go_in;go_upto_region 2 with(go_at_call 269;apply Q.cX;rintro e w1 ⟨dX,rfl,a,n⟩;have HM:=Z a;have u:=a.aC vm (by rw[k.o];unfold eX;omega);have j7:=Z u;have tZ:=Z ((a.cE bm (dG vm)).ds k);have nT:=Z (EP.xI a n);have tD:=Z ((G6.aL (T:=fU τ) nZ).ds (a.aL (λ_ h=> .inl h)));clear a n u);have B:=j7.o;obtain⟨z0,z1⟩:=Z2 B;have zf:=aN B;have zl:=iP (dG B);clear B l6 k0;exact ZM75
variable{fJ:List Row}{db sb:Nat}
structure uX(w:aA)(ρ:bC)(τ kb lb rb sb db:Nat)(s:lV)(aM fJ sd:List Row)(F G:Nat):Prop where
 cF:w.heap[kb]? =H (kd #[lr (H ⟨lb,0,K⟩),lr (H ⟨sb,0,K⟩),lr (H ⟨db,0,K⟩)] 195 (0,0))
 cE:ρ kb=τ
 lv:z4 w ρ τ lb rb s aM F G
 fJ:L6 w ρ (τ+40) sb s.kJ s.aH [s.bP] fJ F G
 sd:L6 w ρ (τ+60) db (O s.bP) s.aH [] sd F G
theorem uX.eb{s:lV}{sd:List Row}{S:Nat->Prop}(h:uX w ρ τ kb lb rb sb db s aM fJ sd F G)(a:bI w ρ S w' bV)(d:¬S τ)(b:∀c,20<=c->c<80->¬S (τ+c)):uX w' bV τ kb lb rb sb db s aM fJ sd F G:=
 ⟨a.aC h.cF (h.cE▸d),(a.cE _ (dG h.cF)).ds h.cE,
  h.lv.eb a d (λc e=>by rw[show τ+20+c=τ+(20+c) by omega];exact b _ Y Y),
  h.fJ.eb a (λc e=>by rw[show τ+40+c=τ+(40+c) by omega];exact b _ Y Y),
  h.sd.eb a (λc e=>by rw[show τ+60+c=τ+(60+c) by omega];exact b _ Y Y)⟩
theorem uX.on{s:lV}{sd:List Row}(h:uX w ρ τ kb lb rb sb db s aM fJ sd F G)(a:U w [] w' L'):uX w' ρ τ kb lb rb sb db s aM fJ sd F G:=h.eb (S:=eZ) a.fL id (λ_ _ _ h=>h)
theorem xh{s:lV}{sd:List Row}(h:uX w ρ τ kb lb rb sb db s aM fJ sd F G)(hv:fM dV aR 3 w v r)(z:O r<=30)(i:∀c∈s.bP,c<O r)(b:O s.bP<=30):
  aK prog 306 #[lr (H ⟨kb,0,K⟩),v] w λe w'=>∃u,e=mi u/\bN dV aR 90 3 w w' u (dF r s.bP)/\U w [] w' []:=by
 obtain⟨⟨B,p,q,sc,ua,uc,m,g,a⟩,f,x,vm⟩:=h.lv;have n:=h.cF;have l:=(J0 v _ r s.bP w hv a.1 b i Y);obtain⟨va,vc,rfl,-⟩:=hv.len;have y:=Zc m 3;have C:=Zc n 0;go_in;go_wp2_with (go_at_call 110;apply l.cX;rintro e w1 ⟨u,rfl,d,j⟩;obtain⟨A,oc,rfl,-⟩:=d.len);go_ret;exact⟨_,rfl,d,j⟩
section
attribute [local go_sem] Oper.semAt_some
structure aHS(w:aA)(ρ:bC)(τ t kb lb rb sb db:Nat)(s:lV)(st:List Row->Row->List Row)(aM fJ sd aT:List Row)(F G bm bx:Nat)(lv:aE)(cG:List aE)(k:Nat)(W:aA)(gL:bC)(fv tv:aE)(v2:List aE):Prop where
 fK:bI w ρ (fU τ) W gL
 mt:uX W gL τ kb lb rb sb db s ((aT.take k).foldl st aM) fJ sd F G
 bxh:W.heap[bx]? =H (kd #[fv,tv] 228 (0,0))
 bmh:W.heap[bm]? =H (kd #[jS K 0 0,jS K 0 0] 228 (0,0))
 bxn:i7 w.heap<=bx/\i7 w.heap<=bm
 aCS:gL bx=τ+99/\gL bm=τ+95
 aJR:pI GA undef 34 1 W gL (τ+97) fv (cG.take k)
 aJQ:pI GA undef 34 1 W gL (τ+98) tv v2
 aT9:∀b,i6 fv=H b->i7 w.heap<=b
 aT8:∀b,i6 tv=H b->i7 w.heap<=b
 Uj:O v2=k
 aDv:∀i,i<k->lW dV aR 3 W gL t (hJ v2 i undef) (hJ aT i [])
 oK:lW GA undef 1 W gL (τ+47) lv cG
 aFI:∀i,i<O aT->lW dV aR 3 W gL t (hJ cG i undef) (hJ aT i [])
def Tj(τ x:Nat):Prop:=eX (τ+20) x\/x=τ+97\/x=τ+98\/x=τ+99
def aSI(g rb t τ:Nat)(s:lV)(F G:Nat)(st:List Row->Row->List Row):Prop:=
 ∀(W:aA) (gL:bC) (aM:List Row) (v:aE) (r:Row),L6 W gL (τ+20) rb s.bT s.aH [s.up] aM F G->lW dV aR 3 W gL t v r->dU r/\O r=s.bT->
  aK prog g #[lr (H ⟨rb,0,K⟩),v] W λe w'=>∃bV x y,e=mi (mr #[x,y])/\bI W gL (eX (τ+20)) w' bV/\L6 w' bV (τ+20) rb s.bT s.aH [s.up] (st aM r) F G
def aQu(w:aA)(ρ:bC)(τ t kb lb rb sb db:Nat)(s:lV)(st:List Row->Row->List Row)(aM fJ sd aT:List Row)(F G:Nat)(e:cc)(w':aA):Prop:=
 ∃bV mv,e=mi mv/\bI w ρ (fU τ) w' bV/\uX w' bV τ kb lb rb sb db s (aT.foldl st aM) fJ sd F G/\YS w' bV τ t mv ⟨aT,aT⟩
theorem Wa{t:Nat}{s:lV}{st:List Row->Row->List Row}{sd:List Row}(h:uX w ρ τ kb lb rb sb db s aM fJ sd F G)(eg:∀args w,(callFunc g args).run prog w= .ok (.enter g args) w)(hdo:aSI g rb t τ s F G st)(hv:fM dV aR 3 w kv gP)(hf:CE gP)(ht:t<τ\/τ+100<=t)(hw:s.bT=s.kJ)(P5:s.aH<=65536):
  aK prog 305 #[lr (H ⟨kb,0,K⟩),kv,.func (.func g) #[lr (H ⟨rb,0,K⟩)] #[]] w (aQu w ρ τ t kb lb rb sb db s st aM fJ sd (fJ.filter λx=>decide (dF x s.bP=gP)) F G):=by
 obtain⟨aT,Xc⟩:=D (fJ.filter (λx=>decide (dF x s.bP=gP)));have DJ:∀r∈aT,dU r/\O r=s.bT:=λr hr=>by
  rw[hw];exact h.fJ.good r (List.mem_filter.1 (Xc▸hr)).1
 have hlen:O aT<=65536:=by
  have:=h.fJ.KZ;have h2:O aT<=O fJ:=Xc▸List.length_filter_le _ _;omega
 rw[Xc];obtain⟨wa,dM⟩:=D (i5 w (kd #[jS K 0 0,jS K 0 0] 228));have cV:=Za dM;have kI:=Zb dM;obtain⟨bm,LE⟩:=D (i7 w.heap);have kK:bI w ρ (λ_=>False) wa (up w.heap.size (τ+95) ρ):=cV.fK (S:=λ_=>False) (τ+95) (λ_ h=>absurd h J);have mZ:up w.heap.size (τ+95) ρ bm=τ+95:=cY Y;have yI:=h.eb kK (λh=>h) (λ_ _ _ h=>h);have oN:=hv.on cV;have l8:=yI.cF;obtain⟨E5,nC⟩:=D (up w.heap.size (τ+95) ρ);rw[nC]at kK mZ yI;rw[LE]at kI;have Mv:=Z (aEL (t:=t) (k:=0) yI.fJ J oN hf (λc y=>Y));simp only[List.getD_cons_zero,Xc]at Mv;obtain⟨k0,k1,k2⟩:=Z3 l8;have G6:=Z kK;have nI:=Z mZ;have EP:=Z yI;have uY:=Z kI;have BS:=Z ht;have HGD:=Z DJ;have a5I:=Z hlen;have HDO:=Z hdo;have lX:=Z (show i7 w.heap<=bm by omega);obtain⟨kva,kvc,rfl,-⟩:=hv.len;clear h hv hf ht hw P5 Xc DJ hlen cV kI kK mZ yI oN l8 nC hdo;go_enter func305,ntmps305;go_upto_region 2 with(go_at_call 178;refine Mv.o.mono ?_;rintro e w1 ⟨e',he,dX,lv,rfl,hM,hS,hR⟩;simp only at he;subst he;have q:=Z hM;have HS:=Z hS;have HR:=Z hR.rws;clear hM hS hR);have aPG:∃fD W2 cG fv tv v2,W2=i5 w1 (kd #[jS K 0 0,jS K 0 0] 228)/\O cG=O aT/\aHS w ρ τ t kb lb rb sb db s st aM fJ sd aT F G bm w1.heap.size lv cG 0 W2 fD fv tv v2/\fv=jS K 0 0/\tv=jS K 0 0:=by
  obtain⟨cG,e1,e2,e3⟩:=HR.o;obtain⟨W2,P⟩:=D (i5 w1 (kd #[jS K 0 0,jS K 0 0] 228));have bM:=Za P;have EC:bI w1 dX (λ_=>False) W2 (up w1.heap.size (τ+99) dX):=bM.fK (S:=λ_=>False) (τ+99) (λ_ h=>absurd h J);have us:¬eX (τ+20+20) (τ+95):=by unfold eX;omega
  have aVT:=q.o.aC uY.o (by rw[nI.o];unfold eX;omega);have a1L:=(q.o.cE bm (lt_of_block uY.o)).ds nI.o;have hLv:=EP.o.lv.eb q.o (by unfold eX;omega) (λc y=>by unfold eX;omega);have hSd:=EP.o.sd.eb q.o (λc y=>by unfold eX;omega);have a1n:=q.o.aC EP.o.cF (by rw[EP.o.cE];unfold eX;omega);have a1l:=(q.o.cE kb (lt_of_block EP.o.cF)).ds EP.o.cE;have hMt:uX w1 dX τ kb lb rb sb db s aM fJ sd F G:=⟨a1n,a1l,hLv,HS.o,hSd⟩;have hn:=lX.o;have St:i7 w.heap<=i7 w1.heap:=Co G6.o.size q.o.size;refine⟨up w1.heap.size (τ+99) dX,W2,cG,_,_,[],P.symm,e1,⟨?_,?_,?_,?_,⟨St,hn⟩,⟨cY (vW _),?_⟩,pI.nil _ _ _,pI.nil _ _ _,λb m=>(by cases m),λb m=>(by cases m),rfl,λi hi=>Y,e2.eb EC (λh=>h),λi hi=>(e3 i hi).eb EC (λh=>h)⟩,rfl,rfl⟩
  .exact((G6.o.aL (T:=fU τ) (λ_ h=>h.elim)).ds (q.o.aL (λ_ h=> .inr (.inl h)))).ds (EC.aL (λ_ h=>h.elim))
  .exact hMt.eb EC (λh=>h) (λ_ _ _ h=>h)
  .rw[<-P];exact heap_alloc_new w1 _
  .exact bM.aC aVT J
  .rw[fG (lt_of_block aVT)];exact a1L
 obtain⟨fD,W2,cG,fv,tv,v2,P,XI,n,L,f⟩:=aPG;subst L f;obtain⟨bx,mJ⟩:=D (i7 w1.heap);rw[mJ]at n;have Tm:=Z XI;obtain⟨la,lc,rfl,-⟩:=n.oK.1.len;have l:=Z n;have a7G:O cG<=65536:=by rw[XI];exact a5I.o
 clear n k0 k1 k2 q HS HR Mv XI;try rw[mJ]
 have MU:=l.o.bxh;go_wp2;clear MU;rw[<-P];go_loopg [23] (O aT) (λgg i wr=>∃(k:Nat) (gL:bC) (fv tv:aE) (v2:List aE),k<=O aT/\gg=O aT-k/\i=mj mn k/\aHS w ρ τ t kb lb rb sb db s st aM fJ sd aT F G bm bx (jS la (O cG) lc) cG k wr gL fv tv v2)
 case atStart=>exact⟨0,fD,_,_,_,zN _,rfl,rfl,l.o⟩
 case round=>
  clear l P;obtain⟨k,gL,fv,tv,v2,hk,rfl,rfl,n⟩:=hrel;by_cases aY:k<O aT
  .have Fr:k<O cG:=by rw[Tm.o];exact aY
   obtain⟨gx,o,cap',hv,y⟩:=n.oK.1.FC Fr;injection hv with x1 x2 x3;clear x2 x3;subst x1;have zJ:=n.aFI k aY;obtain⟨u,hu⟩:=D (hJ cG k undef);rw[hu]at y zJ;simp only[GA]at y;obtain⟨r,hr⟩:=D (hJ aT k []);rw[hr]at zJ;obtain⟨ua,uc,rfl,-⟩:=zJ.1.len;have xS:dU r/\O r=s.bT:=HGD.o r (hr▸bO (d:=[]) aY);have HPX:=Z (HDO.o wr gL _ _ r n.mt.lv.Gp zJ xS);have mh:O (cG.take k)=k:=by rw[List.length_take];omega
   obtain⟨fa,fc,L,-⟩:=n.aJR.len;obtain⟨ta,tc,f,-⟩:=n.aJQ.len;rw[mh]at L;rw[n.Uj]at f;subst L f;obtain⟨l1,Sw⟩:=D (cG.take k);have nT:=Z Sw;have HRL:=Z (show O r<=100000 by have:=xS.1.len;omega);have LE:=n.bmh;have l:=Z n;have HR:=Z hr;have HU:=Z hu;have aHg:=Z zJ;have A:=Z (Sw▸mh);clear n hr hu zJ xS mh Sw LE;go_upto_region 8 with(first
    |(go_at_fn g;refine HPX.o.mono ?_;rintro e w2 ⟨fD,x2,y2,rfl,hM,hS⟩;have iU:=hM.aC l.o.bxh (by rw[l.o.aCS.1];unfold eX;omega);obtain⟨z0,z1⟩:=Z2 iU;have JZ:=Z iU;have q:=Z hM;have HS:=Z hS;have P:=l.o.aJR.eb hM (by unfold eX;omega);rw[nT.o]at P;have ft:=Z P;clear hM hS iU P)
    |(at_builtin;refine cK Zj rfl _ _ rfl (ft.o.cZ w2) (OB w2) Yr [jS ua (O r) uc] (jS ua (O r) uc:aE) Yr rfl (dE rfl) rfl (by rw[A.o];omega) (by rw[A.o];unfold bH;omega) ?_;rintro g5 c5 w5 lU cO xS xC;rw[A.o]at lU|-;have fX:bx∉(jS fa k fc).ownBlock.toList:=(λus=>ft.o.ne JZ.o E (by simpa using us));have uV:=xS.aC JZ.o fX;obtain⟨y0,y1⟩:=Z2 uV;have yf:=aN uV;have yl:=iP (lt_of_block uV);have BA:=Z uV;have pL:=Z lU;have NJ:=Z xS;clear lU cO xS xC fX uV z0 z1))
   obtain⟨w6,iA⟩:=D (hY w5 (Ad bx 0) (jS (H (Ad g5 0)) (k+1) c5));rw[iA];have a1U:∃qJ,bI wr gL (Tj τ) w6 qJ/\bI w ρ (fU τ) w6 qJ/\L6 w6 qJ (τ+20) rb s.bT s.aH [s.up] (st (List.foldl st aM (List.take k aT)) r) F G/\w6.heap[bx]? =H (kd #[jS (H (Ad g5 0)) (k+1) c5,jS ta k tc] 228 (0,0))/\qJ bx=τ+99/\
     pI GA undef 34 1 w6 qJ (τ+97) (jS (H (Ad g5 0)) (k+1) c5) (cG.take (k+1))/\pI GA undef 34 1 w6 qJ (τ+98) (jS ta k tc) v2/\lW dV aR 3 w6 qJ t (jS ua (O r) uc) r/\i7 w.heap<=g5:=by
    have XJ:U w5 [bx] w6 [bx]:=iA▸(U.refl w5 [bx]).setCell (a:=Ad bx 0) (.inl J) _;have aQR:bI w2 fD (·=τ+97) w5 (up w2.heap.size (τ+97) fD):=ft.o.fK (v':=jS (H (Ad g5 0)) (k+1) c5) NJ.o rfl;have E8:fD bx=τ+99:=(q.o.cE bx (lt_of_block l.o.bxh)).ds l.o.aCS.1;have B:up w2.heap.size (τ+97) fD bx=τ+99:=(fG (lt_of_block JZ.o)).ds E8;have aQO:bI w5 (up w2.heap.size (τ+97) fD) (·=τ+99) w6 (up w2.heap.size (τ+97) fD):=XJ.qO (λj hj=> .inl (by rw[show j=bx by simpa using hj];exact B));have p:bI wr gL (Tj τ) w6 (up w2.heap.size (τ+97) fD):=((q.o.aL (T:=Tj τ) (λ_ h=> .inl h)).ds (aQR.aL (λ_ h=> .inr (.inl h)))).ds (aQO.aL (λ_ h=> .inr (.inr (.inr h))));have BG:∀b,b∈(jS fa k fc).ownBlock.toList->i7 w.heap<=b:=λb m=>l.o.aT9 b (by simpa using m);have hl6:=pL.o.ON ft.o NJ.o;rw[<-nT.o,<-HU.o,<-fW (by rw[Tm.o];exact aY)]at hl6;refine⟨_,p,?_,(HS.o.eb aQR (λc y=>Y)).eb aQO (λc y=>Y),by rw[<-iA,aF _ BA.o];rfl,B,?_,?_,aHg.o.eb p (by have:=BS.o;unfold Tj eX;omega),?_⟩
    .rw[<-iA];exact((l.o.fK.ds (q.o.aL (λ_ h=> .inl h))).bJ NJ.o BG (τ+97)).setCell (a:=Ad bx 0) (.inr l.o.bxn.1) _
    .exact hl6.eU XJ (λb m us=>hl6.ne BA.o E (by rw[m,show b=bx by simpa using us]))
    .exact((l.o.aJQ.eb q.o (by unfold eX;omega)).eb aQR Y).eb aQO Y
    .rcases NJ.o.fresh g5 J with h'|h'
     .exact BG g5 h'
     .exact Co (Co l.o.fK.size q.o.size) h'
   obtain⟨qJ,p,NY,XO,mK,B,C,ho2,hr6,hg5⟩:=a1U;have z0:=Zc mK 0;have z1:=Zc mK 1;have HMX:=Z p;have HMW:=Z NY;have te:=Z XO;have BU:=Z mK;have HT6:=Z B;have HO1:=Z C;have NG:=Z ho2;have HR6:=Z hr6;have HG6:=Z hg5;clear p NY XO mK B C ho2 hr6 hg5 iA y0 y1 yf yl BA pL NJ JZ q HS ft HPX y;refine e7 7 (ez z1<|ey z0) (λQ=> ?_);clear z0 z1;obtain⟨wd,fF⟩:=D (w6.drew);have pH:U w6 [] wd []:=fF▸(U.refl w6 []).drew;rw[fF]at Q|-;have O4:=Z pH;clear fF pH;refine ek [0,2,1] ?_;refine Zo 3 λvm hK=> ?_;go_simp;go_at_call 206;refine(TA _ r wd (HR6.o.on O4.o).1 HRL.o).mono ?_;rintro e w7 ⟨u,rfl,hO,gD⟩;obtain⟨na,nc,rfl,-⟩:=hO.len;dsimp only;obtain⟨tK,W⟩:=Q;have Q:=And.intro ((gD).cell tK J) ((gD).cell W J);clear tK W;have IR:=Q;have MX:bI w6 qJ (λ_=>False) w7 (up wd.heap.size t qJ):=(O4.o.fL).ds (gD.fK (S:=λ_=>False) t (λ_ h=>absurd h J));have HK7:=Z (hO.jR t qJ).rd;have Si:=Z (MX.aC BU.o (λh=>h));have z:=Z (NG.o.eb MX (λh=>h));have LA:=Z MX;clear gD MX hO;refine Zk hK Q ?_;clear hK vm;refine Zo 4 λvm hK=> ?_;go_simp;have nY:U w7 [] (i5 w7 (kd #[jS na (O r) nc] 34)) []:=(U.refl w7 []).alloc _;obtain⟨tK,W⟩:=Q;have Q:=And.intro ((nY).cell tK J) ((nY).cell W J);clear tK W;refine Zk hK Q ?_;clear hK vm;refine Zo 5 λvm hK=> ?_;have A8:=l.o.Uj;obtain⟨g8,c8,w8,dK,I1,-,zO,-⟩:=iT (ty:=46) (news:=[jS na (O r) nc]) (T:=34) Zj Y (z.o.cZ w7) (OB w7) (vW _) (zN _) (jS na (O r) nc:aE) rfl (dE rfl) (λj hj=>rfl) Y (by unfold bH;omega);rw[A8]at dK I1;clear A8;refine dL _ _ rfl Yr Yr dK ?_;have Q:=IR;have fX:bx∉(jS ta k tc).ownBlock.toList:=λus=>z.o.ne Si.o E (by simpa using us);obtain⟨tK,W⟩:=Q;have Q:=And.intro ((zO).cell tK (fX)) ((zO).cell W (fX));clear tK W;have Yl:=zO.aC Si.o fX;have bf:=aN Yl;have bl:=iP (lt_of_block Yl);have HB8:=Z Yl;have Y8:=Z I1;have dd:=Z zO;clear dK I1 zO nY IR fX Yl;refine Zk hK Q ?_;clear hK vm;refine I 6 ?_;refine Zo 7 λvm hK=> ?_;go_simp;refine Zl hK ?_;clear hK vm;clear Q bf bl;obtain⟨w9,TV⟩:=D (hY w8 (Ad bx 1) (jS (H (Ad g8 0)) (k+1) c8));rw[TV];have Q8:∃X8 v9,aHS w ρ τ t kb lb rb sb db s st aM fJ sd aT F G bm bx (jS (H (Ad gx o)) (O cG) lc) cG (k+1) w9 X8 (jS (H (Ad g5 0)) (k+1) c5) (jS (H (Ad g8 0)) (k+1) c8) v9:=by
    have hu9:U w8 [bx] w9 [bx]:=TV▸(U.refl w8 [bx]).setCell (a:=Ad bx 1) (.inl J) _;obtain⟨V,Wr⟩:=D (up wd.heap.size t qJ);rw[Wr]at HK7 z LA;have aQM:bI w7 V (·=τ+98) w8 (up w7.heap.size (τ+98) V):=z.o.fK (v':=jS (H (Ad g8 0)) (k+1) c8) dd.o rfl;have ht7:V bx=τ+99:=(LA.o.cE bx (lt_of_block BU.o)).ds HT6.o;have ht8:up w7.heap.size (τ+98) V bx=τ+99:=(fG (lt_of_block Si.o)).ds ht7;have Dp:bI w8 (up w7.heap.size (τ+98) V) (·=τ+99) w9 (up w7.heap.size (τ+98) V):=hu9.qO (λj hj=> .inl (by rw[show j=bx by simpa using hj];exact ht8));have aVu:bI w7 V (Tj τ) w9 (up w7.heap.size (τ+98) V):=(aQM.aL (T:=Tj τ) (λ_ h=> .inr (.inr (.inl h)))).ds (Dp.aL (λ_ h=> .inr (.inr (.inr h))));have a2x:=(LA.o.aL (T:=Tj τ) (λ_ h=>h.elim)).ds aVu;have p:=HMX.o.ds a2x;have BG:∀b,b∈(jS ta k tc).ownBlock.toList->i7 w.heap<=b:=λb m=>l.o.aT8 b (by simpa using m);have hl8:=Y8.o.ON z.o dd.o;have Kz:=BS.o;have aVq:=HMW.o.ds (LA.o.aL (T:=fU τ) (λ_ h=>h.elim));have A8:=l.o.Uj;have N:=l.o.mt;refine⟨up w7.heap.size (τ+98) V,v2++[jS na (O r) nc],?_,⟨?_,?_,?_,?_,?_⟩,?_,?_,l.o.bxn,⟨ht8,?_⟩,?_,?_,?_,?_,by rw[zo,A8];rfl,?_,?_,?_⟩
    .rw[<-TV];exact(aVq.bJ dd.o BG (τ+98)).setCell (a:=Ad bx 1) (.inr l.o.bxn.1) _
    .exact p.aC N.cF (by rw[N.cE];unfold Tj eX;omega)
    .exact(p.cE kb (lt_of_block N.cF)).ds N.cE
    .obtain⟨⟨ka,kc,sa,sc,ua',uc',m,BH,Xb⟩,Hs,bAR,aPN⟩:=N.lv;rw[fW (d:=[]) aY,List.foldl_append,HR.o];exact⟨⟨ka,kc,sa,sc,ua',uc',p.aC m (by rw[Hs];unfold Tj eX;omega),BH.eb p (by unfold Tj eX;omega),Xb.eb p (by unfold Tj eX;omega)⟩,(p.cE lb (lt_of_block m)).ds Hs,((te.o.eb LA.o (λ_ _ h=>h)).eb aQM (λc y=>Y)).eb Dp (λc y=>Y),aPN⟩
    .exact N.fJ.eb p (λc y=>by unfold Tj eX;omega)
    .exact N.sd.eb p (λc y=>by unfold Tj eX;omega)
    .rw[<-TV,aF _ HB8.o];rfl
    .exact p.aC l.o.bmh (by rw[l.o.aCS.2];unfold Tj eX;omega)
    .exact(p.cE bm (lt_of_block l.o.bmh)).ds l.o.aCS.2
    .exact((HO1.o.eb LA.o (λh=>h)).eb aQM Y).eb Dp Y
    .exact hl8.eU hu9 (λb m us=>hl8.ne HB8.o E (by rw[m,show b=bx by simpa using us]))
    .intro b m;rw[<-show g5=b by simpa[i6]using m];exact HG6.o
    .intro b m;rw[<-show g8=b by simpa[i6]using m];rcases dd.o.fresh g8 J with h'|h'
     .exact BG g8 h'
     .exact Co aVq.size h'
    .intro j hj;rw[iZ,A8];by_cases e:j=k
     .subst e;rw[if_pos rfl,HR.o];exact HK7.o.eb aVu (by unfold Tj eX;omega)
     .rw[if_neg e];exact(l.o.aDv j Y).eb p (by unfold Tj eX;omega)
    .exact l.o.oK.eb p (by unfold Tj eX;omega)
    .exact λj hj=>(l.o.aFI j hj).eb p (by unfold Tj eX;omega)
   obtain⟨X8,v9,Q8⟩:=Q8;have HE:=Z Q8;clear Q8 TV;go_wp2;go_roundg (O aT-(k+1))
   case rel=>exact⟨k+1,X8,_,_,v9,Y,rfl,by go_num,HE.o⟩
   case measure=>omega
  .have Fr:¬k<O cG:=by rw[Tm.o];exact aY
   obtain rfl:k=O aT:=Y;have mh:cG.take (O aT)=cG:=by rw[<-Tm.o,KH]
   obtain⟨fa,fc,L,-⟩:=n.aJR.len;obtain⟨ta,tc,f,-⟩:=n.aJQ.len;rw[mh,Tm.o]at L;rw[n.Uj]at f;subst L f;have A:=Z mh;clear mh;have m:=n.bxh;have LE:=n.bmh;obtain⟨x0,x1⟩:=Z2 m;obtain⟨y0,y1⟩:=Z2 LE;have yf:=aN LE;have yl:=iP (lt_of_block LE);have l:=Z n;clear n m LE;go_wp2;obtain⟨fv,L⟩:=D (jS fa (O aT) fc);obtain⟨tv,f⟩:=D (jS ta (O aT) tc);have us:bI wr gL (·=τ+95) (hY (hY wr (Ad bm 0) fv) (Ad bm 1) tv) gL:=((bI.refl wr gL _).setCell (a:=Ad bm 0) (.inl l.o.aCS.2) fv).setCell (a:=Ad bm 1) (.inl l.o.aCS.2) tv;have Kz:=BS.o;refine bodyPost_ret (iI (T:=228) (Ad bm 0) rfl Yr (v:= .agg #[jS fa (O aT) fc,jS ta (O aT) tc]) (by go_simp)) rfl ?_;rw[L,f];rw[L,f]at l;have N:=l.o.mt.eb us Y (λc y TY=>Y);rw[KH]at N;have C:=l.o.aJR.rd;rw[A.o]at C;refine⟨gL,_,rfl,(l.o.fK.setCell (a:=Ad bm 0) (.inr l.o.bxn.2) _).setCell (a:=Ad bm 1) (.inr l.o.bxn.2) _,N,?_⟩;refine YS.eb ⟨fv,tv,τ+97,τ+98,rfl,.inr rfl,.inr rfl,⟨cG,Tm.o,C,l.o.aFI⟩,⟨v2,l.o.Uj,l.o.aJQ.rd,l.o.aDv⟩⟩ us Y Y Y
end
section
theorem ZM192{P:Prop}(h:P:=by
  have hB:=j7.o;obtain⟨z0,z1⟩:=Z2 hB;have zf:=aN hB;have zl:=iP (dG hB);clear hB k0 k1 k2;exact ZM203):P:=h
theorem ZM18{P:Prop}(h:P:=by
  go_wp2_with (go_at_call 305;apply HTN.cX;rintro e w2 ⟨fD,mv,rfl,hM,hL,hV⟩;have Ga:=Z hL;have EE:=Z hM;obtain⟨fv,tv,t1,t2,rfl,e1,e2,h1,h2⟩:=hV;have R1:=h1;have YJ:=h2;obtain⟨UC,c1,c2,c3⟩:=R1;obtain⟨XA,d1,d2,d3⟩:=YJ;obtain⟨fa,fc,rfl,-⟩:=c2.1.len;obtain⟨ta,tc,rfl,-⟩:=d2.1.len;have Ts:=Z (show YS w2 fD τ t _ _ from⟨_,_,t1,t2,rfl,e1,e2,h1,h2⟩);clear e1 e2 h1 h2 c1 c2 c3 d1 d2 d3;have iU:=hM.aC j7 (by rw[tZ.o];unfold fU eX;omega);have Ih:=Z ((hM.cE bm (dG j7)).ds tZ);obtain⟨z0,z1⟩:=Z2 iU;have zf:=aN iU;have zl:=iP (dG iU);clear hM hL iU);let⟨q1,q2,q3⟩:=Ga.qB (tD.ds EE) lX Ih (jS fa (O UC) fc) (jS ta (O XA) tc);have Kz:=BS.o;refine mY (aW (A:=Ad bm 0) (T:=228) rfl Yr (v:= .agg #[jS fa (O UC) fc,jS ta (O XA) tc]) (by go_simp)) rfl ?_;exact⟨_,q2,_,rfl,q1,Ts.eb q3 Y Y Y⟩):P:=h
theorem ZM21{P:Prop}(h:P:=by
  clear k0 k1 k2 l6;go_wp2_with (first|(go_at_call 270;apply(nJ (ρ:=up w4 t G8) t (PD.on sr).1 A0).cX;rintro e w6 ⟨g3,rfl,cW,rZ⟩;have Ry:=Z cW;have FG:=Z rZ;have tV:=cW.aC (sr.aC OO J) J;obtain⟨z0,z1⟩:=Z2 tV;have zf:=aN tV;have zl:=iP (dG tV);clear cW rZ tV)|(go_at_call 270;apply(nJ (ρ:=G8) t PD.1 A0).cX;rintro e w5 ⟨g2,rfl,bM,rU⟩;have sr:=Z bM;have II:=Z rU;clear bM rU));let⟨m3,hMv⟩:=YD sr II Ry FG.o;have qY:=LN.eb m3 id (λ_ _ _ h=>h);have hN3:=Y4.ds (m3.aL (T:=fU τ) nZ);have QC:=(m3.cE bm (dG OO)).ds HT4.o;have Kz:=BS.o;let⟨q1,q2,q3⟩:=qY.qB hN3 lX QC (eC g2 0 1 1) (eC g3 0 1 1);refine mY (aW (A:=Ad bm 0) (T:=228) rfl Yr (v:= .agg #[eC g2 0 1 1,eC g3 0 1 1]) (by go_simp)) rfl ?_;exact⟨_,q2,_,rfl,q1,(hMv.toN τ).eb q3 Y Y Y⟩):P:=h
theorem ZM26{P:Prop}(h:P:=by
  go_in;go_upto_region 5 with(go_at_call 271;apply L8.cX;rintro e w1 ⟨dX,rfl,hM,hS⟩;have fR:=hM.aC uY (by rw[nI.o];unfold eX;omega);have j7:=Z fR;have tZ:=Z ((hM.cE bm (dG uY)).ds nI);have nT:=Z (EP.Ah hM hS);have tD:=Z ((G6.aL (T:=fU τ) nZ).ds (hM.aL (λ_ h=> .inr (.inr (.inl h)))));have HM:=Z hM;clear hM hS fR);exact ZM192):P:=h
theorem ZM27{P:Prop}(h:P:=by
  go_in;go_upto_region 5 with(go_at_call 271;apply L8.cX;rintro e w1 ⟨dX,rfl,hM,hS⟩;have fR:=hM.aC uY (by rw[nI.o];unfold eX;omega);have j7:=Z fR;have tZ:=Z ((hM.cE bm (dG uY)).ds nI);have nT:=Z (EP.PO hM hS);have tD:=Z ((G6.aL (T:=fU τ) nZ).ds (hM.aL (λ_ h=> .inr (.inl h))));have HM:=Z hM;clear hM hS fR);exact ZM192):P:=h
theorem A3.len{l:List Nat}(h:A3 l n):O l<=n:=by
 have:=Pf (l:=l) (m:=List.range n) (h.1.imp λh=>Y) (λx a=>wW.2 (h.2 x a));simpa using this
def Rv(w:aA)(ρ:bC)(τ t kb lb rb sb db:Nat)(s:lV)(F G:Nat)(aM fJ sd:List Row)(x:Except Nat (List Row×List Row×List Row×R7))(e:cc)(w':aA):Prop:=
 ∃bV,bI w ρ (fU τ) w' bV/\match x with
 | .error er=>e=mi (mr #[BF,mj mn (er:Int)])/\uX w' bV τ kb lb rb sb db s aM fJ sd F G
 | .ok (l',s',d',m)=>∃mv,e=mi (mr #[mv,mj mn 0])/\uX w' bV τ kb lb rb sb db s l' s' d' F G/\YS w' bV τ t mv m
section
variable{w w':aA}{ρ bV:bC}{τ kb lb rb sb db F G:Nat}{s:lV}{aM fJ sd l':List Row}
theorem uX.PO(h:uX w ρ τ kb lb rb sb db s aM fJ sd F G)(a:bI w ρ (eX (τ+40)) w' bV)(d:L6 w' bV (τ+40) sb s.kJ s.aH [s.bP] l' F G):uX w' bV τ kb lb rb sb db s aM l' sd F G:=
 ⟨a.aC h.cF (by rw[h.cE];unfold eX;omega),(a.cE kb (dG h.cF)).ds h.cE,h.lv.eb a (by unfold eX;omega) (λc b=>by unfold eX;omega),d,h.sd.eb a (λc b=>by unfold eX;omega)⟩
theorem uX.Ah(h:uX w ρ τ kb lb rb sb db s aM fJ sd F G)(a:bI w ρ (eX (τ+60)) w' bV)(d:L6 w' bV (τ+60) db (O s.bP) s.aH [] l' F G):uX w' bV τ kb lb rb sb db s aM fJ l' F G:=
 ⟨a.aC h.cF (by rw[h.cE];unfold eX;omega),(a.cE kb (dG h.cF)).ds h.cE,h.lv.eb a (by unfold eX;omega) (λc b=>by unfold eX;omega),h.fJ.eb a (λc b=>by unfold eX;omega),d⟩
theorem uX.M1(h:uX w ρ τ kb lb rb sb db s aM fJ sd F G)(a:bI w ρ (eX (τ+20)) w' bV)(d:L6 w' bV (τ+20) rb s.bT s.aH [s.up] l' F G):uX w' bV τ kb lb rb sb db s l' fJ sd F G:=
 ⟨a.aC h.cF (by rw[h.cE];unfold eX;omega),(a.cE kb (dG h.cF)).ds h.cE,h.lv.xI a d,h.fJ.eb a (λc b=>by unfold eX;omega),h.sd.eb a (λc b=>by unfold eX;omega)⟩
end
theorem uX.qB{w:aA}{ρ:bC}{τ kb lb rb sb db:Nat}{s:lV}{aM fJ sd:List Row}{F G:Nat}(h:uX w1 dX τ kb lb rb sb db s aM fJ sd F G)(g:bI w ρ (fU τ) w1 dX)(e:i7 w.heap<=bm)(b:dX bm=τ+99)(x y:aE):
  uX (hY (hY w1 ⟨bm,0,K⟩ x) ⟨bm,1,K⟩ y) dX τ kb lb rb sb db s aM fJ sd F G/\bI w ρ (fU τ) (hY (hY w1 ⟨bm,0,K⟩ x) ⟨bm,1,K⟩ y) dX/\bI w1 dX (·=τ+99) (hY (hY w1 ⟨bm,0,K⟩ x) ⟨bm,1,K⟩ y) dX:=by
 have d:bI w1 dX (·=τ+99) (hY (hY w1 (Ad bm 0) x) (Ad bm 1) y) dX:=((bI.refl w1 dX _).setCell (a:=Ad bm 0) (.inl b) x).setCell (a:=Ad bm 1) (.inl b) y;exact⟨h.eb d (by show¬_=_;omega) (λc i j=>by show¬_=_;omega),(g.setCell (a:=Ad bm 0) (.inr e) x).setCell (a:=Ad bm 1) (.inr e) y,d⟩
def aEl(s:lV)(aM fJ sd:List Row)(r:Row):Except Nat (List Row×List Row×List Row×R7):=
 if r∈fJ then .error 191 else if O fJ=s.aH then .error 31
 else if dF r s.bP∈sd then .ok (qN s.aH aM r,fJ++[r],sd,⟨[r],[r]⟩)else .ok (aM,fJ++[r],sd,⟨[],[r]⟩)
def aO4(s:lV)(aM fJ sd:List Row)(r:Row):Except Nat (List Row×List Row×List Row×R7):=
 if r∈sd then .error 191 else if O sd=s.aH then .error 31
 else .ok ((fJ.filter λx=>decide (dF x s.bP=r)).foldl (qN s.aH) aM,fJ,sd++[r],⟨fJ.filter λx=>decide (dF x s.bP=r),fJ.filter λx=>decide (dF x s.bP=r)⟩)
def km(s:lV)(aM fJ sd:List Row)(r:Row):Except Nat (List Row×List Row×List Row×R7):=
 if r∈fJ then if r∈aM then .ok (aM.erase r,fJ.erase r,sd,⟨[r],[r]⟩)else .ok (aM,fJ.erase r,sd,⟨[],[r]⟩)else .error 192
def aEn(s:lV)(aM fJ sd:List Row)(r:Row):Except Nat (List Row×List Row×List Row×R7):=
 if r∈sd then .ok ((fJ.filter λx=>decide (dF x s.bP=r)).foldl List.erase aM,fJ,sd.erase r,⟨fJ.filter λx=>decide (dF x s.bP=r),fJ.filter λx=>decide (dF x s.bP=r)⟩)else .error 192
theorem Jl{wd:Nat}{l:List Row}(h:O r=wd/\dS r=qT):(mF wd aH l r).2.2=qN aH l r:=by
 unfold mF qN;rw[R (by simp[h])];split;rfl;split<;>rfl
theorem Zm{wd:Nat}{l:List Row}(h:O r=wd/\dS r=qT):(lE wd l r).2.2=l.erase r:=by
 unfold lE;rw[R (by simp[h])];split
 .rfl
 .rename_i a;exact(List.erase_of_not_mem a).symm
theorem aWb{rb t τ F G:Nat}{s:lV}(j:t<τ\/τ+100<=t)(g:F+1<=G)(i:G<=1073741824):aSI 271 rb t τ s F G (qN s.aH):=by
 intro W gL aM v r d hv a;refine(PN d hv (by unfold eX;omega) a.1.R5 g i).mono ?_;rintro e w' ⟨bV,rfl,c,b⟩;rw[Jl ⟨a.2,a.1.1⟩]at b;exact⟨bV,_,_,rfl,c,b⟩
theorem aQi{rb t τ F G:Nat}{s:lV}(g:G<=F)(i:G<1073741824):aSI 269 rb t τ s F G List.erase:=by
 intro W gL aM v r d hv a;apply(IZ d hv.1 a.1.R5 g i).cX;rintro e w' ⟨bV,rfl,c,b⟩;rw[Zm ⟨a.2,a.1.1⟩]at b;exact⟨bV,_,_,rfl,c,b⟩
theorem aJ6{w:aA}{ρ:bC}{τ t tr kb lb rb sb db F G:Nat}{s:lV}{aM fJ sd:List Row}(h:uX w ρ τ kb lb rb sb db s aM fJ sd F G)(A9:s.aG=3)(hv:lW dV aR 3 w ρ tr v r)(pY:¬fU τ tr)(d:dU r/\O r=s.kJ)(qH:F+1<=G)(hG:G<=1073741824)(ht:t<τ\/τ+100<=t):
  aK prog 302 #[lr (H ⟨kb,0,K⟩),mj mn 1,v] w (Rv w ρ τ t kb lb rb sb db s F G aM fJ sd (aEl s aM fJ sd r)):=by
 have jQ:=h.lv.ok;obtain⟨va,vc,rfl,-⟩:=hv.len;let⟨wa,dM⟩:=D (i5 w (kd #[cR,cR] 228));have cV:=Za dM;have kI:=Zb dM;let⟨bm,LE⟩:=D (i7 w.heap);have y:bI w ρ eZ wa (up w (τ+99) ρ):=cV.fK (S:=eZ) (τ+99) (λ_ h=>dY h J);have W:up w (τ+99) ρ bm=τ+99:=cY Y;have x:=h.eb y id (λ_ _ _ h=>h);have V:=hv.eb y id;generalize nC:up w (τ+99) ρ=ρa at y W V x;rw[LE]at kI;have b:=x.cF;obtain⟨k0,k1,k2⟩:=Z3 b;have L9:=Z jQ;have G6:=Z y;have nI:=Z W;have Rx:=Z V;have EP:=Z x;have uY:=Z kI;have BS:=Z ht;have f:=Z pY;have g:=Z d;have lX:=Z (show i7 w.heap<=bm by omega);have m:=PN x.fJ V (λh=>pY (.inr (.inl h))) d.1.R5 qH hG;unfold aEl;by_cases n:r∈fJ
 .rw[bW n];rw[show mF s.kJ s.aH fJ r=(rR,0,fJ) by unfold mF;rw[R (by simp[d.1.1,d.2]),bW n]]at m;have L8:=Z m;clear h jQ hv pY d ht cV kI y W V x b nC m;clear n;exact ZM27
 .rw[R n];by_cases N:O fJ=s.aH
  .rw[bW N];rw[show mF s.kJ s.aH fJ r=(rR,31,fJ) by unfold mF;rw[R (by simp[d.1.1,d.2]),R n,bW N]]at m;have L8:=Z m;clear h jQ hv pY d ht cV kI y W V x b nC m;clear n N;exact ZM27
  .rw[R N];rw[show mF s.kJ s.aH fJ r=(qT,0,fJ++[r]) by unfold mF;rw[R (by simp[d.1.1,d.2]),R n,R N]]at m;have L8:=Z m;have Xa:=jQ.bP;rw[bW A9]at Xa;have a:=Z Xa;have AN:O r<=100000:=kX d.1.len;have A0:=Z AN;have U6:=Z (eI qH hG);have HK3:=Z A9;clear h jQ hv pY d ht cV kI y W V x b nC m;clear n N Xa AN qH hG A9;by_cases P:dF r s.bP∈sd
   .rw[bW P];have HP:=Z P;clear P;go_in;go_upto_region 10 with(go_at_call 271;apply L8.cX;rintro e w1 ⟨dX,rfl,hM,hS⟩;have fR:=hM.aC uY (by rw[nI.o];unfold eX;omega);have j7:=Z fR;have tZ:=Z ((hM.cE bm (dG uY)).ds nI);have nT:=Z (EP.PO hM hS);have tD:=Z ((G6.aL (T:=fU τ) nZ).ds (hM.aL (λ_ h=> .inr (.inl h))));have HM:=Z hM;clear hM hS fR);have b:=nT.cF;obtain⟨k0,k1,k2⟩:=Z3 b;have B9:=Z (Rx.eb HM (λh=>f.o (.inr (.inl h))));refine fj 99 (ez k2<|ey k1) (λwd k pH Q=> ?_);clear k0 k1 k2 b;have C:=Z pH;clear k pH;refine ek [0,4,5,1,2,3] ?_;refine Zo 6 λvm hK=> ?_;go_simp;go_at_call 306;refine(xh (nT.on C) (B9.on C).1 g.1.len (λc L=>by rw[g.o.2];exact a.2 c L) (j8 a.len L9.kJ)).mono ?_;rintro e w2 ⟨u,rfl,p,B⟩;obtain⟨ka,kc,rfl,-⟩:=p.len;dsimp only;replace Q:=B.YZ Q;have HO:=Z p;have z:=Z (C.ds B);clear B p;refine j5 ?_;clear hK vm;refine Zo 7 λvm hK=> ?_;go_simp;go_at_call 277;refine(aEK (nT.on z).sd HO.rd (g.1.dF (j8 a.len L9.kJ) (λc L=>by rw[g.o.2];exact a.2 c L)).R5).mono ?_;rintro e w3 ⟨mI,rfl,q,VA⟩;dsimp only;have i:=Z ((nT.on z).Ah q VA);have l:=Z ((z.fL (ρ:=dX) (S:=eX (τ+60))).ds q);have Q:=eI (aP i.cF (j:=2) rfl:h8 w3 (Ad kb 2)=H (Pt db)) (aP i.cF (j:=1) rfl:h8 w3 (Ad kb 1)=H (Pt sb));clear q VA;refine j5 ?_;clear hK vm;refine I 8 ?_;refine bD dJ ?_ _;clear Q;have ud:=Z (tD.ds (l.aL (T:=fU τ) (λ_ h=> .inr (.inr (.inl h)))));have QS:=Z (l.aC j7 (by rw[tZ.o];unfold eX;omega));have PG:=Z ((l.cE bm (dG j7)).ds tZ);have PE:=Z (B9.eb l (λh=>f.o (.inr (.inr (.inl h)))));rw[kY HP.o];have hw:s.bT=s.kJ:=by unfold lV.bT;rw[R (by rw[HK3.o];decide)]
    have EJ:=PN i.lv.Gp PE (λh=>f.o (.inl h)) g.1.R5 U6.1 U6.2;unfold ax at EJ;rw[Jl ⟨hw▸g.2,g.1.1⟩]at EJ;have Fb:=Z EJ;clear EJ hw k0 k1 k2;obtain⟨⟨ya,yc,ysa,ysc,yua,yuc,uT,-,-⟩,-,-,-⟩:=i.lv;have b:=i.cF;obtain⟨k0,k1,k2⟩:=Z3 b;have l6:=Zc uT 6;clear uT b;go_upto_region 13 with(go_at_call 271;apply Fb.cX;rintro e w4 ⟨G8,rfl,hM,hS⟩;have LN:=Z (i.M1 hM hS);have OO:=Z (hM.aC QS (by rw[PG.o];unfold eX;omega));have HT4:=Z ((hM.cE bm (dG QS)).ds PG);have Y4:=Z (ud.ds (hM.aL (λ_ h=> .inl h)));have PD:=Z (PE.eb hM (λh=>f.o (.inl h)));clear hM hS);exact ZM21
   .rw[R P];have HP:=Z P;clear P;go_in;go_upto_region 10 with(go_at_call 271;apply L8.cX;rintro e w1 ⟨dX,rfl,hM,hS⟩;have fR:=hM.aC uY (by rw[nI.o];unfold eX;omega);have j7:=Z fR;have tZ:=Z ((hM.cE bm (dG uY)).ds nI);have nT:=Z (EP.PO hM hS);have tD:=Z ((G6.aL (T:=fU τ) nZ).ds (hM.aL (λ_ h=> .inr (.inl h))));have HM:=Z hM;clear hM hS fR);have b:=nT.cF;obtain⟨k0,k1,k2⟩:=Z3 b;have B9:=Z (Rx.eb HM (λh=>f.o (.inr (.inl h))));refine fj 99 (ez k2<|ey k1) (λwd k pH Q=> ?_);clear k0 k1 k2 b;have C:=Z pH;clear k pH;refine ek [0,4,5,1,2,3] ?_;refine Zo 6 λvm hK=> ?_;go_simp;go_at_call 306;refine(xh (nT.on C) (B9.on C).1 g.1.len (λc L=>by rw[g.o.2];exact a.2 c L) (j8 a.len L9.kJ)).mono ?_;rintro e w2 ⟨u,rfl,p,B⟩;obtain⟨ka,kc,rfl,-⟩:=p.len;dsimp only;replace Q:=B.YZ Q;have HO:=Z p;have z:=Z (C.ds B);clear B p;refine j5 ?_;clear hK vm;refine Zo 7 λvm hK=> ?_;go_simp;go_at_call 277;refine(aEK (nT.on z).sd HO.rd (g.1.dF (j8 a.len L9.kJ) (λc L=>by rw[g.o.2];exact a.2 c L)).R5).mono ?_;rintro e w3 ⟨mI,rfl,q,VA⟩;dsimp only;have i:=Z ((nT.on z).Ah q VA);have l:=Z ((z.fL (ρ:=dX) (S:=eX (τ+60))).ds q);have Q:=eI (aP i.cF (j:=2) rfl:h8 w3 (Ad kb 2)=H (Pt db)) (aP i.cF (j:=1) rfl:h8 w3 (Ad kb 1)=H (Pt sb));clear q VA;refine j5 ?_;clear hK vm;refine I 8 ?_;refine bD dJ ?_ _;clear Q;have ud:=Z (tD.ds (l.aL (T:=fU τ) (λ_ h=> .inr (.inr (.inl h)))));have QS:=Z (l.aC j7 (by rw[tZ.o];unfold eX;omega));have PG:=Z ((l.cE bm (dG j7)).ds tZ);have PE:=Z (B9.eb l (λh=>f.o (.inr (.inr (.inl h)))));rw[kE HP.o];clear k0 k1 k2;go_wp2_with (go_at_call 270;apply(nJ (ρ:=mI) t PE.1 A0).cX;rintro e w4 ⟨g4,rfl,eJ,hR4⟩;have Ry:=Z eJ;have HR4:=Z hR4;have AA:=eJ.aC QS J;obtain⟨z0,z1⟩:=Z2 AA;have zf:=aN AA;have zl:=iP (dG AA);clear eJ hR4 AA);have m4:bI w3 mI eZ w4 (up w3 t mI):=Ry.fK (S:=eZ) t (λ_ h=>dY h J);let⟨q1,q2,q3⟩:=(i.eb m4 id (λ_ _ _ h=>h)).qB (ud.ds (m4.aL (T:=fU τ) nZ)) lX ((m4.cE bm (dG QS)).ds PG) cR (eC g4 0 1 1);have Kz:=BS.o;refine mY (aW (A:=Ad bm 0) (T:=228) rfl Yr (v:= .agg #[cR,eC g4 0 1 1]) (by go_simp)) rfl ?_;exact⟨_,q2,_,rfl,q1,YS.eb ⟨_,_,t,t,rfl,.inl rfl,.inl rfl,iY.nil _ _ _ _,HR4⟩ q3 Y Y Y⟩
theorem aJ7{w:aA}{ρ:bC}{τ t tr kb lb rb sb db F G:Nat}{s:lV}{aM fJ sd:List Row}(h:uX w ρ τ kb lb rb sb db s aM fJ sd F G)(vm:s.aG=3)(hv:lW dV aR 3 w ρ tr v r)(n:¬fU τ tr)(a:dU r/\O r=O s.bP)(z:F+1<=G)(C:G<=1073741824)(q:t<τ\/τ+100<=t):
  aK prog 302 #[lr (H ⟨kb,0,K⟩),mj mn 2,v] w (Rv w ρ τ t kb lb rb sb db s F G aM fJ sd (aO4 s aM fJ sd r)):=by
 have x:=h.lv.ok;obtain⟨va,vc,rfl,-⟩:=hv.len;let⟨wa,k⟩:=D (i5 w (kd #[cR,cR] 228));have u:=Za k;have p:=Zb k;let⟨bm,LE⟩:=D (i7 w.heap);have g:bI w ρ eZ wa (up w (τ+99) ρ):=u.fK (S:=eZ) (τ+99) (λ_ h=>dY h J);have m:up w (τ+99) ρ bm=τ+99:=cY Y;have d:=h.eb g id (λ_ _ _ h=>h);have l:=hv.eb g id;generalize y:up w (τ+99) ρ=ρa at g m l d;rw[LE]at p;have i:=d.cF;obtain⟨k0,k1,k2⟩:=Z3 i;have N:=Z x;have G6:=Z g;have nI:=Z m;have Rx:=Z l;have EP:=Z d;have uY:=Z p;have BS:=Z q;have O5:=Z n;have f:=Z a;have lX:=Z (show i7 w.heap<=bm by omega);have b:=PN d.sd l (λh=>n (.inr (.inr (.inl h)))) a.1.R5 z C;unfold aO4;by_cases c:r∈sd
 .rw[bW c];rw[show mF (O s.bP) s.aH sd r=(rR,0,sd) by unfold mF;rw[R (by simp[a.1.1,a.2]),bW c]]at b;have L8:=Z b;clear h x hv n a q u p g m l d i y b;clear c;exact ZM26
 .rw[R c];by_cases j:O sd=s.aH
  .rw[bW j];rw[show mF (O s.bP) s.aH sd r=(rR,31,sd) by unfold mF;rw[R (by simp[a.1.1,a.2]),R c,bW j]]at b;have L8:=Z b;clear h x hv n a q u p g m l d i y b;clear c j;exact ZM26
  .rw[R j];rw[show mF (O s.bP) s.aH sd r=(qT,0,sd++[r]) by unfold mF;rw[R (by simp[a.1.1,a.2]),R c,R j]]at b;have L8:=Z b;have B:=Z (aWb (rb:=rb) (t:=t) (s:=s) q z C);have W:=Z (show s.bT=s.kJ by unfold lV.bT;rw[R (by rw[vm];decide)]);clear h x hv n a q u p g m l d i y b;clear c j z C vm;go_in;go_upto_region 14 with(go_at_call 271;apply L8.cX;rintro e w1 ⟨dX,rfl,hM,hS⟩;have fR:=hM.aC uY (by rw[nI.o];unfold eX;omega);have j7:=Z fR;have tZ:=Z ((hM.cE bm (dG uY)).ds nI);have nT:=Z (EP.Ah hM hS);have tD:=Z ((G6.aL (T:=fU τ) nZ).ds (hM.aL (λ_ h=> .inr (.inr (.inl h)))));have HM:=Z hM;clear hM hS fR);have Q:=Z (Rx.eb HM (λh=>O5.o (.inr (.inr (.inl h)))));obtain⟨⟨ya,yc,ysa,P,yua,V,L,-,-⟩,-,-,-⟩:=nT.lv;have i:=nT.cF;clear k0 k1 k2;obtain⟨k0,k1,k2⟩:=Z3 i;have l6:=Zc L 6;clear L i;have HTN:=Z (Wa (t:=t) nT (enters_of func271 dJ rfl) B Q.1 f.1.R5 BS W N.aH.2);exact ZM18
end
theorem ZM52{P:Prop}(h:P:=by
  exact ZM192):P:=h
theorem aFE{t tr:Nat}{s:lV}{sd:List Row}(h:uX w ρ τ kb lb rb sb db s aM fJ sd F G)(N:s.aG=3)(hv:lW dV aR 3 w ρ tr v r)(B:¬fU τ tr)(a:dU r/\O r=O s.bP)(q:G<=F)(y:G<1073741824)(L:t<τ\/τ+100<=t):
  aK prog 301 #[lr (H ⟨kb,0,K⟩),mj mn 2,v] w (Rv w ρ τ t kb lb rb sb db s F G aM fJ sd (aEn s aM fJ sd r)):=by
 have C:=h.lv.ok;obtain⟨va,vc,rfl,-⟩:=hv.len;let⟨wa,V⟩:=D (i5 w (kd #[cR,cR] 228));have z:=Za V;have p:=Zb V;let⟨bm,LE⟩:=D (i7 w.heap);have c:bI w ρ eZ wa (up w (τ+99) ρ):=z.fK (S:=eZ) (τ+99) (λ_ h=>dY h J);have n:up w (τ+99) ρ bm=τ+99:=cY Y;have b:=h.eb c id (λ_ _ _ h=>h);have l:=hv.eb c id;generalize f:up w (τ+99) ρ=ρa at c n l b;rw[LE]at p;have d:=b.cF;obtain⟨k0,k1,k2⟩:=Z3 d;have L9:=Z C;have W:=Z c;have u:=Z n;have Rx:=Z l;have P:=Z b;have x:=Z p;have BS:=Z L;have O5:=Z B;have HG:=Z a;have lX:=Z (show i7 w.heap<=bm by omega);have g:=IZ b.sd l.1 a.1.R5 q y;unfold aEn;by_cases i:r∈sd
 .rw[bW i];rw[show lE (O s.bP) sd r=(qT,0,sd.erase r) by unfold lE;rw[R (by simp[a.1.1,a.2]),bW i]]at g;have k:=Z g;have vm:=Z (aQi (rb:=rb) (t:=t) (τ:=τ) (s:=s) q y);have HW:=Z (show s.bT=s.kJ by unfold lV.bT;rw[R (by rw[N];decide)]);clear h C hv B a L z p c n l b d f g;clear i q y N;go_in;go_upto_region 12 with(go_at_call 269;apply k.cX;rintro e w1 ⟨dX,rfl,hM,j⟩;have m:=hM.aC x (by rw[u.o];unfold eX;omega);have j7:=Z m;have tZ:=Z ((hM.cE bm (dG x)).ds u);have nT:=Z (P.Ah hM j);have tD:=Z ((W.aL (T:=fU τ) nZ).ds (hM.aL (λ_ h=> .inr (.inr (.inl h)))));have Q:=Z hM;clear hM j m);have B9:=Z (Rx.eb Q (λh=>O5.o (.inr (.inr (.inl h)))));obtain⟨⟨ya,yc,ysa,ysc,yua,yuc,uT,-,-⟩,-,-,-⟩:=nT.lv;have d:=nT.cF;clear k0 k1 k2;obtain⟨k0,k1,k2⟩:=Z3 d;have l6:=Zc uT 6;clear uT d;have HTN:=Z (Wa (t:=t) nT (enters_of func269 dJ rfl) vm B9.1 HG.1.R5 BS HW L9.aH.2);exact ZM18
 .rw[R i];rw[show lE (O s.bP) sd r=(rR,0,sd) by unfold lE;rw[R (by simp[a.1.1,a.2]),R i]]at g;have k:=Z g;clear h C hv B a L z p c n l b d f g;clear i q y N;go_in;go_upto_region 5 with(go_at_call 269;apply k.cX;rintro e w1 ⟨dX,rfl,hM,j⟩;have m:=hM.aC x (by rw[u.o];unfold eX;omega);have j7:=Z m;have tZ:=Z ((hM.cE bm (dG x)).ds u);have nT:=Z (P.Ah hM j);have tD:=Z ((W.aL (T:=fU τ) nZ).ds (hM.aL (λ_ h=> .inr (.inr (.inl h)))));have Q:=Z hM;clear hM j m);exact ZM52
theorem aFD{t tr:Nat}{s:lV}{sd:List Row}(h:uX w ρ τ kb lb rb sb db s aM fJ sd F G)(A9:s.aG=3)(hv:lW dV aR 3 w ρ tr v r)(P:¬fU τ tr)(c:dU r/\O r=s.kJ)(vm:G<=F)(N:G<1073741824)(ht:t<τ\/τ+100<=t):
  aK prog 301 #[lr (H ⟨kb,0,K⟩),mj mn 1,v] w (Rv w ρ τ t kb lb rb sb db s F G aM fJ sd (km s aM fJ sd r)):=by
 have V:=h.lv.ok;obtain⟨va,vc,rfl,-⟩:=hv.len;let⟨wa,dM⟩:=D (i5 w (kd #[cR,cR] 228));have f:=Za dM;have k:=Zb dM;let⟨bm,LE⟩:=D (i7 w.heap);have m:bI w ρ eZ wa (up w (τ+99) ρ):=f.fK (S:=eZ) (τ+99) (λ_ h=>dY h J);have B:up w (τ+99) ρ bm=τ+99:=cY Y;have l:=h.eb m id (λ_ _ _ h=>h);have z:=hv.eb m id;generalize nC:up w (τ+99) ρ=ρa at m B z l;rw[LE]at k;have d:=l.cF;obtain⟨k0,k1,k2⟩:=Z3 d;have L9:=Z V;have G6:=Z m;have x:=Z B;have Rx:=Z z;have EP:=Z l;have y:=Z k;have BS:=Z ht;have Q:=Z P;have HG:=Z c;have lX:=Z (show i7 w.heap<=bm by omega);have p:=IZ l.fJ z.1 c.1.R5 vm N;unfold km;by_cases q:r∈fJ
 .rw[bW q];rw[show lE s.kJ fJ r=(qT,0,fJ.erase r) by unfold lE;rw[R (by simp[c.1.1,c.2]),bW q]]at p;have L8:=Z p;have hw:s.bT=s.kJ:=by unfold lV.bT;rw[R (by rw[A9];decide)]
  have AN:O r<=100000:=kX c.1.len;have A0:=Z AN;have g:=Z (eI vm N);by_cases u:r∈aM
  .rw[bW u];have n:=Z (show lE s.bT aM r=(qT,0,aM.erase r) by unfold lE;rw[R (by rw[hw];simp[c.1.1,c.2]),bW u]);clear h V hv P c ht f k m B z l d nC p;clear q vm N A9 u hw AN;go_in;go_upto_region 8 with(go_at_call 269;apply L8.cX;rintro e w1 ⟨dX,rfl,a,b⟩;have i:=a.aC y (by rw[x.o];unfold eX;omega);have j7:=Z i;have tZ:=Z ((a.cE bm (dG y)).ds x);have nT:=Z (EP.PO a b);have tD:=Z ((G6.aL (T:=fU τ) nZ).ds (a.aL (λ_ h=> .inr (.inl h))));have HM:=Z a;clear a b i);have C:=Z (Rx.eb HM (λh=>Q.o (.inr (.inl h))));have j:=IZ nT.lv.Gp C.1 HG.1.R5 g.1 g.2;rw[n.o]at j;have Fb:=Z j;clear j k0 k1 k2;obtain⟨⟨ya,yc,ysa,ysc,yua,yuc,L,-,-⟩,-,-,-⟩:=nT.lv;have d:=nT.cF;obtain⟨k0,k1,k2⟩:=Z3 d;have l6:=Zc L 6;clear L d;go_upto_region 10 with(go_at_call 269;apply Fb.cX;rintro e w4 ⟨G8,rfl,a,b⟩;have LN:=Z (nT.M1 a b);have OO:=Z (a.aC j7 (by rw[tZ.o];unfold eX;omega));have HT4:=Z ((a.cE bm (dG j7)).ds tZ);have Y4:=Z (tD.ds (a.aL (λ_ h=> .inl h)));have PD:=Z (C.eb a (λh=>Q.o (.inl h)));clear a b);exact ZM21
  .rw[R u];have n:=Z (show lE s.bT aM r=(rR,0,aM) by unfold lE;rw[R (by rw[hw];simp[c.1.1,c.2]),R u]);clear h V hv P c ht f k m B z l d nC p;clear q vm N A9 u hw AN;go_in;go_upto_region 8 with(go_at_call 269;apply L8.cX;rintro e w1 ⟨dX,rfl,a,b⟩;have i:=a.aC y (by rw[x.o];unfold eX;omega);have j7:=Z i;have tZ:=Z ((a.cE bm (dG y)).ds x);have nT:=Z (EP.PO a b);have tD:=Z ((G6.aL (T:=fU τ) nZ).ds (a.aL (λ_ h=> .inr (.inl h))));have HM:=Z a;clear a b i);have C:=Z (Rx.eb HM (λh=>Q.o (.inr (.inl h))));have j:=IZ nT.lv.Gp C.1 HG.1.R5 g.1 g.2;rw[n.o]at j;have Fb:=Z j;clear j k0 k1 k2;obtain⟨⟨ya,yc,ysa,ysc,yua,yuc,L,-,-⟩,-,-,-⟩:=nT.lv;have d:=nT.cF;obtain⟨k0,k1,k2⟩:=Z3 d;have l6:=Zc L 6;clear L d;go_upto_region 11 with(go_at_call 269;apply Fb.cX;rintro e w4 ⟨G8,rfl,a,b⟩;have LN:=Z (nT.M1 a b);have OO:=Z (a.aC j7 (by rw[tZ.o];unfold eX;omega));have HT4:=Z ((a.cE bm (dG j7)).ds tZ);have Y4:=Z (tD.ds (a.aL (λ_ h=> .inl h)));have PD:=Z (C.eb a (λh=>Q.o (.inl h)));clear a b);clear k0 k1 k2 l6;go_wp2_with (go_at_call 270;apply(nJ (ρ:=G8) t PD.1 A0).cX;rintro e w5 ⟨g5,rfl,cO,tU⟩;have Ry:=Z cO;have sF:=Z tU;have W:=cO.aC OO J;obtain⟨z0,z1⟩:=Z2 W;have zf:=aN W;have zl:=iP (dG W);clear cO tU W);have m4:bI w4 G8 eZ w5 (up w4 t G8):=Ry.fK (S:=eZ) t (λ_ h=>dY h J);let⟨q1,q2,q3⟩:=(LN.eb m4 id (λ_ _ _ h=>h)).qB (Y4.ds (m4.aL (T:=fU τ) nZ)) lX ((m4.cE bm (dG OO)).ds HT4) cR (eC g5 0 1 1);have Kz:=BS.o;refine mY (aW (A:=Ad bm 0) (T:=228) rfl Yr (v:= .agg #[cR,eC g5 0 1 1]) (by go_simp)) rfl ?_;exact⟨_,q2,_,rfl,q1,YS.eb ⟨_,_,t,t,rfl,.inl rfl,.inl rfl,iY.nil _ _ _ _,sF⟩ q3 Y Y Y⟩
 .rw[R q];rw[show lE s.kJ fJ r=(rR,0,fJ) by unfold lE;rw[R (by simp[c.1.1,c.2]),R q]]at p;have L8:=Z p;clear h V hv P c ht f k m B z l d nC p;clear q vm N A9;go_in;go_upto_region 5 with(go_at_call 269;apply L8.cX;rintro e w1 ⟨dX,rfl,a,b⟩;have i:=a.aC y (by rw[x.o];unfold eX;omega);have j7:=Z i;have tZ:=Z ((a.cE bm (dG y)).ds x);have nT:=Z (EP.PO a b);have tD:=Z ((G6.aL (T:=fU τ) nZ).ds (a.aL (λ_ h=> .inr (.inl h))));have HM:=Z a;clear a b i);exact ZM52
variable{cm:Nat}
def vT(r:Row):ByteArray:=strOfNums ((bR r).map Int.ofNat)
def FU(r:Row):Lit:= .string (vT r).data.toList
theorem MN(r:Row):(vT r).data.toList=(bR r).map UInt8.ofNat:=by
 unfold vT strOfNums;rw[IF];exact Ic λx _=>rfl
theorem Ch{s:Row}(c:dU r)(hs:dU s)(h:FU r=FU s):r=s:=by
 unfold FU at h;injection h with h;rw[MN,MN]at h;refine oJ c hs ?_;have a:=xE (List.map UInt8.toNat) h;rw[IF,IF]at a;have e:∀l:List Nat,(∀x∈l,x<256)->l.map (UInt8.toNat∘UInt8.ofNat)=l:=λl hl=>by
  have d:l.map (UInt8.toNat∘UInt8.ofNat)=l.map id:=Ic λx b=>by
   have:=hl x b;simp only[Function.comp_apply,id];rw[UInt8.toNat_ofNat'];omega
  rw[d,List.map_id]
 rw[e _ (PV r),e _ (PV s)]at a;exact a
theorem UW(a:dU r):keyOf prog 9 (mX (vT r))=H (FU r):=by
 have hs:(vT r).size<=bH:=by
  have b:(vT r).size=O (bR r):=by
   show(vT r).data.size=_;rw[<-Array.length_toList,MN,r8]
  have:=a.vz;rw[b];unfold bH;omega
 rw[keyOf_string underlying9];simp[mapKey,underlying9,hs,FU]
theorem aCM(h:bN AT 0 5 1 w0 w v (bR r)):(convert 373 9 v).run prog w= .ok (mX (vT r)) w:=by
 rcases h.1 with⟨rfl,a⟩|⟨g,cap,cur,rfl,-⟩
 .have a:=List.eq_nil_of_length_eq_zero a;have c:vT r=ByteArray.empty:=by unfold vT;rw[a];rfl
  rw[c];exact run_convert_bytes_nil w 373 5 underlying373 underlying5 _ _ 9 underlying9
 .refine run_convert_bytes_arg w 373 5 underlying373 underlying5 g 0 _ cap ((bR r).map Int.ofNat) J (λi b=> ?_) 9 underlying9;let⟨g2,o2,c2,e2,d⟩:=h.rd.FC b;injection e2 with e1 _ _;injection e1 with e1;injection e1 with e1 e3 _;rw[e1,e3,d];simp only[AT];rw[gV,gV,So,kU b];rfl
def B3(m:Lit->Option aE)(eG:Row->Nat):Prop:=∀r,dU r->m (FU r)=if eG r=0 then K else H (mj mn (eG r:Int))
structure N9(w:aA)(ρ:bC)(τ kb lb rb cm:Nat)(s:lV)(aM:List Row)(eG:Row->Nat)(F G:Nat):Prop where
 cF:w.heap[kb]? =H (kd #[lr (H ⟨lb,0,K⟩),.map (H cm),.map K] 192 (0,0))
 cE:ρ kb=τ
 lv:z4 w ρ τ lb rb s aM F G
 T9:∃m,gM w 9 cm m (O aM)/\B3 m eG
 T7:ρ cm=τ+1
 ok:∀r,r∈aM↔0<eG r
 oE:∀r,eG r<=65536
theorem N9.eb{s:lV}{eG:Row->Nat}{S:Nat->Prop}(h:N9 w ρ τ kb lb rb cm s aM eG F G)(a:bI w ρ S w' bV)(b:¬S τ)(i:¬S (τ+1))(g:∀c,c<20->¬S (τ+20+c)):N9 w' bV τ kb lb rb cm s aM eG F G:=by
 obtain⟨m,d,e⟩:=h.T9;exact⟨a.aC h.cF (h.cE▸b),(a.cE _ (dG h.cF)).ds h.cE,h.lv.eb a b g,⟨m,d.eb a (h.T7▸i),e⟩,(a.cE _ d.lt).ds h.T7,h.ok,h.oE⟩
theorem uw{s:lV}{eG:Row->Nat}(h:N9 w ρ τ kb lb rb cm s aM eG F G)(hv:fM dV aR 3 w v r)(l:dU r)(m:∀c∈s.eb,c<O r)(q:O s.eb<=30):
  aK prog 300 #[lr (H ⟨kb,0,K⟩),v] w λe w'=>∃u,e=mi (mr #[u,mX (vT (dF r s.eb))])/\bN dV aR 90 3 w w' u (dF r s.eb)/\U w [] w' []:=by
 obtain⟨⟨P,k,vm,sc,ua,uc,y,b,B⟩,T,L,V⟩:=h.lv;have A:=h.cF;have x:=(J0 v _ r s.eb w hv b.1 q m (kX l.len));have g:=(l.dF q m);obtain⟨va,vc,rfl,-⟩:=hv.len;have N:=Zc y 2;have S:=Zc A 0;go_in;go_upto_region 3 with(first
  |(go_at_call 110;apply x.cX;rintro e w1 ⟨u,rfl,a,d⟩;obtain⟨f,oc,rfl,-⟩:=a.len;have p:=Z a;have z:=Z d)
  |(go_at_call 244;apply(vt _ _ w1 p.rd g).cX;rintro e w2 ⟨u,rfl,a,d⟩;obtain⟨pa,pc,rfl,-⟩:=a.len;have C:=Z a;have n:=Z d))
 have i:=aCM (C.on ((U.refl w2 []).drew));refine aO 99 (λw'=>(convert 373 9 (jS pa (O (bR (dF r s.eb))) pc)).run prog w'= .ok (mX (vT (dF r s.eb))) w') dJ i (λQ=> ?_);refine ek [0,3,1,2,4] ?_;refine bD dJ ?_ _;have j:=(U.refl w2 []).drew;go_wp2;go_ret2;exact⟨_,rfl,p.on (n.ds j),(z.ds n).ds j⟩
variable{m':Lit->Option aE}{aLI:Row->Nat}
def aHR(w:aA)(ρ:bC)(τ t kb lb rb cm:Nat)(s:lV)(F G:Nat)(aM:List Row)(eG:Row->Nat)(x:Except Nat (List Row×(Row->Nat)×R7))(e:cc)(w':aA):Prop:=
 ∃bV,bI w ρ (fU τ) w' bV/\match x with
 | .error er=>e=mi (mr #[BF,mj mn (er:Int)])/\N9 w' bV τ kb lb rb cm s aM eG F G
 | .ok (l',c',m)=>∃mv,e=mi (mr #[mv,mj mn 0])/\N9 w' bV τ kb lb rb cm s l' c' F G/\YS w' bV τ t mv m
def kk(s:lV)(aM:List Row)(eG:Row->Nat)(cZ:Row):Except Nat (List Row×(Row->Nat)×R7):=
 if eG cZ=65536 then .error 31
 else if eG cZ=0 then if O aM=s.aH then .error 31 else .ok (aM++[cZ],fQ eG cZ 1,⟨[cZ],[cZ]⟩)
 else .ok (aM,fQ eG cZ (eG cZ+1),⟨[],[cZ]⟩)
def Ok(aM:List Row)(eG:Row->Nat)(cZ:Row):Except Nat (List Row×(Row->Nat)×R7):=
 if eG cZ=0 then .error 192
 else if eG cZ=1 then .ok (aM.erase cZ,fQ eG cZ 0,⟨[cZ],[cZ]⟩)
 else .ok (aM,fQ eG cZ (eG cZ-1),⟨[],[cZ]⟩)
theorem B3.put{m:Lit->Option aE}{eG:Row->Nat}{cZ:Row}(h:B3 m eG)(c:dU cZ)(b:n≠0):B3 (Vw m (FU cZ) (mj mn (n:Int))) (fQ eG cZ n):=by
 intro r a;unfold Vw fQ;by_cases e:r=cZ
 .subst e;simp[b]
 .rw[R (λh=>e (Ch a c h)),R e];exact h r a
theorem B3.del{m:Lit->Option aE}{eG:Row->Nat}{cZ:Row}(h:B3 m eG)(b:dU cZ):B3 (aBR m (FU cZ)) (fQ eG cZ 0):=by
 intro r a;unfold aBR fQ;by_cases e:r=cZ
 .subst e;simp
 .rw[R (λh=>e (Ch a b h)),R e];exact h r a
theorem B3.vR{m:Lit->Option aE}{eG:Row->Nat}{cZ:Row}(h:B3 m eG)(a:dU cZ):(m (FU cZ)).getD (mj mn 0)=mj mn (eG cZ:Int):=by
 rw[h cZ a];split
 .rename_i e;rw[e];rfl
 .rfl
theorem B3.some{m:Lit->Option aE}{eG:Row->Nat}{cZ:Row}(h:B3 m eG)(a:dU cZ):(m (FU cZ)).isSome=decide (eG cZ≠0):=by
 rw[h cZ a];split
 .rename_i e;simp[e]
 .rename_i e;simp[e]
theorem xX{m:Lit->Option aE}{eG:Row->Nat}{cZ:Row}(b:gM w 9 cm m n)(h:B3 m eG)(a:dU cZ):
  (Instr.lookup 190 (.map (H cm)) (mX (vT cZ)) rR).run prog w= .ok (mj mn (eG cZ:Int)) w:=by
 have:=b.vR (string_keyed underlying9) underlying190 (z:=X 0) Yr (UW a);rw[h.vR a]at this;exact this
theorem re{m:Lit->Option aE}{eG:Row->Nat}{cZ:Row}{k:Nat}(c:gM w 9 cm m n)(h:B3 m eG)(a:dU cZ)(g:n<bH)(j:k≠0):
  ∃w' m',(Instr.mapUpdate 190 (.map (H cm)) (mX (vT cZ)) (mj mn (k:Int))).run prog w= .ok () w'/\gM w' 9 cm m' (if eG cZ=0 then n+1 else n)/\B3 m' (fQ eG cZ k)/\U w [cm] w' [cm]:=by
 let⟨w',i,b,d⟩:=c.put (string_keyed underlying9) underlying190 g (UW a) trivial (It k);refine⟨w',_,i,?_,h.put a j,d⟩;rw[h.some a]at b;by_cases e:eG cZ=0
 .rw[bW e];simpa[e]using b
 .rw[R e];simpa[e]using b
theorem aQm{m:Lit->Option aE}{eG:Row->Nat}{cZ:Row}(e:gM w 9 cm m n)(h:B3 m eG)(a:dU cZ)(d:eG cZ≠0)(ty:ap):
  ∃w' m',(Builtin.delete_ #[190,9] ty #[.map (H cm),mX (vT cZ)]).run prog w= .ok (mr #[]) w'/\gM w' 9 cm m' (n-1)/\B3 m' (fQ eG cZ 0)/\U w [cm] w' [cm]:=by
 let⟨w',g,b,c⟩:=e.del (string_keyed underlying9) underlying190 (UW a) ty;refine⟨w',_,g,?_,h.del a,c⟩;rw[h.some a]at b;simpa[d]using b
theorem N9.qB{s:lV}{eG:Row->Nat}(h:N9 w1 dX τ kb lb rb cm s aM eG F G)(g:bI w ρ (fU τ) w1 dX)(e:i7 w.heap<=bm)(b:dX bm=τ+99)(x y:aE):
  N9 (hY (hY w1 ⟨bm,0,K⟩ x) ⟨bm,1,K⟩ y) dX τ kb lb rb cm s aM eG F G/\bI w ρ (fU τ) (hY (hY w1 ⟨bm,0,K⟩ x) ⟨bm,1,K⟩ y) dX/\bI w1 dX (·=τ+99) (hY (hY w1 ⟨bm,0,K⟩ x) ⟨bm,1,K⟩ y) dX:=by
 have d:bI w1 dX (·=τ+99) (hY (hY w1 (Ad bm 0) x) (Ad bm 1) y) dX:=((bI.refl w1 dX _).setCell (a:=Ad bm 0) (.inl b) x).setCell (a:=Ad bm 1) (.inl b) y;exact⟨h.eb d (by show¬_=_;omega) (by show¬_=_;omega) (λc i=>by show¬_=_;omega),(g.setCell (a:=Ad bm 0) (.inr e) x).setCell (a:=Ad bm 1) (.inr e) y,d⟩
def TmW(τ x:Nat):Prop:=eX (τ+20) x\/x=τ+1\/x=τ+99
theorem N9.M1{s:lV}{l':List Row}{eG:Row->Nat}(h:N9 w ρ τ kb lb rb cm s aM eG F G)(a:bI w ρ (TmW τ) w' bV)(l:L6 w' bV (τ+20) rb s.bT s.aH [s.up] l' F G)(n:gM w' 9 cm m' (O l'))(v:B3 m' aLI)(u:∀r,r∈l'↔0<aLI r)(x:∀r,aLI r<=65536):N9 w' bV τ kb lb rb cm s l' aLI F G:=by
 obtain⟨⟨p,i,j,sc,ua,uc,g,q,hs⟩,e,y,d⟩:=h.lv;have b:¬TmW τ τ:=by unfold TmW eX;omega
 refine⟨a.aC h.cF (h.cE▸b),(a.cE kb (dG h.cF)).ds h.cE,⟨⟨p,i,j,sc,ua,uc,a.aC g (e▸b),q.eb a b,hs.eb a b⟩,(a.cE _ (dG g)).ds e,l,d⟩,⟨m',n,v⟩,?_,u,x⟩;obtain⟨m,c,-⟩:=h.T9;exact(a.cE _ c.lt).ds h.T7
theorem aOH{t:Nat}{s:lV}{eG:Row->Nat}(fr:Int)(h:N9 w ρ τ kb lb rb cm s aM eG F G)(oZ:s.aG=2)(hv:fM dV aR 3 w v r)(hg:dU r/\O r=s.kJ)(qH:F+1<=G)(hG:G<=1073741824)(ht:t<τ\/τ+100<=t):
  aK prog 297 #[lr (H ⟨kb,0,K⟩),mj mn fr,v] w (aHR w ρ τ t kb lb rb cm s F G aM eG (kk s aM eG (dF r s.eb))):=by
 have jQ:=h.lv.ok;obtain⟨va,vc,rfl,-⟩:=hv.len;let⟨cZ,BG⟩:=D (dF r s.eb);have xR:=jQ.eb;rw[bW oZ]at xR;have Ht:=j8 xR.1.len jQ.kJ;have JH:dU cZ:=BG▸hg.1.dF Ht (λc n=>by rw[hg.2];exact xR.1.2 c n);have hlo:O cZ=s.bT:=by rw[<-BG,sV];unfold lV.bT;rw[bW oZ]
 let⟨wa,dM⟩:=D (i5 w (kd #[cR,cR] 228));have cV:=Za dM;have kI:=Zb dM;let⟨bm,LE⟩:=D (i7 w.heap);have kK:bI w ρ eZ wa (up w (τ+99) ρ):=cV.fK (S:=eZ) (τ+99) (λ_ h=>dY h J);have mZ:up w (τ+99) ρ bm=τ+99:=cY Y;have yI:=h.eb kK id id vF;have oN:=hv.on cV;generalize nC:up w (τ+99) ρ=ρa at kK mZ yI;rw[LE]at kI;have hOW:=uw yI oN hg.1 (λc n=>by rw[hg.2];exact xR.1.2 c n) Ht;rw[BG]at hOW|-;have U4:=Z hOW;have L9:=Z jQ;have G6:=Z kK;have nI:=Z mZ;have EP:=Z yI;have uY:=Z kI;have BS:=Z ht;have V:=Z JH;have HLO:=Z hlo;have A0:=Z (show O cZ<=100000 by have:=JH.len;omega);have lX:=Z (show i7 w.heap<=bm by omega);clear h jQ hv hg ht cV kI kK mZ oN yI nC hOW JH hlo BG xR Ht;unfold kk;have U6:=Z (eI qH hG);clear qH hG;by_cases R3:eG cZ=65536
 .rw[bW R3];go_in;go_upto_region 2 with(go_at_call 300;apply U4.cX;rintro e w1 ⟨u,rfl,B,hU⟩;obtain⟨oa,oc,rfl,-⟩:=B.len;have i:bI wa ρa eZ w1 (up wa (τ+98) ρa):=hU.fK (S:=eZ) (τ+98) (λ_ h=>dY h J);have C:=(B.jR (τ+98) ρa).rd;have z:=EP.eb i id id vF;have fR:=i.aC uY id;have L:=(i.cE bm (dG uY)).ds nI.o;have vm:=(G6.ds i).aL (T:=fU τ) nZ;let⟨dX,oM⟩:=D (up wa (τ+98) ρa);rw[oM]at i C z L vm;have B9:=Z C;have nT:=Z z;have y:=Z fR;have tZ:=Z L;have tD:=Z vm;clear i C z fR L vm oM B hU);obtain⟨m,hm,n⟩:=nT.T9;have p:=xX hm n V.o;have d:=nT.cF;have q:=Zc d 1;have hB:=y.o;obtain⟨z0,z1⟩:=Z2 hB;have zf:=aN hB;have zl:=iP (dG hB);rw[R3]at p;clear hB d hm n;exact ZM75
 .rw[R R3];have HFL:=Z R3;have hfi:¬(eG cZ:Int)=65536:=Y;clear R3;by_cases hz:eG cZ=0
  .rw[bW hz];have HZ:=Z hz;have E4:=Z (show cZ∉aM from λhm=>by have:=(EP.ok cZ).1 hm;omega);by_cases hn:O aM=s.aH
   .rw[bW hn];have HPS:=Z (show mF s.bT s.aH aM cZ=(rR,31,aM) by unfold mF;rw[R (by simp[V.o.1,HLO.o]),R E4.o,bW hn]);clear hn hz;go_in;go_upto_region 2 with(go_at_call 300;apply U4.cX;rintro e w1 ⟨u,rfl,B,hU⟩;obtain⟨oa,oc,rfl,-⟩:=B.len;have i:bI wa ρa eZ w1 (up wa (τ+98) ρa):=hU.fK (S:=eZ) (τ+98) (λ_ h=>dY h J);have C:=(B.jR (τ+98) ρa).rd;have z:=EP.eb i id id vF;have fR:=i.aC uY id;have L:=(i.cE bm (dG uY)).ds nI.o;have vm:=(G6.ds i).aL (T:=fU τ) nZ;let⟨dX,oM⟩:=D (up wa (τ+98) ρa);rw[oM]at i C z L vm;have B9:=Z C;have nT:=Z z;have y:=Z fR;have tZ:=Z L;have tD:=Z vm;clear i C z fR L vm oM B hU);obtain⟨m,hm,n⟩:=nT.T9;have p:=xX hm n V.o;have d:=nT.cF;have q:=Zc d 1;clear d hm n;go_upto_region 5 with(go_at_call 270;apply(nJ (ρ:=dX) t B9.1 A0).cX;rintro e w2 ⟨g2,rfl,bM,rU⟩;have eQ:=Z bM;have II:=Z rU;clear bM rU);clear p q;let⟨w3,Q⟩:=D (i5 w2 (kd #[cR,eC g2 0 1 1] 228));let⟨bx,N⟩:=D (i7 w2.heap);rw[Q,N];have MR:=Za Q;have P:bI w1 dX eZ w2 (up w1 t dX):=eQ.fK (S:=eZ) t (λ_ h=>dY h J);have Bq:bI w2 (up w1 t dX) eZ w3 (up w2 (τ+99) (up w1 t dX)):=MR.fK (S:=eZ) (τ+99) (λ_ h=>dY h J);have j:=P.ds Bq;have QB:=Ze Q N;have Dg:up w2 (τ+99) (up w1 t dX) bx=τ+99:=cY Y;have rZ:=II.eb Bq id id;have Yb:i7 w.heap<=bx:=N▸j8 tD.size P.size;have Yf:bx≠bm:=pN (dG y.o) P.size;generalize nD:up w2 (τ+99) (up w1 t dX)=mI at j Dg rZ;have f:=nT.eb j id id vF;have QS:=Z (j.aC y id);have PG:=Z ((j.cE bm (dG y)).ds tZ);have ud:=Z (tD.ds (j.aL (T:=fU τ) nZ));have PE:=Z (B9.eb j id);have NF:=Z QB;have Tk:=Z Dg;have FG:=Z rZ;have HXN:=Z Yb;have wG:=Z Yf;obtain⟨m3,NV,WM⟩:=f.T9;have p:=xX NV WM V.o;have d:=f.cF;have q:=Zc d 1;have g:=Z f;have wH:=Z NV;have HC3:=Z WM;clear Q N MR P Bq j QB Dg rZ Yb Yf nD f NV WM d y tZ tD B9 nT;rw[HZ.o]at p;obtain⟨⟨ya,yc,ysa,ysc,yua,yuc,uT,-,-⟩,-,-,-⟩:=g.lv;have d:=g.cF;clear q;obtain⟨k0,q⟩:=Z2 d;have l6:=Zc uT 6;clear uT d;have o:=PN g.lv.Gp PE (by unfold eX;omega) V.R5 U6.1 U6.2;rw[HPS.o]at o;have L8:=Z o;clear o;go_upto_region 7 with(go_at_call 271;apply L8.cX;rintro e w4 ⟨G8,rfl,hM,hS⟩;have HX4:=Z (hM.aC NF (by rw[Tk.o];unfold eX;omega));have OO:=Z (hM.aC QS (by rw[PG.o];unfold eX;omega));have Y1:=Z hS;have W:=Z hM;clear hM hS);have hB:=OO.o;obtain⟨z0,z1⟩:=Z2 hB;have zf:=aN hB;have zl:=iP (dG hB);clear hB k0 q l6 p;go_wp2;have XQ:=g.M1 (W.aL (λ_ h=> .inl h)) Y1 (wH.eb W (by rw[g.o.T7];unfold eX;omega)) HC3 g.ok g.oE;let⟨q1,q2,q3⟩:=XQ.qB (ud.ds (W.aL (λ_ h=> .inl h))) lX ((W.cE bm (dG QS)).ds PG) cR cR;refine mY (aW (A:=Ad bm 0) (T:=228) rfl Yr (v:=BF) (by go_simp)) rfl ?_;exact⟨G8,q2,rfl,q1⟩
   .rw[R hn];have HPS:=Z (show mF s.bT s.aH aM cZ=(qT,0,aM++[cZ]) by unfold mF;rw[R (by simp[V.o.1,HLO.o]),R E4.o,R hn]);have hlm:O aM<bH:=by have:=EP.lv.Gp.KZ;have:=L9.aH.2;unfold bH;omega
    have HLM:=Z hlm;clear hn hz hlm;go_in;go_upto_region 2 with(go_at_call 300;apply U4.cX;rintro e w1 ⟨u,rfl,B,hU⟩;obtain⟨oa,oc,rfl,-⟩:=B.len;have i:bI wa ρa eZ w1 (up wa (τ+98) ρa):=hU.fK (S:=eZ) (τ+98) (λ_ h=>dY h J);have C:=(B.jR (τ+98) ρa).rd;have z:=EP.eb i id id vF;have fR:=i.aC uY id;have L:=(i.cE bm (dG uY)).ds nI.o;have vm:=(G6.ds i).aL (T:=fU τ) nZ;let⟨dX,oM⟩:=D (up wa (τ+98) ρa);rw[oM]at i C z L vm;have B9:=Z C;have nT:=Z z;have y:=Z fR;have tZ:=Z L;have tD:=Z vm;clear i C z fR L vm oM B hU);obtain⟨m,hm,n⟩:=nT.T9;have p:=xX hm n V.o;have d:=nT.cF;have q:=Zc d 1;clear d hm n;go_upto_region 5 with(go_at_call 270;apply(nJ (ρ:=dX) t B9.1 A0).cX;rintro e w2 ⟨g2,rfl,bM,rU⟩;have eQ:=Z bM;have II:=Z rU;clear bM rU);clear p q;let⟨w3,Q⟩:=D (i5 w2 (kd #[cR,eC g2 0 1 1] 228));let⟨bx,N⟩:=D (i7 w2.heap);rw[Q,N];have MR:=Za Q;have P:bI w1 dX eZ w2 (up w1 t dX):=eQ.fK (S:=eZ) t (λ_ h=>dY h J);have Bq:bI w2 (up w1 t dX) eZ w3 (up w2 (τ+99) (up w1 t dX)):=MR.fK (S:=eZ) (τ+99) (λ_ h=>dY h J);have j:=P.ds Bq;have QB:=Ze Q N;have Dg:up w2 (τ+99) (up w1 t dX) bx=τ+99:=cY Y;have rZ:=II.eb Bq id id;have Yb:i7 w.heap<=bx:=N▸j8 tD.size P.size;have Yf:bx≠bm:=pN (dG y.o) P.size;generalize nD:up w2 (τ+99) (up w1 t dX)=mI at j Dg rZ;have f:=nT.eb j id id vF;have QS:=Z (j.aC y id);have PG:=Z ((j.cE bm (dG y)).ds tZ);have ud:=Z (tD.ds (j.aL (T:=fU τ) nZ));have PE:=Z (B9.eb j id);have NF:=Z QB;have Tk:=Z Dg;have FG:=Z rZ;have HXN:=Z Yb;have wG:=Z Yf;obtain⟨m3,NV,WM⟩:=f.T9;have p:=xX NV WM V.o;have d:=f.cF;have q:=Zc d 1;have g:=Z f;have wH:=Z NV;have HC3:=Z WM;clear Q N MR P Bq j QB Dg rZ Yb Yf nD f NV WM d y tZ tD B9 nT;rw[HZ.o]at p;obtain⟨⟨ya,yc,ysa,ysc,yua,yuc,uT,-,-⟩,-,-,-⟩:=g.lv;have d:=g.cF;clear q;obtain⟨k0,q⟩:=Z2 d;have l6:=Zc uT 6;clear uT d;have o:=PN g.lv.Gp PE (by unfold eX;omega) V.R5 U6.1 U6.2;rw[HPS.o]at o;have L8:=Z o;clear o;go_upto_region 9 with(go_at_call 271;apply L8.cX;rintro e w4 ⟨G8,rfl,hM,hS⟩;have HX4:=Z (hM.aC NF (by rw[Tk.o];unfold eX;omega));have OO:=Z (hM.aC QS (by rw[PG.o];unfold eX;omega));have Y1:=Z hS;have W:=Z hM;clear hM hS);clear k0 q l6 p;have PD:=Z (PE.eb W (by unfold eX;omega));go_upto_region 10 with(go_at_call 270;apply(nJ (ρ:=G8) t PD.1 A0).cX;rintro e w5 ⟨g5,rfl,cO,tU⟩;have gN:=Z cO;have sF:=Z tU;have Lj:=cO.aC HX4 J;obtain⟨x0,x1⟩:=Z2 Lj;have xf:=aN Lj;have xl:=iP (dG Lj);have zy:=Z Lj;clear cO tU Lj);clear x0 x1 xf xl;let⟨w6,iA⟩:=D (hY w5 (Ad bx 0) (eC g5 0 1 1));rw[iA];have l:bI w4 G8 eZ w5 (up w4 t G8):=gN.fK (S:=eZ) t (λ_ h=>dY h J);have dz:=(l.cE bx (dG HX4)).ds ((W.cE bx (dG NF)).ds Tk);have dy:bI w5 (up w4 t G8) (·=τ+99) w6 (up w4 t G8):=iA▸(bI.refl w5 _ _).setCell (a:=Ad bx 0) (.inl dz) _;have Hx:w6.heap[bx]? =H (kd #[eC g5 0 1 1,eC g2 0 1 1] 228 (0,0)):=by rw[<-iA,aF _ zy.o];rfl
    have mK:w6.heap[bm]? =H (kd #[cR,cR] 228 (0,0)):=by rw[<-iA,Mz _ _ _ _ (λe=>wG.o e.symm)];exact l.aC OO id
    let⟨qJ,XG⟩:=D (up w4 t G8);have tU:=sF.o;rw[XG]at l dy tU dz;have m36:bI w3 mI (TmW τ) w6 qJ:=((W.aL (T:=TmW τ) (λ_ h=> .inl h)).ds (l.aL nZ)).ds (dy.aL (λ_ h=> .inr (.inr h)));have Qp:bI w ρ (fU τ) w6 qJ:=by
     rw[<-iA];exact((ud.ds (W.aL (λ_ h=> .inl h))).ds (l.aL nZ)).setCell (a:=Ad bx 0) (.inr HXN) _
    have hm6:=((wH.eb W (by rw[g.o.T7];unfold eX;omega)).eb l id).eb dy (by rw[l.cE cm ((wH.o.eb W.o (by rw[g.o.T7];unfold eX;omega)).lt),W.o.cE cm wH.o.lt,g.o.T7];omega);have p:=xX hm6 HC3 V.o;rw[HZ.o]at p;rw[show((0:Nat):Int)=0 from rfl]at p;let⟨w7,m7,iV,hm7,hc7,eo⟩:=re (k:=1) hm6 HC3 V HLM Y;rw[show((1:Nat):Int)=1 from rfl]at iV;rw[bW HZ.o]at hm7;have aVG:=(m36.cE cm wH.lt).ds g.T7;have m67:bI w6 qJ (·=τ+1) w7 qJ:=eo.qO (λk hk=> .inl ((show k=cm by simpa using hk)▸aVG));have Cz:∀(b:Nat) (cs:Array aE),w6.heap[b]? =H (kd cs 228 (0,0))->w7.heap[b]? =H (kd cs 228 (0,0)):=λb cs hb=>eo.aC hb (by simpa using(hm6.ne hb).symm);have hX7:=Cz _ _ Hx;have FX:=Cz _ _ mK;have d:=g.cF;have aUd:=m36.aC d (by rw[g.o.cE];unfold TmW eX;omega);have q:=Zc aUd 1;have V6:=g.ok;have rQ:=g.oE;have yQ:=g.M1 (m36.ds (m67.aL (λ_ h=> .inr (.inl h)))) (((Y1.eb l vF).eb dy (λc n=>Y)).eb m67 (λc n=>Y)) (show gM w7 _ cm m7 (O (aM++[cZ])) by simpa using hm7) hc7 (λx=>by
     unfold fQ;by_cases e:x=cZ
     .subst e;simp
     .rw[R e,<-V6 x];simp[e]) (λx=>by
     unfold fQ;by_cases e:x=cZ
     .rw[bW e];omega
     .rw[R e];exact rQ x)
    have xx:IntKind.i64.wrap ((0:Int)+1)=1:=by rfl
    obtain⟨x0,x1⟩:=Z2 hX7;obtain⟨z0,z1⟩:=Z2 FX;have zf:=aN FX;have zl:=iP (dG FX);have QR:=Z yQ;have aHo:=Z m67;have Fc:=Z dy;have a5C:=Z l;have HN7:=Z (Qp.ds (m67.aL (T:=fU τ) (λ_ h=> .inr (.inr (.inr h)))));have Sa:=Z ((m67.cE bm (dG mK)).ds ((m36.cE bm (dG QS)).ds PG));have HRX:=Z tU;clear m36 Qp hm6 hm7 hc7 eo aVG m67 dy l Cz hX7 FX Hx mK d aUd V6 rQ yQ dz tU iA;go_wp2;have Kz:=BS.o;let⟨q1,q2,q3⟩:=QR.qB HN7 lX Sa (eC g5 0 1 1) (eC g2 0 1 1);refine mY (aW (A:=Ad bm 0) (T:=228) rfl Yr (v:= .agg #[eC g5 0 1 1,eC g2 0 1 1]) (by go_simp)) rfl ?_;exact⟨_,q2,_,rfl,q1,YS.eb ⟨_,_,t,t,rfl,.inl rfl,.inl rfl,(HRX.eb Fc Y Y).eb aHo Y Y,(((FG.eb W (by unfold eX;omega) (by unfold eX;omega)).eb a5C id id).eb Fc Y Y).eb aHo Y Y⟩ q3 Y Y Y⟩
  .rw[R hz];have hzi:¬(eG cZ:Int)=0:=Y;have HZ:=Z hz;clear hz;go_in;go_upto_region 2 with(go_at_call 300;apply U4.cX;rintro e w1 ⟨u,rfl,B,hU⟩;obtain⟨oa,oc,rfl,-⟩:=B.len;have i:bI wa ρa eZ w1 (up wa (τ+98) ρa):=hU.fK (S:=eZ) (τ+98) (λ_ h=>dY h J);have C:=(B.jR (τ+98) ρa).rd;have z:=EP.eb i id id vF;have fR:=i.aC uY id;have L:=(i.cE bm (dG uY)).ds nI.o;have vm:=(G6.ds i).aL (T:=fU τ) nZ;let⟨dX,oM⟩:=D (up wa (τ+98) ρa);rw[oM]at i C z L vm;have B9:=Z C;have nT:=Z z;have y:=Z fR;have tZ:=Z L;have tD:=Z vm;clear i C z fR L vm oM B hU);obtain⟨m,hm,n⟩:=nT.T9;have p:=xX hm n V.o;have d:=nT.cF;have q:=Zc d 1;clear d hm n;go_upto_region 5 with(go_at_call 270;apply(nJ (ρ:=dX) t B9.1 A0).cX;rintro e w2 ⟨g2,rfl,bM,rU⟩;have eQ:=Z bM;have II:=Z rU;clear bM rU);clear p q;let⟨w3,Q⟩:=D (i5 w2 (kd #[cR,eC g2 0 1 1] 228));let⟨bx,N⟩:=D (i7 w2.heap);rw[Q,N];have MR:=Za Q;have P:bI w1 dX eZ w2 (up w1 t dX):=eQ.fK (S:=eZ) t (λ_ h=>dY h J);have Bq:bI w2 (up w1 t dX) eZ w3 (up w2 (τ+99) (up w1 t dX)):=MR.fK (S:=eZ) (τ+99) (λ_ h=>dY h J);have j:=P.ds Bq;have QB:=Ze Q N;have Dg:up w2 (τ+99) (up w1 t dX) bx=τ+99:=cY Y;have rZ:=II.eb Bq id id;have Yb:i7 w.heap<=bx:=N▸j8 tD.size P.size;have Yf:bx≠bm:=pN (dG y.o) P.size;generalize nD:up w2 (τ+99) (up w1 t dX)=mI at j Dg rZ;have f:=nT.eb j id id vF;have QS:=Z (j.aC y id);have PG:=Z ((j.cE bm (dG y)).ds tZ);have ud:=Z (tD.ds (j.aL (T:=fU τ) nZ));have PE:=Z (B9.eb j id);have NF:=Z QB;have Tk:=Z Dg;have FG:=Z rZ;have HXN:=Z Yb;have wG:=Z Yf;obtain⟨m3,NV,WM⟩:=f.T9;have p:=xX NV WM V.o;have d:=f.cF;have q:=Zc d 1;have g:=Z f;have wH:=Z NV;have HC3:=Z WM;clear Q N MR P Bq j QB Dg rZ Yb Yf nD f NV WM d y tZ tD B9 nT;have hlm:O aM<bH:=by have:=g.lv.Gp.KZ;have:=L9.aH.2;unfold bH;omega
   let⟨w4,m4,iV,hm4,hc4,Hq⟩:=re (k:=eG cZ+1) wH HC3 V hlm Y;rw[show(((eG cZ+1:Nat)):Int)=(eG cZ:Int)+1 by omega]at iV;rw[R HZ.o]at hm4;have Cz:∀(b:Nat) (cs:Array aE),w3.heap[b]? =H (kd cs 228 (0,0))->w4.heap[b]? =H (kd cs 228 (0,0)):=λb cs hb=>Hq.aC hb (by simpa using(wH.ne hb).symm);have hX4:=Cz _ _ NF.o;have AA:=Cz _ _ QS.o;have Pw:bI w3 mI (·=τ+1) w4 mI:=Hq.qO (λk hk=> .inl ((show k=cm by simpa using hk)▸g.T7));have aFr:=Pw.aL (T:=TmW τ) (λ_ h=> .inr (.inl h));have rQ:=g.oE;have V6:=g.ok;have XQ:=g.M1 aFr (g.lv.Gp.eb Pw (λc n=>Y)) hm4 hc4 (λx=>by
    unfold fQ;by_cases e:x=cZ
    .subst e;rw[bW rfl,V6];have:=HZ.o;omega
    .rw[R e];exact V6 x) (λx=>by
    unfold fQ;by_cases e:x=cZ
    .subst e;rw[bW rfl];have:=HFL.o;have:=rQ x;omega
    .rw[R e];exact rQ x)
   have hcu:(eG cZ:Int)<=65536:=kX (rQ cZ);have xx:IntKind.i64.wrap ((eG cZ:Int)+1)=(eG cZ:Int)+1:=QY _ Y;obtain⟨x0,x1⟩:=Z2 hX4;obtain⟨z0,z1⟩:=Z2 AA;have zf:=aN AA;have zl:=iP (dG AA);have LN:=Z XQ;have Y7:=Z Pw;clear hX4 AA Cz XQ aFr Pw hm4 hc4 Hq rQ V6 hlm hcu;go_wp2;have Lm:=(Y7.cE bm (dG QS)).ds PG.o;have Fu:=ud.ds (Y7.aL (T:=fU τ) (λ_ h=> .inr (.inr (.inr h))));have Kz:=BS.o;let⟨q1,q2,q3⟩:=LN.qB Fu lX Lm cR (eC g2 0 1 1);refine mY (aW (A:=Ad bm 0) (T:=228) rfl Yr (v:= .agg #[cR,eC g2 0 1 1]) (by go_simp)) rfl ?_;refine⟨_,q2,_,rfl,q1,YS.eb ⟨_,_,t,t,rfl,.inl rfl,.inl rfl,iY.nil _ _ _ _,FG.eb Y7 Y Y⟩ q3 Y Y Y⟩
theorem aIv{t:Nat}{s:lV}{eG:Row->Nat}(fr:Int)(h:N9 w ρ τ kb lb rb cm s aM eG F G)(oZ:s.aG=2)(hv:fM dV aR 3 w v r)(hg:dU r/\O r=s.kJ)(EM:G<=F)(hG:G<1073741824)(ht:t<τ\/τ+100<=t):
  aK prog 296 #[lr (H ⟨kb,0,K⟩),mj mn fr,v] w (aHR w ρ τ t kb lb rb cm s F G aM eG (Ok aM eG (dF r s.eb))):=by
 have jQ:=h.lv.ok;obtain⟨va,vc,rfl,-⟩:=hv.len;let⟨cZ,BG⟩:=D (dF r s.eb);have xR:=jQ.eb;rw[bW oZ]at xR;have Ht:O s.eb<=30:=j8 xR.1.len jQ.kJ;have JH:dU cZ:=BG▸hg.1.dF Ht (λc hc=>by rw[hg.2];exact xR.1.2 c hc);have hlo:O cZ=s.bT:=by rw[<-BG,sV];unfold lV.bT;rw[bW oZ]
 let⟨wa,dM⟩:=D (i5 w (kd #[cR,cR] 228));have cV:=Za dM;have kI:=Zb dM;let⟨bm,LE⟩:=D (i7 w.heap);have kK:bI w ρ eZ wa (up w (τ+99) ρ):=cV.fK (S:=eZ) (τ+99) (λ_ h=>dY h J);have mZ:up w (τ+99) ρ bm=τ+99:=cY Y;have yI:=h.eb kK id id vF;have oN:=hv.on cV;let⟨z,nC⟩:=D (up w (τ+99) ρ);rw[nC]at kK mZ yI;rw[LE]at kI;have hOW:=uw yI oN hg.1 (λc hc=>by rw[hg.2];exact xR.1.2 c hc) Ht;rw[BG]at hOW|-;have U4:=Z hOW;have L9:=Z jQ;have G6:=Z kK;have nI:=Z mZ;have EP:=Z yI;have uY:=Z kI;have BS:=Z ht;have HG:=Z JH;have HLO:=Z hlo;have A0:=Z (show O cZ<=100000 by have:=JH.len;omega);have lX:=Z (show i7 w.heap<=bm by omega);clear h jQ hv hg ht cV kI kK mZ oN yI nC hOW JH hlo BG xR Ht;unfold Ok;have HGF:=Z (eI EM hG);clear EM hG;by_cases hz:eG cZ=0
 .rw[bW hz];have HZ:=Z hz;clear hz;go_in;go_upto_region 3 with(first|(go_at_call 300;apply U4.o.cX;rintro e w1 ⟨u,rfl,vm,hU⟩;obtain⟨oa,oc,rfl,-⟩:=vm.len;have g:bI wa z eZ w1 (up wa (τ+98) z):=hU.fK (S:=eZ) (τ+98) (λ_ h=>dY h J);have V:=(vm.jR (τ+98) z).rd;have B:=EP.o.eb g id id vF;have fR:=g.aC uY.o id;have zP:=(g.cE bm (dG uY.o)).ds nI.o;have I0:=(G6.o.ds g).aL (T:=fU τ) nZ;let⟨dX,oM⟩:=D (up wa (τ+98) z);rw[oM]at g V B zP I0;have B9:=Z V;have nT:=Z B;have q:=Z fR;have tZ:=Z zP;have L:=Z I0;clear g V B fR zP I0 oM vm hU)|(go_at_call 270;apply(nJ (ρ:=dX) t B9.o.1 A0.o).cX;rintro e w2 ⟨g2,rfl,bM,rU⟩;have eQ:=Z bM;have II:=Z rU;clear bM rU));let⟨w3,p⟩:=D (i5 w2 (kd #[cR,eC g2 0 1 1] 228));let⟨bx,l⟩:=D (i7 w2.heap);rw[p,l];have MR:=Za p;have n:bI w1 dX eZ w2 (up w1 t dX):=eQ.o.fK (S:=eZ) t (λ_ h=>dY h J);have Bq:bI w2 (up w1 t dX) eZ w3 (up w2 (τ+99) (up w1 t dX)):=MR.fK (S:=eZ) (τ+99) (λ_ h=>dY h J);have d:=n.ds Bq;have QB:=Ze p l;have Q:up w2 (τ+99) (up w1 t dX) bx=τ+99:=cY Y;have P:=II.o.eb Bq id id;have Yb:i7 w.heap<=bx:=l▸j8 L.o.size n.size;have Yf:bx≠bm:=pN (dG q.o) n.size;let⟨mI,nD⟩:=D (up w2 (τ+99) (up w1 t dX));rw[nD]at d Q P;have m:=nT.o.eb d id id vF;have QS:=Z (d.aC q.o id);have PG:=Z ((d.cE bm (dG q.o)).ds tZ.o);have ud:=Z (L.o.ds (d.aL (T:=fU τ) nZ));have PE:=Z (B9.o.eb d id);have NF:=Z QB;have Tk:=Z Q;have FG:=Z P;have HXN:=Z Yb;have wG:=Z Yf;obtain⟨m3,W,C⟩:=m.T9;have mS:=xX W C HG.o;have o:=m.cF;have k1:=Zc o 1;have j:=Z m;have wH:=Z W;have HC3:=Z C;clear p l MR n Bq d QB Q P Yb Yf nD m W C o q tZ L B9 nT;rw[HZ.o]at mS;have hB:=QS.o;obtain⟨z0,z1⟩:=Z2 hB;have zf:=aN hB;have zl:=iP (dG hB);clear hB;go_wp2;let⟨q1,q2,q3⟩:=j.o.qB ud.o lX.o PG.o cR cR;refine mY (aW (A:=Ad bm 0) (T:=228) rfl Yr (v:=BF) (by go_simp)) rfl ?_;exact⟨mI,q2,rfl,q1⟩
 .rw[R hz];have HZ:=Z hz;have hzi:¬(eG cZ:Int)=0:=Y;clear hz;by_cases h1:eG cZ=1
  .rw[bW h1];have H1:=Z h1;have HML:=Z (show cZ∈aM from(EP.o.ok cZ).2 Y);clear h1 hzi;go_in;go_upto_region 3 with(first|(go_at_call 300;apply U4.o.cX;rintro e w1 ⟨u,rfl,vm,hU⟩;obtain⟨oa,oc,rfl,-⟩:=vm.len;have g:bI wa z eZ w1 (up wa (τ+98) z):=hU.fK (S:=eZ) (τ+98) (λ_ h=>dY h J);have V:=(vm.jR (τ+98) z).rd;have B:=EP.o.eb g id id vF;have fR:=g.aC uY.o id;have zP:=(g.cE bm (dG uY.o)).ds nI.o;have I0:=(G6.o.ds g).aL (T:=fU τ) nZ;let⟨dX,oM⟩:=D (up wa (τ+98) z);rw[oM]at g V B zP I0;have B9:=Z V;have nT:=Z B;have q:=Z fR;have tZ:=Z zP;have L:=Z I0;clear g V B fR zP I0 oM vm hU)|(go_at_call 270;apply(nJ (ρ:=dX) t B9.o.1 A0.o).cX;rintro e w2 ⟨g2,rfl,bM,rU⟩;have eQ:=Z bM;have II:=Z rU;clear bM rU));let⟨w3,p⟩:=D (i5 w2 (kd #[cR,eC g2 0 1 1] 228));let⟨bx,l⟩:=D (i7 w2.heap);rw[p,l];have MR:=Za p;have n:bI w1 dX eZ w2 (up w1 t dX):=eQ.o.fK (S:=eZ) t (λ_ h=>dY h J);have Bq:bI w2 (up w1 t dX) eZ w3 (up w2 (τ+99) (up w1 t dX)):=MR.fK (S:=eZ) (τ+99) (λ_ h=>dY h J);have d:=n.ds Bq;have QB:=Ze p l;have Q:up w2 (τ+99) (up w1 t dX) bx=τ+99:=cY Y;have P:=II.o.eb Bq id id;have Yb:i7 w.heap<=bx:=l▸j8 L.o.size n.size;have Yf:bx≠bm:=pN (dG q.o) n.size;let⟨mI,nD⟩:=D (up w2 (τ+99) (up w1 t dX));rw[nD]at d Q P;have m:=nT.o.eb d id id vF;have QS:=Z (d.aC q.o id);have PG:=Z ((d.cE bm (dG q.o)).ds tZ.o);have ud:=Z (L.o.ds (d.aL (T:=fU τ) nZ));have PE:=Z (B9.o.eb d id);have NF:=Z QB;have Tk:=Z Q;have FG:=Z P;have HXN:=Z Yb;have wG:=Z Yf;obtain⟨m3,W,C⟩:=m.T9;have mS:=xX W C HG.o;have o:=m.cF;have k1:=Zc o 1;have j:=Z m;have wH:=Z W;have HC3:=Z C;clear p l MR n Bq d QB Q P Yb Yf nD m W C o q tZ L B9 nT;rw[H1.o]at mS;rw[show((1:Nat):Int)=1 from rfl]at mS;let⟨w4,m4,a2Q,y,f,Hq⟩:=aQm wH.o HC3.o HG.o HZ.o 0;have i:bI w3 mI (·=τ+1) w4 mI:=Hq.qO (λk hk=> .inl ((show k=cm by simpa using hk)▸j.o.T7));have HX4:=Z (i.aC NF.o (kG Tk.o));have OO:=Z (i.aC QS.o (kG PG.o));have o:=j.o.cF;have aUe:=i.aC o (kG j.o.cE);obtain⟨⟨ya,yc,ysa,ysc,yua,yuc,uT,-,-⟩,aY,-,-⟩:=j.o.lv;have aUc:=i.aC uT (kG aY);have hpt:=IZ (j.o.lv.Gp.eb i (λc hc=>Y)) (PE.o.eb i Y).1 HG.o.R5 HGF.o.1 HGF.o.2;rw[show lE s.bT aM cZ=(qT,0,aM.erase cZ) by unfold lE;rw[R (by simp[HG.o.1,HLO.o]),bW HML.o]]at hpt;have L8:=Z hpt;have PD:=Z (PE.o.eb i Y);have Y7:=Z i;have LM:=Z y;have HC4:=Z f;clear i o uT aY hpt y f Hq;go_upto_region 9 with(fail);clear k1 a2Q mS;obtain⟨k0,k1⟩:=Z2 aUe;have l6:=Zc aUc 6;clear aUe aUc;go_upto_region 10 with(go_at_call 269;apply L8.o.cX;rintro e w5 ⟨oT,rfl,hM,hS⟩;have zy:=Z (hM.aC HX4.o (by rw[Tk.o];unfold eX;omega));have BA:=Z (hM.aC OO.o (by rw[PG.o];unfold eX;omega));have Tp:=Z hS;have NI:=Z hM;clear hM hS);clear k0 k1 l6;have bz:=Z (PD.o.eb NI.o (by unfold eX;omega));go_upto_region 11 with(go_at_call 270;apply(nJ (ρ:=oT) t bz.o.1 A0.o).cX;rintro e w6 ⟨g6,rfl,dR,lA⟩;have lM:=Z dR;have HR6:=Z lA;have Hx:=dR.aC zy.o J;obtain⟨x0,x1⟩:=Z2 Hx;have xf:=aN Hx;have xl:=iP (dG Hx);have Tl:=Z Hx;clear dR lA Hx);clear x0 x1 xf xl;let⟨w7,vV⟩:=D (hY w6 (Ad bx 0) (eC g6 0 1 1));rw[vV];have dy:bI w5 oT eZ w6 (up w5 t oT):=lM.o.fK (S:=eZ) t (λ_ h=>dY h J);have dz:up w5 t oT bx=τ+99:=(dy.cE bx (dG zy.o)).ds ((NI.o.cE bx (dG HX4.o)).ds ((Y7.o.cE bx (dG NF.o)).ds Tk.o));have N:bI w6 (up w5 t oT) (·=τ+99) w7 (up w5 t oT):=vV▸(bI.refl w6 _ _).setCell (a:=Ad bx 0) (.inl dz) _;have hX7:w7.heap[bx]? =H (kd #[eC g6 0 1 1,eC g2 0 1 1] 228 (0,0)):=by rw[<-vV,aF _ Tl.o];rfl
   have FX:w7.heap[bm]? =H (kd #[cR,cR] 228 (0,0)):=by rw[<-vV,Mz _ _ _ _ (λe=>wG.o e.symm)];exact dy.aC BA.o id
   have m47:bI w4 mI (TmW τ) w7 (up w5 t oT):=((NI.o.aL (T:=TmW τ) (λ_ h=> .inl h)).ds (dy.aL nZ)).ds (N.aL (λ_ h=> .inr (.inr h)));have m37:=(Y7.o.aL (T:=TmW τ) (λ_ h=> .inr (.inl h))).ds m47;have hN7:bI w ρ (fU τ) w7 (up w5 t oT):=by
    rw[<-vV];exact(((ud.o.ds (Y7.o.aL (λ_ h=> .inr (.inr (.inr h))))).ds (NI.o.aL (λ_ h=> .inl h))).ds (dy.aL nZ)).setCell (a:=Ad bx 0) (.inr HXN.o) _
   have aPh:mI cm=τ+1:=j.o.T7;have hm5:=LM.o.eb NI.o (by rw[aPh];unfold eX;omega);have aVH:oT cm=τ+1:=(NI.o.cE cm LM.o.lt).ds aPh;have hm7:=(hm5.eb dy id).eb N (by rw[dy.cE cm hm5.lt,aVH];omega);have V6:=j.o.ok;have rQ:=j.o.oE;have zK:=j.o.lv.Gp.dD;have yQ:=j.o.M1 m37 ((Tp.o.eb dy vF).eb N (λc hc=>Y)) (show gM w7 _ cm m4 (O (aM.erase cZ)) by rw[B2 HML.o];exact hm7) HC4.o (λx=>by
    unfold fQ;rw[zK.mem_erase_iff];by_cases e:x=cZ
    .subst e;simp
    .rw[R e,V6 x];simp[e]) (λx=>by
    unfold fQ;by_cases e:x=cZ
    .rw[bW e];omega
    .rw[R e];exact rQ x)
   obtain⟨x0,x1⟩:=Z2 hX7;obtain⟨z0,z1⟩:=Z2 FX;have zf:=aN FX;have zl:=iP (dG FX);have QR:=Z yQ;have aHo:=Z N;have Fc:=Z dy;have HN7:=Z hN7;have Sa:=Z ((m37.cE bm (dG QS.o)).ds PG.o);clear m37 hN7 m47 aPh aVH hm5 hm7 N dy hX7 FX V6 rQ yQ dz vV zK;go_wp2;have Kz:=BS.o;let⟨q1,q2,q3⟩:=QR.o.qB HN7.o lX.o Sa.o (eC g6 0 1 1) (eC g2 0 1 1);refine mY (aW (A:=Ad bm 0) (T:=228) rfl Yr (v:= .agg #[eC g6 0 1 1,eC g2 0 1 1]) (by go_simp)) rfl ?_;exact⟨_,q2,_,rfl,q1,YS.eb ⟨_,_,t,t,rfl,.inl rfl,.inl rfl,HR6.o.eb aHo.o Y Y,(((FG.o.eb Y7.o Y Y).eb NI.o (by unfold eX;omega) (by unfold eX;omega)).eb Fc.o id id).eb aHo.o Y Y⟩ q3 Y Y Y⟩
  .rw[R h1];have H1:=Z h1;have h1i:¬(eG cZ:Int)=1:=Y;clear h1;go_in;go_upto_region 3 with(first|(go_at_call 300;apply U4.o.cX;rintro e w1 ⟨u,rfl,vm,hU⟩;obtain⟨oa,oc,rfl,-⟩:=vm.len;have g:bI wa z eZ w1 (up wa (τ+98) z):=hU.fK (S:=eZ) (τ+98) (λ_ h=>dY h J);have V:=(vm.jR (τ+98) z).rd;have B:=EP.o.eb g id id vF;have fR:=g.aC uY.o id;have zP:=(g.cE bm (dG uY.o)).ds nI.o;have I0:=(G6.o.ds g).aL (T:=fU τ) nZ;let⟨dX,oM⟩:=D (up wa (τ+98) z);rw[oM]at g V B zP I0;have B9:=Z V;have nT:=Z B;have q:=Z fR;have tZ:=Z zP;have L:=Z I0;clear g V B fR zP I0 oM vm hU)|(go_at_call 270;apply(nJ (ρ:=dX) t B9.o.1 A0.o).cX;rintro e w2 ⟨g2,rfl,bM,rU⟩;have eQ:=Z bM;have II:=Z rU;clear bM rU));let⟨w3,p⟩:=D (i5 w2 (kd #[cR,eC g2 0 1 1] 228));let⟨bx,l⟩:=D (i7 w2.heap);rw[p,l];have MR:=Za p;have n:bI w1 dX eZ w2 (up w1 t dX):=eQ.o.fK (S:=eZ) t (λ_ h=>dY h J);have Bq:bI w2 (up w1 t dX) eZ w3 (up w2 (τ+99) (up w1 t dX)):=MR.fK (S:=eZ) (τ+99) (λ_ h=>dY h J);have d:=n.ds Bq;have QB:=Ze p l;have Q:up w2 (τ+99) (up w1 t dX) bx=τ+99:=cY Y;have P:=II.o.eb Bq id id;have Yb:i7 w.heap<=bx:=l▸j8 L.o.size n.size;have Yf:bx≠bm:=pN (dG q.o) n.size;let⟨mI,nD⟩:=D (up w2 (τ+99) (up w1 t dX));rw[nD]at d Q P;have m:=nT.o.eb d id id vF;have QS:=Z (d.aC q.o id);have PG:=Z ((d.cE bm (dG q.o)).ds tZ.o);have ud:=Z (L.o.ds (d.aL (T:=fU τ) nZ));have PE:=Z (B9.o.eb d id);have NF:=Z QB;have Tk:=Z Q;have FG:=Z P;have HXN:=Z Yb;have wG:=Z Yf;obtain⟨m3,W,C⟩:=m.T9;have mS:=xX W C HG.o;have o:=m.cF;have k1:=Zc o 1;have j:=Z m;have wH:=Z W;have HC3:=Z C;clear p l MR n Bq d QB Q P Yb Yf nD m W C o q tZ L B9 nT;have hlm:O aM<bH:=by have:=j.o.lv.Gp.KZ;have:=L9.o.aH.2;unfold bH;omega
   let⟨w4,m4,iV,y,f,Hq⟩:=re (k:=eG cZ-1) wH.o HC3.o HG.o hlm (pN H1.o HZ.o);rw[show(((eG cZ-1:Nat)):Int)=(eG cZ:Int)-1 by have:=HZ.o;omega]at iV;rw[R HZ.o]at y;have Cz:∀(b:Nat) (cs:Array aE),w3.heap[b]? =H (kd cs 228 (0,0))->w4.heap[b]? =H (kd cs 228 (0,0)):=λb cs hb=>Hq.aC hb (by simpa using(wH.o.ne hb).symm);have hX4:=Cz _ _ NF.o;have AA:=Cz _ _ QS.o;have Pw:bI w3 mI (·=τ+1) w4 mI:=Hq.qO (λk hk=> .inl ((show k=cm by simpa using hk)▸j.o.T7));have aFr:=Pw.aL (T:=TmW τ) (λ_ h=> .inr (.inl h));have rQ:=j.o.oE;have V6:=j.o.ok;have XQ:=j.o.M1 aFr (j.o.lv.Gp.eb Pw (λc hc=>Y)) y f (λx=>by
    unfold fQ;by_cases e:x=cZ
    .subst e;rw[bW rfl,V6];have:=H1.o;have:=HZ.o;omega
    .rw[R e];exact V6 x) (λx=>by
    unfold fQ;by_cases e:x=cZ
    .subst e;rw[bW rfl];have:=rQ x;omega
    .rw[R e];exact rQ x)
   have hcu:(eG cZ:Int)<=65536:=kX (rQ cZ);have xx:IntKind.i64.wrap ((eG cZ:Int)-1)=(eG cZ:Int)-1:=QY _ Y;obtain⟨x0,x1⟩:=Z2 hX4;obtain⟨z0,z1⟩:=Z2 AA;have zf:=aN AA;have zl:=iP (dG AA);have LN:=Z XQ;have Y7:=Z Pw;clear hX4 AA Cz XQ aFr Pw y f Hq rQ V6 hlm hcu;go_wp2;have Lm:=(Y7.o.cE bm (dG QS.o)).ds PG.o;have Fu:=ud.o.ds (Y7.o.aL (T:=fU τ) (λ_ h=> .inr (.inr (.inr h))));have Kz:=BS.o;let⟨q1,q2,q3⟩:=LN.o.qB Fu lX.o Lm cR (eC g2 0 1 1);refine mY (aW (A:=Ad bm 0) (T:=228) rfl Yr (v:= .agg #[cR,eC g2 0 1 1]) (by go_simp)) rfl ?_;refine⟨_,q2,_,rfl,q1,YS.eb ⟨_,_,t,t,rfl,.inl rfl,.inl rfl,iY.nil _ _ _ _,FG.o.eb Y7.o Y Y⟩ q3 Y Y Y⟩
variable{iv:aE}
theorem ZM95{P:Prop}(h:P:=by
  go_enter func151,ntmps151;go_wp2_with (go_at_call 109;apply hvd.dC;intro w1 hU);go_ret;exact⟨rfl,hU⟩):P:=h
def zW(w:aA)(ρ:bC)(τ lb rb:Nat)(s:lV)(n:f7)(F G:Nat)(iv:aE):Prop:=
 (s.aG=1/\∃kb,iv= .iface 186 (lr (H ⟨kb,0,K⟩))/\w.heap[kb]? =H (kd #[lr (H ⟨lb,0,K⟩)] 188 (0,0))/\ρ kb=τ/\z4 w ρ τ lb rb s n.aM F G)\/
 (s.aG=2/\∃kb cm,iv= .iface 189 (lr (H ⟨kb,0,K⟩))/\N9 w ρ τ kb lb rb cm s n.aM n.eG F G)\/
 (s.aG=3/\∃kb sb db,iv= .iface 193 (lr (H ⟨kb,0,K⟩))/\uX w ρ τ kb lb rb sb db s n.aM n.fJ n.sd F G)
def p9(w:aA)(ρ:bC)(τ b:Nat)(s:lV)(n:f7)(F G:Nat):Prop:=
 ∃lb rb iv,w.heap[b]? =H (kd #[lr (H ⟨lb,0,K⟩),iv] 123 (0,0))/\ρ b=τ/\zW w ρ τ lb rb s n F G iv
theorem zW.lv{s:lV}{n:f7}(h:zW w ρ τ lb rb s n F G iv):z4 w ρ τ lb rb s n.aM F G:=by
 rcases h with⟨-,kb,-,-,-,h⟩|⟨-,kb,cm,-,h⟩|⟨-,kb,sb,db,-,h⟩
 .exact h
 .exact h.lv
 .exact h.lv
theorem zW.eb{s:lV}{n:f7}{S:Nat->Prop}(h:zW w ρ τ lb rb s n F G iv)(b:bI w ρ S w' bV)(g:∀c,c<80->¬S (τ+c)):zW w' bV τ lb rb s n F G iv:=by
 have a:¬S τ:=g 0 Y;have m:∀c,c<20->¬S (τ+20+c):=λc l=>by rw[Nat.add_assoc];exact g _ Y
 rcases h with⟨d,kb,e,j,i,h⟩|⟨d,kb,cm,e,h⟩|⟨d,kb,sb,db,e,h⟩
 .exact .inl ⟨d,kb,e,b.aC j (i▸a),(b.cE kb (dG j)).ds i,h.eb b a m⟩
 .exact .inr (.inl ⟨d,kb,cm,e,h.eb b a (g 1 Y) m⟩)
 .exact .inr (.inr ⟨d,kb,sb,db,e,h.eb b a (λc _ l=>g c l)⟩)
theorem p9.eb{s:lV}{n:f7}{S:Nat->Prop}(h:p9 w ρ τ b s n F G)(a:bI w ρ S w' bV)(d:∀c,c<80->¬S (τ+c)):p9 w' bV τ b s n F G:=by
 obtain⟨lb,rb,iv,e,g,h⟩:=h;exact⟨lb,rb,iv,a.aC e (g▸d 0 Y),(a.cE b (dG e)).ds g,h.eb a d⟩
def DP(sd:Bool):Int:=if sd then 2 else 1
def qW(s:lV)(sd:Bool)(r:Row):Prop:=dU r/\O r=(if sd then O s.bP else s.kJ)/\(sd=qT->s.aG=3)
theorem Ka{s:lV}{n:f7}(sd:Bool)(h:p9 w ρ τ b s n F G)(hv:fM dV aR 3 w v r)(m:qW s sd r):
  uJ 151 #[lr (H ⟨b,0,K⟩),mj mn (DP sd),v] w λe w'=>e=mi (mj mn 0)/\U w [] w' []:=by
 obtain⟨lb,rb,iv,i,C,l⟩:=h;obtain⟨⟨N,u,B,sc,ua,uc,p,c,j⟩,z,f,A⟩:=l.lv;obtain⟨a,hl,q⟩:=m;have hvd:=M9 v r w hv a.R5;rw[a.1]at hvd;obtain⟨va,vc,rfl,-⟩:=hv.len;obtain⟨d,L,x,vm⟩:=Z4 p;have y:=Zc i 0;cases sd with
 |false=>
  have hl:=hl;rw[hl]at hvd|-;show uJ _ #[_,X 1,_] _ _;exact ZM95
 |true=>
  have hl:=hl;have g:=q rfl;rw[hl]at hvd|-;rw[g]at d;show uJ _ #[_,X 2,_] _ _;exact ZM95
section
theorem ZM204{P:Prop}(h:P:=by
  exact⟨mv,rfl,.inr (.inr ⟨hk,kb,sb,db,rfl,hL⟩),hV⟩):P:=h
theorem ZM197{P:Prop}(h:P:=by
  obtain⟨mv,rfl,hL,hV⟩:=hx;exact ZM204):P:=h
theorem ZM198{P:Prop}(h:P:=by
  obtain⟨rfl,hL⟩:=hx;exact⟨rfl,.inr (.inr ⟨hk,kb,sb,db,rfl,hL⟩)⟩):P:=h
theorem ZM104{P:Prop}(h:P:=by
  rw[bW hp]at hx|-;exact ZM197):P:=h
theorem ZM107{P:Prop}(h:P:=by
  rw[R hp]at hx|-;exact ZM197):P:=h
theorem ZM122{P:Prop}(h:P:=by
  rw[bW hm]at hx|-;exact ZM198):P:=h
theorem ZM123{P:Prop}(h:P:=by
  rw[bW hn]at hx|-;exact ZM198):P:=h
theorem ZM126{P:Prop}(h:P:=by
  rw[R hm]at hx|-;exact ZM198):P:=h
theorem ZM169{P:Prop}(h:P:=by
  exact⟨mv,rfl,.inr (.inl ⟨hk,kb,cm,rfl,hL⟩),hV⟩):P:=h
theorem ZM176{P:Prop}(h:P:=by
  exact⟨rfl,.inr (.inl ⟨hk,kb,cm,rfl,hL⟩)⟩):P:=h
theorem ZM182{P:Prop}(h:P:=by
  exact⟨rfl,.inl ⟨hk,kb,rfl,Dd,eu,hL⟩⟩):P:=h
def aC3(w:aA)(ρ:bC)(τ t lb rb:Nat)(s:lV)(n:f7)(F G:Nat)(iv:aE)(x:Except Nat (f7×R7))(e:cc)(w':aA):Prop:=
 ∃bV,bI w ρ (fU τ) w' bV/\match x with
 | .error er=>e=mi (mr #[BF,mj mn (er:Int)])/\zW w' bV τ lb rb s n F G iv
 | .ok (n',m)=>∃mv,e=mi (mr #[mv,mj mn 0])/\zW w' bV τ lb rb s n' F G iv/\YS w' bV τ t mv m
section
variable{w:aA}{ρ:bC}{τ t tr lb rb kb F G:Nat}{s:lV}{n:f7}{v:aE}{r:Row}
theorem aFO(fr:Int)(hk:s.aG=1)(c:w.heap[kb]? =H (kd #[lr (H ⟨lb,0,K⟩)] 188 (0,0)))(g:ρ kb=τ)(h:z4 w ρ τ lb rb s n.aM F G)(hv:lW dV aR 3 w ρ tr v r)(x:¬fU τ tr)(j:qW s rR r)(q:F+1<=G)(u:G<=1073741824)(l:t<τ\/τ+100<=t):
  uJ 266 #[lr (H ⟨kb,0,K⟩),mj mn fr,v] w (aC3 w ρ τ t lb rb s n F G (.iface 186 (lr (H ⟨kb,0,K⟩))) (OF s n rR r)):=by
 have z:s.bT=s.kJ:=by unfold lV.bT;rw[R (by rw[hk];decide)]
 apply(aOq fr h c hv x ⟨j.1,z▸j.2.1⟩ q u l).cX;rintro e w' ⟨bV,b,a⟩;have p:¬fU τ τ:=fU.not (by omega);have Dd:=b.aC c (g▸p);have eu:=(b.cE kb (dG c)).ds g;refine⟨bV,b,?_⟩;unfold OF;rw[bW hk];by_cases i:r∈n.aM
 .rw[bW i]at a|-;obtain⟨rfl,hL⟩:=a;exact ZM182
 .rw[R i]at a|-;by_cases d:O n.aM=s.aH
  .rw[bW d]at a|-;obtain⟨rfl,hL⟩:=a;exact ZM182
  .rw[R d]at a|-;obtain⟨y,rfl,hL,m⟩:=a;exact⟨y,rfl,.inl ⟨hk,kb,rfl,Dd,eu,hL⟩,m.toN τ⟩
theorem aEB(fr:Int)(hk:s.aG=2)(h:N9 w ρ τ kb lb rb cm s n.aM n.eG F G)(hv:lW dV aR 3 w ρ tr v r)(i:qW s rR r)(m:F+1<=G)(p:G<=1073741824)(l:t<τ\/τ+100<=t):
  uJ 297 #[lr (H ⟨kb,0,K⟩),mj mn fr,v] w (aC3 w ρ τ t lb rb s n F G (.iface 189 (lr (H ⟨kb,0,K⟩))) (OF s n rR r)):=by
 apply(aOH fr h hk hv.1 ⟨i.1,i.2.1⟩ m p l).cX;rintro e w' ⟨bV,j,a⟩;have u:=h.ok (dF r s.eb);refine⟨bV,j,?_⟩;unfold OF;rw[R Y,bW hk];unfold kk at a;by_cases g:n.eG (dF r s.eb)=65536
 .rw[bW g]at a|-;obtain⟨rfl,hL⟩:=a;exact ZM176
 .rw[R g]at a|-;by_cases d:n.eG (dF r s.eb)=0
  .rw[bW d]at a|-;have b:dF r s.eb∉n.aM:=λx=>by grind
   by_cases c:O n.aM=s.aH
   .rw[if_pos c]at a;rw[bW ⟨b,c⟩];obtain⟨rfl,hL⟩:=a;exact ZM176
   .rw[R c]at a;rw[R (λh=>c h.2)];obtain⟨mv,rfl,hL,hV⟩:=a;have q:qN s.aH n.aM (dF r s.eb)=n.aM++[dF r s.eb]:=by unfold qN;rw[R b,R c]
    rw[q];exact ZM169
  .rw[R d]at a|-;obtain⟨mv,rfl,hL,hV⟩:=a;exact ZM169
theorem aFC(sd:Bool)(hk:s.aG=3)(h:uX w ρ τ kb lb rb sb db s n.aM n.fJ n.sd F G)(hv:lW dV aR 3 w ρ tr v r)(i:¬fU τ tr)(a:qW s sd r)(d:F+1<=G)(g:G<=1073741824)(c:t<τ\/τ+100<=t):
  uJ 302 #[lr (H ⟨kb,0,K⟩),mj mn (DP sd),v] w (aC3 w ρ τ t lb rb s n F G (.iface 193 (lr (H ⟨kb,0,K⟩))) (OF s n sd r)):=by
 cases sd with
 |false=>
  apply(aJ6 h hk hv i ⟨a.1,a.2.1⟩ d g c).cX;rintro e w' ⟨bV,b,hx⟩;refine⟨bV,b,?_⟩;unfold OF;rw[R Y,R Y,R E];unfold aEl at hx;by_cases hm:r∈n.fJ
  .exact ZM122
  .rw[R hm]at hx|-;by_cases hn:O n.fJ=s.aH
   .exact ZM123
   .rw[R hn]at hx|-;by_cases hp:dF r s.bP∈n.sd
    .exact ZM104
    .exact ZM107
 |true=>
  apply(aJ7 h hk hv i ⟨a.1,a.2.1⟩ d g c).cX;rintro e w' ⟨bV,b,hx⟩;refine⟨bV,b,?_⟩;unfold OF;rw[R Y,R Y,bW rfl];unfold aO4 at hx;by_cases hm:r∈n.sd
  .exact ZM122
  .rw[R hm]at hx|-;by_cases hn:O n.sd=s.aH
   .exact ZM123
   .rw[R hn]at hx|-;obtain⟨mv,rfl,hL,hV⟩:=hx;exact ZM204
theorem aB3(fr:Int)(hk:s.aG=1)(c:w.heap[kb]? =H (kd #[lr (H ⟨lb,0,K⟩)] 188 (0,0)))(d:ρ kb=τ)(h:z4 w ρ τ lb rb s n.aM F G)(hv:lW dV aR 3 w ρ tr v r)(q:¬fU τ tr)(i:qW s rR r)(y:G<=F)(p:G<1073741824)(j:t<τ\/τ+100<=t):
  uJ 265 #[lr (H ⟨kb,0,K⟩),mj mn fr,v] w (aC3 w ρ τ t lb rb s n F G (.iface 186 (lr (H ⟨kb,0,K⟩))) (uN s n rR r)):=by
 have x:s.bT=s.kJ:=by unfold lV.bT;rw[R (by rw[hk];decide)]
 apply(aJl fr h c hv q ⟨i.1,x▸i.2.1⟩ y p j).cX;rintro e w' ⟨bV,b,a⟩;have l:¬fU τ τ:=fU.not (by omega);have Dd:=b.aC c (d▸l);have eu:=(b.cE kb (dG c)).ds d;refine⟨bV,b,?_⟩;unfold uN;rw[bW hk];by_cases g:r∈n.aM
 .rw[bW g]at a|-;obtain⟨u,rfl,hL,m⟩:=a;exact⟨u,rfl,.inl ⟨hk,kb,rfl,Dd,eu,hL⟩,m.toN τ⟩
 .rw[R g]at a|-;obtain⟨rfl,hL⟩:=a;exact ZM182
theorem aAV(fr:Int)(hk:s.aG=2)(h:N9 w ρ τ kb lb rb cm s n.aM n.eG F G)(hv:lW dV aR 3 w ρ tr v r)(c:qW s rR r)(l:G<=F)(j:G<1073741824)(i:t<τ\/τ+100<=t):
  uJ 296 #[lr (H ⟨kb,0,K⟩),mj mn fr,v] w (aC3 w ρ τ t lb rb s n F G (.iface 189 (lr (H ⟨kb,0,K⟩))) (uN s n rR r)):=by
 apply(aIv fr h hk hv.1 ⟨c.1,c.2.1⟩ l j i).cX;rintro e w' ⟨bV,g,a⟩;have m:=h.ok (dF r s.eb);refine⟨bV,g,?_⟩;unfold uN;rw[R Y,bW hk];unfold Ok at a;by_cases b:n.eG (dF r s.eb)=0
 .rw[bW b]at a|-;obtain⟨rfl,hL⟩:=a;exact ZM176
 .rw[R b]at a|-;by_cases d:n.eG (dF r s.eb)=1
  .rw[bW d]at a|-;obtain⟨mv,rfl,hL,hV⟩:=a;exact ZM169
  .rw[R d]at a|-;obtain⟨mv,rfl,hL,hV⟩:=a;exact ZM169
theorem aBQ(sd:Bool)(hk:s.aG=3)(h:uX w ρ τ kb lb rb sb db s n.aM n.fJ n.sd F G)(hv:lW dV aR 3 w ρ tr v r)(g:¬fU τ tr)(a:qW s sd r)(i:G<=F)(d:G<1073741824)(c:t<τ\/τ+100<=t):
  uJ 301 #[lr (H ⟨kb,0,K⟩),mj mn (DP sd),v] w (aC3 w ρ τ t lb rb s n F G (.iface 193 (lr (H ⟨kb,0,K⟩))) (uN s n sd r)):=by
 cases sd with
 |false=>
  apply(aFD h hk hv g ⟨a.1,a.2.1⟩ i d c).cX;rintro e w' ⟨bV,b,hx⟩;refine⟨bV,b,?_⟩;unfold uN;rw[R Y,R Y,R E];unfold km at hx;by_cases hm:r∈n.fJ
  .rw[bW hm]at hx|-;by_cases hp:r∈n.aM
   .exact ZM104
   .exact ZM107
  .exact ZM126
 |true=>
  apply(aFE h hk hv g ⟨a.1,a.2.1⟩ i d c).cX;rintro e w' ⟨bV,b,hx⟩;refine⟨bV,b,?_⟩;unfold uN;rw[R Y,R Y,bW rfl];unfold aEn at hx;by_cases hm:r∈n.sd
  .rw[bW hm]at hx|-;obtain⟨mv,rfl,hL,hV⟩:=hx;exact ZM204
  .exact ZM126
end
end
end Go.Proofs.YtohhhhfdpceppaaGreatDoor
