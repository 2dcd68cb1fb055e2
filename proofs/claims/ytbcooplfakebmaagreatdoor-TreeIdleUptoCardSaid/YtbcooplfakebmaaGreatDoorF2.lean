/- Proved: the law TreeIdle returns true for every query and every script, and leaves its arguments as they were, where these together are of bulk at most 1048576 (the row's own bound). It holds where the package-level variable deBruijn32tab reads as the program's text lays it: the card ties that to the text. No other conditions. -/
import Derived.Test.YtbcooplfakebmaaGreatDoorM6
namespace Go.Proofs.YtbcooplfakebmaaGreatDoor
set_option maxHeartbeats 4000000
set_option maxRecDepth 100000
set_option linter.all false
open Go.RowKit Go.Maps Go.Proofs.Tryz Tryz
open Go renaming Value→aF
variable{ps:List (dU×aF)}{c n st β:Nat}{rowOf:Nat->Option Row}{t1:iZ}{av hv sv:aF}{w w':World}
section
section
variable{P:DS}{add:Bool}
theorem QH{hit:Nat->Bool}{rowOf:Nat->Option Row}:∀(l:List Nat) (w:kH) (done:List Nat),(∀i∈l,(P.spec i).aG=1)->(∀i∈l,hit i=true->∀r,rowOf i=some r->ME add (w.T i) r)->
  cG P add hit rowOf l w done=({w with aQ:=w.aQ+(l.filter hit).length},done,false)
 |[],w,done,_,_=>rfl
 |i::l,w,done,hk,hs=>by
  have ih:=λ(w':kH) (e:w'.T=w.T)=>QH (hit:=hit) (rowOf:=rowOf) l w' done (λj c=>hk j (by simp[c])) (λj c d r m=>by rw[e];exact hs j (by simp[c]) d r m);unfold cG;by_cases a:hit i=true
  .simp only[a,Bool.not_true,UV,zF,List.filter_cons,uN,T9];cases g:rowOf i with
   |none=>
    simp only;rw[ih {w with aQ:=w.aQ+1} rfl];simp only[Nat.add_assoc,Nat.add_comm 1]
   |some r=>
    have b:=hs i X a r g;have hd:fU P add {w with aQ:=w.aQ+1} i false r=({w with aQ:=w.aQ+1},[],0,if add=true then 191 else 192):=by
     unfold fU jA;unfold ME at b;cases add with
     |true=>
      simp only[uN]at b|-;unfold KJ;rw[bR (hk i X),bR b]
     |false=>
      simp only[UV,zF]at b|-;unfold sU;rw[bR (hk i X),bD b]
    simp only[hd];rw[bR (by cases add<;>simp),ih {w with aQ:=w.aQ+1} rfl];simp only[Nat.add_assoc,Nat.add_comm 1]
  .have a:hit i=false:=eI a;simp only[a,Bool.not_false,uN,List.filter_cons,UV,zF];exact ih w rfl
theorem Vc{cells aD:Nat}{t:iZ}{hit:Nat->Bool}(v:∀i j,(P.spec i).aG=1->P.cW j≠some i)(b:∀i,i<aD->(P.spec i).aG=1)(w:∀i,i<aD->(t.T i).aI.Nodup)(h:eC P cells aD t add hit rowOf=(t1,st,c,0)):
  eC P cells aD t1 add hit rowOf=({t1 with state:=t1.fX+1,fX:=t1.fX+1},((List.range aD).filter hit).length,0,0):=by
 unfold eC at h;simp only at h;let⟨g,n⟩:=E (cG P add hit rowOf (List.range aD) ⟨t.T,0,λ_=>[]⟩ []);have d:=zV (P:=P) (add:=add) (hit:=hit) (rowOf:=rowOf) v (List.range aD) ⟨t.T,0,λ_=>[]⟩ [] List.nodup_range (λi a=>b i (yD.1 a)) (λi a=>w i (yD.1 a));rw[n]at h d;split at h
 .grind
 .rename_i e;split at h
  .grind
  .rename_i p;injection h with h1 h;have hs:=(d (eI e)).1;have u:t1.T=g.1.T:=by rw[<-h1]
   unfold eC;simp only;rw[QH (List.range aD) ⟨t1.T,0,λ_=>[]⟩ [] (λi a=>b i (yD.1 a)) (λi a q r m=>by grind)];simp only[UV,zF];rw[u];rw[bD p];have x:∀l:List Nat,(l.map λ_=>0).sum=0:=λl=>by induction l<;>grind
   simp[kH.count,x]
end
section
variable{wa wr w2:World}{ρ fB:aW}{q:bB}{b d cells N:Nat}{t:iZ}
variable{q:bB}{cells:Nat}{t:iZ}{add:Bool}{rel:dU}{r:Row}{R:iZ×Nat×Nat×Nat}
theorem rs(b:qm q)(h:zJ (bJ (aB q).2) t.T)(g:eC (bJ (aB q).2) cells q.aD.length t add (jC q rel) (dQ q r)=R)(d:R.2.2.2=0):
  eC (bJ (aB q).2) cells q.aD.length R.1 add (jC q rel) (dQ q r)=({R.1 with state:=R.1.fX+1,fX:=R.1.fX+1},((List.range q.aD.length).filter (jC q rel)).length,0,0):=by
 have hl:=b.wf.cN;obtain⟨t1,st,c,e⟩:=R;dsimp only at d;subst d;exact Vc (λi j l=>b.oJ.leaf l j) (λi a=>(hl i a).2.1) (λi a=>(h.all i (hl i a).1).cZ) g
theorem Eo{P:DS}{hit:Nat->Bool}(a:eC P cells n t add hit rowOf=R)(b:R.2.2.2=0):R.1.state=R.1.fX:=by
 unfold eC at a;simp only at a;split at a
 .rw[<-a]at b;cases b
 .split at a
  .rw[<-a]at b;cases b
  .rw[<-a]
end
def QQ(q:bB)(rel:dU)(k:Nat):Nat:=((List.range k).filter (jC q rel)).length
theorem ig(q:bB)(rel:dU)(k:Nat):QQ q rel (k+1)=QQ q rel k+if jC q rel k then 1 else 0:=by
 unfold QQ;rw[Yl,zdF,F5];congr 1;cases h:jC q rel k<;>simp[h]
theorem aE5(q:bB)(rel:dU)(k:Nat):QQ q rel k<=k:=by
 unfold QQ;have:=zdG (jC q rel) (List.range k);rwa[List.length_range]at this
theorem aMO{ρ:aW}{b:Nat}{q:bB}{cells N H:Nat}{t2:iZ}{R:iZ×Nat×Nat×Nat}{e:Ending}(a:R=(t2,H,0,0))(h:SW w ρ β b q cells N R e w'):
  ∃bN,e= .returned (.tuple #[.agg #[.int .i64 (H:Int),.int .i64 0],.int .i64 0])/\bA w ρ (jl β) w' bN/\wG w' bN β b q cells t2 (N+1) (N+1):=by
 subst a;exact h
theorem aCn{q:bB}(h:B9 w hv av ps q)(hw:Tz w)(he:kS q 65536≠0):
  Calls prog 3 #[.agg #[.string q.name,hv,av],sv] w λe w'=>e= .returned (.bool true)/\U w [] w' []:=by
 obtain⟨ha,i,rfl,-⟩:=h.head.len;obtain⟨g,c,rfl,-⟩:=h.aD.len;rw[h.len]at h|-;let⟨wa,b⟩:=E (w.alloc (.cells #[.string q.name,.slice ha q.head.length i,.slice g q.aD.length c] 25));let⟨j,d⟩:=E (w.heap.size);have cR:=Za b;have kB:=Ze b d;exact ZM55
theorem aHG{q:bB}{cs:List Chg}(h:B9 w hv av ps q)(hs:LN w sv cs)(hw:Tz w)(n:(aB q).1=0):
  Calls prog 3 #[.agg #[.string q.name,hv,av],sv] w λe w'=>e= .returned (.bool true)/\U w [] w' []:=by
 obtain⟨sa,sc,rfl,-⟩:=hs.rd.len;obtain⟨ha,hc,rfl,-⟩:=h.head.len;obtain⟨aa,ac,rfl,-⟩:=h.aD.len;rw[h.len]at h|-;obtain⟨wa,dE⟩:=E (w.alloc (.cells #[.string q.name,.slice ha q.head.length hc,.slice aa q.aD.length ac] 25));obtain⟨bq,CR⟩:=E (w.heap.size);have W:=Za dE;have kB:=Ze dE CR;obtain⟨b0,b1,b2⟩:=Z3 kB;have Yh:=Z kB;have wU:=Z W;have HQ:=Z (h.on W);have NO:=Z (hw.on W);have JJ:=Z (Kr (ρ:=λ_=>0) 10 65536 HQ NO n D (λ_ _=>rfl) D);rw[show((65536:Nat):Int)=65536 from rfl]at JJ;have HS:=Z (hs.on W);obtain⟨m,hm⟩:=E (cs.length);have qW:m<=1048576:=by rw[<-hm];exact hs.len
 rw[hm]at HS|-;have HMM:=Z hm;have H0:=Z n;clear h hs hw kB W n hm;go_in;go_upto_region 5 with(go_at_call 6;apply JJ.cF;rintro e w1 ⟨bt,d,dN,rfl,pG,uX,O⟩;have nV:=Z (oA.mk (cells:=65536) (pG.aN (T:=LS 10) pW) uX O);clear pG uX O);clear b0 b1 b2 dE;go_loopg [38] m (λgg s38 wr=>∃(k N:Nat) (B:aW) (t:iZ),k<=m/\gg=m-k/\s38=J k/\N<=2*k/\oA wa wr B q bt d 65536 N t)
 .exact⟨0,0,dN,TD,Y,rfl,rfl,fV _,nV⟩
 obtain⟨k,N,B,t,hk,CY,rfl,hN,hL⟩:=hrel;have OR:=Z CY;have HL:=Z hL;clear CY hL;by_cases aV:k<m
 .have Oo:k<cs.length:=by rw[HMM.o];exact aV
  obtain⟨g,o,cap,hv,-,dF⟩:=eX.aU (HS.rd.on HL.eF) Oo;rw[HMM.o]at hv;obtain rfl:=CT hv;have c0:=dF 0 D;have c1:=dF 1 D;have c2:=dF 2 D;rw[pK]at c0;obtain⟨G,P⟩:=HS.j5 _ (bM (d:=TN) Oo);obtain⟨⟨add,rel,rv,r⟩,hc⟩:∃c,cs.getD k TN=c:=⟨_,rfl⟩;rw[hc]at c0 c1 c2 G P;obtain⟨ra,rc,Cc,-⟩:=G.len;dsimp only at Cc;subst Cc;dsimp only[aES]at c0 c1 c2 G P;obtain⟨w2,pS⟩:=E (wr.alloc (.cells #[.bool add,.string rel,.slice ra r.length rc] 35));obtain⟨bx,lR⟩:=E (wr.heap.size);have bH:=Za pS;have ZV:=Ze pS lR;have zI:bA wr B eL w2 (up wr 7 B):=bH.eW (S:=eL) 7 (λ_ h=>dS h X);have u:up wr 7 B bx=7:=cJ Y;generalize YP:up wr 7 B=fB at zI u;have A2:=HL.on zI;obtain⟨x0,x1,x2⟩:=Z3 ZV;have Cq:=Z (t8 (add:=add) (rel:=rel) A2.l8 Y (A2.row G) (oU D D) P D);have Co:=Z A2;have Ex:=Z (dX ZV u);have Bl:=Z G;have aJE:=Z P;have HK:=Z aV;have CQ:(k:Int)<(m:Int):=Y;generalize hR:eC (bJ (aB q).2) 65536 q.aD.length t add (jC q rel) (dQ q r)=R at Cq;have HR:=Z hR;clear dF hc G P bH ZV zI u YP A2 hR Oo aV hk;go_upto_region 8 with(go_at_call 8;apply Cq.cF;rintro e w3 ⟨kM,rfl,qU,JE⟩;have nR:=Z (Co.IG qU JE);have tC:=Z qU;clear qU JE);obtain⟨w4,qJ⟩:=E (w3.alloc (.cells #[J (R.2.1:Int),J (R.2.2.1:Int)] 37));have eA:=Za qJ;have F:bA w3 kM eL w4 (up w3 7 kM):=eA.eW (S:=eL) 7 (λ_ h=>dS h X);rw[qJ];generalize MP:up w3 7 kM=ρ4 at F;have DY:=Z (nR.on F);by_cases n:R.2.2.2=0
  .have hRI:=rs Co.l8.ok Co.l8.Oi HR n;have pO:=Eo HR n;have g0:((R.2.2.2:Int)!=0)=false:=by rw[n];rfl
   have yu:=F.aC (tC.aC Ex.1 (by rw[Ex.o.2];exact oU D D)) id;have aCv:ρ4 bx=7:=(F.bT bx (wM (cV Ex.1) tC.size)).trans ((tC.bT bx (cV Ex.1)).trans Ex.2);obtain⟨dcs,da,dc,l,A,Q⟩:=DY.doc;have hDl:=cV l;have d5:=aL l A;have qz:=Z (O5 (t:=3) DY.l8.bd DY.l8.ok.few D D);generalize xm:(aB q).2.aK.length=nn at d5 qz;have Bm:=Z xm;have kk:=Z (dX yu aCv);have HRI:=Z hRI;have zM:=Z pO;have HDB:=Z (dX l (dX A Q));clear hRI pO yu aCv l A Q eA F MP x0 x1 x2 xm lR qJ;go_upto_region 10 with(first
    |(go_at_call 11;apply(AV (oI.l8.bd.on lI)).cL;rintro w7 rfl)
    |(go_at_call 10;apply(rC oI.l8.bd oI.l8.ok.few).cL;intro w6 dK;have lI:=Z dK;clear dK)
    |(go_at_call 9;apply qz.cF;rintro e w5 ⟨pJ,u5,rfl,tU,rS,ZW⟩;obtain⟨a5,c5,rfl,-⟩:=ZW.len;rw[iL]at ZW|-;have oI:=Z (DY.told (.inl rfl) tU rS);have G7:=Z tU;have HA5:=Z ZW;clear tU rS ZW))
   rw[zM.o];have SM:bA w5 pJ eL w6 pJ:=lI.fK;have lL:=oI.on SM;have aIB:=G7.jH lI.o;have fu:=aIB.aC kk.1 (by rw[kk.o.2];exact zX D D);have aCu:pJ bx=7:=(G7.bT bx (cV kk.1)).trans kk.2;have hA6:=HA5.keep SM id id;obtain⟨x0,x1,x2⟩:=Z3 fu;have z:=Z ((t8 (add:=add) (rel:=rel) lL.l8 Y (lL.row Bl) (oU D D) aJE D).mono λe w' h=>aMO HRI h);have hH6:QQ q rel q.aD.length=((List.range q.aD.length).filter (jC q rel)).length:=rfl;rw[<-hH6]at z;generalize hH:QQ q rel q.aD.length=H at z;have HH:=Z hH;have uL:=Z lL;have Wy:=Z (dX fu aCu);have HA6:=Z hA6;clear SM lL aIB fu aCu hA6 hH hH6 d5 hDl;go_upto_region 11 with(go_at_call 8;apply z.cF;rintro e w7 ⟨OZ,rfl,F1,Xu⟩;have IM:=Z F1;have Es:=Z Xu;clear F1 Xu);obtain⟨w8,wP⟩:=E (w7.alloc (.cells #[It H,J 0] 37));obtain⟨bz,JB⟩:=E (w7.heap.size);have iE:=Za wP;have hBZ:=Ze wP JB;have pU:bA w7 OZ eL w8 (up w7 7 OZ):=iE.eW (S:=eL) 7 (λ_ h=>dS h X);have p:up w7 7 OZ bz=7:=cJ Y;rw[wP,JB];generalize MO:up w7 7 OZ=ρ8 at pU p;have CS:oA wa w8 ρ8 q bt d 65536 (N+1+1) {R.1 with state:=R.1.fX+1,fX:=R.1.fX+1}:=(uL.IG (R:=(_,H,0,0)) IM Es).on pU;have hA8:=(HA6.keep IM (oU D D) (oU D D)).keep pU id id;have aT8:=pU.aC (IM.aC Wy.1 (by rw[Wy.o.2];exact oU D D)) id;have b2':=CS.eF.cell (aL Yh (j:=2) rfl) X;have OY:=Z CS;have HA8:=Z hA8;have a2O:=Z aT8;have HBZ:=Z (dX hBZ p);clear iE hBZ pU p MO CS hA8 aT8 x0 x1 x2 JB wP;go_upto_region 13 with(fail);clear b2';go_loopg [17,71] q.aD.length (λgg s17 s71 v=>∃j:Nat,j<=q.aD.length/\gg=q.aD.length-j/\s71=J j/\s17=J (QQ q rel j:Int)/\U w8 [] v [])
   .exact⟨0,Y,rfl,rfl,rfl,U.refl _ _⟩
   obtain⟨j,hj,Ee,rfl,rfl,sO⟩:=hrel;obtain⟨v,rfl⟩:∃v,v=wr:=⟨_,rfl⟩;have HGJ:=Z Ee;have x:=Z sO;clear Ee sO;by_cases FJ:j<q.aD.length
   .obtain⟨ga,oa,ca,ta,tc,-,hav,p0,p1,-⟩:=(HQ.on (OY.eF.trans x)).o7 FJ;injection hav with y1 y2 y3;subst y1;generalize pF:q.aD.getD j default=aU at p0 p1;obtain⟨E1,BY⟩:=E (v.alloc (.cells #[.string aU.rel,.slice ta aU.aS.length tc] 52));obtain⟨by_,Xt⟩:=E (v.heap.size);have i:=Za BY;have hBY:=Ze BY Xt;obtain⟨y0,y1'⟩:=Z2 hBY;have x1:=(x.trans i).cell (aL a2O (j:=1) rfl) X;have C:=Z (x.trans i);have HJ:=Z FJ;have a:=ig q rel j;have hle:=aE5 q rel j;have I6:=HQ.dM.aD;have uW:(j:Int)<(q.aD.length:Int):=Y;clear i hBY y2 y3;by_cases K:aU.rel=rel
    .have V:jC q rel j=true:=by unfold jC;rw[pF];exact kI K
     have hsx:(aU.rel.toList==rel.toList)=true:=by rw[yG];exact kI K
     rw[V,bR rfl]at a;generalize hcc:QQ q rel j=c at a hle|-;have Xj:IntKind.i64.wrap ((c:Int)+1)=(c:Int)+1:=TA _ Y;have y:=Z a;clear V K pF a hcc;go_wp2;go_roundg (q.aD.length-(j+1))
     .exact⟨j+1,HJ,rfl,eO,by rw[y.o];go_num,C⟩
     have:=HGJ.o;have:=HJ.o;omega
    .have V:jC q rel j=false:=by unfold jC;rw[pF];exact jO K
     have hsx:(aU.rel.toList==rel.toList)=false:=by rw[yG];exact jO K
     rw[V,bD D,pK]at a;have y:=Z a;clear V K pF a;go_wp2;go_roundg (q.aD.length-(j+1))
     .exact⟨j+1,HJ,rfl,eO,by rw[y.o];rfl,C⟩
     have:=HGJ.o;have:=HJ.o;omega
   .obtain rfl:j=q.aD.length:=Y;rw[HH.o];have UC:=OY.on (x.fK (S:=eL));have W0:fR v ρ8 10 bt q 65536 (R.1.fX+1) (R.1.fX+1) R.1.T (N+1+1) (N+1+1):=UC.l8.bd;have yr:=UC.l8.ok.few;have z0:=x.cell (aL HBZ.1 (j:=0) rfl) X;have z1:=x.cell (aL HBZ.1 (j:=1) rfl) X;obtain⟨aTx,da2,dc2,VA,Mn,a0E⟩:=UC.doc;have aFV:=Z (dX VA (aL VA Mn));obtain⟨S,hS⟩:=E (AB (bJ (aB q).2) R.1.T);have Pd:=Z (rC W0 yr);rw[hS]at Pd|-;obtain⟨L,b⟩:=E (R.1.fX);have hLb:L<=N+1:=by rw[<-b];exact nR.l8.num.2
    rw[b]at W0|-;have Xj:IntKind.i64.wrap ((L:Int)+1)=(L:Int)+1:=TA _ Y;have Nz:=Z W0;have HF9:=Z yr;have HA9:=Z (HA8.keep (x.fK (S:=eL)) id id);have HL9:=Z UC;have CL:=Z b;clear UC W0 yr VA Mn a0E hS b;go_wp2_with (first
     |(go_at_call 12;apply(MD aP2.rd HAW.rd (by rw[iL])).cL;intro w13 ZO;rw[kI rfl];have aIp:=Z ZO;clear ZO)
     |(go_at_call 9;apply HA2.cF;rintro e w12 ⟨Iv,u12,rfl,CZ,QG,L7⟩;obtain⟨a12,c12,rfl,-⟩:=L7.len;rw[iL]at L7|-;have HAW:=Z ((HA9.keep (C.fK (S:=eL)) id id).keep CZ (zX D D) (zX D D));have aAP:=Z CZ;have aPY:=Z QG;have aP2:=Z L7;clear CZ QG L7)
     |(go_at_call 11;apply(AV (Nz.on C)).cL;rintro kw rfl;rw[show((L+1:Nat):Int)=(L:Int)+1 from rfl])
     |(go_at_call 10;apply Pd.cL;intro E1 i;have d52:=i.cell aFV.2 X;have dl2:=iO (cV (i.aC aFV.1 X));have Xw:=O5 (t:=5) (Nz.on i) HF9 D D;rw[Bm.o]at d52 Xw;have HA2:=Z Xw;have C:=Z i;clear i Xw))
    go_roundg (m-(k+1))
    .have QG:=aPY.o;rw[<-CL.o]at QG;exact⟨k+1,N+1+1,Iv,{R.1 with state:=R.1.fX+1,fX:=R.1.fX+1},HK,rfl,eO,Y,((HL9.on (C.fK (S:=eL))).told (.inr rfl) aAP QG).on (aIp.fK (S:=eL))⟩
    have:=OR.o;have:=HK.o;omega
  .have g0:((R.2.2.2:Int)!=0)=true:=j7 bne_iff_ne;clear n eA F MP x0 x1 x2 lR qJ;exact ZM125
 .exact ZM77
theorem aCo{q:bB}{cs:List Chg}(h:B9 w hv av ps q)(hs:LN w sv cs)(b:Tz w):
  tR 3 #[.agg #[.string q.name,hv,av],sv] w λe w'=>e= .returned (.bool true)/\U w [] w' []:=by
 by_cases a:kS q 65536=0
 .exact aHG h hs b (DF a)
 .exact aCn h b a
end
section
open Go.ChangeShapes Go.WideShapes Go.ChangeAt Go.RowKit
def YO:Array aF:=#[.agg #[.string {data:=#[]},.slice none 0 0,.slice none 0 0],.slice none 0 0]
theorem az(b:Os){H:Type}(enc:TypeId×aF->H):∃x a,DataW.whole enc prog ((xI b).forCall (λ_ _=>0) ⟨#[],YO,[]⟩).memory f3.params.toList Rows.treeIdleSpec.vars false YO.toList 8=some (x,[],a)/\Rows.uptoSmall H x=true:=
 ⟨[.agg [.lit (.string []),.nil,.nil],.nil],[],by kernel_rfl,by kernel_rfl⟩
theorem UY(b:Os)(a:b.Started)(H:Type)(enc:TypeId×aF->H)(F:Stop.Interp):
  ReturnsInHanded {} checked b 3 .any ((Rows.OpenSpec.upto Rows.treeIdleSpec).preRow enc prog f3 Rows.treeIdleUptoRow.domain false Rows.treeIdleUptoRow.laid) (((Rows.OpenSpec.upto Rows.treeIdleSpec).at F).post enc prog f3 false true false false):=by
 let⟨x,c,B,K⟩:=az b enc;refine returnsInHanded_of_row (C:=checked) (s:=Rows.OpenSpec.upto Rows.treeIdleSpec) cY a dB func3
  (witness_row_at (enc:=enc) (C:=checked) false (xI b) YO rfl dB dB dB
   (OpenSpec.preRow_of_cond 8 B dB (λk r=>by cases r;simpa using K) dB (YG b _))) ?_
 intro W eE args N gs before m l _ L _ n _ _;have d:=m;have j:Rows.uptoBulkAll (N++gs)<=1048576:=of_decide_eq_true (L _ rfl);have V7:=l;obtain⟨p,q,g,P,rfl,A,R⟩:=l;have i:=g;rw[params3]at i d;obtain⟨v0,v1,w,y,V,S,rfl,rfl,rfl,z,v⟩:=trodAll_two i;have u:Rows.uptoBulk w<=1048576:=jN (j6 (by simp)) j;have G:Rows.uptoBulk y<=1048576:=jN (j6 (by simp)) j;obtain⟨Q,hv,av,ps,rfl,O,-⟩:=SU (d 0 25 v0 rfl rfl) z u;let⟨cs,hs⟩:=OM (d 1 26 v1 rfl rfl) v G;refine(aCo O hs (Jd n)).mono λe W' ⟨he,hU⟩=> ?_;exact ZM137
theorem Cy:Rows.TreeIdleUptoSaid:=
 OpenClaim.holds_of_cond 3 f3 rfl rfl rfl rfl rfl rfl rfl ⟨rfl,rfl,rfl,rfl,rfl⟩ rfl rfl rfl rfl rfl dB func3 dB
  (of_decide_eq_true dB) (by unfold Func.isWrapper;first|(rw[bR (by decide+kernel)];kernel_rfl)|(rw[bD (by decide+kernel)];exact⟨rfl,rfl⟩))
  (λb a H enc _ F=>by rw[OpenClaim.pre_eq_preRow];exact UY b a H enc F)
theorem WP(f:FuncId)(fn:Func)(c:pinned.checked.prog.funcNamed "osier/osierlaw20.TreeIdle"=some f)(a:pinned.checked.prog.funcs[f]? =some fn):
  true=pinned.checked.prog.looks []/\∀(j:Nat) t,fn.params[j]? =some t->pinned.checked.prog.wantsStandIn t=false:=by
 obtain rfl:f=3:=Option.some.inj ((show prog.funcNamed "osier/osierlaw20.TreeIdle"=some 3 by kernel_rfl).symm.trans c)|>.symm;obtain rfl:fn=f3:=(Option.some.inj (func3.symm.trans a)).symm;refine⟨by kernel_rfl,λj t b=> ?_⟩;rw[params3]at b;have hm:t∈[25,26]:=eI (Array.mem_of_getElem? b);have FO:([25,26].all λu=> !prog.wantsStandIn u)=true:=by kernel_rfl
 exact ZM144
theorem treeIdle_card:Rows.TreeIdleUptoCardSaid:=
 Claim7.holds_tied_plain_at .later [] _ _ _ _ Cy (λ_ h=>by cases h) dB (λ_ h=>by cases h) treeIdleUpto_row_tie rfl ⟨rfl,rfl⟩ dB rfl WP dB
end
end Go.Proofs.YtbcooplfakebmaaGreatDoor
