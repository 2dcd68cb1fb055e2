/- Part of the proof that the tied card of a law of the tree holds; no condition is added. -/
import Derived.Test.YtohhhhfdpceppaaGreatDoorM1
namespace Go.Proofs.YtohhhhfdpceppaaGreatDoor
set_option maxHeartbeats 4000000
set_option maxRecDepth 100000
set_option linter.all false
open Go.RowKit Go.Maps Go.Proofs.Tryz Tryz
open _root_.Array renaming size→i7
open _root_.Bool renaming false→rR,true→qT
open _root_.Go.Ending renaming returned→mi
open _root_.Go.IntKind renaming i64→mn,u32→nr,u8→n9
open _root_.Go.Obj renaming cells→kd
open _root_.Go.Value renaming bool→nj,int→mj,ownBlock→i6,pointer→lr,slice→jS,string→mX,tuple→mr
open _root_.Go.World renaming alloc→i5,cell?→h8,setCell→hY
open _root_.Inhabited renaming default→sT
open _root_.List renaming getD→hJ,length→O,any_eq_false→zo,getElem?_toArray→Bk,mem_of_mem_take→B0,set_append_left→B2,range_eq_range'→B4,range'_append_1→B5,range→B6,count_append→Co,foldl_cons→Dc,length_set→EA
open _root_.Option renaming none→K,some→H
open Go renaming World→aA,Value→aE,Calls→aK,TypeId→ap,maxLen→bH
open Go.RowKit renaming Hid→dT
open _root_.Nat renaming pow_lt_pow_right→gz,testBit_two_pow→oj,lt_of_lt_of_eq→oq,or_lt_two_pow→vW,two_pow_pos→wn,add_zero→x',testBit_two_pow_sub_succ→yo,testBit_two_pow_sub_one→y',testBit_two_pow_mul_add→zb,mul_one→zn,add_sub_cancel_left→zN,testBit_and→z',and_le_right→Ct,strongRecOn→El
theorem ZM80{P:Prop}(h:P:=by
  go_roundg (n-(j+1))
  .exact⟨cO.ds dR,j+1,Y,rfl,eY,by
   rw[HM.o,J3 Y];have:=Fb.o;generalize 2^j=p at*;congr 1;omega⟩
  omega):P:=h
theorem ZM158{P:Prop}(h:P:=by
  go_roundg (n-(j+1))
  .exact⟨cO.ds dR,j+1,Y,rfl,eY,by rw[HM.o]⟩
  omega):P:=h
theorem ZM186{P:Prop}(h:P:=by
  exact⟨U.refl _ _,0,Y,rfl,rfl,rfl⟩):P:=h
theorem jw(hv av:aE)(ps:List (dO×aE))(q:bK)(w:aA)(h:ED w hv av ps q)(hs:fY q=0):
  aK prog 16 #[.agg #[mX q.name,hv,av]] w λe w'=>∃u,e=mi (mr #[.agg #[mj mn (O (vars q):Int),u],mj nr (cL q:Int),mj mn 0])/\yS w w' u (aJ q)/\U w [] w' []:=by
 obtain⟨ha,hc,rfl,-⟩:=h.head.len;obtain⟨aa,ac,rfl,-⟩:=h.aD.len;have a:=h.len;rw[a]at h|-;let⟨_,ha6,Hp,p8,_,_⟩:=gG hs;let⟨wa,dM⟩:=D (i5 (i5 w (kd #[mX q.name,jS ha (O q.head) hc,jS aa (O q.aD) ac] 25)) (kd #[X 0,cR] 64));have cV:U w [] wa []:=dM▸((U.refl w []).alloc _).alloc _;have lC:uD wa w.heap.size #[mX q.name,jS ha (O q.head) hc,jS aa (O q.aD) ac] 25:=by rw[<-dM];exact lP ..
 have fR:uD wa (i7 w.heap+1) #[X 0,cR] 64:=by rw[<-dM];exact lO ..
 have b0:=Zc lC 0;have b1:=Zc lC 1;have b2:=Zc lC 2;have IG:dT (uJ 46 #[.agg #[mX q.name,jS ha (O q.head) hc,jS aa (O q.aD) ac]] wa λe w'=>e=mi (X 0)/\U wa [] w' []):=Z ((Ar _ _ ps q wa (h.on cV)).mono λe w' h=>⟨h.1.ds (by rw[hs]),h.2⟩);have CD:i7 wa.heap=i7 w.heap+1+1:=by rw[<-dM];simp
 clear hs;go_in;go_upto_region 5 with(first
  |(go_at_call 47;apply(UL _ _ ps q _ (h.on eQ)).cX;rintro e wb ⟨u,rfl,hO,N⟩;obtain⟨ua,uc,rfl,-⟩:=hO.len;have d0:=N.cell c0 J;have d1:=N.cell c1 J;have d2:=N.cell c2 J;have t:=(eQ.ds N);have F:=(bM.ds N);clear N)
  |(go_at_call 46;apply IG.o.dC;intro w2 bM;have c0:=bM.cell b0 J;have c1:=bM.cell b1 J;have c2:=bM.cell b2 J;have eQ:=(cV.ds bM)))
 generalize hn:O (vars q)=n at Hp|-;let⟨B,YM⟩:=D (i7 wb.heap);go_upto_region 6 with(fail);let⟨w3,jA⟩:=D (i5 wb (kd #[It n,cR] 64));have cW:=Za jA;have tV:uD w3 B #[It n,cR] 64:=by rw[<-jA,<-YM];exact mE ..
 have k1:=cW.cell d1 J;have k2:=cW.cell d2 J;have V:=Z hn;have HVS:dT (JV wb (jS ua n uc) (vars q)):=Z (by have h:=hO.rd;rw[hn]at h;exact h);rw[jA];clear b0 b1 b2 c0 c1 c2 d0 d1 d2 dM jA hn;go_wp2;go_loopg [9] (O q.aD) (λg i wr=>U wb [] wr []/\∃(k:Nat) (f:Option Addr) (G:Nat),k<=O q.aD/\g=O q.aD-k/\i=X k/\uD wr B #[It n,jS f k G] 64/\yS wb wr (jS f k G) ((aJ q).take k))
 .exact⟨cW,0,K,0,Y,rfl,rfl,tV,bN.nil _ _⟩
 obtain⟨m,k,f,G,hk,rfl,rfl,hB,hL⟩:=hrel;have m2:=m.cell (F.cell (aP (show wa.heap[i7 w.heap]? =_ from lC) (j:=2) rfl) J) J;have HL:=Z hL;clear hL;by_cases aY:k<O q.aD
 .let⟨g,o,cap',ga,gc,hg,yP,a0,a1,hT⟩:=h.qV aY;have a0:=(t.ds m).cell a0 J;have a1:=(t.ds m).cell a1 J;have hT:=hT.on (t.ds m);injection yP with x1 x2 x3;subst x1 x3;clear x2;have Cp:=p8 _ (bO (d:=sT) aY);have HX:dT ((aJ q).take (k+1)=(aJ q).take k++[uE (vars q) (cJ (hJ q.aD k sT))]):=Z (by
   rw[fW (d:=0) (by unfold aJ;rw[r8];exact aY)];congr 2;unfold aJ;rw[gV,So,gV,kU aY];rfl)
  have a:O ((aJ q).take k)=k:=by unfold aJ;rw[PI,r8];omega
  generalize hx:hJ q.aD k sT=x at a0 a1 hT Cp HX;generalize R4:(aJ q).take k=L at HL HX a;clear hx R4;go_upto_region 11 with(go_at_call 48;apply(OW _ x.rel x.aV _ hT Y).cX;rintro e w4 ⟨u4,rfl,SV,eJ⟩;obtain⟨oa,oc,rfl,-⟩:=SV.len;have Sb:=(show wU wr w4 _ (cJ x)from SV);clear SV);have PD:=(HVS.o.on (m.ds eJ));go_wp2;go_loopg [11,12] n (λg s i wx=>U w4 [] wx []/\∃j:Nat,j<=n/\g=n-j/\i=X j/\s=mj nr (vQ (vars q) (cJ x) j:Int))
  .exact ZM186
  obtain⟨cO,j,hj,rfl,rfl,rfl⟩:=hrel;by_cases KF:j<n
  .let⟨g6,o6,QM,C,e0⟩:=(PD.on cO).FC (show j<O (vars q) by rw[V.o];exact KF);injection C with x1 x2 x3;clear x2 x3;subst x1;simp only[yK]at e0;have HM:=Z (W6 (vars q) (cJ x) j);have G9:=Kk (vars q) (cJ x) j;have S:2^j<2^30:=gz E Y;have l:2^j<1073741824:=du S E;let⟨y,W⟩:=D (hJ (vars q) j bU);let⟨s,hs⟩:=D (vQ (vars q) (cJ x) j);rw[W]at e0 HM;rw[hs]at HM G9|-;clear W hs S;have Fb:=Z l;clear l;by_cases c:y∈cJ x
   .have HI:=Z λwz (hz:JV wz (jS oa (O (bL x.aV [])) oc) (cJ x))=>(Q0 _ (cJ x) y wz hz).mono λe w' h=>eI (h.1.ds (by rw[kY c])) h.2;have HM:dT (vQ (vars q) (cJ x) (j+1)=s+2^j):=Z (by rw[HM.o,bW c]);clear c;go_wp2_with (go_at_call 49;apply(HI.o _ (Sb.rd.on cO)).dC;intro w6 dR);exact ZM80
   .have HI:=Z λwz (hz:JV wz (jS oa (O (bL x.aV [])) oc) (cJ x))=>(Q0 _ (cJ x) y wz hz).mono λe w' h=>eI (h.1.ds (by rw[kE c])) h.2;have HM:dT (vQ (vars q) (cJ x) (j+1)=s):=Z (by rw[HM.o,R c]);clear c;go_wp2_with (go_at_call 49;apply(HI.o _ (Sb.rd.on cO)).dC;intro w6 dR);exact ZM158
  .have Py:j=n:=Y;have HM:dT (vQ (vars q) (cJ x) j=uE (vars q) (cJ x)):=Z (by rw[Py,<-V.o];rfl);rw[HM.o];generalize hM:uE (vars q) (cJ x)=M at HX|-;clear hM HM Py;have r:=eJ.ds cO;have fm:=r.aC hB J;have e1:=Zc fm 1;have P:=(HL.o.on r);have HUk:=(m.ds r);have a7H:O L<=6:=Y;clear r;go_wp2_with (at_builtin;refine cK ie.ok rfl _ _ rfl P HUk Yr [mj nr (M:Int)] M Yr rfl (dE rfl) rfl Y GC ?_;rintro g2 gW w7 yQ gD xS-;have FX:=xS.aC fm (P.ne fm E);have f1:=Zc FX 1;have ff:=aN FX;have QR:=Z yQ;clear yQ xS);have Yl:=aF (i:=1) (eC g2 0 (O L+1) gW) FX;have jB:=qX w7 B 1 (eC g2 0 (O L+1) gW);have I1:=QR.o.set FX E jB;have rY:=gD.bJ jB (λb hb=>by simp at hb;subst hb;rw[YM];exact fV _);go_roundg (O q.aD-(k+1))
   .obtain rfl:=a;exact⟨rY,O L+1,H (Ad g2 0),gW,Y,rfl,eY,Yl,by rw[HX.o];exact I1⟩
   omega
 .obtain rfl:k=O q.aD:=Y;have GZ:(aJ q).take (O q.aD)=aJ q:=by
   rw[zdH];unfold aJ;rw[r8];exact fV _
  rw[GZ]at HL;have m1:=m.cell (F.cell (aP (show wa.heap[i7 w.heap]? =_ from lC) (j:=1) rfl) J) J;clear GZ;go_wp2;go_loopg [8,13] n (λg s i wx=>U wr [] wx []/\∃j:Nat,j<=n/\g=n-j/\i=X j/\s=mj nr (vQ (vars q) q.head j:Int))
  .exact ZM186
  obtain⟨cO,j,hj,rfl,rfl,rfl⟩:=hrel;have n1:=cO.cell m1 J;by_cases KF:j<n
  .let⟨g6,o6,QM,C,e0⟩:=(HVS.o.on (m.ds cO)).FC (show j<O (vars q) by rw[V.o];exact KF);injection C with x1 x2 x3;clear x2 x3;subst x1;simp only[yK]at e0;have HM:=Z (W6 (vars q) q.head j);have G9:=Kk (vars q) q.head j;have S:2^j<2^30:=gz E Y;have l:2^j<1073741824:=du S E;let⟨y,W⟩:=D (hJ (vars q) j bU);let⟨s,hs⟩:=D (vQ (vars q) q.head j);rw[W]at e0 HM;rw[hs]at HM G9|-;clear W hs S;have Fb:=Z l;clear l;go_wp2;refine e7 99 (ez n1<|ey e0) (λQ=> ?_);refine ek [0,1,2,3,4,5] ?_;refine Zo 6 λvm hK=> ?_;go_simp;go_at_call 49;apply(Q0 _ q.head y wr.drew ((h.head.on (t.ds (m.ds cO))).on (U.refl _ []).drew)).cX;rintro e w6 ⟨rfl,dR⟩;dsimp only;have dR:U wr [] w6 []:=(U.refl wr []).drew.ds dR;have Q:=eI (dR.cell n1 J) (dR.cell e0 J);refine j5 ?_;clear hK vm;refine bD dJ ?_ _;try simp only[Act.put,UB,U9,X9]
   by_cases c:y∈q.head
   .have HM:dT (vQ (vars q) q.head (j+1)=s+2^j):=Z (by rw[HM.o,bW c]);have hd:=kY c;rw[hd];clear c hd;go_wp2;exact ZM80
   .have HM:dT (vQ (vars q) q.head (j+1)=s):=Z (by rw[HM.o,R c]);have hd:=kE c;rw[hd];clear c hd;go_wp2;exact ZM158
  .have Py:j=n:=Y;have HM:dT (vQ (vars q) q.head j=cL q):=Z (by rw[Py,<-V.o];rfl);rw[HM.o];have z:=cO.aC hB J;have f0:=Zc z 0;have f1:=Zc z 1;have TZ:=(F.ds (m.ds cO)).aC fR J;have r0:=Zc TZ 0;have r1:=Zc TZ 1;have rf:=aN TZ;clear z Py n1;go_wp2;have hS:=UK (x:= It n) (y:=jS f (O q.aD) G) TZ;refine mY (A4 (A:=⟨i7 w.heap+1,0,K⟩) (T:=64) rfl Yr (v:= .agg #[It n,jS f (O q.aD) G]) (by go_simp)) rfl ?_;refine⟨jS f (O q.aD) G,by rw[V.o];rfl,?_,(t.ds (m.ds cO)).bJ hS.2 (λb hb=>by simp at hb;omega)⟩;exact((HL.o.on cO).set TZ E hS.2).eO t.size
variable{es:List Nat}
theorem Yp(v1:aE)(es:List Nat)(aU:Nat)(w:aA)(h:E0 w v1 es)(c:pA es aU)(g:O es<=6):
  aK prog 50 #[.agg #[mj mn aU,v1]] w λe w'=>e=mi (nj qT)/\U w [] w' []:=by
 obtain⟨ad,cap,rfl,-⟩:=h.len;have d:decide ((O es:Int)<=6)=qT:=kY Y;have b:=Ui _ es aU _ (h.on ((U.refl w []).alloc (kd #[X aU,jS ad (O es) cap] 64))) c;go_in;go_wp2_with (go_at_call 89;apply b.dC;intro w2 a;have c1:=a.cell (aP (mE w _) (j:=1) rfl) J);go_ret;exact⟨rfl,((U.refl w []).alloc _).ds a⟩
def ET(es:List Nat)(k:Nat):Nat:=(es.take k).foldl (λs x=>s|||x) 0
theorem Ni{k:Nat}(h:k<O es):ET es (k+1)=ET es k|||hJ es k 0:=by
 unfold ET;rw[fW (d:=0) h,um];rfl
theorem WU:∀{es:List Nat} {s:Nat},(∀x,x∈es->x<2^32)->s<2^32->es.foldl (λs x=>s|||x) s<2^32
 |[],s,_,h=>h
 |x::es,s,hx,h=>by
  rw[Dc];exact WU (λy a=>hx y (UA _ a)) (vW h (hx x (zdC ..)))
theorem ZI(h:∀s,s∈es->s<2^32)(k:Nat):ET es k<2^32:=WU (λx a=>h x (B0 a)) (wn 32)
def zS(es:List Nat):Nat:=ET es (O es)
theorem T3(v:Nat):∀(es:List Nat) (s:Nat),(es.foldl (λs x=>s|||x) s).testBit v=(s.testBit v||es.any λx=>x.testBit v)
 |[],s=>J
 |x::es,s=>by rw[Dc,T3 v es,Nat.testBit_or,List.any_cons,Bool.or_assoc]
theorem Zr(v1:aE)(es:List Nat)(aU:Nat)(w:aA)(h:E0 w v1 es)(p:pA es aU):
  aK prog 185 #[.agg #[mj mn aU,v1]] w λe w'=>e=mi (mj nr (zS es))/\U w [] w' []:=by
 obtain⟨ad,cap,rfl,-⟩:=h.len;have u:=p.hm;have m:=Z p.eD;go_in;go_wp2;let⟨wa,l⟩:=D (i5 w (kd #[X aU,jS ad (O es) cap] 64));have n:=Za l;have A:h8 wa ⟨w,1,K⟩=H (jS ad (O es) cap):=l▸aP (mE w _) rfl;rw[l];go_loopg [3,4] (O es) (λg s i wr=>wa=wr/\∃k:Nat,k<=O es/\g=O es-k/\i=X k/\s=mj nr (ET es k:Int))
 .exact⟨rfl,0,Y,rfl,rfl,rfl⟩
 obtain⟨rfl,k,z,rfl,rfl,rfl⟩:=hrel;by_cases j:k<O es
 .let⟨g,o,cap',v,e0⟩:=(h.on n).FC j;injection v with x1 x2 x3;subst x1 x3;simp only[FY]at e0;have a:=(m.o _ (bO (d:=0) j));have c:=(Ni j);have b:=(ZI m k);let⟨t,q⟩:=D (hJ es k 0);let⟨s,hs⟩:=D (ET es k);rw[q]at e0 a c;rw[hs]at c b|-;have r:=(Ju b a);have x:=Z (du (vW b a) (by decide:2^32=4294967296));go_wp2_with (go_at_call 146;apply(GP t s a b _).dC;rintro w2 rfl);go_roundg (O es-(k+1))
  .exact⟨rfl,k+1,Y,rfl,eY,by
   rw[c];have B:=r;have y:=x.o;congr 1;omega⟩
  omega
 .obtain rfl:k=O es:=Y;go_wp2;go_ret;exact⟨rfl,n⟩
theorem a3h:kD prog 62 65 1 4:=ie.ok
theorem Ra(v1:aE)(es:List Nat)(aU head:Nat)(w:aA)(h:E0 w v1 es)(L:pA es aU)(h6:O es<=6)(hh:head<2^32):
  aK prog 143 #[.agg #[mj mn aU,v1],mj nr head] w λe w'=>∃u,e=mi (mr #[.agg #[mj mn aU,u],mj mn 0])/\yS w w' u (es++[head&&&zS es])/\U w [] w' []:=by
 obtain⟨ad,cap,rfl,-⟩:=h.len;let⟨wa,o⟩:=D (i5 (i5 w (kd #[X aU,jS ad (O es) cap] 64)) (kd #[X 0,cR] 64));have n:U w [] wa []:=o▸((U.refl w []).alloc _).alloc _;have lC:uD wa w.heap.size #[X aU,jS ad (O es) cap] 64:=o▸lP ..;have fR:uD wa (i7 w.heap+1) #[X 0,cR] 64:=o▸lO ..;have CD:i7 wa.heap=i7 w.heap+1+1:=by rw[<-o];simp
 go_in;go_upto_region 1 with(fail);have b0:=Zc lC 0;have b1:=Zc lC 1;go_wp2_with (first
  |(go_at_call 183;apply(qx _ es aU _ (h.on (n.ds g)) Y).cX;rintro e w3 ⟨u3,rfl,yp,r⟩;obtain⟨a3,c3,rfl,-⟩:=yp.len;have d0:=r.cell b0' J;have d1:=r.cell V J)
  |(go_at_call 50;apply(Yp _ es aU _ (h.on n) L h6).dC;intro w2 g;have b0':=g.cell b0 J;have V:=g.cell b1 J))
 let⟨B,W⟩:=D (i7 w3.heap);let⟨w4,S⟩:=D (i5 w3 (kd #[X aU,jS a3 (O es) c3] 64));have z:=Za S;have AA:uD w4 B #[X aU,jS a3 (O es) c3] 64:=by rw[<-S,<-W];exact mE ..
 have P:=(show i7 w2.heap<=B by rw[<-W];exact r.size);rw[S,W];have LN:=Z (yp.on z);have lH:=((n.ds g).ds (r.ds z));have q:=(r.ds z);have p0:=z.cell d0 J;have p1:=z.cell d1 J;have q1:=Zc AA 1;have E9:=Z (ZI L.eD (O es));refine e7 9 (ez q1<|ez p0<|ey p1) (λQ=> ?_);refine ek [0,1,2,3] ?_;refine Zo 4 λs hK=> ?_;go_simp;go_at_call 185;apply(Zr _ es aU w4.drew (h.on lH.drew) L).cX;rintro e w5 ⟨rfl,m⟩;dsimp only;have m:=(U.refl w4 []).drew.ds m;have Q:=eI (m.cell Q.1 J) (eI (m.cell Q.2.1 J) (m.cell Q.2.2 J));refine j5 ?_;clear hK s;refine Zo 5 λs hK=> ?_;go_simp;go_at_call 184;apply(M' head (zS es) hh E9.out w5).cX;rintro e w5' ⟨rfl,rfl⟩;dsimp only;refine j5 ?_;clear hK s;refine Zo 6 λs hK=> ?_;go_simp;let⟨w6,iA⟩:=D (i5 w5 (kd #[mj nr ((head&&&zS es:Nat):Int)] 65));have F:=Za iA;have hN:uD w6 w5.heap.size [mj nr ((head&&&zS es:Nat):Int)].toArray 65:=iA▸mE ..;have Q:=eI (F.cell Q.1 J) (eI (F.cell Q.2.1 J) (F.cell Q.2.2 J));rw[iA];refine j5 ?_;clear hK s;refine Zo 7 λs hK=> ?_;have p:=m.ds F;have hm:=L.hm;obtain⟨v',w7,dK,yQ,gD,l,a7,C,rfl⟩:=jX (wb:=w2) (w:=w6) a3h Y 62 (LN.on p) (q.ds p) (fV _) (q.ds p).size (FM (f:=FY) (d:=0) hN rfl (head&&&zS es) (dE rfl)) (λy hy j hj=>rfl) (by simp;omega) (by unfold bH;simp;omega);refine dL _ _ rfl Yr Yr dK ?_;have c:=LN.on p;have N:=p.aC AA J;have rM:=(n.ds g).size;have a1P:=g.size;have Q:=eI (l.cell Q.1 (c.ne N E)) (eI (l.cell Q.2.1 (c.BJ (by show i7 w.heap<_;omega))) (l.cell Q.2.2 (c.BJ (by show i7 w.heap<_;omega))));have k:=l.aC N (c.ne N E);have q1:=Q.1;have qf:=aN k;have QR:=Z yQ;refine j5 ?_;clear hK s;refine I 8 ?_;refine Zo 9 λs hK=> ?_;go_simp;refine LP ?_;clear hK s;let⟨w8,DH⟩:=D (hY w7 (Ad B 1) (jS a7 (O es+1) C));have l:U w7 [B] w8 [B]:=DH▸qX w7 B 1 _;have Yl:uD w8 B #[X aU,jS a7 (O es+1) C] 64:=DH▸aF (i:=1) _ k;have Y8:=Z (QR.set k E l);have LJ:=(gD.bJ l (λb G=>by simp at G;subst G;exact P));have r0:=Zc Yl 0;have r1:=Zc Yl 1;have a:=LJ.aC (g.aC fR J) J;have t0:=Zc a 0;have t1:=Zc a 1;have tf:=aN a;rw[DH];go_wp2;have hS:=UK (x:=X aU) (y:=jS a7 (O es+1) C) a;refine mY (aW (A:=⟨i7 w.heap+1,0,K⟩) (T:=64) rfl Yr (v:= .agg #[X aU,jS a7 (O es+1) C]) (by go_simp)) rfl ?_;exact⟨_,rfl,(Y8.set a E hS.2).eO Y,((n.ds g).ds LJ).bJ hS.2 (λb G=>by simp at G;omega)⟩
variable{fn:Func}
theorem ZM164{P:Prop}(h:P:=by
  go_wp2;all_goals
   go_meet;exact⟨rfl,xE nj (by rw[HD.o])⟩):P:=h
def eG(p:Nat->Bool)(k:Nat):Nat:=O ((List.range k).filter p)
theorem Eg(p:Nat->Bool)(k:Nat):eG p (k+1)=eG p k+if p k then 1 else 0:=T4
theorem qz(p:Nat->Bool)(k:Nat):eG p k<=k:=KJ
def V8(es:List Nat)(x i:Nat):Bool:=(hJ es i 0).testBit x
def DX(es:List Nat)(x y i:Nat):Bool:=V8 es x i&&V8 es y i
def AL(es:List Nat)(x y i:Nat):Bool:=V8 es x i&& !V8 es y i
def vK(es:List Nat)(x y i:Nat):Bool:= !V8 es x i&&V8 es y i
def qU(es:List Nat)(head x y:Nat):Bool:=
 (decide (0<eG (DX es x y) (O es))&&decide (0<eG (AL es x y) (O es))&&decide (0<eG (vK es x y) (O es))&&decide (x<y))||
 (decide (0<eG (DX es x y) (O es))&&decide (eG (AL es x y) (O es)=0)&&decide (0<eG (vK es x y) (O es))&&head.testBit x&& !head.testBit y)
def BL(es:List Nat)(aU head:Nat):Bool:=(List.range aU).any λx=>(List.range aU).any λy=>qU es head x y
theorem C0{t u v x:Tmp}(h:fn.results=#[.tmp t,.tmp u,.tmp v,.tmp x])(tmps:Array aE)(P:Program)(w:aA):
  (results fn tmps).run P w= .ok (mr #[tmps.getD t undef,tmps.getD u undef,tmps.getD v undef,tmps.getD x undef]) w:=by
 simp[results,h]
theorem Lw(v1:aE)(es:List Nat)(aU head:Nat)(w:aA)(h:E0 w v1 es)(vm:pA es aU)(h6:O es<=6)(hh:head<2^32):
  aK prog 17 #[.agg #[mj mn aU,v1],mj nr head] w λe w'=>∃x y:Int,e=mi (mr #[mj mn x,mj mn y,nj (BL es aU head),mj mn 0])/\U w [] w' []:=by
 obtain⟨ad,cap,rfl,-⟩:=h.len;have hv:=vm.hv;have HH:=Z hh;let⟨wa,dM⟩:=D (i5 w (kd #[X aU,jS ad (O es) cap] 64));have cV:=Za dM;have b0:h8 wa ⟨w,0,K⟩=H (X aU):=dM▸aP (mE w _) rfl;have b1:h8 wa ⟨w,1,K⟩=H (jS ad (O es) cap):=dM▸aP (mE w _) rfl;go_in;go_wp2_with (go_at_call 50;apply(Yp _ es aU _ (h.on cV) vm h6).dC;intro w2 bM;have c0:=bM.cell b0 J;have c1:=bM.cell b1 J;have eQ:=(cV.ds bM));go_loopg [8] aU (λg i wr=>U w2 [] wr []/\∃k:Nat,k<=aU/\g=aU-k/\i=X k/\∀x,x<k->∀y,y<aU->qU es head x y=rR)
 .exact⟨U.refl _ _,0,Y,rfl,rfl,λx hx=>Y⟩
 obtain⟨b,x,hx,rfl,rfl,fX⟩:=hrel;have d0:=b.cell c0 J;by_cases hxl:x<aU
 .go_wp2;go_loopg [9] aU (λg i wr=>U w2 [] wr []/\∃k:Nat,k<=aU/\g=aU-k/\i=X k/\∀y,y<k->qU es head x y=rR)
  .exact⟨b,0,Y,rfl,rfl,λy hy=>Y⟩
  obtain⟨b,y,hy,rfl,rfl,n⟩:=hrel;have d0:=b.cell c0 J;have d1:=b.cell c1 J;by_cases KV:y<aU
  .go_wp2;go_loopg [10,11,12,13] (O es) (λg tb tx ty i wr=>U w2 [] wr []/\∃k:Nat,k<=O es/\g=O es-k/\i=X k/\tb=X (eG (DX es x y) k:Int)/\tx=X (eG (AL es x y) k:Int)/\ty=X (eG (vK es x y) k:Int))
   .exact⟨b,0,Y,rfl,rfl,rfl,rfl,rfl⟩
   obtain⟨b,k,hk,rfl,rfl,rfl,rfl,rfl⟩:=hrel;have d0:=b.cell c0 J;have d1:=b.cell c1 J;by_cases aY:k<O es
   .let⟨g,o,cap',em,e0⟩:=(h.on (eQ.ds b)).FC aY;injection em with x1 x2 x3;subst x1 x3;simp only[FY]at e0;have hS:=vm.eD _ (bO (d:=0) aY);have WK:=qz (DX es x y) k;have JI:=qz (AL es x y) k;have V:=qz (vK es x y) k;have Q:=(Eg (DX es x y) k);have f:=(Eg (AL es x y) k);have W:=(Eg (vK es x y) k);have N:V8 es x k=(hJ es k 0).testBit x:=rfl;have m:V8 es y k=(hJ es k 0).testBit y:=rfl;have hm:=vm.hm;obtain⟨S,fk⟩:∃S,hJ es k 0=S:=⟨_,rfl⟩;rw[fk]at e0 hS N m;obtain⟨B,hB'⟩:∃B,eG (DX es x y) k=B:=⟨_,rfl⟩;obtain⟨a,hX'⟩:∃a,eG (AL es x y) k=a:=⟨_,rfl⟩;obtain⟨c,hY'⟩:∃c,eG (vK es x y) k=c:=⟨_,rfl⟩;rw[hB']at Q WK|-;rw[hX']at f JI|-;rw[hY']at W V|-;let⟨p,v⟩:=D (S.testBit x);let⟨q,u⟩:=D (S.testBit y);have G:dT (∀j:aA,uJ 51 #[mj nr (S:Int),It x] j λe w'=>e=mi (nj p)/\w'=j):=Z λj=>(jN S x hS j Y).mono λe w' h=>eI (h.1.ds (by rw[v])) h.2.symm;have Mu:dT (∀j:aA,uJ 51 #[mj nr (S:Int),It y] j λe w'=>e=mi (nj q)/\w'=j):=Z λj=>(jN S y hS j Y).mono λe w' h=>eI (h.1.ds (by rw[u])) h.2.symm;have HPb:dT (DX es x y k=(p&&q)):=Z (by unfold DX;rw[N,m,v,u]);have HPl:dT (AL es x y k=(p&& !q)):=Z (by unfold AL;rw[N,m,v,u]);have T:dT (vK es x y k=(!p&&q)):=Z (by unfold vK;rw[N,m,v,u]);rw[HPb.o]at Q;rw[HPl.o]at f;rw[T.o]at W;go_wp2;go_quiet ((go_at_call 51;first|with_reducible exact Calls.quiet_of_same (G.o _)|with_reducible exact Calls.quiet_of_same (Mu.o _)));cases p<;>cases q
    all_goals
     go_wp2;go_roundg (O es-(k+1))
     .exact⟨b.drewN _,k+1,Y,rfl,eY,by rw[Q];go_num,by rw[f];go_num,by rw[W];go_num⟩
     omega
   .obtain rfl:k=O es:=Y;have l:dT (qU es head x y=((decide (0<eG (DX es x y) (O es))&&decide (0<eG (AL es x y) (O es))&&decide (0<eG (vK es x y) (O es))&&decide (x<y))||
     (decide (0<eG (DX es x y) (O es))&&decide (eG (AL es x y) (O es)=0)&&decide (0<eG (vK es x y) (O es))&&head.testBit x&& !head.testBit y))):=Z rfl
    let⟨B,A⟩:=D (eG (DX es x y) (O es));let⟨a,r⟩:=D (eG (AL es x y) (O es));let⟨c,F⟩:=D (eG (vK es x y) (O es));rw[A,r,F];rw[A,r,F]at l;let⟨p,v⟩:=D (head.testBit x);let⟨q,u⟩:=D (head.testBit y);have G:=Z λj=>(jN head x HH j Y).mono λe w' h=>eI (h.1.ds (by rw[v])) h.2;have Mu:=Z λj=>(jN head y HH j Y).mono λe w' h=>eI (h.1.ds (by rw[u])) h.2;rw[v,u]at l;go_upto_region 20 with(fail);go_cut [101] (λs wx=>wr=wx/\s=nj (qU es head x y))
    case first=>
     by_cases A:0<B
     .have g1:decide ((0:Int)<(B:Int))=qT:=kY Y;have g1':decide (0<B)=qT:=kY A;by_cases F:0<c
      .have g3:decide ((0:Int)<(c:Int))=qT:=kY Y;have g3':decide (0<c)=qT:=kY F;by_cases r:0<a
       .have g2:decide ((0:Int)<(a:Int))=qT:=kY Y;have g2':decide (0<a)=qT:=kY r;have g4:((a:Int)==0)=rR:=(show((a:Int)==0)=decide (a=0)from dH a 0)▸kE Y;have g4':¬a=0:=Y;by_cases L:x<y
        .have g5:decide ((x:Int)<(y:Int))=qT:=kY Y;have P:decide (x<y)=qT:=kY L;have HD:dT (qU es head x y=qT):=Z (by rw[l.o];simp[A,r,F,L]);exact ZM164
        .have g5:decide ((x:Int)<(y:Int))=rR:=kE Y;have P:decide (x<y)=rR:=kE L;have HD:dT (qU es head x y=rR):=Z (by rw[l.o];simp[L];intros;omega);exact ZM164
       .obtain rfl:a=0:=Y;have HD:dT (qU es head x y=(p&& !q)):=Z (by rw[l.o];simp[A,F]);cases p with
        |true=>
         go_wp2_with fail;apply(G.o _).cX;rintro e w2 ⟨rfl,rfl⟩;go_wp2_with fail;apply(Mu.o _).cX;rintro e w2 ⟨rfl,rfl⟩;go_wp2;go_meet;exact⟨rfl,by rw[HD.o,VN]⟩
        |false=>
         go_wp2_with fail;apply(G.o _).cX;rintro e w2 ⟨rfl,rfl⟩;go_wp2;go_meet;exact⟨rfl,by rw[HD.o,Bool.false_and]⟩
      .obtain rfl:c=0:=Y;have HD:dT (qU es head x y=rR):=Z (by rw[l.o];simp);by_cases r:0<a
       .have g2:decide ((0:Int)<(a:Int))=qT:=kY Y;have g2':decide (0<a)=qT:=kY r;have g4:((a:Int)==0)=rR:=(show((a:Int)==0)=decide (a=0)from dH a 0)▸kE Y;have g4':¬a=0:=Y;exact ZM164
       .obtain rfl:a=0:=Y;go_wp2;all_goals
         go_meet;exact⟨rfl,xE nj (by rw[HD.o])⟩
     .obtain rfl:B=0:=Y;have HD:dT (qU es head x y=rR):=Z (by rw[l.o];simp);exact ZM164
    case rest=>
     obtain⟨rfl,rfl⟩:=hcut;let⟨C,hC⟩:=D (qU es head x y);rw[hC];have l:=Z hC;cases C with
     |true=>
      have HR:dT (BL es aU head=qT):=Z (by
       unfold BL;exact uj.2 ⟨x,wW.2 hxl,uj.2 ⟨y,wW.2 KV,l⟩⟩)
      go_wp2;(try simp only[Exit.inBlock,Exit.then])
      refine mY (C0 rfl _ _ _) rfl ?_;exact⟨x,y,by rw[HR.o];rfl,eQ.ds b⟩
     |false=>
      go_wp2;go_roundg (aU-(y+1))
      .exact⟨b,y+1,Y,rfl,eY,λz xw=>by
       by_cases h:z=y
       .subst h;exact l.o
       .exact n z Y⟩
      omega
  .have n:dT (∀y,y<aU->qU es head x y=rR):=Z λz h=>n z Y;go_wp2;go_roundg (aU-(x+1))
   .exact⟨b,x+1,Y,rfl,eY,λt Cn=>by
    by_cases h:t=x
    .subst h;exact n
    .exact fX t Y⟩
   omega
 .have HR:dT (BL es aU head=rR):=Z (by
   unfold BL;rw[zo];intro t Cn;rw[Bool.not_eq_true,zo];intro z xw;rw[fX t (kX (wW.1 Cn)) z (wW.1 xw)];decide)
  go_wp2;(try simp only[Exit.inBlock,Exit.then])
  refine mY (C0 rfl _ _ _) rfl ?_;exact⟨0,0,by rw[HR.o];rfl,eQ.ds b⟩
variable{aU:Nat}
def CH(es:List Nat)(aU head:Nat):Bool:=kT es aU&&kT (es++[head&&&zS es]) aU
theorem pA.vO(h:pA es aU)(c:O es<=6)(head:Nat):pA (es++[head&&&zS es]) aU:=by
 refine⟨h.hv,by simp;omega,λs hs=> ?_⟩;rcases yU.1 hs with hs|hs
 .exact h.xJ s hs
 .obtain rfl:=Gc.1 hs;refine Sp Ct ?_;have:∀(l:List Nat) (s:Nat),(∀x,x∈l->x<2^aU)->s<2^aU->l.foldl (λs x=>s|||x) s<2^aU:=by
   intro l;induction l with
   |nil=>intro s _ h;exact h
   |cons x l ih=>intro s a h;exact ih _ (λy b=>a y (UA _ b)) (vW h (a x (zdC ..)))
  exact this _ 0 (λx a=>h.xJ x (B0 a)) (wn aU)
theorem TB(v1:aE)(es:List Nat)(aU head:Nat)(w:aA)(h:E0 w v1 es)(d:pA es aU)(G:O es<=6)(k:head<2^32):
  aK prog 98 #[.agg #[mj mn aU,v1],mj nr head] w λe w'=>e=mi (mr #[nj (kT es aU),nj (CH es aU head),nj (!BL es aU head),mj mn 0])/\U w [] w' []:=by
 obtain⟨ad,cap,rfl,-⟩:=h.len;have hv:=d.hv;let⟨wa,L⟩:=D (i5 w (kd #[X aU,jS ad (O es) cap] 64));have g:=Za L;have f:uD wa w.heap.size #[X aU,jS ad (O es) cap] 64:=L▸mE ..;have b0:=Zc f 0;have B:=Zc f 1;have P:O es+1<=7:=Y;let⟨A,v⟩:=D (kT es aU);have i:dT (CH es aU head=(A&&kT (es++[head&&&zS es]) aU)):=Z (by unfold CH;rw[v]);have C:dT (∀a,U wa [] a []->uJ 144 #[.agg #[X aU,jS ad (O es) cap]] a λe w'=>e=mi (nj A)/\U a [] w' []):=
  Z λa z=>(Dx _ es aU a (h.on (g.ds z)) d.hm Y d.eD).mono λe w' h=>⟨h.1.ds (by rw[v]),h.2⟩
 rw[v];go_in;have Y9:dT (∀a,U wa [] a []->uJ 17 #[.agg #[X aU,jS ad (O es) cap],mj nr head] a λe w'=>∃x y:Int,e=mi (mr #[X x,X y,nj (BL es aU head),X 0])/\U a [] w' []):=
  Z λa z=>Lw _ es aU head a (h.on (g.ds z)) d G k
 have j:=(d.vO G head);have p:O (es++[head&&&zS es])=O es+1:=J;go_upto_region 6 with(first
  |(go_at_call 17;apply(Y9.o _ l).cX;rintro e w5 ⟨cx,cy,rfl,b⟩;have d0:=(l.ds b).cell b0 J;have T:=(l.ds b).cell B J;have m0:=(c.ds b).cell V J;have m1:=(c.ds b).cell W J;have o:=(l.ds b);have q:=(c.ds b))
  |(go_at_call 144;apply(C.o _ n).dC;intro w4 c;have d0:=(n.ds c).cell b0 J;have T:=(n.ds c).cell B J;have l:=(n.ds c))
  |(go_at_call 143;apply(Ra _ es aU head _ (h.on g) d G k).cX;rintro e w2 ⟨u,rfl,r,F⟩;obtain⟨ua,uc,rfl,-⟩:=r.len;rw[p]at r|-;let⟨w3,N⟩:=D (i5 w2 (kd #[mj mn aU,jS ua (O es+1) uc] 64));have m:=Za N;have tV:uD w3 w2.heap.size #[mj mn aU,jS ua (O es+1) uc] 64:=(N▸mE ..);obtain⟨V,W⟩:=Z2 tV;have c0:=(F.ds m).cell b0 J;have c1:=(F.ds m).cell B J;have HO:=(r.on m);have n:=(F.ds m)))
 cases A with
 |false=>
  go_wp2;(try simp only[Exit.inBlock,Exit.then])
  refine mY (C0 rfl _ _ _) rfl ?_;exact⟨by rw[i.o];rfl,g.ds o⟩
 |true=>
  have Q:=Dx (jS ua (O es+1) uc) (es++[head&&&zS es]) aU w5 (by have h:=HO.rd.on q;exact h) j.hm Y j.eD;have HE:=Z Q;go_wp2_with (go_at_call 144;apply HE.dC;intro w6 S);(try simp only[Exit.inBlock,Exit.then])
  refine mY (C0 rfl _ _ _) rfl ?_;exact⟨by rw[i.o];rfl,g.ds (o.ds S)⟩
variable{u v z:aE}{w:aA}
theorem ZM46{P:Prop}(h:P:=by
  go_wp2_with (go_at_call 98;apply Y9.dC;intro w3 cW;have tV:=cW.aC TZ J;obtain⟨e0,e1,e2,e3,e4⟩:=Z5 tV;have ef:=aN tV;have iF:=(Tn.ds cW));refine mY (aOX (A:=⟨i7 w.heap+1,0,K⟩) (T:=53) (v:=RA) rfl Yr Yr (by go_simp)) rfl ?_;exact⟨rfl,iF.bJ (Gr tV).2 (λb hb=>by simp at hb;omega)⟩):P:=h
abbrev RA:aE:= .agg #[jS K 0 0,jS K 0 0,jS K 0 0,mj mn 0,jS K 0 0]
theorem Gr{B:Nat}{a b c d e x y:aE}{t:ap}(h:w.heap[B]? =H (kd #[a,b,c,d,e] t (0,0))):
  (hY (hY (hY (hY (hY w ⟨B,0,K⟩ x) ⟨B,1,K⟩ y) ⟨B,2,K⟩ z) ⟨B,3,K⟩ u) ⟨B,4,K⟩ v).heap[B]? =H (kd #[x,y,z,u,v] t (0,0))/\U w [B] (hY (hY (hY (hY (hY w ⟨B,0,K⟩ x) ⟨B,1,K⟩ y) ⟨B,2,K⟩ z) ⟨B,3,K⟩ u) ⟨B,4,K⟩ v) [B]:=
 ⟨by rw[aF _ (aF _ (aF _ (aF _ (aF _ h))))];rfl,((((qX w B 0 x).setCell (a:=Ad B 1) (.inl J) y).setCell (a:=Ad B 2) (.inl J) z).setCell (a:=Ad B 3) (.inl J) u).setCell (a:=Ad B 4) (.inl J) v⟩
theorem aAs(hv av:aE)(ps:List (dO×aE))(q:bK)(w:aA)(h:ED w hv av ps q)(hs:fY q≠0):
  aK prog 59 #[.agg #[mX q.name,hv,av]] w λe w'=>e=mi (mr #[RA,mj mn (fY q)])/\U w [] w' []:=by
 obtain⟨ha,j,rfl,-⟩:=h.head.len;obtain⟨d,i,rfl,-⟩:=h.aD.len;have a:=h.len;rw[a]at h|-;let⟨wa,l⟩:=D (i5 (i5 w (kd #[mX q.name,jS ha (O q.head) j,jS d (O q.aD) i] 25)) (kd #[cR,cR,cR,X 0,cR] 53));have m:U w [] wa []:=l▸((U.refl w []).alloc _).alloc _;have r:uD wa w.heap.size #[mX q.name,jS ha (O q.head) j,jS d (O q.aD) i] 25:=by rw[<-l];exact lP ..
 have x:uD wa (i7 w.heap+1) #[cR,cR,cR,X 0,cR] 53:=by rw[<-l];exact lO ..
 obtain⟨b0,C,b2⟩:=Z3 r;skip
 have g:(fY q !=0)=qT:=by rw[bne_iff_ne];exact hs
 have n:dT (uJ 16 #[.agg #[mX q.name,jS ha (O q.head) j,jS d (O q.aD) i]] wa λe w'=>e=mi (mr #[.agg #[X 0,cR],mj nr 0,X (fY q)])/\U wa [] w' []):=Z (aJL _ _ ps q wa (h.on m) hs);generalize z:fY q=s at g n|-;go_in;go_wp2_with (go_at_call 16;apply n.dC;intro w2 p;have c:=p.aC x J;obtain⟨e0,y,e2,B,F⟩:=Z5 c;have G:=aN c;have f:=iP (dG c);have u:=(m.ds p));refine mY (aOX (A:=⟨i7 w.heap+1,0,K⟩) (T:=53) (v:=RA) rfl Yr Yr (by go_simp)) rfl ?_;exact⟨rfl,(u.bJ (Gr c).2 (λb g=>by simp at g;omega)).alloc _⟩
theorem Vk(hv av:aE)(ps:List (dO×aE))(q:bK)(w:aA)(h:ED w hv av ps q)(hs:fY q=0)(n:kT (aJ q) (O (vars q))=qT->CH (aJ q) (O (vars q)) (cL q)=rR):
  aK prog 59 #[.agg #[mX q.name,hv,av]] w λe w'=>e=mi (mr #[RA,mj mn (if kT (aJ q) (O (vars q)) then 170 else 161)])/\U w [] w' []:=by
 obtain⟨ha,x,rfl,-⟩:=h.head.len;obtain⟨r,p,rfl,-⟩:=h.aD.len;have c:=h.len;rw[c]at h|-;let⟨wa,j⟩:=D (i5 (i5 w (kd #[mX q.name,jS ha (O q.head) x,jS r (O q.aD) p] 25)) (kd #[cR,cR,cR,X 0,cR] 53));have g:U w [] wa []:=j▸((U.refl w []).alloc _).alloc _;have P:uD wa w.heap.size #[mX q.name,jS ha (O q.head) x,jS r (O q.aD) p] 25:=j▸lP ..;have Q:uD wa (i7 w.heap+1) #[cR,cR,cR,X 0,cR] 53:=j▸lO ..;obtain⟨b0,V,b2⟩:=Z3 P;skip
 let⟨_,N,W,p8,_,_⟩:=gG hs;have y:=(qQ hs);have C:O (aJ q)<=6:=by simp only[aJ,r8];omega
 have F:=(jw _ _ ps q wa (h.on g) hs);have B:cL q<2^32:=xF (zD _ _) (Fk E Y);generalize a:kT (aJ q) (O (vars q))=A at n|-;go_in;go_upto_region 4 with(first|(go_at_call 16;apply F.cX;rintro e w2 ⟨ev,rfl,m,u⟩;obtain⟨z,f,rfl,-⟩:=m.len;have d:=u.aC Q J;obtain⟨e0,e1,e2,e3,e4⟩:=Z5 d;have ef:=aN d;have el:=iP (dG d);have G:=(g.ds u);have o:=Z (m.eO g.size)));let⟨k,l⟩:=D (i5 w2 (kd #[X (O (vars q)),jS z (O (aJ q)) f] 64));have i:=Za l;have L:=Zb l;have TZ:=i.aC d J;obtain⟨g0,S⟩:=Z2 L;obtain⟨e0,e1,e2,e3,e4⟩:=Z5 TZ;have ef:=aN TZ;have Y9:=(TB _ (aJ q) (O (vars q)) (cL q) k (o.rd.on i) y C B);have Tn:=(G.ds i);rw[l];cases A with
 |false=>
  rw[a]at Y9;exact ZM46
 |true=>
  rw[a,n rfl]at Y9;exact ZM46
variable{cs:Array aE}{l:List ES}{B8 S S' tl:List Nat}{b e gn i j m n nc sz:Nat}{p:vZ}{xv:aE}{w' w0 w7 wr:aA}
section
structure MkB(q:bK)(w:aA)(B1 Bg:Nat)(hv av ev vv:aE)(wx:aA):Prop where
 up:U w [] wx []
 q0:wx.heap[i7 w.heap]? =H (kd #[mX q.name,hv,av] 25 (0,0))
 r0:wx.heap[B1]? =H (kd #[jS K 0 0,jS K 0 0,jS K 0 0,mj mn 0,jS K 0 0] 53 (0,0))
 g0:wx.heap[Bg]? =H (kd #[mj mn (O (vars q)),ev] 64 (0,0))
 e0:yS w wx ev (aJ q)
 v0:wU w wx vv (vars q)
def MkT(w:aA)(B1:Nat)(wx:aA)(k:Nat):Prop:=i7 w.heap<=k/\k≠B1/\(mU wx k=H 3\/mU wx k=H 132\/mU wx k=H 220\/mU wx k=H 53)
section
variable{q:bK}{w:aA}{B1 Bg:Nat}{hv av ev vv:aE}{wx wy:aA}
theorem MkB.eU(h:MkB q w B1 Bg hv av ev vv wx)(c:U wx S wy S')(d:∀k,k∈S->MkT w B1 wx k):MkB q w B1 Bg hv av ev vv wy:=by
 have ne:∀t,t≠3->t≠132->t≠220->t≠53->∀k,k∈S->mU wx k≠H t:=λt n l j i k e a=>by
  rcases(d k e).2.2 with h|h|h|h<;>rw[h]at a<;>injection a with a
  .exact n a.symm
  .exact l a.symm
  .exact j a.symm
  .exact i a.symm
 exact⟨h.up.bJ c λb g=>(d b g).1,c.cF h.q0 (ne _ E E E E),c.aC h.r0 λm=>(d B1 m).2.1 rfl,c.cF h.g0 (ne _ E E E E),
  h.e0.eb c (ne _ E E E E),h.v0.eb c (ne _ E E E E)⟩
theorem MkB.on(h:MkB q w B1 Bg hv av ev vv wx)(a:U wx [] wy S'):MkB q w B1 Bg hv av ev vv wy:=h.eU a J
theorem MkT.cZ{α:Type}{f:α->Nat->aE}{d:α}{l:List α}(h:bN f d e sz w wx v l)(b:i6 v≠H B1)(c:e=3\/e=132\/e=220\/e=53):∀k,k∈v.ownBlock.toList->MkT w B1 wx k:=λk a=>by
 refine⟨h.ge k a,λe=>b BC,?_⟩;have:=h.Fl k a;rw[this];rcases c with rfl|rfl|rfl|rfl<;>simp
theorem MkB.neR{α:Type}{f:α->Nat->aE}{d:α}{l:List α}(h:MkB q w B1 Bg hv av ev vv wx)(b:bN f d e sz w0 wx v l)(a:e≠53):i6 v≠H B1:=eV.ne b.1 h.r0 a
end
theorem MkT.cF{w wx:aA}{B1:Nat}(h:wx.heap[b]? =H (kd cs 53 (0,0)))(d:i7 w.heap<=b)(a:b≠B1):∀k,k∈[b]->MkT w B1 wx k:=λk c=>by
 obtain rfl:k=b:=eP c;exact⟨d,a,.inr (.inr (.inr (fB h)))⟩
theorem YQ{l:List dO}{s:dO}(h:s∈l):aj l s=(l.idxOf s:Int):=bW h
structure PC(w0 w:aA)(v:aE)(p:vZ):Prop where
 ex:∃v0 v1 v2 v4 ns,v= .agg #[v0,v1,v2,mj mn p.dQ,v4]/\wU w0 w v0 p.vars/\iC w0 w v1 p.head/\G3 w0 w v2 ns/\ns.map (·.1)=p.aI/\(∀x,x∈ns->iC w0 w x.2 x.1.vars)/\iC w0 w v4 p.tops
structure Ph(q:bK)(w:aA)(B1 Bg:Nat)(hv av ev vv:aE)(Bp gp pc:Nat)(hd:aE)(hl:List Nat)(wx:aA)(nv:aE)(ns:List (bE×aE))(pr:List Nat):Prop where
 m:MkB q w B1 Bg hv av ev vv wx
 p:wx.heap[Bp]? =H (kd #[vv,hd,nv,mj mn 0,jS K 0 0] 53 (0,0))
 h:iC w wx hd hl
 eB:i6 hd≠H gp
 n:G3 w wx nv ns
 o:OV w wx gp ns
 r:iC w wx (jS (H ⟨gp,0,K⟩) (O pr) pc) pr
section
variable{q:bK}{w:aA}{B1 Bg:Nat}{hv av ev vv:aE}{Bp gp pc:Nat}{hd:aE}{hl:List Nat}{wx wy:aA}{nv UO:aE}{ns ns':List (bE×aE)}{pr pr':List Nat}
theorem Ph.on(h:Ph q w B1 Bg hv av ev vv Bp gp pc hd hl wx nv ns pr)(a:U wx [] wy S'):Ph q w B1 Bg hv av ev vv Bp gp pc hd hl wy nv ns pr:=
 ⟨h.m.on a,a.aC h.p J,h.h.on a,h.eB,h.n.on a,h.o.on a,h.r.on a⟩
theorem Ph.xI(h:Ph q w B1 Bg hv av ev vv Bp gp pc hd hl wx nv ns pr)(b:U wx (gp::nv.ownBlock.toList) wy S')(j:i7 w.heap<=Bp):
  MkB q w B1 Bg hv av ev vv wy/\wy.heap[Bp]? =H (kd #[vv,hd,nv,mj mn 0,jS K 0 0] 53 (0,0))/\iC w wy hd hl:=by
 have i:∀k,k∈gp::nv.ownBlock.toList->MkT w B1 wx k:=λk c=>by
  rcases xZ.1 c with rfl|c
  .exact MkT.cZ h.r (h.m.neR h.r E) (.inl rfl) _ (by simp[i6])
  .exact MkT.cZ h.n (h.m.neR h.n E) (.inr (.inl rfl)) _ c
 refine⟨h.m.eU b i,b.aC h.p λa=> ?_,h.h.eU b λg d a=> ?_⟩
 .rcases xZ.1 a with e|a
  .exact eV.ne h.r.1 h.p E (by rw[e];rfl)
  .exact h.n.ne h.p E a
 .rcases xZ.1 a with e|a
  .exact h.eB (by rw[d,e])
  .exact eV.KA h.h.1 h.n.1 E g d (eP a)
theorem Ph.put(h:Ph q w B1 Bg hv av ev vv Bp gp pc hd hl wx nv ns pr)(j:U wx (gp::nv.ownBlock.toList) wy S')(d:i7 w.heap<=Bp)(g:Bp≠B1)(l:G3 w wy UO ns')(e:OV w wy gp ns')(p:iC w wy (jS (H ⟨gp,0,K⟩) (O pr') pc) pr'):
  Ph q w B1 Bg hv av ev vv Bp gp pc hd hl (hY wy ⟨Bp,2,K⟩ UO) UO ns' pr':=by
 let⟨n,a,m⟩:=h.xI j d;have b:=qX wy Bp 2 UO;refine⟨n.eU b (MkT.cF a d g),aF (i:=2) UO a,m.set a E b,h.eB,l.set a E b,λx c=>⟨((e x c).1).set a E b,(e x c).2⟩,p.set a E b⟩
theorem Ph.C1(h:Ph q w B1 Bg hv av ev vv Bp gp pc hd hl wx nv ns pr)(j:i7 w.heap<=Bp)(v:i<O pr)(x:Nat):Ph q w B1 Bg hv av ev vv Bp gp pc hd hl (hY wx ⟨gp,i,K⟩ (mj mn x)) nv ns (pr.set i x):=by
 have b:U wx [gp] (hY wx (Ad gp i) (X x)) [gp]:=qX wx gp i _;have p:U wx (gp::nv.ownBlock.toList) (hY wx (Ad gp i) (X x)) []:=(b.aL (T:=gp::nv.ownBlock.toList) (λk a=>by simp at a;simp[a])).to J;let⟨l,d,e⟩:=h.xI p j;have u:=h.r.vq v x;simp only[fN]at u;exact⟨l,d,e,h.eB,h.n.eU b (λg m c=>eV.KA h.r.1 h.n.1 E gp rfl (by simp at c;rw[m,c])),h.o.eU h.n b (λk a=> .inl (eP a)),BC⟩
end
theorem Ph.BE{q:bK}{w:aA}{B1 Bg:Nat}{hv av ev vv:aE}{Bp gp pc:Nat}{hd:aE}{hl:List Nat}{wx:aA}{nv:aE}{ns:List (bE×aE)}{pr:List Nat}(h:Ph q w B1 Bg hv av ev vv Bp gp pc hd hl wx nv ns pr){t:ap}(e:mU wx b=H t)(c:t≠3)(d:t≠132):b∉gp::nv.ownBlock.toList:=λa=>by
 rcases xZ.1 a with rfl|a
 .have:=h.r.ty (k:=b) rfl;grind
 .have:=h.n.Fl _ a;grind
theorem Ph.ov{q:bK}{w:aA}{B1 Bg:Nat}{hv av ev vv:aE}{Bp gp pc:Nat}{hd:aE}{hl:List Nat}{wx:aA}{nv:aE}{ns:List (bE×aE)}{pr:List Nat}(h:Ph q w B1 Bg hv av ev vv Bp gp pc hd hl wx nv ns pr)(c:U wx (gp::nv.ownBlock.toList) w7 S'){x:bE}(b:iC wx w7 xv x.vars):OV w w7 gp (ns++[(x,xv)]):=λy a=>by
 rcases yU.1 a with a|a
 .exact h.o.eU h.n c (λk d=>(xZ.1 d).imp id λh=>by simpa using h) y a
 .obtain rfl:=Gc.1 a;exact⟨b.eO h.m.up.size,λe=>by have i:=b.2 gp e;have g:=h.r.1.lt gp rfl;omega⟩
theorem Ph.BJ{q:bK}{w:aA}{B1 Bg:Nat}{hv av ev vv:aE}{Bp gp pc:Nat}{hd:aE}{hl:List Nat}{wx wy:aA}{nv:aE}{ns:List (bE×aE)}{pr:List Nat}(h:Ph q w B1 Bg hv av ev vv Bp gp pc hd hl wx nv ns pr)(a:U wx S wy S'){M:Nat}(j:i7 w.heap<=M)(e:∀k,k∈S->M<=k/\mU wx k=H 3)(y:B1<M)(z:gp<M)(u:∀g,i6 hd=H g->g<M)(l:∀x,x∈ns->∀g,i6 x.2=H g->g<M):Ph q w B1 Bg hv av ev vv Bp gp pc hd hl wy nv ns pr:=by
 have ne:∀t,t≠3->∀k,k∈S->mU wx k≠H t:=λt A k d v=>by
  grind
 refine⟨h.m.eU a λk d=>⟨j8 j (e k d).1,BC,.inl (e k d).2⟩,a.cF h.p (ne _ E),h.h.eU a λg c i=> ?_,h.eB,h.n.eb a (ne _ E),λx b=>⟨((h.o x b).1).eU a λg c i=> ?_,(h.o x b).2⟩,h.r.eU a λg c i=> ?_⟩
 .grind
 .grind
 grind [i6]
theorem Ph.mark{q:bK}{w:aA}{B1 Bg:Nat}{hv av ev vv:aE}{Bp gp pc:Nat}{hd:aE}{hl:List Nat}{wx:aA}{ns:List (bE×aE)}{pr:List Nat}(h:Ph q w B1 Bg hv av ev vv Bp gp pc hd hl wx (jS (H ⟨gn,0,K⟩) n nc) ns pr)(v:i7 w.heap<=Bp){t:Nat}(d:t<O ns):
  Ph q w B1 Bg hv av ev vv Bp gp pc hd hl (hY wx ⟨gn,t*7+6,K⟩ (nj qT)) (jS (H ⟨gn,0,K⟩) n nc) (ns.set t ({(hJ ns t sT).1 with mL:=qT},(hJ ns t sT).2)) pr:=by
 have a:U wx [gn] (hY wx (Ad gn (t*7+6)) (nj qT)) [gn]:=qX wx gn (t*7+6) _;have A:U wx (gp::(eC gn 0 n nc).ownBlock.toList) (hY wx (Ad gn (t*7+6)) (nj qT)) []:=(a.aL (T:=gp::(eC gn 0 n nc).ownBlock.toList) (λk c=>by grind [i6])).to J;let⟨B,p,u⟩:=h.xI A v;have m:=h.n.EW (j:=6) d E ({(hJ ns t sT).1 with mL:=qT},(hJ ns t sT).2) (nj qT) (λz y=>by
  match z,y with
  |0,_=>rfl
  |1,_=>rfl
  |2,_=>rfl
  |3,_=>rfl
  |4,_=>rfl
  |5,_=>rfl
  |6,_=>rfl)
 have e:=h.o.eU h.n a (λk c=> .inr (by simp at c;rw[c];rfl));refine⟨B,p,u,h.eB,m,λx b=> ?_,h.r.eU a λg l i=>eV.KA h.r.1 h.n.1 E g l (by simp at i;rw[i];rfl)⟩;rcases List.mem_or_eq_of_mem_set b with b|rfl
 .exact e x b
 .exact e (hJ ns t sT) (bO d)
theorem Ph.left{q:bK}{w:aA}{B1 Bg:Nat}{hv av ev vv:aE}{Bp gp pc:Nat}{hd:aE}{hl:List Nat}{wx wy:aA}{nv:aE}{ns:List (bE×aE)}{pr:List Nat}(h:Ph q w B1 Bg hv av ev vv Bp gp pc hd hl wx nv ns pr)(a:U wx S wy S')(d:∀k,k∈S->i7 w.heap<=k/\mU wx k=H 220):Ph q w B1 Bg hv av ev vv Bp gp pc hd hl wy nv ns pr:=by
 have ne:∀t,t≠220->∀k,k∈S->mU wx k≠H t:=λt g k c i=>by
  grind
 refine⟨h.m.eU a λk c=>⟨(d k c).1,λe=> ?_,.inr (.inr (.inl (d k c).2))⟩,a.cF h.p (ne _ E),h.h.eb a (ne _ E),h.eB,h.n.eb a (ne _ E),λx b=>⟨((h.o x b).1).eb a (ne _ E),(h.o x b).2⟩,h.r.eb a (ne _ E)⟩;have g:=(d k c).2;rw[e,fB h.m.r0]at g;grind
theorem Jy{eb:Nat}{b:r6}{k:Nat}(h:GB eb b l m 42)(e:k<O l)(i:m<=7)(c:(l.map λx=>hJ b.2 x.1 0)=B8):
  (hJ l k sT).1<m/\hJ b.2 (hJ l k sT).1 0<O b.1/\B8.take (k+1)=B8.take k++[hJ b.2 (hJ l k sT).1 0]/\O (B8.take k)=k/\k<7/\O l<=7/\O b.1<=41:=by
 have a:(hJ l k sT).1<m:=h.Kr _ (AE.2 ⟨_,bO e,rfl⟩);have hl:=h.ml;refine⟨a,h.ok.C1 _ (h.pm▸a),?_,BC,Y,Y,h.oE⟩;have g:k<O (l.map λx=>hJ b.2 x.1 0):=by grind
 rw[<-c,fW (d:=0) g];grind
structure aNs(b:r6)(l:List ES)(k m:Nat)(s:cU):Prop where
 a0p:s.aG=1\/s.aG=2\/s.aG=3
 bY:s.bY<m
 eR:s.eR<m
 a3n:s.aG≠1->s.cut=0
 cut:s.cut<2^32
 aS:CY s∈mV l
 b41:O b.1<=41
 C1:∀x,x∈b.2->x<64
 l7:O l<=7
 w0:0<eS l
 wt:eS (make l s)<eS l
theorem GB.aGo{eb k:Nat}{b:r6}{s:cU}(h:GB eb b l m 42)(d:next l k=H s)(g:0<m)(w:m<=7):aNs b l k m s:=by
 have p:=jG h.nd d;obtain⟨e,j,a⟩:=p.mem;have r:=h.oE;have c:=h.Kr _ j;refine⟨e,c,?_,λu=>(a u).2.2,aEq h.nd h.sm d,?_,r,λx q=> ?_,j8 h.ml w,PJ h.ne,qA h.sm p⟩
 .by_cases n:s.aG=1
  .rw[aBK h.nd d n];exact g
  .exact h.Kr _ (a n).1
 .grind [CY]
 .obtain⟨i,v,rfl⟩:=Na q;have:=h.ok.C1 i v;grind
theorem Ly{nv lv:aE}{gp pc:Nat}{ns:List (bE×aE)}{b:r6}{s:cU}{k:Nat}(i:G3 w0 wr nv ns)(j:iC w0 wr (jS (H ⟨gp,0,K⟩) (O b.2) pc) b.2)(hl:Mo wr lv l)(g:U w0 [] wr [])(n:ns.map (·.1)=b.1){eb:Nat}(c:GB eb b l m 42)(a:aNs b l k m s)(q:m<=7):
  uJ 103 #[nv,jS (H ⟨gp,0,K⟩) m pc,lv,.agg #[mj mn s.aG,mj mn s.bY,mj mn s.eR,mj nr s.cut]] wr λe w'=>
   ∃u x,e=mi u/\G3 w0 w' u (ns++[(oF 0 b.2 l s,x)])/\iC w0 w' (jS (H ⟨gp,0,K⟩) (O (gK 0 b l s).2) pc) (gK 0 b l s).2/\iC wr w' x (oF 0 b.2 l s).vars/\U wr (gp::nv.ownBlock.toList) w' (gp::u.ownBlock.toList)/\U w0 [] w' []/\(ns++[(oF 0 b.2 l s,x)]).map (·.1)=(gK 0 b l s).1:=by
 have p:O ns=O b.1:=by rw[<-n,r8]
 have d:=c.pm;have:=aAr nv lv gp pc ns b.2 l s w0 wr i j hl c.sm c.nd a.l7 Y (kX a.b41) a.C1 a.a0p (kX a.bY) (kX a.eR) a.a3n a.cut a.aS g;rw[d]at this;apply this.cX;grind [aHJ]
structure K0(q:bK)(w:aA)(B1 Bg:Nat)(hv av ev vv:aE)(Bp:Nat)(hd:aE)(hl:List Nat)(dQ:Nat)(wx:aA)(nv:aE)(ns:List (bE×aE)):Prop where
 m:MkB q w B1 Bg hv av ev vv wx
 p:wx.heap[Bp]? =H (kd #[vv,hd,nv,mj mn dQ,jS K 0 0] 53 (0,0))
 h:iC w wx hd hl
 n:G3 w wx nv ns
 o:∀x,x∈ns->iC w wx x.2 x.1.vars
section
variable{q:bK}{w:aA}{B1 Bg:Nat}{hv av ev vv:aE}{Bp gp pc:Nat}{hd:aE}{hl:List Nat}{dQ:Nat}{wx wy:aA}{nv:aE}{ns:List (bE×aE)}{pr:List Nat}
theorem Ph.Yw(h:Ph q w B1 Bg hv av ev vv Bp gp pc hd hl wx nv ns pr)(d:i7 w.heap<=Bp)(c:Bp≠B1)(dQ:Nat):K0 q w B1 Bg hv av ev vv Bp hd hl dQ (hY wx ⟨Bp,3,K⟩ (mj mn dQ)) nv ns:=by
 have a:=qX wx Bp 3 (X dQ);exact⟨h.m.eU a (MkT.cF h.p d c),aF (i:=3) _ h.p,h.h.set h.p E a,h.n.set h.p E a,λx b=>(h.o x b).1.set h.p E a⟩
theorem K0.on(h:K0 q w B1 Bg hv av ev vv Bp hd hl dQ wx nv ns)(a:U wx [] wy S'):K0 q w B1 Bg hv av ev vv Bp hd hl dQ wy nv ns:=
 ⟨h.m.on a,a.aC h.p J,h.h.on a,h.n.on a,λx b=>(h.o x b).on a⟩
theorem K0.aS(h:K0 q w B1 Bg hv av ev vv Bp hd hl dQ wx nv ns):N8 wx ns:=λx a=>(h.o x a).rd
theorem K0.set(h:K0 q w B1 Bg hv av ev vv Bp hd hl dQ wx (jS (H ⟨gn,0,K⟩) n nc) ns)(r:i<O ns)(l:j<7)(x:bE)(z:x.vars=(hJ ns i sT).1.vars)(u:aE)(c:∀b,b<7->nS (x,(hJ ns i sT).2) b=if b=j then u else nS (hJ ns i sT) b):
  K0 q w B1 Bg hv av ev vv Bp hd hl dQ (hY wx ⟨gn,i*7+j,K⟩ u) (jS (H ⟨gn,0,K⟩) n nc) (ns.set i (x,(hJ ns i sT).2)):=by
 have a:U wx [gn] (hY wx (Ad gn (i*7+j)) u) [gn]:=qX wx gn (i*7+j) _;have d:=h.n.ty (k:=gn) rfl;have ne:∀t,t≠132->∀k,k∈[gn]->mU wx k≠H t:=λt C k g A=>by
  grind
 have B:∀x,x∈ns->iC w (hY wx (Ad gn (i*7+j)) u) x.2 x.1.vars:=λx c=>(h.o x c).eb a (ne _ E);refine⟨h.m.eU a λk g=> ?_,a.cF h.p (ne _ E),h.h.eb a (ne _ E),h.n.EW r l _ u c,λy v=> ?_⟩
 .obtain rfl:k=gn:=eP g;refine⟨h.n.2 k rfl,λe=> ?_,.inr (.inl d)⟩;rw[e,fB h.m.r0]at d;grind
 grind
theorem K0.aOO(h:K0 q w B1 Bg hv av ev vv Bp hd hl dQ wx (jS (H ⟨gn,0,K⟩) n nc) ns)(c:i<O ns)(t:Bool):
  K0 q w B1 Bg hv av ev vv Bp hd hl dQ (hY wx ⟨gn,i*7+6,K⟩ (nj t)) (jS (H ⟨gn,0,K⟩) n nc) (ns.set i ({(hJ ns i sT).1 with mL:=t},(hJ ns i sT).2)):=
 h.set (j:=6) c E {(hJ ns i sT).1 with mL:=t} rfl (nj t) λa b=>by
  match a,b with
  |0,_=>rfl
  |1,_=>rfl
  |2,_=>rfl
  |3,_=>rfl
  |4,_=>rfl
  |5,_=>rfl
  |6,_=>rfl
theorem K0.xK(h:K0 q w B1 Bg hv av ev vv Bp hd hl dQ wx (jS (H ⟨gn,0,K⟩) n nc) ns)(c:i<O ns)(p:Int):
  K0 q w B1 Bg hv av ev vv Bp hd hl dQ (hY wx ⟨gn,i*7+5,K⟩ (mj mn p)) (jS (H ⟨gn,0,K⟩) n nc) (ns.set i ({(hJ ns i sT).1 with bS:=p},(hJ ns i sT).2)):=
 h.set (j:=5) c E {(hJ ns i sT).1 with bS:=p} rfl (X p) λa b=>by
  match a,b with
  |0,_=>rfl
  |1,_=>rfl
  |2,_=>rfl
  |3,_=>rfl
  |4,_=>rfl
  |5,_=>rfl
  |6,_=>rfl
end
theorem PC.on{w:aA}(h:PC w0 w v p)(a:U w [] w' S'):PC w0 w' v p:=by
 obtain⟨v0,v1,v2,v4,ns,rfl,b,j,i,g,e,d⟩:=h.ex;exact⟨v0,v1,v2,v4,ns,rfl,b.on a,j.on a,i.on a,g,λx c=>(e x c).on a,d.on a⟩
theorem K0.done{q:bK}{w:aA}{B1 Bg:Nat}{hv av ev vv:aE}{Bp:Nat}{hd:aE}{hl:List Nat}{dQ:Nat}{wx:aA}{nv:aE}{ns:List (bE×aE)}(h:K0 q w B1 Bg hv av ev vv Bp hd hl dQ wx nv ns)(L:i7 w.heap<=B1)(k:i7 w.heap<=Bp)(B:Bp≠B1)(C:iC w wx u tl):
  ∃a,hY wx ⟨Bp,4,K⟩ u=a/\a.heap[Bp]? =H (kd #[vv,hd,nv,mj mn dQ,u] 53 (0,0))/\a.heap[B1]? =H (kd #[jS K 0 0,jS K 0 0,jS K 0 0,mj mn 0,jS K 0 0] 53 (0,0))/\
   PC w (hY (hY (hY (hY (hY a ⟨B1,0,K⟩ vv) ⟨B1,1,K⟩ hd) ⟨B1,2,K⟩ nv) ⟨B1,3,K⟩ (mj mn dQ)) ⟨B1,4,K⟩ u) (.agg #[vv,hd,nv,mj mn dQ,u]) ⟨vars q,hl,ns.map (·.1),dQ,tl⟩/\
   U w [] (hY (hY (hY (hY (hY a ⟨B1,0,K⟩ vv) ⟨B1,1,K⟩ hd) ⟨B1,2,K⟩ nv) ⟨B1,3,K⟩ (mj mn dQ)) ⟨B1,4,K⟩ u) []:=by
 have c:=qX wx Bp 4 u;have j:=c.aC h.m.r0 (eP B.symm);let⟨m,A⟩:=Gr (x:=vv) (y:=hd) (z:=nv) (u:=X dQ) (v:=u) j;have cZ:∀{α:Type} {f:α->Nat->aE} {d:α} {sz e:Nat} {v:aE} {l:List α},bN f d e sz w wx v l->e≠53->bN f d e sz w (hY (hY (hY (hY (hY ((hY wx (Ad Bp 4) u)) (Ad B1 0) vv) (Ad B1 1) hd) (Ad B1 2) nv) (Ad B1 3) (X dQ)) (Ad B1 4) u) v l:=λG r=>(G.set h.p r c).set j r A;exact⟨_,rfl,aF (i:=4) u h.p,j,⟨vv,hd,nv,u,ns,rfl,cZ h.m.v0 E,cZ h.h E,cZ h.n E,rfl,λx F=>cZ (h.o x F) E,cZ C E⟩,
  (h.m.up.bJ c λb g=>by simp at g;omega).bJ A λb g=>by simp at g;omega⟩
end
variable{vs:List dO}
theorem aFK{a:Nat}(ha:a<4294967296)(c:b<4294967296):fS a b=a&&&(4294967295-b):=by
 refine Fj λv=> ?_;rw[cH,z',show 4294967295-b=2^32-(b+1) by omega,yo (show b<2^32 from c)];by_cases h:v<32
 .simp[h]
 .have:a.testBit v=rR:=zbN (xF ha (j8 (by decide:4294967296<=2^32) (Fk E Y)));simp[this]
theorem AH(a b:Nat)(ha:a<4294967296)(c:b<4294967296):Go.bits .andNot nr (a:Int) (b:Int)=((fS a b:Nat):Int):=by
 rw[aFK ha c,u32_andNot_nat a b ha c]
def LZ(vs cZ:List dO)(k:Nat):Nat:=(cZ.take k).foldl (λs n=>s|||2^vs.idxOf n) 0
theorem Af{cZ:List dO}{k:Nat}(h:k<O cZ):LZ vs cZ (k+1)=LZ vs cZ k|||2^vs.idxOf (hJ cZ k bU):=by
 unfold LZ;rw[fW (d:=bU) h,um];rfl
theorem Ag{cZ:List dO}(hv:O vs<=30)(a:∀x,x∈cZ->x∈vs):∀k,LZ vs cZ k<2^30
 |0=>by show 0<2^30;decide
 |k+1=>by
  rcases YB k (O cZ) with h|h
  .rw[Af h];refine vW (Ag hv a k) (gz E ?_);have:=List.idxOf_lt_length_iff.2 (a _ (bO (d:=bU) h));omega
  .have:LZ vs cZ (k+1)=LZ vs cZ k:=by unfold LZ;rw[zdH Y,zdH h]
   rw[this];exact Ag hv a k
theorem Jw(v:aE)(cZ:List dO)(B:Nat)(vv:aE)(vs:List dO)(w:aA)(h:JV w v cZ)(f:h8 w ⟨B,0,K⟩=H vv)(u:JV w vv vs)(hd:vs.Nodup)(m:O vs<=30)(n:∀x,x∈cZ->x∈vs)(hl:O cZ<=1048576):
  aK prog 117 #[v,lr (H ⟨B,0,K⟩)] w λe w'=>e=mi (mj nr (uE vs cZ:Int))/\w=w':=by
 obtain⟨a,cap,rfl,-⟩:=h.len;obtain⟨va,vc,rfl,-⟩:=u.len;have P:=(Ox hd n);have G:=(Ag m n);clear hd;go_in;go_wp2;go_loopg [4,9] (O cZ) (λA s i wr=>w=wr/\∃k:Nat,k<=O cZ/\A=O cZ-k/\i=X k/\s=mj nr (LZ vs cZ k:Int))
 .exact⟨rfl,0,Y,rfl,rfl,rfl⟩
 obtain⟨rfl,k,N,rfl,rfl,rfl⟩:=hrel;by_cases p:k<O cZ
 .let⟨g,o,cap',hv,t⟩:=h.FC p;obtain rfl:=IK hv;have j:=n _ (bO (d:=bU) p);have c:=Z (Af (vs:=vs) p);have hs:=G k;let⟨x,l⟩:=D (hJ cZ k bU);simp only[yK,l]at t;rw[l]at j c;have b:vs.idxOf x<32:=kX (List.idxOf_lt_length_iff.2 j);have q:=Z λwz (F:JV wz (jS va (O vs) vc) vs)=>(D4 (jS va (O vs) vc) vs x wz F).mono λe w' h=>eI (h.1.ds (by rw[YQ j])) h.2;generalize C:vs.idxOf x=i at b c q;obtain⟨s,r⟩:∃s,LZ vs cZ k=s:=⟨_,rfl⟩;rw[r]at hs c|-;clear l j C r;go_wp2_with (go_at_call 36;apply(q.o _ u).dC;rintro w2 rfl);go_roundg (O cZ-(k+1))
  .exact⟨by trivial,k+1,by omega,rfl,eY,by
   have L:2^i<4294967296:=du (gz (by decide) b:2^i<2^32) (by decide);have z:s<4294967296:=Nat.lt_trans hs (by decide);rw[c.o,J3 b,u32_or_nat _ _ z L]⟩
  omega
 .obtain rfl:k=O cZ:=by omega
  have y:LZ vs cZ (O cZ)=uE vs cZ:=by unfold LZ;rw[TU];exact P
  rw[y];go_wp2;go_ret;exact⟨rfl,rfl⟩
theorem aJG(h:n<=30):((2:Int)^n%4294967296-1)%4294967296=((2^n-1:Nat):Int):=by
 rw[J3 (show n<32 by omega)];have b:2^n<4294967296:=du (gz E (show n<32 by omega):2^n<2^32) E;have a:=wn n;generalize 2^n=m at*;omega
theorem aLY(v:aE)(n:Nat)(w:aA)(d:n<=30)(hv:∃a k c,v=jS a k c):
  aK prog 169 #[.agg #[mj mn n,v]] w λe w'=>e=mi (mj nr ((2^n-1:Nat):Int))/\U w [] w' []:=by
 obtain⟨a,k,c,rfl⟩:=hv;have b:=Z (aJG d);have g:n<32:=Y;go_in;go_wp2;go_ret;exact⟨by rw[<-b.o];rfl,(U.refl w []).alloc _⟩
theorem aFJ(h:e<2^n):fS e (2^n-1)=0:=by
 refine Fj λv=> ?_;rw[cH,y',Nat.zero_testBit];by_cases hv:v<n
 .simp[hv]
 .rw[zbN (xF h (Fk E Y))];rfl
theorem Ax(v:aE)(es:List Nat)(aU:Nat)(w:aA)(h:E0 w v es)(a:pA es aU):
  uJ 122 #[.agg #[mj mn aU,v]] w λe w'=>e=mi (nj qT)/\U w [] w' []:=by
 obtain⟨ad,cap,rfl,-⟩:=h.len;have hv:=a.hv;have n:=a.hm;let⟨w1,g⟩:=D (i5 w (kd #[X aU,jS ad (O es) cap] 64));have l:=Za g;have d:=Zb g;obtain⟨b0,z⟩:=Z2 d;have y:decide ((aU:Int)<0)=rR:=kE Y;have g2:decide ((30:Int)<(aU:Int))=rR:=kE Y;have g3:decide ((7:Int)<(O es:Int))=rR:=kE Y;have m:=Z (pj (jS ad (O es) cap) es 168 #[lr (H ⟨w,0,K⟩)] (λ_=>rR) w1 (enters_of func168 dJ rfl) (h.on l) λx hx wz hz=>by
  have q:=hz.aC d J;obtain⟨c0,c1⟩:=Z2 q;have p:=a.xJ x hx;have r:=a.eD x hx;have u:2^aU-1<4294967296:=by
   have:2^aU<=2^30:=Fk E hv;omega
  have j:=Z ((AH x (2^aU-1) (du r E) u).ds (by rw[aFJ p]));have i:=Z λwy=>aLY (jS ad (O es) cap) aU wy hv ⟨_,_,_,rfl⟩;generalize A:2^aU-1=N at j i;show uJ 168 #[mj nr (x:Int),lr (H ⟨w,0,K⟩)] wz _;go_enter func168,ntmps168;go_wp2_with (go_at_call 169;apply(i.o _).dC;intro w2 b);go_ret;exact⟨by rw[j.o];rfl,b⟩)
 have c:es.any (λ_=>rR)=rR:=by rw[zo];intro x _ h;cases h
 rw[c]at m;go_enter func122,ntmps122;go_wp2_with (go_at_call 167;apply m.dC;intro w2 b);go_ret;exact⟨rfl,l.ds b⟩
section
theorem ZM61{P:Prop}(h:P:=by
  refine aP h.cF ?_;have hl:=h.hs;have IQ:=h.ht;unfold J1;rw[List.getElem?_toArray,List.getElem?_append_right (by simp;omega),r8,hl,List.getElem?_append_right (by simp;omega),r8,IQ];rfl):P:=h
theorem ZM114{P:Prop}(h:P:=by
  go_in;go_wp2;go_quiet (fail);go_wp2;go_quiet (fail);go_wp2;go_ret;exact⟨by rw[HK.o];rfl,_,WX ..⟩):P:=h
theorem ZM145{P:Prop}(h:P:=by
  go_wp2;go_roundg (n-(k+1))
  .exact⟨by trivial,k+1,Y,rfl,eY,by rw[HR.o]⟩
  omega):P:=h
theorem ZM160{P:Prop}(h:P:=by
  rw[gV];cases h:ss[i]?with
  |none=>exact E
  |some x=>exact du (hs _ (ul h)) E):P:=h
theorem ZM171{P:Prop}(h:P:=by
  go_in;go_wp2;go_ret;exact⟨by rw[HK.o];rfl,0,rfl⟩):P:=h
def J1(ss:List Nat)(ts:List Bool)(n eb:Nat):Array aE:=(ss.map (λ(s:Nat)=>mj nr (s:Int))++(ts.map nj++[mj mn n,mj nr eb])).toArray
structure sD(w:aA)(B:Nat)(ss:List Nat)(ts:List Bool)(n eb:Nat):Prop where
 cF:w.heap[B]? =H (kd (J1 ss ts n eb) 294 (0,0))
 hs:O ss=7
 ht:O ts=7
section
variable{w w':aA}{B:Nat}{ss:List Nat}{ts:List Bool}{n eb:Nat}
theorem sD.on(h:sD w B ss ts n eb)(a:U w [] w' S'):sD w' B ss ts n eb:=⟨a.aC h.cF J,h.hs,h.ht⟩
theorem sD.N'(h:sD w B ss ts n eb)(a:U w S w' S')(b:∀k,k∈S->mU w k≠H 294):sD w' B ss ts n eb:=⟨a.cF h.cF b,h.hs,h.ht⟩
theorem sD.s(h:sD w B ss ts n eb)(a:i<7):h8 w ⟨B,i,K⟩=H (mj nr (ss.getD i 0:Int)):=by
 refine aP h.cF ?_;have hl:=h.hs;unfold J1;rw[Bk,zbE (by simp;omega),So,kU Y,gV,kU Y];rfl
theorem sD.t(h:sD w B ss ts n eb)(b:i<7):h8 w ⟨B,7+i,K⟩=H (nj (hJ ts i rR)):=by
 refine aP h.cF ?_;have hl:=h.hs;have a:=h.ht;unfold J1;rw[Bk,List.getElem?_append_right (by simp;omega),r8,hl,zN,zbE (by simp;omega),So,kU Y,gV,kU Y];rfl
theorem sD.num(h:sD w B ss ts n eb):h8 w ⟨B,14,K⟩=H (mj mn n):=ZM61
theorem sD.k(h:sD w B ss ts n eb):h8 w ⟨B,15,K⟩=H (mj nr eb):=ZM61
theorem sD.free(h:sD w B ss ts n eb)(j:Nat):w.frozen? ⟨B,j,K⟩=rR:=aN h.cF j
theorem sD.aA9(h:sD w B ss ts n eb)(a:i<7)(x:Nat):sD (hY w ⟨B,i,K⟩ (mj nr (x:Int))) B (ss.set i x) ts n eb:=by
 refine⟨?_,by rw[TS];exact h.hs,h.ht⟩;rw[aF _ h.cF];congr 2;unfold J1;have hl:=h.hs;rw[UB,B2 _ _ (by simp;omega),List.map_set]
theorem sD.nW(h:sD w B ss ts n eb)(b:i<7)(x:Bool):sD (hY w ⟨B,7+i,K⟩ (nj x)) B ss (ts.set i x) n eb:=by
 refine⟨?_,h.hs,by rw[TS];exact h.ht⟩;rw[aF _ h.cF];congr 2;unfold J1;have hl:=h.hs;have a:=h.ht;rw[UB,List.set_append_right _ _ (by simp;omega),r8,hl,zN,B2 _ _ (by simp;omega),List.map_set]
end
theorem WX(w:aA)(a b:Nat):(w.drewN a).drewN b=w.drewN (a+b):=by
 unfold World.drewN;simp[Nat.add_assoc]
theorem U.xN{w w':aA}(h:∃m,w'=w.drewN m):U w [] w' []:=by
 obtain⟨m,rfl⟩:=h;exact(U.refl w []).drewN m
theorem W9{ss:List Nat}{ts:List Bool}{eb k:Nat}(hs:∀s,s∈ss->s<2^32):jM ss ts eb i k<4294967296:=by
 refine Sp (MJ ss ts eb i k) ?_;exact ZM160
theorem D1{ss:List Nat}(hs:∀s,s∈ss->s<2^32)(i:Nat):hJ ss i 0<4294967296:=ZM160
theorem Bs(B i:Nat)(ss:List Nat)(ts:List Bool)(n eb:Nat)(w:aA)(h:sD w B ss ts n eb)(u:i<7)(Q:n<=7)(hs:∀s,s∈ss->s<2^32)(G:eb<2^32):
  aK prog 170 #[lr (H ⟨B,0,K⟩),mj mn i] w λe w'=>e=mi (mj nr (jM ss ts eb i n:Int))/\∃m,w'=w.drewN m:=by
 have c0:=h.s u;have P:=h.num;have N:=h.k;have V:=iP (dG h.cF);have q:=D1 hs i;have A:=u;have g:=AH (hJ ss i 0) eb q G;generalize L:hJ ss i 0=x at c0 q g;have F:=Z λk=>W9 (ss:=ss) (ts:=ts) (eb:=eb) (i:=i) (k:=k) hs;have o:=Z hs;go_in;go_wp2;go_quiet (fail);go_wp2;let⟨w2,l⟩:=D (w.drewN nq);have r:=(h.on (Sr l));rw[l];go_loopg [5,22] n (λz s j wr=>w2=wr/\∃k:Nat,k<=n/\z=n-k/\j=X k/\s=mj nr (jM ss ts eb i k:Int))
 .exact⟨rfl,0,Y,rfl,rfl,by rw[<-L];rfl⟩
 obtain⟨rfl,k,T,rfl,rfl,rfl⟩:=hrel;by_cases S:k<n
 .have a:=Z (FT ss ts eb i k);have hl:=F.o k;generalize W:jM ss ts eb i k=c at a hl|-;have v:=r.t (i:=k) Y;have cs:=r.s (i:=k) Y;have t:k<7:=Y;by_cases p:k=i
  .have C:((k:Int)!=(i:Int))=rR:=kG bne_eq_false_iff_eq;have HR:dT (jM ss ts eb i (k+1)=c):=Z (by rw[a.o,R (λh=>h.1 p)]);exact ZM145
  .have C:((k:Int)!=(i:Int))=qT:=kG bne_iff_ne;cases b:hJ ts k rR with
   |false=>
    rw[b]at v;have HR:dT (jM ss ts eb i (k+1)=c):=Z (by rw[a.o,R (λh=>by rw[b]at h;exact dY h.2 E)]);exact ZM145
   |true=>
    rw[b]at v;have d:=D1 o k;have HR:dT (jM ss ts eb i (k+1)=fS c (hJ ss k 0)):=Z (by rw[a.o,bW ⟨p,b⟩]);have g:=AH c (hJ ss k 0) hl d;generalize f:hJ ss k 0=y at cs HR g;exact ZM145
 .obtain rfl:k=n:=Y;go_wp2;go_ret;exact⟨rfl,nq,l.symm⟩
theorem Wh(B i j:Nat)(ss:List Nat)(ts:List Bool)(n eb:Nat)(w:aA)(h:sD w B ss ts n eb)(z:i<7)(x:j<7)(hs:∀s,s∈ss->s<2^32):
  aK prog 171 #[lr (H ⟨B,0,K⟩),mj mn i,mj mn j] w λe w'=>e=mi (mj mn (kO ss ts i j:Int))/\∃m,w'=w.drewN m:=by
 have F:=h.s z;have f:=h.s x;have u:=h.t z;have y:=h.t x;have k:=iP (dG h.cF);have l:=D1 hs i;have p:=D1 hs j;have C:kO ss ts i j=if i=j\/hJ ts i rR=rR\/hJ ts j rR=rR then 0 else if hJ ss i 0=hJ ss j 0 then 2 else if fS (hJ ss i 0) (hJ ss j 0)=0 then 3 else 0:=rfl;have HK:=Z C;by_cases v:i=j
 .have A:((i:Int)==(j:Int))=qT:=LQ.2 Y;have HK:dT (kO ss ts i j=0):=Z (by rw[HK.o,bW (.inl v)]);exact ZM171
 .have A:((i:Int)==(j:Int))=rR:=GD.2 Y;cases g:hJ ts i rR with
  |false=>
   rw[g]at u;have HK:dT (kO ss ts i j=0):=Z (by rw[HK.o,bW (.inr (.inl g))]);exact ZM171
  |true=>
   rw[g]at u;cases d:hJ ts j rR with
   |false=>
    rw[d]at y;have HK:dT (kO ss ts i j=0):=Z (by rw[HK.o,bW (.inr (.inr d))]);exact ZM171
   |true=>
    rw[d]at y;have HK:dT (kO ss ts i j=if hJ ss i 0=hJ ss j 0 then 2 else if fS (hJ ss i 0) (hJ ss j 0)=0 then 3 else 0):=Z (by rw[HK.o,R];rw[g,d];simp[v]);have q:=AH (hJ ss i 0) (hJ ss j 0) l p;let⟨a,ha⟩:=D (hJ ss i 0);let⟨b,G⟩:=D (hJ ss j 0);rw[ha]at F l HK q;rw[G]at f p HK q;by_cases r:a=b
    .have g2:((a:Int)==(b:Int))=qT:=LQ.2 Y;have HK:dT (kO ss ts i j=2):=Z (by rw[HK.o,bW r]);go_in;go_wp2;go_quiet (fail);go_wp2;go_ret;exact⟨by rw[HK.o];rfl,nq,rfl⟩
    .have g2:((a:Int)==(b:Int))=rR:=GD.2 Y;by_cases hl:fS a b=0
     .have HK:dT (kO ss ts i j=3):=Z (by rw[HK.o,R r,bW hl]);rw[hl]at q;exact ZM114
     .have HK:dT (kO ss ts i j=0):=Z (by rw[HK.o,R r,R hl]);have g3:(((fS a b:Nat):Int)==0)=rR:=GD.2 Y;generalize L:fS a b=c at q g3;exact ZM114
end
variable{cap g:Nat}
theorem ZM97{P:Prop}(h:P:=by
  go_wp2;go_roundg (n-(k+1))
  .exact⟨k+1,L2,Y,rfl,eY,aCg.o,Ga.o.on ((U.refl _ []).drewN _),bM.drewN _⟩
  omega):P:=h
theorem ZM184{P:Prop}(h:P:=by
  go_in;go_wp2;go_ret;exact⟨rfl,rfl⟩):P:=h
theorem bN.Aj{α:Type}{f:α->Nat->aE}{d:α}{e:ap}{l:List α}(h:bN f d e 1 w0 w (jS (H ⟨g,0,K⟩) n cap) l)(c:i<O l)(x:α)(a:f x 0=u):
  bN f d e 1 w0 (hY w ⟨g,i,K⟩ u) (jS (H ⟨g,0,K⟩) n cap) (l.set i x):=by
 have:=h.EW (j:=0) c E x u (λb m=>by
  obtain rfl:b=0:=Y;rw[bW rfl];exact a)
 simpa using this
theorem Wl(x:Nat)(w:aA):aK prog 242 #[mj nr (x:Int)] w λe w'=>e=mi (nj rR)/\w=w':=by
 have a:((x:Int)!=(x:Int))=rR:=J;exact ZM184
theorem Bv(x y:Nat)(w:aA):aK prog 225 #[mj nr (x:Int),mj nr (y:Int)] w λe w'=>e=mi (nj (decide (x<y)))/\∃m,w'=w.drewN m:=by
 go_in;go_wp2_with (go_at_call 242;apply(Wl _ _).dC;rintro w' rfl);go_ret;exact⟨rfl,0,rfl⟩
theorem Hj(v:aE)(L:List Nat)(w0 w:aA)(h:yS w0 w v L)(hl:O L<=12):
  aK prog 219 #[v,mj mn 0,mj mn (O L)] w λe w'=>e=mi (mr #[])/\U w v.ownBlock.toList w' v.ownBlock.toList:=by
 obtain⟨a,cap,rfl,-⟩:=h.len;generalize C:O L=n at hl h|-;have s:=Z C;clear C;go_in;go_wp2;go_loopg [6] (n-1) (λu i wr=>∃(k:Nat) (L':List Nat),1<=k/\u=n-k/\i=X k/\O L'=n/\yS w0 wr (jS a n cap) L'/\U w (jS a n cap).ownBlock.toList wr (jS a n cap).ownBlock.toList)
 .exact⟨1,L,fV _,rfl,rfl,s.o,h,U.refl _ _⟩
 obtain⟨k,L',wO,rfl,rfl,p,r,G⟩:=hrel;by_cases W:k<n
 .obtain⟨g,T,hv,q,N,-,-,-⟩:=(show eV _ _ _ _ _ _ from r.1).block Y;rw[p]at hv;obtain rfl:=IK hv;have P:=Z r;have Q:=Z p;clear r p q N;go_wp2;go_loopg [7] k (λu j wr=>∃(m:Nat) (L':List Nat),m<=k/\u=k-(k-m)/\j=X m/\O L'=n/\yS w0 wr (eC g 0 n cap) L'/\U w (eC g 0 n cap).ownBlock.toList wr (eC g 0 n cap).ownBlock.toList)
  .exact⟨k,L',fV _,Y,rfl,Q.o,P.o,G⟩
  obtain⟨m,L2,uS,rfl,rfl,b,c,bM⟩:=hrel;by_cases z:m=0
  .subst z;have Ga:=Z c;have aCg:=Z b;clear c b;go_wp2;go_quiet (fail);exact ZM97
  .obtain⟨j,rfl⟩:∃j,m=j+1:=⟨m-1,Y⟩;have d:eV wr (eC g 0 (O L2) cap) 65 1 (O L2) (λi j=>FY (hJ L2 i 0) j):=by rw[b];rw[<-b];rw[<-b]at c;exact c.1
   have c0:=d.cell (i:=j+1) (j:=0) Y E;have c1:=d.cell (i:=j) (j:=0) Y E;have B:=d.free (g:=g) rfl;simp only[FY,yC,qZ]at c0 c1;have Ga:=Z c;have aCg:=Z b;let⟨x,f⟩:=D (hJ L2 (j+1) 0);let⟨y,o⟩:=D (hJ L2 j 0);rw[f]at c0;rw[o]at c1;clear c b d;by_cases V:x<y
   .go_wp2;go_quiet ((go_at_call 225;refine Calls.quiet_of (Bv _ _ _)));go_upto_region 6 with(fail);let⟨w5,A⟩:=D (wr.drewN nq);have l:U wr [] w5 []:=Sr A;have B:=l.yx c0 J B;let⟨c0,c1⟩:=l.zc2 c0 c1;have S:=Z (Ga.o.on l);have F:=(bM.drewN nq);rw[A]at F|-;clear A l Ga;go_region;all_goals
     go_wp2;go_roundg (k-(k-j))
     .exact⟨j,(L2.set (j+1) y).set j x,Y,rfl,eY,by rw[TS,TS];exact aCg.o,
      ((S.o.Aj (i:=j+1) (kG aCg.o) y rfl).Aj (i:=j) (by rw[TS,aCg.o];omega) x rfl).on (U.refl _ []).drew,
      ((F.setCell (a:=Ad g (j+1)) (.inl (by simp[i6])) _).setCell (a:=Ad g j) (.inl (by simp[i6])) _).drew⟩
     omega
   .go_wp2;go_quiet ((go_at_call 225;refine Calls.quiet_of (Bv _ _ _)));exact ZM97
 .go_wp2;go_end0;exact⟨rfl,G⟩
theorem aJi(n:Nat)(a:n<=7)(w:aA):aK prog 200 #[mj .u64 (n:Int)] w λe w'=>∃r:Int,e=mi (mj mn r)/\w=w':=by
 match n,a with
 |0,_|1,_|2,_|3,_|4,_|5,_|6,_|7,_=>
  go_in;go_wp2_with go_in;go_ret;exact⟨_,rfl,rfl⟩
theorem aET(v:aE)(L:List Nat)(w0 w:aA)(h:yS w0 w v L)(hl:O L<=7):
  uJ 164 #[v] w λe w'=>e=mi (mr #[])/\U w v.ownBlock.toList w' v.ownBlock.toList:=by
 obtain⟨a,cap,rfl,-⟩:=h.len;have i:=Z (Hj _ L w0 w h Y);have c:=Z λg=>aJi (O L) hl g;have d:∀r:Int,uJ 199 #[jS a (O L) cap,X 0,X (O L),X r] w λe w'=>e=mi (mr #[])/\U w (jS a (O L) cap).ownBlock.toList w' (jS a (O L) cap).ownBlock.toList:=by
  intro r;have j:(O L:Int)<=12:=Y;go_enter func199,ntmps199;go_wp2;refine wp_loop_rounds 1 ?_;rw[rounds_succ];go_wp2_with (go_at_call 219;apply i.dC;intro w' b);(try simp only[Exit.inBlock,Exit.then])
  refine mY (results_none rfl _ _ _) rfl ?_;exact⟨rfl,b⟩
 go_enter func164,ntmps164;go_wp2_with (first
  |(go_at_call 199;apply(d _).dC;intro w' b)
  |(go_at_call 200;apply(c.o _).cX;rintro e w' ⟨r,rfl,rfl⟩))
 go_end0;exact⟨rfl,b⟩
theorem ZM98{P:Prop}(h:P:=by
  rcases YB v 32 with h|h
  .exact h
  .rw[zbN (xF hS (j8 (by decide:4294967296<=2^32) (Fk E h)))]at hv;cases hv):P:=h
theorem aBW{S v:Nat}(hv:S.testBit v=qT)(b:∀i,i<v->S.testBit i=rR):∃m,S=2^(v+1)*m+2^v:=by
 refine⟨S/2^(v+1),?_⟩;have c:S%2^(v+1)=2^v:=by
  refine Fj λi=> ?_;rw[Nat.testBit_mod_two_pow,oj];by_cases h:v=i
  .subst h;simp[hv]
  .by_cases a:i<v
   .simp[b i a,h]
   .have:¬i<v+1:=Y;simp[this,h]
 have:=Nat.div_add_mod S (2^(v+1));omega
theorem Br{S v:Nat}(hv:S.testBit v=qT)(d:∀i,i<v->S.testBit i=rR):S≠0/\S&&&(S-1)=fS S (2^v)/\∀i,(S-1).testBit i=if i<v then qT else if i=v then rR else S.testBit i:=by
 let⟨m,e⟩:=aBW hv d;have l:=wn v;have g:2^v<2^(v+1):=gz E Y;have c:∀i,(S-1).testBit i=if i<v then qT else if i=v then rR else S.testBit i:=by
  intro i;have j:S-1=2^(v+1)*m+(2^v-1):=Y;rw[j,zb _ Y,y'];by_cases a:i<v
  .rw[bW Y,bW a];simp[a]
  .by_cases b:i=v
   .subst b;rw[bW Y,R a,bW rfl];simp
   .rw[R Y,R a,R b];conv=>rhs;rw[e]
    rw[zb _ g,R Y]
 refine⟨Y,Fj λi=> ?_,c⟩;rw[z',c,cH,oj];by_cases a:i<v
 .rw[bW a,d i a];rfl
 .by_cases b:i=v
  .subst b;rw[R a,bW rfl];simp
  .rw[R a,R b];have:¬v=i:=λh=>b h.symm;cases S.testBit i<;>simp[this]
theorem aJc{S v:Nat}(d:S<4294967296)(hv:S.testBit v=qT)(c:∀i,i<v->S.testBit i=rR):S&&&(4294967296-S)=2^v:=by
 let⟨g,_,e⟩:=Br hv c;refine Fj λi=> ?_;rw[z',oj,show 4294967296-S=2^32-((S-1)+1) by omega,yo (show S-1<2^32 by omega),e];by_cases a:i<v
 .rw[bW a,c i a];have:¬v=i:=Y;simp[this]
 .by_cases b:i=v
  .subst b;rw[R a,bW rfl,hv];have:i<32:=by
    rcases YB i 32 with h|h
    .exact h
    .rw[zbN (xF d (j8 (by decide:4294967296<=2^32) (Fk E h)))]at hv;cases hv
   simp[this]
  .rw[R a,R b];have:¬v=i:=λh=>b h.symm;cases S.testBit i<;>simp[this]
theorem lo{S:Nat}(h:S≠0):∃v,S.testBit v=qT/\∀i,i<v->S.testBit i=rR:=by
 let⟨v,hv⟩:=DT h;induction v using El with
 |_ v ih=>
  by_cases a:∃i,i<v/\S.testBit i=qT
  .obtain⟨i,c,b⟩:=a;exact ih i c b
  .exact⟨v,hv,λi c=>by
    cases b:S.testBit i
    .rfl
    .exact dY ⟨i,c,b⟩ a⟩
theorem Wf:cB 0=[]:=by
 unfold cB;rw[zdE];intro a _;simp
theorem lp{S v:Nat}(hS:S<4294967296)(hv:S.testBit v=qT)(b:∀i,i<v->S.testBit i=rR):cB S=v::cB (fS S (2^v)):=by
 have g:v<32:=ZM98;unfold cB;have e:B6 32=B6 v++v::List.range' (v+1) (31-v):=by
  rw[B4,B4,show(32:Nat)=v+(1+(31-v)) by omega,<-B5,<-B5];simp[List.range'_one]
 rw[e,zdF,zdF];have c:(B6 v).filter (λi=>S.testBit i)=[]:=by
  rw[zdE];intro i a;rw[b i (wW.1 a)];decide
 have d:(B6 v).filter (λi=>(fS S (2^v)).testBit i)=[]:=by
  rw[zdE];intro i a;rw[cH,b i (wW.1 a)];simp
 rw[c,d,Nb,Nb,List.filter_cons_of_pos (eP hv),List.filter_cons_of_neg (by rw[cH,oj];simp)];congr 1;refine List.filter_congr λi a=> ?_;have j:=List.mem_range'_1.1 a;rw[cH,oj];have:¬v=i:=Y;simp[this]
def aDy:List Nat:=[0,1,28,2,29,14,24,3,30,22,20,15,25,17,4,8,31,27,13,23,21,19,16,7,26,12,18,6,11,5,10,9]
theorem aTS:∀v,v<32->2^v*125613361%4294967296/134217728<32/\hJ aDy (2^v*125613361%4294967296/134217728) 0=v:=by decide
def Tz(w:aA):Prop:=∀i,i<32->h8 w ⟨0,i,K⟩=H (mj n9 (aDy.getD i 0:Int))
theorem Tz.on(h:Tz w)(a:U w [] w' S'):Tz w':=λi b=>a.cell (h i b) J
theorem aIt(S:Nat)(a:S≠0)(h:S<4294967296):(-(S:Int))%4294967296=((4294967296-S:Nat):Int):=by omega
theorem aOG(S v:Nat)(w:aA)(n:Tz w)(hS:S<4294967296)(hv:S.testBit v=qT)(d:∀i,i<v->S.testBit i=rR):
  aK prog 119 #[mj nr (S:Int)] w λe w'=>e=mi (mj mn (v:Int))/\w=w':=by
 have l:=(Br hv d).1;have c:v<32:=ZM98;let⟨j,m⟩:=aTS v c;have g:=n _ j;rw[m]at g;have u:((S:Int)==0)=rR:=kG GD;have b:=aIt S l hS;have a:Go.bits .and nr (S:Int) ((4294967296-S:Nat):Int)=((2^v:Nat):Int):=by
  rw[u32_and_nat S (4294967296-S) hS Y,aJc hS hv d]
 let⟨N,r⟩:=D (4294967296-S);let⟨p,q⟩:=D (2^v);rw[r]at b a;rw[q]at a j g;exact ZM184
theorem Hd(S:Nat):O (cB S)<=32:=j8 (zdG _ _) J
theorem Bu(S:Nat)(w:aA)(C:Tz w)(r:S<4294967296):
  aK prog 70 #[mj nr (S:Int)] w λe w'=>∃u,e=mi u/\iC w w' u (cB S)/\U w [] w' []:=by
 go_in;go_wp2;go_loopg [0,3] S (λA s p wr=>∃(T:Nat) (L:List Nat),A=T/\s=mj nr (T:Int)/\T<4294967296/\cB S=L++cB T/\U w [] wr []/\iC w wr p L)
 .exact⟨S,[],rfl,rfl,r,rfl,U.refl _ _,bN.nil _ _⟩
 obtain⟨T,L,y,rfl,g,m,d,c⟩:=hrel;obtain⟨a3,k,rfl,f⟩:=c.len;have Q:O L<=32:=by
  have h:=Hd S;rw[m,E7]at h;omega
 have n:=Z m;by_cases l:T=0
 .subst l;have b:dT (cB S=L):=Z (by rw[n.o,Wf,ui]);go_wp2;go_ret;exact⟨_,rfl,b.o▸c,d⟩
 .let⟨v,hv,j⟩:=lo l;obtain⟨-,a,-⟩:=Br hv j;have x:=(aOG T v wr (C.on d) g hv j);have b:=Z (lp g hv j);have q:fS T (2^v)<T:=by
   rw[<-a];exact Sp Ct Y
  have B:Go.bits .and nr (T:Int) ((T:Int)-1)=((fS T (2^v):Nat):Int):=by
   rw[<-a,<-u32_and_nat T (T-1) g Y];congr 1;omega
  have N:((T:Int)!=0)=qT:=kG bne_iff_ne;obtain⟨T',i⟩:∃T',fS T (2^v)=T':=⟨_,rfl⟩;rw[i]at b q B;go_wp2_with (first
   |(at_builtin;refine cK QL rfl _ _ rfl c d Yr [It v] v Yr rfl (dE rfl) rfl Y GC ?_;rintro g2 P w3 z F- -;have G:=Z z)
   |(go_at_call 119;apply x.dC;rintro w2 rfl))
  go_roundg T'
  .exact⟨T',L++[v],rfl,rfl,Y,by rw[n.o,b.o,zcV];rfl,F,by simpa using G.o⟩
  rw[y];exact q
variable{UO:aE}
section
abbrev Rt(w0 w:aA)(v:aE)(ns:List (bE×aE)):Prop:=bN nS sT 79 7 w0 w v ns
theorem aQf:kD prog 73 79 7 72:= .QZ (z:= .agg #[X 0,X 0,cR,X 0,X 0,X 0,nj rR]) underlying73 dJ rfl
structure LB(w0 w:aA)(bb:Nat)(nv sv pv:aE)(ns:List (bE×aE))(ss pr:List Nat):Prop where
 cF:w.heap[bb]? =H (kd #[nv,sv,pv] 162 (0,0))
 n:Rt w0 w nv ns
 o:∀x,x∈ns->iC w0 w x.2 x.1.vars
 s:yS w0 w sv ss
 p:iC w0 w pv pr
 ne:∀x,x∈ns->∀b,i6 x.2=H b->i6 pv≠H b
 bge:i7 w0.heap<=bb
section
variable{w0 w w':aA}{bb:Nat}{nv sv pv:aE}{ns:List (bE×aE)}{ss pr:List Nat}
theorem LB.on(h:LB w0 w bb nv sv pv ns ss pr)(a:U w [] w' S'):LB w0 w' bb nv sv pv ns ss pr:=
 ⟨a.aC h.cF J,h.n.on a,λx b=>(h.o x b).on a,h.s.on a,h.p.on a,h.ne,h.bge⟩
theorem LB.eb(h:LB w0 w bb nv sv pv ns ss pr)(b:U w S w' S')(c:∀k,k∈S->mU w k≠H 162/\mU w k≠H 79/\mU w k≠H 3/\mU w k≠H 65):LB w0 w' bb nv sv pv ns ss pr:=
 ⟨b.cF h.cF λk a=>(c k a).1,h.n.eb b λk a=>(c k a).2.1,λx d=>(h.o x d).eb b λk a=>(c k a).2.2.1,h.s.eb b λk a=>(c k a).2.2.2,h.p.eb b λk a=>(c k a).2.2.1,h.ne,h.bge⟩
theorem LB.vO{x:bE}(h:LB w0 w bb nv sv pv ns ss pr)(g:U w nv.ownBlock.toList w' S')(r:Rt w0 w' UO (ns++[(x,xv)]))(q:iC w0 w xv x.vars)(l:∀b,i6 xv=H b->i6 pv≠H b):
  LB w0 (hY w' ⟨bb,0,K⟩ UO) bb UO sv pv (ns++[(x,xv)]) ss pr:=by
 have ne:∀t,t≠79->∀b,b∈nv.ownBlock.toList->mU w b≠H t:=λt m b j=>by rw[h.n.Fl b j];exact λe=>m (by injection e with e;exact e.symm)
 have c:=g.cF h.cF (ne _ E);have d:=qX w' bb 0 UO;have u:∀y,y∈ns++[(x,xv)]->iC w0 w y.2 y.1.vars:=λy a=>by
  rcases yU.1 a with a|a
  .exact h.o y a
  .obtain rfl:=Gc.1 a;exact q
 refine⟨aF (i:=0) _ c,r.set c E d,λy a=>((u y a).eb g (ne _ E)).set c E d,(h.s.eb g (ne _ E)).set c E d,(h.p.eb g (ne _ E)).set c E d,λy a b j=> ?_,h.bge⟩;rcases yU.1 a with a|a
 .exact h.ne y a b j
 .obtain rfl:=Gc.1 a;exact l b j
end
theorem Ro(bb:Nat)(nv sv pv xv:aE)(ns:List (bE×aE))(ss pr:List Nat)(x:bE)(w0 w:aA)(p0:Int)(h:LB w0 w bb nv sv pv ns ss pr)(hx:iC w0 w xv x.vars)(eB:∀b,i6 xv=H b->i6 pv≠H b)(hU:U w0 [] w [])(hl:O ns<=64)(hp:x.bS= -1):
  aK prog 69 #[lr (H ⟨bb,0,K⟩),.agg #[mj mn x.aG,mj mn x.qV,xv,mj mn x.cM,mj mn x.bP,mj mn p0,nj x.mL]] w λe w'=>
   ∃UO,e=mi (mj mn (O ns:Int))/\LB w0 w' bb UO sv pv (ns++[(x,xv)]) ss pr/\U w (bb::nv.ownBlock.toList) w' (bb::UO.ownBlock.toList)/\U w0 [] w' []:=by
 obtain⟨na,nc,rfl,n⟩:=h.n.len;obtain⟨L,G,rfl,-⟩:=hx.len;let⟨w1,eW⟩:=D (i5 w (kd #[X x.aG,X x.qV,jS L (O x.vars) G,X x.cM,X x.bP,X p0,nj x.mL] 79));have S:=Za eW;have q:=Zb eW;obtain⟨b0,b1,b2,b3,b4,b5,b6⟩:=Z7 q;have bf:=aN q;have H1:=(h.on S);have HX1:=(hx.on S);have YW:=(show∀b,i6 (jS na (O ns) nc)=H b->b≠i7 w.heap from λb d=>Nat.ne_of_lt (h.n.1.lt b d));go_in;go_upto_region 2 with(fail);let⟨B,YM⟩:=D (i7 w.heap);have f:=aF (i:=5) (X (-1)) q;have r:=(U.refl w1 [i7 w.heap]).setCell (a:=⟨w,5,K⟩) (.inl J) (X (-1));have a3U:bb∉[i7 w.heap]:=λn=>by
  have h1:=fB H1.cF;rw[show bb=i7 w.heap by simpa using n,fB q]at h1;exact dY h1 E
 have m:dT (i7 w.heap∉(jS na (O ns) nc).ownBlock.toList):=Z λn=>YW w.heap.size (eP n) rfl;have wO:=r.aC H1.cF a3U;have H2:dT (LB w0 (hY w1 ⟨w,5,K⟩ (X (-1))) bb (jS na (O ns) nc) sv pv ns ss pr):=Z ⟨wO,H1.n.eU r (λg hg n=>YW g hg (eP n)),λy hy=>((H1.o y hy).set q E r),H1.s.set q E r,H1.p.set q E r,H1.ne,H1.bge⟩;have N:=(HX1.set q E r);have eQ:=((hU.ds S).bJ r (λb d=>by simp at d;have:=hU.size;omega));have P:dT (U w [] (hY w1 ⟨w,5,K⟩ (X (-1))) []):=Z (S.bJ r (λb d=>by simp at d;omega));generalize rM:hY w1 ⟨w,5,K⟩ (X (-1))=w2 at f H2 N eQ P|-;rw[YM]at f m|-;have JZ:=(show uD w2 B #[X x.aG,X x.qV,jS L (O x.vars) G,X x.cM,X x.bP,X (-1),nj x.mL] 79from f);have f:=JZ;obtain⟨b0,b1,b2,b3,b4,b5,b6⟩:=Z7 f;have hK:=H2.cF;have c0:=Zc hK 0;refine fj 10 (ez c0<|ez b0<|ez b1<|ez b2<|ez b3<|ez b4<|ez b5<|ey b6) (λwd fF W Q=> ?_);have l:=(H2.on W);have NF:=(N.on W);have iF:=(eQ.ds W);have a4Q:=(P.ds W);refine ek [0,1,5,2,3,4] ?_;refine Zo 6 λo hK=> ?_;go_simp;have hH5:=Q;have u:U wd [] (i5 wd (kd #[X x.aG,X x.qV,jS L (O x.vars) G,X x.cM,X x.bP,X (-1),nj x.mL] 79)) []:=(U.refl wd []).alloc _;obtain⟨tK,tJ,OD,Nt,F,C,A,z⟩:=Q;have Q:=eI ((u).cell tK J) (eI ((u).cell tJ J) (eI ((u).cell OD J) (eI ((u).cell Nt J) (eI ((u).cell F J) (eI ((u).cell C J) (eI ((u).cell A J) ((u).cell z J)))))));refine j5 ?_;clear hK o;refine Zo 7 λo hK=> ?_;let⟨V,c7,w7,dK,yQ,gD,c,hg7⟩:=iT (ty:=73) (news:=[X x.aG,X x.qV,jS L (O x.vars) G,X x.cM,X x.bP,X (-1),nj x.mL]) (T:=79) aQf Y l.n iF (fV _) iF.size
  (x,jS L (O x.vars) G) rfl (UJ rfl rfl rfl rfl rfl (by rw[<-hp];rfl) rfl) (by intro j hj;rcases j with _|_|_|_|_|_|_|j<;>first|rfl|omega) Y GC
 refine dL _ _ rfl Yr Yr dK ?_;have Q:=hH5;have TW:=l.n.ne l.cF E;obtain⟨tK,tJ,OD,Nt,F,C,A,z⟩:=Q;have Q:=eI ((c).cell tK (TW)) (eI ((c).cell tJ (m.o)) (eI ((c).cell OD (m.o)) (eI ((c).cell Nt (m.o)) (eI ((c).cell F (m.o)) (eI ((c).cell C (m.o)) (eI ((c).cell A (m.o)) ((c).cell z (m.o))))))));have FX:=c.cF l.cF (λb d=>by rw[l.n.Fl b d];decide);have bf:=aN FX;have pW:=l.vO c yQ NF eB;have jB:=(iF.bJ c l.n.ge).bJ (qX w7 bb 0 (eC V 0 (O ns+1) c7)) (λb d=>by simp at d;have:=l.bge;omega);have rY:=(((a4Q.quiet (bb::(jS na (O ns) nc).ownBlock.toList)).to (T:=bb::(jS na (O ns) nc).ownBlock.toList) (λ_ v=> .inl v)).ds ((c.aL (T:=bb::(jS na (O ns) nc).ownBlock.toList) (λk v=>UA _ v)).to (T:=bb::[V]) (λk v=>by
  rcases xZ.1 v with rfl|v
  .exact .inl (zdC ..)
  .exact(c.fresh k v).imp (UA _) id))).setCell (a:=Ad bb 0) (.inl (zdC ..)) (eC V 0 (O ns+1) c7)
 refine j5 ?_;clear hK o;refine Zo 8 λo hK=> ?_;go_simp;refine j5 ?_;clear hK o;refine I 9 ?_;refine Zo 10 λo hK=> ?_;go_simp;refine LP ?_;clear hK o;have hK:=pW.cF;have c0:=Zc hK 0;go_wp2;go_ret;exact⟨eC V 0 (O ns+1) c7,rfl,pW,rY,jB⟩
end
variable{c:Nat}
section
theorem ZM56{P:Prop}(h:P:=by
  rw[Pr]at pW;exact⟨rfl,HF6.o.ds (TP.one eo (HM.o.p.ty (k:=gp) rfl) (by decide)),lM.o.bJ eo λb hb=>(by rw[show b=gp by simpa using hb];exact HM.o.p.2 gp rfl),UO,_,by rw[YU.o,HPN.o];exact pW⟩):P:=h
structure TP(T:List ap)(w w':aA):Prop where
 size:i7 w.heap<=i7 w'.heap
 cF:∀(k:Nat) (cs:Array aE) (t:ap),w.heap[k]? =H (kd cs t (0,0))->t∉T->w'.heap[k]? =H (kd cs t (0,0))
 map:∀(k:Nat) (es:Array MapEntry) (c:Nat),w.heap[k]? =H (Obj.map es c)->w'.heap[k]? =H (Obj.map es c)
section
variable{T:List ap}{w w1 w':aA}
theorem TP.ds(h:TP T w w1)(k:TP T w1 w'):TP T w w':=⟨j8 h.size k.size,λb cs t a d=>k.cF b cs t (h.cF b cs t a d) d,λb es c a=>k.map b es c (h.map b es c a)⟩
theorem TP.eU(d:U w S w' S')(h:∀k,k∈S->∃t,t∈T/\mU w k=H t):TP T w w':=
 ⟨d.size,λk cs t b i=>d.aC b λe=>by
  let⟨j,g,a⟩:=h k e;rw[fB b]at a;injection a with a;exact i (a▸g),λk es c b=>(d.block k (dG b) λe=>by
  let⟨j,g,a⟩:=h k e;unfold mU at a;rw[b]at a;cases a).ds b⟩
theorem TP.on(a:U w [] w' S'):TP T w w':=TP.eU a J
theorem TP.one{t:ap}(a:U w [g] w' S')(h:mU w g=H t)(c:t∈T):TP T w w':=TP.eU a λk b=>⟨t,c,by
 obtain rfl:k=g:=eP b;exact h⟩
theorem bN.aGn{α:Type}{f:α->Nat->aE}{d:α}{e:ap}{w0:aA}{l:List α}(h:bN f d e sz w0 w v l)(i:TP T w w')(c:e∉T):bN f d e sz w0 w' v l:=by
 refine⟨?_,h.2⟩;rcases h.1 with b|⟨g,cap,cur,rfl,a,rest⟩
 .exact .inl b
 .exact .inr ⟨g,cap,cur,rfl,i.cF _ _ _ a c,rest⟩
end
def EZ:List ap:=[162,79,3,65]
section
variable{w0 w w':aA}{bb:Nat}{nv sv pv:aE}{ns:List (bE×aE)}{ss pr:List Nat}
theorem LB.aA9(h:LB w0 w bb nv (jS (H ⟨g,0,K⟩) n c) pv ns ss pr)(m:i<O ss)(x:Nat):
  LB w0 (hY w ⟨g,i,K⟩ (mj nr (x:Int))) bb nv (jS (H ⟨g,0,K⟩) n c) pv ns (ss.set i x) pr:=by
 have a:=qX w g i (mj nr (x:Int));have e:=h.s.ty (k:=g) rfl;have ne:∀t,t≠65->∀k,k∈[g]->mU w k≠H t:=λt j k l b=>by
  obtain rfl:k=g:=eP l;rw[e]at b;injection b with b;exact j b.symm
 exact⟨a.cF h.cF (ne _ E),h.n.eb a (ne _ E),λy d=>(h.o y d).eb a (ne _ E),h.s.Aj m x rfl,h.p.eb a (ne _ E),h.ne,h.bge⟩
theorem LB.aT2(h:LB w0 w bb nv sv (jS (H ⟨g,0,K⟩) n c) ns ss pr)(u:i<O pr)(x:Nat):
  LB w0 (hY w ⟨g,i,K⟩ (mj mn (x:Int))) bb nv sv (jS (H ⟨g,0,K⟩) n c) ns ss (pr.set i x):=by
 have a:=qX w g i (It x);have j:=h.p.ty (k:=g) rfl;have ne:∀t,t≠3->∀k,k∈[g]->mU w k≠H t:=λt r k l d=>by
  obtain rfl:k=g:=eP l;rw[j]at d;injection d with d;exact r d.symm
 exact⟨a.cF h.cF (ne _ E),h.n.eb a (ne _ E),λy e=>(h.o y e).eU a λb m q=>h.ne y e b m (by rw[show b=g by simpa using q];rfl),h.s.eb a (ne _ E),h.p.Aj u x rfl,h.ne,h.bge⟩
end
theorem aA2(bb:Nat)(nv sv pv:aE)(ns:List (bE×aE))(ss pr:List Nat)(s:cU)(w0 w:aA)(hw:Tz w0)(h:LB w0 w bb nv sv pv ns ss pr)(hU:U w0 [] w [])(hl:O ns<=64)(Pr:O ss=O pr)(n:s.aG=1)(he:s.bY<O pr)(h7:O pr<=7)(N:∀x,x∈ss->x<2^32)(hc:s.cut<2^32):
  aK prog 74 #[lr (H ⟨bb,0,K⟩),kQ s] w λe w'=>e=mi (mr #[])/\
   TP EZ w w'/\U w0 [] w' []/\∃UO xv,LB w0 w' bb UO sv pv (ns++[(uM ss pr s,xv)]) (gB ss s) (pr.set s.bY (O ns)):=by
 unfold kQ;obtain⟨na,nc,rfl,F⟩:=h.n.len;obtain⟨gs,cs,hvs,-,-,zM,hfs,-⟩:=(show eV _ _ _ _ _ _ from h.s.1).block (show 0<O ss by omega);obtain⟨gp,cp,hvp,-,-,Sz,hfp,-⟩:=(show eV _ _ _ _ _ _ from h.p.1).block (show 0<O pr by omega);subst hvs hvp;have hd1:O ss=O pr:=Pr;obtain⟨w1,eW⟩:=D (i5 w (kd #[mj mn s.aG,mj mn s.bY,mj mn s.eR,mj nr s.cut] 177));have r:=Za eW;have fR:=Zb eW;obtain⟨b0,q,b2,V⟩:=Z4 fR;have H1:=Z (h.on r);have j7:=Z fR;have Fa:=Z (hU.ds r);have HF1:dT (TP EZ w w1):=Z (TP.on r);have XZ:=Z (hw.on (hU.ds r));have h00:=block_lt_of_cell (hw 0 (by decide));have hK:=(h.on r).cF;obtain⟨k0,A,k2⟩:=Z3 hK;have f:=r.yx (zM s.bY 0 (by omega) (by decide)) (by simp) hfs;have c0:=r.cell (zM s.bY 0 (by omega) (by decide)) (by simp);simp only[FY,zn,x']at c0;have g1:((s.aG:Int)==1)=qT:=by rw[beq_iff_eq];omega
 have hei:(s.bY:Int)<(O pr:Int):=by omega
 have hes:(s.bY:Int)<(O ss:Int):=by omega
 have l:s.bY<O ss:=by omega
 have a5Q:=Z (show 0≠gs from λe=>by
  have z:=h.s.2 gs rfl;dsimp only at h00;omega)
 have hb:=AH (hJ ss s.bY 0) s.cut (D1 N s.bY) hc;have aY:=Pc (b:=s.cut) (oq (D1 N s.bY) (by decide:4294967296=2^32));have HPN:=Z (show uM ss pr s=⟨2,0,cB (fS (hJ ss s.bY 0) s.cut),hJ pr s.bY 0,0,-1,rR⟩ by unfold uM;rw[if_pos n]);have YU:=Z (show gB ss s=ss.set s.bY (fS (hJ ss s.bY 0) s.cut) by unfold gB;rw[if_pos n]);obtain⟨x,hx⟩:=D (hJ ss s.bY 0);rw[hx]at c0 hb HPN YU aY;obtain⟨y,hy⟩:=D (fS x s.cut);rw[hy]at hb HPN YU aY;have HHB:=Z hb;have HC:=Z (show i7 w.heap∉[gs]from λF=>by
  have z:=h.s.ty (k:=gs) rfl;have h2:=h.s.1.lt gs rfl;rw[show i7 w.heap=gs by simpa using F]at h2;exact Nat.lt_irrefl _ h2)
 clear h hU r fR zM hfs Sz hfp n N hc hx hy hK hw hb;go_enter func74,ntmps74;go_upto_region 2 with(fail);obtain⟨C,hC⟩:=D (i7 w.heap);rw[hC]at j7 HC b0 q b2 V;refine e7 12 (ez A<|ez q<|ez V<|ey c0) (λQ=> ?_);obtain⟨wd,v⟩:=D (w1.drew);have d:U w1 [] wd []:=v▸(U.refl w1 []).drew;have f:∀j,wd.frozen? ⟨gs,j,K⟩=rR:=v▸f;rw[v]at Q|-;refine ek [0,4,8,5,9,1,2,3,6,7,10,11] ?_;refine Zo 12 λo hK=> ?_;go_simp;rw[HHB.o];have XK:=(U.refl wd [gs]).setCell (a:=⟨gs,s.bY,K⟩) (.inl (by simp)) (mj nr (y:Int));have B:=Z ((H1.o.on d).aA9 (i:=s.bY) l y);have et:=(H1.o.on d).s.ty (k:=gs) rfl;have L:=Z (HF1.o.ds ((TP.on d).ds (TP.one (T:=EZ) XK et (by decide))));have eQ:=Z ((Fa.o.ds d).bJ XK λb hb=>by rw[show b=gs by simpa using hb];exact H1.o.s.2 gs rfl);have JZ:=Z (XK.aC (d.aC j7.o (by simp)) HC.o);have Ih:=Z (show Tz (hY wd ⟨gs,s.bY,K⟩ (mj nr (y:Int)))from λi hi=>XK.cell (d.cell (XZ.o i hi) (by simp)) (by simpa using a5Q.o));obtain⟨w2,rM⟩:=D (hY wd ⟨gs,s.bY,K⟩ (mj nr (y:Int)));rw[rM]at B L eQ JZ Ih;have ft:=Z rM;refine Zl hK ?_;clear hK o;rw[ft.o];clear Q f d v XK et rM ft H1 HF1 Fa j7 XZ b0 q b2 V k0 A k2 c0;have hK:=B.o.cF;obtain⟨k0,A,k2⟩:=Z3 hK;have iU:=JZ.o;obtain⟨b0,q,b2,V⟩:=Z4 iU;clear hK iU;have m:=(show eV _ _ _ _ _ _ from by have:=B.o.s.1;rw[EA]at this;exact this).cell (i:=s.bY) (j:=0) l (by decide);have c:=(show eV _ _ _ _ _ _ from B.o.p.1).cell (i:=s.bY) (j:=0) he (by decide);have f:=B.o.p.1.free (g:=gp) rfl;rw[I5,if_pos ⟨rfl,l⟩]at m;simp only[FY,fN,zn,x']at m c;obtain⟨pe,Xf⟩:=D (hJ pr s.bY 0);rw[Xf]at c HPN;have HPE:=Z Xf;clear Xf;go_upto_region 3 with(fail);refine e7 27 (ez A<|ez k2<|ez q<|ez m<|ey c) (λQ=> ?_);obtain⟨wd,v⟩:=D (w2.drew);have d:U w2 [] wd []:=v▸(U.refl w2 []).drew;rw[v]at Q|-;refine ek [0,4,6,7,11,16,20,5,12,21,1,2,3,8,9,10,13,14,17,18,19,22,23] ?_;refine Zo 15 λo hK=> ?_;go_simp;go_at_call 70;refine(Bu y wd (Ih.o.on d) (oq aY (by decide))).mono ?_;rintro e w5 ⟨u,rfl,hO,G⟩;dsimp only;obtain⟨ua,uc,rfl,-⟩:=hO.len;obtain⟨tK,tJ,OD,Nt,sh4⟩:=Q;have Q:=And.intro ((G).cell tK (by simp)) (And.intro ((G).cell tJ (by simp)) (And.intro ((G).cell OD (by simp)) (And.intro ((G).cell Nt (by simp)) ((G).cell sh4 (by simp)))));clear tK tJ OD Nt sh4;have cO:=d.ds G;have S:=Z (B.o.on cO);have BA:=Z (cO.aC JZ.o (by simp));have Fe:=Z (L.o.ds (TP.on cO));have gN:=Z (eQ.o.ds cO);have TN:=Z (hO.eO (eQ.o.ds d).size);have wG:=Z (show∀b,i6 (jS ua (O (cB y)) uc)=H b->i6 (jS (H ⟨gp,0,K⟩) (O pr) cp)≠H b from λb hb om=>by
  have z:=hO.2 b hb;have h2:=(B.o.p.on d).1.lt b om;omega)
 clear hO G cO v d B JZ L eQ Ih k0 A k2 b0 q b2 V m c f;refine Zk hK Q ?_;clear hK o;refine I 24 ?_;refine Zo 25 λo hK=> ?_;go_simp;go_at_call 69;have aBz:=Ro bb _ _ _ _ ns _ pr ⟨2,0,cB y,pe,0,-1,rR⟩ w0 w5 0 S.o TN.o wG.o gN.o hl rfl;refine(show aK _ _ _ _ _ from aBz).mono ?_;rintro e w6 ⟨UO,rfl,P,SU,dR⟩;dsimp only;have HF6:=Z (Fe.o.ds (TP.eU (T:=EZ) SU λk n=>by
  rcases List.mem_cons.1 n with rfl|n
  .exact⟨_,by decide,fB S.o.cF⟩
  .exact⟨_,by decide,S.o.n.Fl k n⟩))
 have BU:=HF6;have hK:=P.cF;obtain⟨k0,A,k2⟩:=Z3 hK;have q:=aP (SU.aC BA.o (λF=>by
  have W:=fB BA.o;rcases List.mem_cons.1 F with F|F
  .have z:=fB S.o.cF;rw[<-F,W]at z;exact absurd z (by decide)
  .have z:=S.o.n.Fl _ F;rw[W]at z;exact absurd z (by decide))) (j:=1) rfl
 have m:=(show eV _ _ _ _ _ _ from by have:=P.s.1;rw[EA]at this;exact this).cell (i:=s.bY) (j:=0) l (by decide);have c:=(show eV _ _ _ _ _ _ from P.p.1).cell (i:=s.bY) (j:=0) he (by decide);have f:=P.p.1.free (g:=gp) rfl;rw[I5,if_pos ⟨rfl,l⟩]at m;simp only[FY,fN,zn,x',HPE.o]at m c;have Q:h8 w6 ⟨bb,1,K⟩=H (jS (H ⟨gs,0,K⟩) (O ss) cs)/\h8 w6 ⟨bb,2,K⟩=H (jS (H ⟨gp,0,K⟩) (O pr) cp)/\h8 w6 ⟨C,1,K⟩=H (mj mn s.bY)/\h8 w6 ⟨gs,s.bY,K⟩=H (mj nr y)/\h8 w6 ⟨gp,s.bY,K⟩=H (mj mn pe):=⟨A,k2,q,m,c⟩;have HM:=Z P;have lM:=Z dR;clear P SU dR hK k0 A k2 q m S BA Fe gN TN;refine Zk hK Q ?_;clear hK o;refine I 26 ?_;refine Zo 27 λo hK=> ?_;go_simp;refine Zl hK ?_;clear hK o;go_wp2;(try simp only[Exit.inBlock,Exit.then])
 refine bodyPost_ret (results_none rfl _ _ _) rfl ?_;have eo:=(U.refl w6 [gp]).setCell (a:=⟨gp,s.bY,K⟩) (.inl (by simp)) (mj mn (O ns:Int));have pW:=HM.o.aT2 (i:=s.bY) he (O ns);exact ZM56
theorem aA3(bb:Nat)(nv sv pv:aE)(ns:List (bE×aE))(ss pr:List Nat)(s:cU)(w0 w:aA)(hw:Tz w0)(h:LB w0 w bb nv sv pv ns ss pr)(hU:U w0 [] w [])(hl:O ns<=64)(Pr:O ss=O pr)(m:s.aG≠1)(he:s.bY<O pr)(hi:s.eR<O pr)(h7:O pr<=7)(P:∀x,x∈ss->x<2^32):
  aK prog 74 #[lr (H ⟨bb,0,K⟩),kQ s] w λe w'=>e=mi (mr #[])/\
   TP EZ w w'/\U w0 [] w' []/\∃UO xv,LB w0 w' bb UO sv pv (ns++[(uM ss pr s,xv)]) (gB ss s) (pr.set s.eR (O ns)):=by
 unfold kQ;obtain⟨na,nc,rfl,A⟩:=h.n.len;obtain⟨gs,cs,hvs,-,-,zM,hfs,-⟩:=(show eV _ _ _ _ _ _ from h.s.1).block (show 0<O ss by omega);obtain⟨gp,cp,hvp,-,-,Sz,hfp,-⟩:=(show eV _ _ _ _ _ _ from h.p.1).block (show 0<O pr by omega);subst hvs hvp;have hd1:O ss=O pr:=Pr;obtain⟨w1,eW⟩:=D (i5 w (kd #[mj mn s.aG,mj mn s.bY,mj mn s.eR,mj nr s.cut] 177));have z:=Za eW;have fR:=Zb eW;obtain⟨b0,v,b2,b3⟩:=Z4 fR;have H1:=Z (h.on z);have j7:=Z fR;have Fa:=Z (hU.ds z);have G:dT (TP EZ w w1):=Z (TP.on z);have XZ:=Z (hw.on (hU.ds z));have h00:=block_lt_of_cell (hw 0 (by decide));have hK:=(h.on z).cF;obtain⟨k0,N,k2⟩:=Z3 hK;have g1:((s.aG:Int)==1)=rR:=by rw[beq_eq_false_iff_ne];omega
 have hei:(s.bY:Int)<(O pr:Int):=by omega
 have hii:(s.eR:Int)<(O pr:Int):=by omega
 have his:(s.eR:Int)<(O ss:Int):=by omega
 have aUk:s.eR<O ss:=by omega
 have aY:=oq (D1 P s.eR) (by decide:4294967296=2^32);have HPN:=Z (show uM ss pr s=⟨3,0,cB (hJ ss s.eR 0),hJ pr s.eR 0,hJ pr s.bY 0,-1,rR⟩ by unfold uM;rw[if_neg m]);have YU:=Z (show gB ss s=ss by unfold gB;rw[if_neg m]);have d:=(show eV _ _ _ _ _ _ from H1.o.s.1).cell (i:=s.eR) (j:=0) aUk (by decide);have q:=(show eV _ _ _ _ _ _ from H1.o.p.1).cell (i:=s.eR) (j:=0) hi (by decide);have l:=(show eV _ _ _ _ _ _ from H1.o.p.1).cell (i:=s.bY) (j:=0) he (by decide);simp only[FY,fN,zn,x']at d q l;obtain⟨y,hy⟩:=D (hJ ss s.eR 0);obtain⟨pi,Lb⟩:=D (hJ pr s.eR 0);obtain⟨pe,Xf⟩:=D (hJ pr s.bY 0);rw[hy]at d HPN aY;rw[Lb]at q HPN;rw[Xf]at l HPN;have HY:=Z hy;have HPI:=Z Lb;have HPE:=Z Xf;clear h hU z fR zM hfs Sz hfp m P hy Lb Xf hK hw;go_enter func74,ntmps74;go_upto_region 4 with(fail);obtain⟨C,hC⟩:=D (i7 w.heap);rw[hC]at j7 b0 v b2 b3;refine e7 35 (ez N<|ez k2<|ez v<|ez b2<|ez d<|ez q<|ey l) (λQ=> ?_);obtain⟨wd,fF⟩:=D (w1.drew);have V:U w1 [] wd []:=fF▸(U.refl w1 []).drew;rw[fF]at Q|-;refine ek [0,4,6,7,11,16,20,24,28,5,12,21,29,1,8,17,25,2,3,9,10,13,14,18,19,22,23,26,27,30,31] ?_;refine Zo 15 λo hK=> ?_;go_simp;go_at_call 70;refine(Bu y wd (XZ.o.on V) (oq aY (by decide))).mono ?_;rintro e w5 ⟨u,rfl,hO,c⟩;dsimp only;obtain⟨ua,uc,rfl,-⟩:=hO.len;obtain⟨tK,tJ,OD,Nt,S,L,n⟩:=Q;have Q:=And.intro ((c).cell tK (by simp)) (And.intro ((c).cell tJ (by simp)) (And.intro ((c).cell OD (by simp)) (And.intro ((c).cell Nt (by simp)) (And.intro ((c).cell S (by simp)) (And.intro ((c).cell L (by simp)) ((c).cell n (by simp)))))));clear tK tJ OD Nt S L n;have f:=V.ds c;have B:=Z (H1.o.on f);have BA:=Z (f.aC j7.o (by simp));have Fe:=Z (G.o.ds (TP.on f));have gN:=Z (Fa.o.ds f);have TN:=Z (hO.eO (Fa.o.ds V).size);have wG:=Z (show∀b,i6 (jS ua (O (cB y)) uc)=H b->i6 (jS (H ⟨gp,0,K⟩) (O pr) cp)≠H b from λb hb om=>by
  have F:=hO.2 b hb;have h2:=(H1.o.p.on V).1.lt b om;omega)
 clear hO c f fF V H1 j7 G Fa XZ k0 N k2 b0 v b2 b3 d q l;refine Zk hK Q ?_;clear hK o;refine I 32 ?_;refine Zo 33 λo hK=> ?_;go_simp;go_at_call 69;have aBz:=Ro bb _ _ _ _ ns _ pr ⟨3,0,cB y,pi,pe,-1,rR⟩ w0 w5 0 B.o TN.o wG.o gN.o hl rfl;refine(show aK _ _ _ _ _ from aBz).mono ?_;rintro e w6 ⟨UO,rfl,r,SU,dR⟩;dsimp only;have HF6:=Z (Fe.o.ds (TP.eU (T:=EZ) SU λk m=>by
  rcases List.mem_cons.1 m with rfl|m
  .exact⟨_,by decide,fB B.o.cF⟩
  .exact⟨_,by decide,B.o.n.Fl k m⟩))
 have hK:=r.cF;obtain⟨k0,N,k2⟩:=Z3 hK;have mK:=SU.aC BA.o (λA=>by
  have W:=fB BA.o;rcases List.mem_cons.1 A with A|A
  .have F:=fB B.o.cF;rw[<-A,W]at F;exact absurd F (by decide)
  .have F:=B.o.n.Fl _ A;rw[W]at F;exact absurd F (by decide))
 obtain⟨b0,v,b2,b3⟩:=Z4 mK;have d:=(show eV _ _ _ _ _ _ from r.s.1).cell (i:=s.eR) (j:=0) aUk (by decide);have q:=(show eV _ _ _ _ _ _ from r.p.1).cell (i:=s.eR) (j:=0) hi (by decide);have l:=(show eV _ _ _ _ _ _ from r.p.1).cell (i:=s.bY) (j:=0) he (by decide);have cf:=r.p.1.free (g:=gp) rfl;simp only[FY,fN,zn,x',HY.o,HPI.o,HPE.o]at d q l;have Q:h8 w6 ⟨bb,1,K⟩=H (jS (H ⟨gs,0,K⟩) (O ss) cs)/\h8 w6 ⟨bb,2,K⟩=H (jS (H ⟨gp,0,K⟩) (O pr) cp)/\h8 w6 ⟨C,1,K⟩=H (mj mn s.bY)/\h8 w6 ⟨C,2,K⟩=H (mj mn s.eR)/\h8 w6 ⟨gs,s.eR,K⟩=H (mj nr y)/\h8 w6 ⟨gp,s.eR,K⟩=H (mj mn pi)/\h8 w6 ⟨gp,s.bY,K⟩=H (mj mn pe):=⟨N,k2,v,b2,d,q,l⟩;have HM:=Z r;have lM:=Z dR;clear r SU dR hK k0 N k2 b0 v b2 b3 mK d l B BA Fe gN TN;refine Zk hK Q ?_;clear hK o;refine I 34 ?_;refine Zo 35 λo hK=> ?_;go_simp;refine Zl hK ?_;clear hK o;go_wp2;go_end0;have eo:=(U.refl w6 [gp]).setCell (a:=⟨gp,s.eR,K⟩) (.inl (by simp)) (mj mn (O ns:Int));have pW:=HM.o.aT2 (i:=s.eR) hi (O ns);exact ZM56
end
variable{ns:List (bE×aE)}{Bp x:Nat}
def KT(x:bE):List Nat:=if x.aG=2 then[x.cM]else if x.aG=3 then[x.cM,x.bP]else[]
theorem WA(x:bE):O (KT x)<=2:=by
 unfold KT;split
 .simp
 .split<;>simp
theorem aJO{y:Nat}(a:w.heap[b]? =H (kd #[mj mn (x:Int),mj mn (y:Int)] 3 (0,0)))(l:i7 w0.heap<=b):iC w0 w (jS (H ⟨b,0,K⟩) 2 2) [x,y]:=by
 refine⟨.inr ⟨b,2,_,rfl,a,fV _,(by decide:2<=bH),rfl,λi j d e=> ?_⟩,λg c=>by simp[i6]at c;omega⟩;obtain rfl:j=0:=Y;match i,d with
 |0,_=>rfl
 |1,_=>rfl
structure PRd(w:aA)(Bp:Nat)(ns:List (bE×aE)):Prop where
 ex:∃nv,h8 w ⟨Bp,2,K⟩=H nv/\fM nS sT 7 w nv ns/\N8 w ns
theorem PRd.on(h:PRd w Bp ns)(a:U w [] w' S'):PRd w' Bp ns:=by
 obtain⟨nv,c,d,b⟩:=h.ex;exact⟨nv,a.cell c J,d.on a,b.on a⟩
theorem TC(Bp:Nat)(ns:List (bE×aE))(i:Nat)(w:aA)(h:PRd w Bp ns)(C:i<O ns)(b:(hJ ns i sT).1.aG=1\/(hJ ns i sT).1.aG=2\/(hJ ns i sT).1.aG=3):
  aK prog 127 #[lr (H ⟨Bp,0,K⟩),mj mn i] w λe w'=>∃u,e=mi u/\iC w w' u (KT (hJ ns i sT).1)/\U w [] w' []:=by
 obtain⟨nv,P,v,G⟩:=h.ex;obtain⟨g,o,cap,rfl,S,c⟩:=v.aS C;obtain⟨va,vc,A,-⟩:=(G _ (bO (d:=sT) C)).len;have B:=c 0 E;have L:=c 1 E;have n2:=c 2 E;have z:=c 3 E;have N:=c 4 E;have F:=c 5 E;have f:=c 6 E;simp only[nS,qZ]at B L n2 z N F f;rw[A]at n2;have r:KT (hJ ns i sT).1=if(hJ ns i sT).1.aG=2 then[(hJ ns i sT).1.cM]else if(hJ ns i sT).1.aG=3 then[(hJ ns i sT).1.cM,(hJ ns i sT).1.bP]else[]:=rfl;have Q:=iP (IL P);have T:(i:Int)<(O ns:Int):=Y;let⟨x,q⟩:=D ((hJ ns i sT).1);rw[q]at B L n2 z N F f b r;rw[q];have m:=Z r;clear h v G c A q r;rcases b with b|b|b
 .have g2:((x.aG:Int)==2)=rR:=kG GD;have g3:((x.aG:Int)==3)=rR:=kG GD;have n:dT (KT x=[]):=Z (by rw[m.o,R Y,R Y]);clear b;go_in;go_upto_region 2 with(fail);let⟨w1,a⟩:=D (i5 w (kd #[X x.aG,X x.qV,jS va (O x.vars) vc,X x.cM,X x.bP,X x.bS,nj x.mL] 79));have l:=Za a;have j:=Zb a;obtain⟨b0,k,b2,y,s⟩:=Z5 j;rw[a];have p:=Z l.size;clear a j;go_wp2;go_ret;exact⟨_,rfl,by rw[n.o];exact bN.nil _ _,l⟩
 .have g2:((x.aG:Int)==2)=qT:=kG LQ;have n:dT (KT x=[x.cM]):=Z (by rw[m.o,bW b]);clear b;go_in;go_upto_region 2 with(fail);let⟨w1,a⟩:=D (i5 w (kd #[X x.aG,X x.qV,jS va (O x.vars) vc,X x.cM,X x.bP,X x.bS,nj x.mL] 79));have l:=Za a;have j:=Zb a;obtain⟨b0,k,b2,y,s⟩:=Z5 j;rw[a];have p:=Z l.size;clear a j;go_wp2;go_ret;exact⟨_,rfl,by rw[n.o];exact YH (news:=[X (x.cM:Int)]) (mE w1 _) rfl x.cM (dE rfl) p,l.alloc _⟩
 .have g2:((x.aG:Int)==2)=rR:=kG GD;have g3:((x.aG:Int)==3)=qT:=kG LQ;have n:dT (KT x=[x.cM,x.bP]):=Z (by rw[m.o,R Y,bW b]);clear b;go_in;go_upto_region 2 with(fail);let⟨w1,a⟩:=D (i5 w (kd #[X x.aG,X x.qV,jS va (O x.vars) vc,X x.cM,X x.bP,X x.bS,nj x.mL] 79));have l:=Za a;have j:=Zb a;obtain⟨b0,k,b2,y,s⟩:=Z5 j;rw[a];have p:=Z l.size;clear a j;go_wp2;go_ret;exact⟨_,rfl,by rw[n.o];exact aJO (mE w1 _) p,l.alloc _⟩
variable{a:Act}{ops:Array Oper}{bEr:Exit->Act->aA->Prop}{bytes:Nat}{v':aE}
section
section
variable{P:Program}{α:Type}{f:α->Nat->aE}{d:α}{e:ap}{sz:Nat}{w0 wb w:aA}{v u:aE}{l m:List α}
theorem jP{t:ap}(z:kD P t e sz bytes)(i:0<sz){rest:List Oper}{o:Oper}(N:o.guard=K)(s y:Operand)(B:o.op= .call {callee:= .builtin .append,args:=#[s,y],argTypes:=#[t,t]})(q:bN f d e sz w0 w v l)(p:U wb [] w [])(Q:i7 wb.heap<=i7 w0.heap)(b:i7 w0.heap<=i7 w.heap)(r:fM f d sz w u m)(k:∀x,x∈m->∀j,j<sz->(f x j).oneCell'=qT)(hs:a.eval s=v)(n:a.eval y=u)(L:(O l+O m)*bytes<=140737488355328)(A:O l+O m<=bH)(h:∀g cap w',bN f d e sz w0 w' (jS g (O l+O m) cap) (l++m)->U wb [] w' []->U w v.ownBlock.toList w' (jS g (O l+O m) cap).ownBlock.toList->
   wpList P ops bEr rest (a.put o.dst (jS g (O l+O m) cap)) w'):wpList P ops bEr (o::rest) a w:=by
 obtain⟨v',w',F,c,C,G,g,cap,rfl⟩:=jX (t:=t) z i o.type q p Q b r k L A;exact wpList_plain N λS hK=>dL s y B hs n F (hK _ _ (h g cap w' c C G))
end
theorem aJP{o:Nat}(h:b∈(jS (H ⟨g,o,K⟩) n cap).ownBlock.toList):b=g:=by
 simpa[i6,eq_comm]using h
theorem rz{α:Type}{f:α->Nat->aE}{d:α}{e:ap}{sz:Nat}{w0 w:aA}{v u:aE}{l:List α}(h:∀b,b∈v.ownBlock.toList->b∉u.ownBlock.toList)(i:bN f d e sz w0 w u l)(g:U w v.ownBlock.toList w' v'.ownBlock.toList):∀b,b∈v'.ownBlock.toList->b∉u.ownBlock.toList:=λb j c=>by
 rcases g.fresh b j with a|a
 .exact h b a c
 .have:=i.1.lt b (eP c);omega
theorem Oh(b:mD (ns.map (·.1)))(d:i<O ns):
  fO (ns.map (·.1)) (i+1) i=if(hJ ns i sT).1.mL then i::(KT (hJ ns i sT).1).flatMap (λc=>fO (ns.map (·.1)) (c+1) c)else[]:=by
 rw[S5 b d rfl];obtain⟨a,-,-⟩:=b i (eP d);rw[gQ]at a;split
 .congr 1;unfold KT;rcases a with a|a|a<;>rw[a]<;>simp
 .rfl
theorem Cg(b:mD (ns.map (·.1)))(d:i<O ns)(a:c∈KT (hJ ns i sT).1):c<i:=by
 obtain⟨-,hs,hd⟩:=b i (eP d);rw[gQ]at hs hd;unfold KT at a;split at a
 .rename_i h;obtain rfl:=Gc.1 a;exact hs Y
 .split at a
  .rename_i h;rcases xZ.1 a with rfl|a
   .exact hs Y
   .obtain rfl:=Gc.1 a;exact hd h
  .cases a
theorem aBE(Bp:Nat)(ns:List (bE×aE))(hl:O ns<=41)(r:mD (ns.map (·.1))):∀(i:Nat),i<O ns->∀(w:aA),PRd w Bp ns->
  aK prog 77 #[lr (H ⟨Bp,0,K⟩),mj mn i] w λe w'=>∃u,e=mi u/\iC w w' u (fO (ns.map (·.1)) (i+1) i)/\U w [] w' []:=by
 intro i;induction i using El with
 |_ i ih=>
 intro v w h;have X7:=Z λN (T:U w [] N [])=>TC Bp ns i N (h.on T) v (by have:=(r i (eP v)).1;rwa[gQ]at this);have f:=Oh r v;have oB:=FP (ns:=ns.map (·.1)) (show i<41 by omega);have KE:=λc G=>Cg r v (c:=c) G;have HP:=Z h;have IH:=Z λc (G:c<i) N T=>ih c G Y N T;obtain⟨nv,G,hR,hV⟩:=h.ex;obtain⟨g,o,cap,rfl,hg,zM⟩:=hR.aS v;have n6:=zM 6 E;simp only[nS,qZ]at n6;have lB:=iP (IL G);have iD:(i:Int)<(O ns:Int):=Y;let⟨vm,hK⟩:=D (KT (hJ ns i sT).1);have oZ:O vm<=2:=hK▸WA _;let⟨t,ht⟩:=D ((hJ ns i sT).1.mL);rw[hK]at X7 f KE;rw[ht]at n6 f;have AY:=Z f;have HKB:=Z KE;clear h hR hV zM hK ht f KE ih;go_in;cases t with
 |false=>
  go_wp2;go_ret;exact⟨_,rfl,by rw[AY.o];exact bN.nil _ _,U.refl _ _⟩
 |true=>
  obtain⟨F,hF⟩:∃F:Nat->List Nat,F=λc=>fO (ns.map (·.1)) (c+1) c:=⟨_,rfl⟩;have q:dT (fO (ns.map (·.1)) (i+1) i=i::vm.flatMap F):=Z (by rw[AY.o,bW rfl,hF]);have HFF:dT (∀c,fO (ns.map (·.1)) (c+1) c=F c):=Z λc=>by rw[hF]
  clear AY hF;go_upto_region 3 with(fail);let⟨w1,eW⟩:=D (i5 w (kd #[X i] 3));have cT:=Za eW;have hN:iC w w1 (jS (H ⟨i7 w.heap,0,K⟩) 1 1) [i]:=YH (news:=[It i]) (by rw[<-eW];exact mE w _) rfl i (dE rfl) (fV _);have HN:=Z hN;have nN:=Z cT;clear hN cT;go_wp2_with (go_at_call 127;apply(X7.o _ nN.o).cX;rintro e w2 ⟨u,rfl,m,n⟩;obtain⟨ka,kc,rfl,-⟩:=m.len;have eQ:=Z (nN.o.ds n);have NG:=Z (HN.o.on n);have z:=Z m;have Y2:=Z (show i7 w.heap<i7 w1.heap by rw[<-eW];simp);clear m n);go_loopg [5,23] (O vm) (λgg s5 V wr=>∃(j:Nat) (L:List Nat),j<=O vm/\gg=O vm-j/\V=X j/\dT (L=i::(vm.take j).flatMap F)/\U w [] wr []/\iC w wr s5 L/\iC w1 wr (jS ka (O vm) kc) vm/\dT (∀b,b∈s5.ownBlock.toList->b∉(jS ka (O vm) kc).ownBlock.toList))
  .exact⟨0,[i],Y,rfl,rfl,Z rfl,eQ.o,NG.o,z.o,Z λb r hm=>by obtain rfl:=aJP r;have h1:=z.o.2 _ (eP hm);have h2:=Y2.o;omega⟩
  obtain⟨j,L,hj,rfl,rfl,dk,n,m,a,B⟩:=hrel;obtain⟨oa,oc,rfl,-⟩:=m.len;have W:=Z n;have HO:=Z m;have A:=Z a;by_cases s:j<O vm
  .let⟨gk,ok,ck,Fr,CP,yh⟩:=a.rd.aS s;obtain rfl:=IK Fr;have k0:=yh 0 E;simp only[qZ,yC]at k0;have S:=HKB.o (hJ vm j 0) (by rw[gV,kU s];exact gu s);have p:=JO F (d:=0) s;have hle:O (i::(vm.take (j+1)).flatMap F)<=2199023255551:=by
    have h1:=vD F (l:=vm) (k:=j+1);have h2:=oB;rw[q.o,TT]at h2;rw[TT];omega
   let⟨c,x⟩:=D (hJ vm j 0);rw[x]at k0 S p;have HI:=Z (IH.out c S wr (HP.o.on n));rw[HFF.o c]at HI;let⟨L2,EL⟩:=D (F c);rw[EL]at p HI;have p:i::(vm.take (j+1)).flatMap F=L++L2:=by rw[p,dk.o];rfl
   rw[p,E7]at hle;have CT:=Z p;clear p x EL n m a yh S oB;go_wp2_with (first
    |(at_builtin;refine jP QL E rfl _ _ rfl (HO.o.on C.o) (W.o.ds C.o) (fV _) (W.o.ds C.o).size Sc.o.rd (λy hy j hj=>rfl) Yr Yr Y GC ?_;rintro g5 c5 w5 lU cO Q;have pL:=Z lU;have gN:=Z cO;have P:=Z ((A.o.on C.o).eU Q (λg hg hm=>B.o g hm (eP hg)));have a5t:=Z (rz B.o (A.o.on C.o) Q);clear lU cO Q)
    |(go_at_call 77;apply HI.o.cX;rintro e w3 ⟨u3,rfl,yp,cW⟩;obtain⟨oa3,oc3,rfl,-⟩:=yp.len;have C:=Z cW;have Sc:=Z yp;clear yp cW))
   go_roundg (O vm-(j+1))
   .exact⟨j+1,L++L2,Y,rfl,eY,Z CT.o.symm,gN.o,by simpa using pL.o,P.o,a5t⟩
   omega
  .have AO:j=O vm:=Y;have a40:dT (fO (ns.map (·.1)) (i+1) i=L):=Z (by rw[q.o,dk.o,AO,TU]);clear n m a;go_wp2;go_ret;exact⟨_,rfl,by rw[a40.o];exact HO.o,W.o⟩
end
section
theorem ZM177{P:Prop}(h:P:=by
  go_ret;exact⟨_,rfl,by simpa using pL.o,cO⟩):P:=h
theorem nB:Maps.Keyed prog 3:=Maps.int_keyed underlying3
theorem AF(h:i<=1000000):(Lit.int mn (i:Int)).wf=qT:=by
 simp[Lit.wf,IntKind.min,IntKind.max,IntKind.signed,IntKind.bits];omega
theorem aJe{a:Nat}(h:a≠b):(Lit.int mn (a:Int))≠Lit.int mn (b:Int):=λe=>h (by injection e with e1 e2;exact Int.ofNat.inj e2)
structure mC(w0 w:aA)(M:Nat)(L:List Nat):Prop where
 ex:∃(n:Nat) (bEp:DataW Unit),n<=O L/\w.ownsMap prog 3 (plainElem prog 3) M n bEp/\∀i:Nat,i<=1000000->bEp.atKey (.int mn (i:Int)) (.lit (.int mn 0))= .lit (.int mn ((L.count i:Nat):Int))
 ge:i7 w0.heap<=M
section
variable{w0 w w':aA}{M:Nat}{L:List Nat}
theorem mC.xO(hs:i7 w0.heap<=i7 w.heap):mC w0 (w.alloc (.map #[] 0)) w.heap.size []:=
 ⟨⟨0,.map [],fV _,World.ownsMap_made w _ _ _,λi a=>rfl⟩,hs⟩
theorem mC.eU(h:mC w0 w M L)(e:U w S w' S')(d:M∉S):mC w0 w' M L:=by
 obtain⟨n,bEp,g,b,c⟩:=h.ex;refine⟨⟨n,bEp,g,?_,c⟩,h.ge⟩;have j:=b.lt;obtain⟨es,a,i,rest⟩:=b;exact⟨es,a,(e.block M j d).ds i,rest⟩
theorem mC.on(h:mC w0 w M L)(a:U w [] w' S'):mC w0 w' M L:=h.eU a J
theorem mC.BJ{T:List ap}(h:mC w0 w M L)(g:TP T w w'):mC w0 w' M L:=by
 obtain⟨n,bEp,d,c,b⟩:=h.ex;refine⟨⟨n,bEp,d,?_,b⟩,h.ge⟩;obtain⟨es,a,e,rest⟩:=c;exact⟨es,a,g.map _ _ _ e,rest⟩
theorem mC.ty(h:mC w0 w M L):mU w M=K:=by
 obtain⟨n,bEp,d,⟨es,a,b,rest⟩,c⟩:=h.ex;unfold mU;rw[b]
theorem mC.ne(h:mC w0 w M L){t:ap}(a:mU w b=H t):M≠b:=λe=>by
 have:=h.ty;rw[e,a]at this;cases this
theorem mC.vR(h:mC w0 w M L)(b:i<=1000000):(Instr.lookup 168 (.map (H M)) (mj mn (i:Int)) rR).run prog w= .ok (mj mn ((L.count i:Nat):Int)) w:=by
 obtain⟨n,bEp,j,e,d⟩:=h.ex;obtain⟨c,g,a,-⟩:=e.lookup_int nB underlying168 underlying3 Yr (Maps.keyOf_int_mk underlying3 (AF b));rw[d i b]at a;injection a with a;injection a with h1 a;rw[g,a]
theorem mC.put(h:mC w0 w M L)(y:i<=1000000)(z:O L<1000){c:Int}(r:c=(L.count i:Int)+1):
  ∃w',(Instr.mapUpdate 168 (.map (H M)) (mj mn (i:Int)) (mj mn c)).run prog w= .ok () w'/\mC w0 w' M (L++[i])/\U w [M] w' [M]:=by
 subst r;obtain⟨n,bEp,A,d,m⟩:=h.ex;have q:(Lit.int mn ((L.count i:Int)+1)).wf=qT:=by
  have B:L.count i<=O L:=List.count_le_length;have g:=AF (i:=L.count i+1) Y;rw[Int.natCast_add]at g;exact g
 let⟨w',p,b,u⟩:=d.update nB underlying168 GC (Maps.keyOf_int_mk underlying3 (AF y)) (plainElem_int underlying3 q);refine⟨w',p,⟨⟨n+1,_,by rw[List.length_append];simp;omega,b,λj v=> ?_⟩,h.ge⟩,(U.refl w [M]).grown u (λx e=>by cases e;exact .inl J)⟩;by_cases e:j=i
 .subst e;rw[Maps.atKey_put_same (d.tidy nB).isMap (show WideAt.IsKeyLit (Lit.int mn (j:Int))from trivial),Co];simp
 .rw[Maps.atKey_put_other (aJe e),m j v,Co,List.count_eq_zero_of_not_mem (a:=j) (l:=[i]) (eP e)];simp
end
end
end Go.Proofs.YtohhhhfdpceppaaGreatDoor
