/- Part of the proof that the tied card of a law of the tree holds; no condition is added. -/
import Derived.Test.YtohhhhfdpceppaaGreatDoorM2
namespace Go.Proofs.YtohhhhfdpceppaaGreatDoor
set_option maxHeartbeats 4000000
set_option maxRecDepth 100000
set_option linter.all false
open Go.RowKit Go.Maps Go.Proofs.Tryz Tryz
open _root_.Array renaming size→i7
open _root_.Bool renaming false→rR,true→qT,or_assoc→Bk
open _root_.Go.Ending renaming returned→mi
open _root_.Go.IntKind renaming i64→mn,u32→nr
open _root_.Go.Obj renaming cells→kd
open _root_.Go.Value renaming bool→nj,int→mj,ownBlock→i6,pointer→lr,slice→jS,string→mX,tuple→mr
open _root_.Go.World renaming alloc→i5,cell?→h8,setCell→hY
open _root_.Inhabited renaming default→sT
open _root_.List renaming getD→hJ,length→O,replicate→oq,length_range→wn,range→x',getElem?_eq_none→yo,mem_or_eq_of_mem_set→y',set_append_right→zN,replicate_succ→B0,getD_cons_zero→B2,getElem?_take→B4,map_set→B6,ext_getElem→Co,getElem_map→Ct
open _root_.Option renaming none→K,some→H,none_or→z'
open Go renaming World→aA,Value→aE,Calls→aK,TypeId→ap,maxLen→bH,Ending→cc,Addr→cg
open Go.RowKit renaming Hid→dT
open _root_.Nat renaming zero_lt_succ→gz,lt_irrefl→oj,zero_add→vW,le_of_not_lt→zb,zero_mul→zn,le_antisymm→zo,sub_self→B5,min_eq_left→Dc

variable{cs:Array aE}{ps:List (dO×aE)}{al:List pB}{S S':List Nat}{hl:List dO}{b:Nat}{q:bK}{av av' hv u:aE}{w w' w0 wb:aA}
structure yL(w0 w:aA)(hv av:aE)(ps:List (dO×aE))(hl:List dO)(al:List pB):Prop where
 head:wU w0 w hv hl
 aD:bN xV sT 87 2 w0 w av ps
 len:O ps=O al
 lD:∀i,i<O al->(hJ ps i sT).1=(hJ al i sT).rel/\bN j6.cell sT 92 4 w0 w (hJ ps i sT).2 (hJ al i sT).aV
theorem yL.eU(h:yL w0 w hv av ps hl al)(a:U w S w' S')(c:∀k,k∈S->k<i7 w0.heap):yL w0 w' hv av ps hl al:=by
 have BJ:∀{v:aE},(∀g,i6 v=H g->i7 w0.heap<=g)->∀g,i6 v=H g->g∉S:=λd g e j=>by
  have m:=d g e;have l:=c g j;omega
 exact⟨h.head.eU a (BJ h.head.2),h.aD.eU a (BJ h.aD.2),h.len,λi b=>⟨(h.lD i b).1,(h.lD i b).2.eU a (BJ (h.lD i b).2.2)⟩⟩
theorem yL.qin(h:yL w0 w hv av ps q.head q.aD)(hs:q.kM):ED w hv av ps q:=
 ⟨h.head.rd,h.aD.rd,h.len,λi a=>⟨(h.lD i a).1,(h.lD i a).2.rd⟩,hs⟩
theorem yL.eO(h:yL w0 w hv av ps hl al)(hs:i7 wb.heap<=i7 w0.heap):yL wb w hv av ps hl al:=
 ⟨h.head.eO hs,h.aD.eO hs,h.len,λi a=>⟨(h.lD i a).1,(h.lD i a).2.eO hs⟩⟩
theorem yL.set(h:yL w0 w hv av ps hl al)(c:w.heap[b]? =H (kd cs 25 (0,0)))(a:U w [b] w' S'):yL w0 w' hv av ps hl al:=
 ⟨h.head.set c E a,h.aD.set c E a,h.len,λi d=>⟨(h.lD i d).1,(h.lD i d).2.set c E a⟩⟩
theorem yL.on(h:yL w0 w hv av ps hl al)(a:U w [] w' S'):yL w0 w' hv av ps hl al:=h.eU a J
theorem yL.vO{x:pB}(h:yL w0 w hv av ps hl al)(b:U w av.ownBlock.toList w' S')(ha:bN xV sT 87 2 w0 w' av' (ps++[(x.rel,u)]))(d:bN j6.cell sT 92 4 w0 w u x.aV):yL w0 w' hv av' (ps++[(x.rel,u)]) hl (al++[x]):=by
 refine⟨h.head.jT h.aD E b,ha,by simp[h.len],λi e=> ?_⟩;rw[iZ,iZ,h.len];by_cases a:i=O al
 .rw[bW a,bW a];exact⟨rfl,d.jT h.aD E b⟩
 .rw[R a,R a];have c:i<O al:=by simp at e;omega
  exact⟨(h.lD i c).1,(h.lD i c).2.jT h.aD E b⟩
theorem aNT:kD prog 23 87 2 40:= .QZ (z:= .agg #[mX {data:=#[]},cR]) underlying23 dJ rfl
theorem GL(hv av:aE)(ps:List (dO×aE))(q:bK)(w:aA)(h:ED w hv av ps q):
  aK prog 11 #[.agg #[mX q.name,hv,av]] w λe w'=>∃yP av' Ss,e=mi (.agg #[mX q.name,yP,av'])/\yL w w' yP av' Ss q.head q.aD/\U w [] w' []:=by
 obtain⟨ha,hc,rfl,-⟩:=h.head.len;obtain⟨aa,ac,rfl,-⟩:=h.aD.len;have G:=h.len;rw[G]at h|-;have oB:=h.eD;have t:=Z h;clear h G;go_in;go_wp2;let⟨wa,dM⟩:=D (i5 (i5 w (kd #[mX q.name,jS ha (O q.head) hc,jS aa (O q.aD) ac] 25)) (kd #[mX {data:=#[]},cR,cR] 25));have CD:i7 wa.heap=i7 w.heap+1+1:=by rw[<-dM];simp
 have cV:U w [] wa []:=dM▸((U.refl w []).alloc _).alloc _;have lC:uD wa w.heap.size #[mX q.name,jS ha (O q.head) hc,jS aa (O q.aD) ac] 25:=dM▸lP ..;have fR:uD wa (i7 w.heap+1) #[mX {data:=#[]},cR,cR] 25:=dM▸lO ..;have b0:=Zc lC 0;have b1:=Zc lC 1;have b2:=Zc lC 2;have S:=Z cV;have QP:=Z CD;have j7:=Z fR;rw[dM];clear dM lC fR cV CD;have aUF:=oB.head;refine Gg 7 (λw'=>h8 w' ⟨w,0,K⟩=H (mX q.name)/\h8 w' ⟨w,1,K⟩=H (jS ha (O q.head) hc))
  (λa3 w3=>∃(B:Nat) (ta:Option cg) (n:Nat) (u5 u6 u7 u8 u9 u10:aE),a3=⟨#[.agg #[mX q.name,jS ha (O q.head) hc,jS aa (O q.aD) ac],lr (H ⟨w,0,K⟩),lr (H ⟨i7 w.heap+1,0,K⟩),lr (H ⟨B,0,K⟩),undef,u5,u6,u7,u8,u9,u10,undef,undef,undef,undef,undef,undef,undef,undef,undef,undef,undef,undef,undef,undef,undef,undef,undef,undef,undef],[]⟩/\
   i7 wa.heap<=B/\uD w3 B #[mX q.name,jS ta (O q.head) n,cR] 25/\wU wa w3 (jS ta (O q.head) n) q.head/\U wa [] w3 []) dJ ⟨b0,b1⟩ (λQ=> ?_) ?_
 .skip
  refine ek [0,1,2,3] ?_;refine vG (i:=4) (j:=6) dJ rfl rfl rfl rfl (λvm hK=> ?_) (λvm hK=> ?_)
  .go_simp;go_at_call 40;apply(Iv _ q.head wa.drew (t.head.on S.drew) aUF).cX;rintro e w2 ⟨u,rfl,C,r⟩;obtain⟨ta,n,rfl,-⟩:=C.len;dsimp only;have Q:=eI (r.cell Q.1 (by simp)) (r.cell Q.2 (by simp));refine j5 ?_;clear hK vm;refine I 5 ?_;refine Zo 6 λvm hK=> ?_;go_simp;let⟨w3,s⟩:=D (i5 w2 (kd #[mX {data:=#[]},cR,cR] 25));have p:=Za s;have c:uD w3 w2.heap.size #[mX {data:=#[]},cR,cR] 25:=s▸mE ..;have Q:=eI (p.cell Q.1 (by simp)) (p.cell Q.2 (by simp));have e0:=Zc c 0;have e1:=Zc c 1;have e2:=Zc c 2;have ef:=aN c;have hs:i7 wa.heap<=i7 w2.heap:=r.size;rw[s];refine j5 ?_;clear hK vm;refine Zo 7 λvm hK=> ?_;go_simp;refine LP ?_;clear hK vm;have m:=(PQ (x:=mX q.name) (y:=jS ta (O q.head) n) (z:=cR) c);refine⟨w2,ta,n,_,_,_,_,_,_,rfl,hs,m.1,?_,?_⟩
   .exact(C.on p).set c (by decide) m.2
   .exact((U.refl wa []).drew.ds (r.ds p)).bJ m.2 (λk T=>by simp at T;omega)
  .go_simp;let⟨w3,s⟩:=D ((i5 wa (kd #[mX {data:=#[]},cR,cR] 25)).drew);have p:U wa [] w3 []:=s▸((U.refl wa []).alloc _).drew;have c:uD w3 wa.heap.size #[mX {data:=#[]},cR,cR] 25:=s▸mE ..;have Q:=eI (p.cell Q.1 (by simp)) (p.cell Q.2 (by simp));rw[s];refine j5 ?_;clear hK vm;refine Zo 4 λvm hK=> ?_;go_simp;go_at_call 40;apply(Iv _ q.head w3 (t.head.on (S.ds p)) aUF).cX;rintro e w2 ⟨u,rfl,C,r⟩;obtain⟨ta,n,rfl,-⟩:=C.len;dsimp only;have Q:=eI (r.cell Q.1 (by simp)) (r.cell Q.2 (by simp));have c:=r.aC c (by simp);have e0:=Zc c 0;have e1:=Zc c 1;have e2:=Zc c 2;have ef:=aN c;refine j5 ?_;clear hK vm;refine I 5 ?_;refine Zo 7 λvm hK=> ?_;go_simp;refine LP ?_;clear hK vm;have m:=(PQ (x:=mX q.name) (y:=jS ta (O q.head) n) (z:=cR) c);refine⟨wa,ta,n,_,_,_,_,_,_,rfl,fV _,m.1,?_,?_⟩
   .exact(C.eO p.size).set c (by decide) m.2
   .exact(p.ds r).bJ m.2 (λk T=>by simp at T;omega)
 .rintro a3 w3 ⟨B,ta,n,u5,u6,u7,u8,u9,u10,rfl,aQ6,c,C,hU⟩;go_wp2;have a1R:=oB.aD;clear b0 b1;go_loopw [4] (λi wr=>U wa [] wr []/\∃(k:Nat) (xa:Option cg) (xn W:Nat) (V:List (dO×aE)),k<=O q.aD/\i=X k/\uD wr B #[mX q.name,jS ta (O q.head) n,jS xa xn W] 25/\
   yL wa wr (jS ta (O q.head) n) (jS xa xn W) V q.head (q.aD.take k)) (λi _=>O q.aD-(intOf i).toNat)
  .exact⟨hU,0,K,0,0,[],Y,rfl,c,C,bN.nil _ _,rfl,λi hi=>by simp at hi⟩
  clear hU c C;obtain⟨hU,k,xa,xn,W,V,T,rfl,c,hQ⟩:=hrel;have c2:=hU.cell b2 (by simp);have e2:=Zc c 2;have F:=Z hU;have HQ:=Z hQ;have HB:=Z c;clear hU hQ c;by_cases aY:k<O q.aD
  .let⟨g,o,cap,ga,gc,hg,hv,a0,a1,hT⟩:=t.qV aY;have a0:=(S.ds F).cell a0 (by simp);have a1:=(S.ds F).cell a1 (by simp);have hT:=hT.on (S.ds F);injection hv with x1 x2 x3;subst x1 x3;have HT:=Z hT;have Cp:=j8 (GH aY) oB.aV;have HX:=Z (fW (d:=sT) aY);generalize hx:hJ q.aD k sT=x at a0 a1 HT Cp HX;clear hx hT x2;go_wp2;refine e7 11 (ez e2<|ez c2<|ez a0<|ey a1) (λQ=> ?_);refine ek [0,1,2,3,4,5,6] ?_;refine Zo 7 λvm hK=> ?_;go_simp;go_at_call 41;apply(Rh _ x.rel x.aV wr.drew (HT.on (U.refl _ []).drew) Cp).cX;rintro e w4 ⟨u,rfl,Hq,m⟩;dsimp only;have m:U wr [] w4 []:=(U.refl wr []).drew.ds m;have Q:=eI (m.cell Q.1 (by simp)) (eI (m.cell Q.2.1 (by simp)) (eI (m.cell Q.2.2.1 (by simp)) (m.cell Q.2.2.2 (by simp))));refine j5 ?_;clear hK vm;refine Zo 8 λvm hK=> ?_;go_simp;obtain⟨ua,uc,hue,-⟩:=Hq.len;subst hue;let⟨w5,oY⟩:=D (i5 w4 (kd #[mX x.rel,jS ua (O x.aV) uc] 87));have N:=Za oY;have hN:uD w5 w4.heap.size [mX x.rel,jS ua (O x.aV) uc].toArray 87:=oY▸mE ..;have Q:=eI (N.cell Q.1 (by simp)) (eI (N.cell Q.2.1 (by simp)) (eI (N.cell Q.2.2.1 (by simp)) (N.cell Q.2.2.2 (by simp))));rw[oY];refine j5 ?_;clear hK vm;refine Zo 9 λvm hK=> ?_;have Qg:=m.ds N;have l:=HQ.on Qg;have EJ:O V<=O q.aD:=by rw[l.len,PI];omega
   obtain⟨v',w6,dK,nR,dR,L,a6,QM,rfl⟩:=jX (wb:=wa) (w:=w5) aNT (by omega) 23 l.aD (F.ds Qg) (fV _) (F.ds Qg).size (FM (f:=xV) (d:=sT) hN rfl (x.rel,jS ua (O x.aV) uc) (λj hj=>by
    match j,hj with
    |0,_=>rfl
    |1,_=>rfl)) (λy hy j hj=>by
    obtain rfl:=Gc.1 hy;match j,hj with
    |0,_=>rfl
    |1,_=>rfl) (by simp;omega) (by unfold bH;simp;omega)
   refine dL _ _ rfl (by rfl) (by rfl) dK ?_;have A:=l.vO (x:=x) L nR ((Hq.eO F.size).on N);have uV:=Qg.aC HB (by simp);have mK:=L.aC uV (l.aD.ne uV (by decide));have Q:=eI (L.cell Q.1 (l.aD.ne uV (by decide))) (eI (L.cell Q.2.1 (l.aD.BJ (by rw[QP.o];simp;omega))) (eI (L.cell Q.2.2.1 (l.aD.BJ (by rw[QP.o];simp;omega))) (L.cell Q.2.2.2 (l.aD.BJ (by rw[QP.o];simp;omega)))));have e2:=Q.1;have ef:=aN mK;have lM:=Z dR;have BU:=Z mK;have A:=Z A;clear dK nR dR L uV mK l Qg hN N m Hq oY;refine j5 ?_;clear hK vm;refine I 10 ?_;refine Zo 11 λvm hK=> ?_;go_simp;refine LP ?_;clear hK vm;have FX:=aF (i:=2) (jS a6 (O V+O [(x.rel,jS ua (O x.aV) uc)]) QM) BU.o;have jB:=(U.refl w6 [B]).setCell (a:=⟨B,2,K⟩) (.inl (by simp)) (jS a6 (O V+O [(x.rel,jS ua (O x.aV) uc)]) QM);have P:=A.set BU jB;have rY:=lM.bJ jB (λk T=>by simp at T;omega);rw[<-HX.o]at P;have Si:=Z FX;have HQ7:=Z P;have Fx:=Z rY;clear FX P rY jB BU A lM;go_wp2;go_roundw
   .exact⟨Fx,k+1,_,_,_,_,by omega,eY,Si,HQ7⟩
   simp[intOf];omega
  .obtain rfl:k=O q.aD:=by omega
   have TZ:=F.aC j7 (by simp);have e0:=Zc HB 0;have e1:=Zc HB 1;have r0:=Zc TZ 0;have r1:=Zc TZ 1;have r2:=Zc TZ 2;have rf:=aN TZ;have HBR:=Z TZ;clear TZ;go_wp2;have hS:=PQ (x:=mX q.name) (y:=jS ta (O q.head) n) (z:=jS xa xn W) HBR.o;have hQ:=HQ.set HBR hS.2;rw[TU]at hQ;refine mY (iI ⟨i7 w.heap+1,0,K⟩ rfl (by rfl) (v:= .agg #[mX q.name,jS ta (O q.head) n,jS xa xn W]) (by go_simp)) rfl ?_;exact⟨_,_,V,rfl,hQ.eO S.size,(S.ds F).bJ hS.2 (λb hb=>by simp at hb;omega)⟩
theorem Va(v1 v2:aE)(rel:dO)(l:List j6)(w:aA)(q:AW w v1 l)(n:AW w v2 l):
  aK prog 60 #[.agg #[mX rel,v1],.agg #[mX rel,v2]] w λe w'=>e=mi (nj qT)/\U w [] w' []:=by
 obtain⟨a1,p,rfl,r⟩:=q.len;obtain⟨a2,j,rfl,-⟩:=n.len;unfold bH at r;have y:=A2 rel rel;go_in;go_wp2;let⟨wa,c⟩:=D (i5 (i5 w (kd #[mX rel,jS a1 (O l) p] 87)) (kd #[mX rel,jS a2 (O l) j] 87));have g:U w [] wa []:=c▸((U.refl w []).alloc _).alloc _;have v:h8 wa ⟨i7 w.heap,1,K⟩=H (jS a1 (O l) p):=by rw[<-c];exact aP (lP w _ _) rfl
 have u:h8 wa ⟨i7 w.heap+1,1,K⟩=H (jS a2 (O l) j):=by rw[<-c];exact aP (lO w _ _) rfl
 rw[c];clear c;go_loopw [5] (λi wr=>U wa [] wr []/\∃k:Nat,k<=O l/\i=X k) (λi _=>O l-(intOf i).toNat)
 .exact⟨U.refl _ _,0,Y,rfl⟩
 obtain⟨hU,k,G,rfl⟩:=hrel;have c1:=hU.cell v J;have c2:=hU.cell u J;by_cases m:k<O l
 .let⟨d,o1,x1,hv,_,b⟩:=(q.on (g.ds hU)).aS m;let⟨g2,o2,x2,A,_,a⟩:=(n.on (g.ds hU)).aS m;injection hv with e1 e2 e3;subst e1 e3;injection A with e1 e2 e3;subst e1 e3;generalize z:hJ l k sT=x at b a;have L:h8 wr (Ad d (o1+k*4))=H (mX x.var):=b 0 Y;have F:h8 wr (Ad d (o1+k*4+1))=H (X x.xW.aG):=b 1 Y;have o:h8 wr (Ad d (o1+k*4+2))=H (X x.xW.num):=b 2 Y;have B:h8 wr (Ad d (o1+k*4+3))=H (mX x.xW.dZ):=b 3 Y;have q0:h8 wr (Ad g2 (o2+k*4))=H (mX x.var):=a 0 Y;have N:h8 wr (Ad g2 (o2+k*4+1))=H (X x.xW.aG):=a 1 Y;have f:h8 wr (Ad g2 (o2+k*4+2))=H (X x.xW.num):=a 2 Y;have C:h8 wr (Ad g2 (o2+k*4+3))=H (mX x.xW.dZ):=a 3 Y;clear z b a;exact ZM127
 .go_wp2;go_ret;exact⟨rfl,g.ds hU⟩
theorem Vj(f a1 L a2:aE)(A B:List (dO×aE))(q:bK)(w:aA)(b:ED w f a1 A q)(d:ED w L a2 B q):
  aK prog 23 #[.agg #[mX q.name,f,a1],.agg #[mX q.name,L,a2]] w λe w'=>e=mi (nj qT)/\U w [] w' []:=by
 obtain⟨ha,hc,rfl,-⟩:=b.head.len;obtain⟨aa,T,rfl,-⟩:=b.aD.len;obtain⟨P,TY,rfl,-⟩:=d.head.len;obtain⟨W,y,rfl,-⟩:=d.aD.len;have l:=b.len;have S:=d.len;rw[l]at b|-;rw[S]at d|-;have oB:=b.eD.aD;have V:=A2 q.name q.name;go_in;go_wp2_with (go_at_call 54;apply(Nx _ _ q.head _ (b.head.on (((U.refl w []).alloc _).alloc _)) (d.head.on (((U.refl w []).alloc _).alloc _))).dC;intro wa m;have b2:=m.cell (aP (lP w _ _) (j:=2) rfl) J;have d2:=m.cell (aP (lO w _ _) (j:=2) rfl) J;have G:=((((U.refl w []).alloc _).alloc _).ds m));go_loopw [5] (λi wr=>U wa [] wr []/\∃k:Nat,k<=O q.aD/\i=X k) (λi _=>O q.aD-(intOf i).toNat)
 .exact⟨U.refl _ _,0,Y,rfl⟩
 obtain⟨c,k,hk,rfl⟩:=hrel;have c1:=c.cell b2 J;have c2:=c.cell d2 J;by_cases h:k<O q.aD
 .let⟨u,o1,x1,p,v,_,hv,C,n,N⟩:=(b.on (G.ds c)).qV h;let⟨g2,o2,x2,r,z,_,A8,r0,F,g⟩:=(d.on (G.ds c)).qV h;injection hv with e1 e2 e3;subst e1 e3;injection A8 with e1 e2 e3;subst e1 e3;generalize hx:hJ q.aD k sT=x at C n r0 F N g;go_wp2;refine aO 99 (λw'=>h8 w' ⟨w,2,K⟩=H (eC u o1 (O q.aD) T)/\h8 w' ⟨i7 w.heap+1,2,K⟩=H (eC g2 o2 (O q.aD) y)/\(h8 w' (Ad u (o1+k*2))=H (mX x.rel)/\h8 w' (Ad u (o1+k*2+1))=H (jS p (O x.aV) v))/\
   h8 w' (Ad g2 (o2+k*2))=H (mX x.rel)/\h8 w' (Ad g2 (o2+k*2+1))=H (jS r (O x.aV) z)) dJ ⟨c1,c2,⟨C,n⟩,r0,F⟩ (λQ=> ?_)
  refine ek [0,1,2,3,4,5,6,7,8,9] ?_;refine Zo 10 λo hK=> ?_;go_simp;go_at_call 60;apply(Va _ _ x.rel x.aV wr.drew (N.on (U.refl _ []).drew) (g.on (U.refl _ []).drew)).cX;rintro e w4 ⟨rfl,a⟩;dsimp only;have a:=(U.refl wr []).drew.ds a;have Q:=eI (a.cell c1 J) (eI (a.cell c2 J) (eI (eI (a.cell C J) (a.cell n J)) (eI (a.cell r0 J) (a.cell F J))));refine j5 ?_;clear hK o;refine I 11 ?_;refine bD dJ ?_ _;try simp only[Act.put,UB,U9,X9]
  go_wp2;go_roundw
  .exact⟨c.ds a,k+1,Y,eY⟩
  simp[intOf];omega
 .go_wp2;go_ret;exact⟨rfl,G.ds c⟩
variable{j:Nat}
theorem OH(l out:List dO):O (l.foldl i9 out)<=O out+O l:=by
 induction l generalizing out with
 |nil=>simp
 |cons a l ih=>
  rw[List.foldl_cons];have c:=ih (i9 out a);have b:=(P3 out a).2;rw[TT];omega
def CW(q:bK)(k:Nat):List dO:=(q.aD.take k).foldl (λo a=>(cJ a).foldl i9 o) []
theorem Ug{k:Nat}(h:k<O q.aD):CW q (k+1)=(cJ (hJ q.aD k sT)).foldl i9 (CW q k):=by
 unfold CW;rw[fW (d:=sT) h,um];rfl
theorem Ha(q:bK)(k:Nat):O (CW q k)<=O (q.aD.flatMap (·.aV)):=by
 have a:=RI ⟨q.name,q.head,q.aD.take k⟩;have d:vars ⟨q.name,q.head,q.aD.take k⟩=CW q k:=rfl;rw[d]at a;rw[a];have b:=iB ((q.aD.take k).flatMap (·.aV)) [];have c:O ((q.aD.take k).flatMap (·.aV))<=O (q.aD.flatMap (·.aV)):=vD _;exact j8 (eP b) c
theorem XT{l L:List dO}(h:j<O l):(l.take (j+1)).foldl i9 L=i9 ((l.take j).foldl i9 L) (hJ l j bU):=by
 rw[fW (d:=bU) h,um];rfl
theorem ZF(hv av:aE)(ps:List (dO×aE))(q:bK)(w:aA)(h:ED w hv av ps q):
  aK prog 75 #[.agg #[mX q.name,hv,av]] w λe w'=>∃u,e=mi u/\wU w w' u (vars q)/\U w [] w' []:=by
 obtain⟨ha,hc,rfl,-⟩:=h.head.len;obtain⟨aa,ac,rfl,-⟩:=h.aD.len;have l:=h.len;rw[l]at h|-;have W:=h.eD;have aPH:=W.aD;have bAU:=W.aV;let⟨w1,eW⟩:=D (i5 w (kd #[mX q.name,jS ha (O q.head) hc,jS aa (O q.aD) ac] 25));have S:=Za eW;have b2:h8 w1 ⟨i7 w.heap,2,K⟩=H (jS aa (O q.aD) ac):=by rw[<-eW];exact aP (mE w _) rfl
 clear l;go_in;go_wp2;go_loopg [3,11] (O q.aD) (λgg p i wr=>U w1 [] wr []/\∃(k:Nat),k<=O q.aD/\gg=O q.aD-k/\i=X k/\wU w1 wr p (CW q k))
 .exact ZM180
 obtain⟨hU,k,hk,rfl,rfl,hL⟩:=hrel;obtain⟨a3,G0,rfl,NV⟩:=hL.len;have N:=Z hL;clear hL;by_cases T:k<O q.aD
 .let⟨g,o,cap,ta,tc,hg,hv,a0,a1,hT⟩:=(h.on (S.ds hU)).qV T;obtain rfl:=IK hv;have Cp:=j8 (GH T) W.aV;have a:=Z (Ug T);have XI:=Ha q k;generalize hA:hJ q.aD k sT=A at a0 a1 hT Cp a;clear hA;go_upto_region 5 with(fail);let⟨w5,B⟩:=D (i5 wr (kd #[mX A.rel,jS ta (O A.aV) tc] 87));have F:=Za B;have d0:h8 w5 ⟨i7 wr.heap,0,K⟩=H (mX A.rel):=by rw[<-B];exact aP (mE wr _) rfl
  have d1:h8 w5 ⟨i7 wr.heap,1,K⟩=H (jS ta (O A.aV) tc):=by rw[<-B];exact aP (mE wr _) rfl
  rw[B];have FA:=hT.on F;have lU:=N.o.on F;have y:=(CJ _ A.rel A.aV w5 FA Cp);have gN:=(hU.ds F);have s:=Z lU;clear B F lU FA a0 a1 hT N;go_wp2_with (go_at_call 37;apply y.cX;rintro e w6 ⟨u,rfl,C,Q⟩;obtain⟨ua,uc,rfl,-⟩:=C.len;have nR:=s.o.on Q;have lM:=(gN.ds Q);have AZ:=Z nR;clear Q nR);have KY:O (bL A.aV [])<=O A.aV:=eP (iB A.aV []);generalize hV:bL A.aV []=V at C KY|-;have a:dT (CW q (k+1)=V.foldl i9 (CW q k)):=Z (by rw[a.o,<-hV];rfl);generalize n:CW q k=L0 at a AZ XI NV|-;have HL0:=Z n;have YW:dT (∀b,i6 (jS a3 (O L0) G0)=H b->b<i7 w5.heap):=Z (by rw[n]at s;exact s.o.1.lt);clear hV n y gN s d0 d1;go_loopg [3,18] (O V) (λgg p i wx=>U w1 [] wx []/\∃(j:Nat),j<=O V/\gg=O V-j/\i=X j/\wU w1 wx p ((V.take j).foldl i9 L0)/\wU w5 wx (jS ua (O V) uc) V/\∀b,i6 p=H b->i6 (jS ua (O V) uc)≠H b)
  .exact⟨lM,0,Y,rfl,rfl,AZ.o,C,λb v t=>by
   have h1:=C.2 b t;have h2:=YW.o b v;omega⟩
  obtain⟨f,j,hj,rfl,rfl,yQ,c,eB⟩:=hrel;obtain⟨a7,bBt,rfl,P⟩:=yQ.len;have R3:=OH (V.take j) L0;rw[PI]at R3;have m:=Z yQ;have G:=Z eB;clear yQ eB;by_cases FV:j<O V
  .let⟨gx,ox,cx,Kw,JI⟩:=c.rd.FC FV;obtain rfl:=IK Kw;have d:=Z (XT (L:=L0) FV);let⟨x,hx⟩:=D (hJ V j bU);simp only[yK,hx]at JI;rw[hx]at d;generalize hM:(V.take j).foldl i9 L0=M at d m P R3 G|-;clear hx hM;by_cases r:x∈M
   .have d:dT ((V.take (j+1)).foldl i9 L0=M):=Z (by rw[d.o];exact bW r);have hd:=kY r;clear r;go_wp2_with (go_at_call 78;apply(oW _ _ _ _ m.o.rd).dC;rintro w2 rfl);go_roundg (O V-(j+1))
    .exact⟨f,j+1,Y,rfl,eY,by rw[d.o];exact m.o,c,G.o⟩
    omega
   .have d:dT ((V.take (j+1)).foldl i9 L0=M++[x]):=Z (by rw[d.o];exact R r);have hd:=kE r;clear r;go_wp2_with (first
     |(at_builtin;refine cK aLC rfl _ _ rfl m.o f Yr [mX x] x Yr rfl (dE rfl) rfl Y GC ?_;rintro g2 gW w3 qY cW z-;have pM:=Z qY;clear qY)
     |(go_at_call 78;apply(oW _ _ _ _ m.o.rd).dC;rintro w2 rfl))
    go_roundg (O V-(j+1))
    .refine⟨cW,j+1,Y,rfl,eY,by rw[d.o];exact pM.o,c.eU z λb v hm=>G.o b (eP hm) v,λb v t=> ?_⟩;obtain rfl:g2=b:=by simpa[i6]using v
     rcases z.fresh g2 J with h1|h1
     .exact G.o g2 (eP h1) t
     .have:=c.1.lt g2 t;omega
    omega
  .obtain rfl:j=O V:=Y;rw[TU,<-a.o]at m|-;go_wp2;go_roundg (O q.aD-(k+1))
   .exact⟨f,k+1,Y,rfl,eY,m.o⟩
   omega
 .obtain rfl:k=O q.aD:=Y;have hvs:CW q (O q.aD)=vars q:=by unfold CW;rw[TU];rfl
  rw[hvs]at N|-;go_wp2;go_ret;exact⟨_,rfl,N.o.eO S.size,S.ds hU⟩
variable{cap cap' n sz:Nat}{v:aE}
theorem fM.RN{α:Type}{f:α->Nat->aE}{d:α}{a:Option cg}{l:List α}(h:fM f d sz w (jS a n cap) l){k:Nat}(b:k<=O l)(ha:a=K->cap'=0):fM f d sz w (jS a k cap') (l.take k):=by
 have e:n=O l:=by
  obtain⟨a',c',hv,_⟩:=h.len;injection hv
 subst e;have c:=Rd.take h b ha;unfold fM;rw[PI,Dc b];refine c.congr λi j g _=> ?_;have:hJ (l.take k) i d=hJ l i d:=by
  rw[gV,B4,bW g,<-gV]
 rw[this]
def yT:aE->Prop
 |jS _ n c=>n<=c
 |_=>True
theorem bN.N4{α:Type}{f:α->Nat->aE}{d:α}{e:ap}{l:List α}(h:bN f d e sz w0 w v l):yT v:=by
 rcases h.1 with⟨rfl,_⟩|⟨g,cap,cur,rfl,_,a,_⟩
 .exact fV _
 .exact a
theorem Zp(v:aE)(l:List dO)(w:aA)(h:JV w v l)(jD:yT v):
  aK prog 162 #[v] w λe w'=>∃n:Int,e=mi (mj mn n)/\decide (0<=n)=oO l/\w=w':=by
 obtain⟨a,cap,rfl,r⟩:=h.len;unfold bH at r;have jD:=jD;go_in;go_wp2;go_loopg [7] (O l) (λB i wr=>w=wr/\∃k:Nat,k<=O l/\B=O l-k/\i=X k/\∀j,j<k->hJ l j bU∉l.take j)
 .exact ZM183
 obtain⟨rfl,k,u,rfl,rfl,p⟩:=hrel;by_cases d:k<O l
 .let⟨g,o,cap',hv,z⟩:=h.FC d;obtain rfl:=IK hv;have y:=j8 u jD;have m:=(h.RN (k:=k) (cap':=cap) Y (λe=>by cases e));let⟨x,c⟩:=D (hJ l k bU);simp only[yK,c]at z;by_cases b:x∈l.take k
  .have hd:=kY b;have C:=(Ea d (c▸b));clear b;go_wp2_with (go_at_call 78;refine(oW _ _ _ _ m).mono ?_;rintro e w2 ⟨rfl,rfl⟩);go_ret;exact⟨k,rfl,C▸kY Y,rfl⟩
  .have hd:=kE b;have A:=Z b;clear b;go_wp2_with (go_at_call 78;refine(oW _ _ _ _ m).mono ?_;rintro e w2 ⟨rfl,rfl⟩);go_roundg (O l-(k+1))
   .exact⟨rfl,k+1,Y,rfl,eY,λj hj=>by
    by_cases q:j=k
    .subst q;rw[c];exact A.o
    .exact p j Y⟩
   omega
 .go_wp2;go_ret;exact⟨-1,rfl,by rw[Eb λj hj=>p j Y];rfl,rfl⟩
theorem Gl(hv av:aE)(ps:List (dO×aE))(q:bK)(w:aA)(h:ED w hv av ps q):
  uJ 163 #[.agg #[mX q.name,hv,av]] w λe w'=>∃n:Int,e=mi (mj mn n)/\decide (0<=n)=q.head.any (λh=>decide (h∉vars q))/\U w [] w' []:=by
 obtain⟨ha,p,rfl,-⟩:=h.head.len;obtain⟨r,y,rfl,-⟩:=h.aD.len;have a:=h.len;rw[a]at h|-;let⟨w1,d⟩:=D (i5 w (kd #[mX q.name,jS ha (O q.head) p,jS r (O q.aD) y] 25));have A:=Za d;have b0:h8 w1 ⟨w,0,K⟩=H (mX q.name):=d▸aP (mE w _) rfl;have i:h8 w1 ⟨w,1,K⟩=H (jS ha (O q.head) p):=d▸aP (mE w _) rfl;have b2:h8 w1 ⟨w,2,K⟩=H (jS r (O q.aD) y):=d▸aP (mE w _) rfl;have G:=(ZF _ _ ps q w1 (h.on A));clear a;go_enter func163,ntmps163;go_upto_region 2 with(go_at_call 75;apply G.cX;rintro e w2 ⟨u,rfl,c,m⟩;obtain⟨ua,uc,rfl,-⟩:=c.len;have i:=m.cell i J;have v:=(A.ds m);clear m);let⟨B,l⟩:=D (i7 w2.heap);let⟨w3,g⟩:=D (i5 w2 (kd #[jS ua (O (vars q)) uc] 22));have b:=Za g;have z:=Ze g l;rw[g,l];have i:=b.cell i J;have f:=Z (Cm (jS ha (O q.head) p) q.head 198 #[Pt B] (λh=>decide (h∉vars q)) w3 (enters_of func198 dJ rfl) (h.head.on (v.ds b)) λx hx wz hz=>by
  have c:=(c.rd.on b).on hz;have c0:=aP (hz.aC z J) (j:=0) rfl;show uJ 198 #[mX x,Pt B] wz _;go_enter func198,ntmps198;go_wp2_with (go_at_call 78;apply(oW _ _ _ _ c).dC;rintro w2 rfl);go_ret;exact⟨by rw[decide_not];rfl,U.refl _ _⟩)
 have C:=(v.ds b);clear b g l z;go_wp2_with (go_at_call 197;apply f.dC;intro w4 F);go_ret;exact⟨_,rfl,(qF _ _).ds (by simp only[decide_not]),C.ds F⟩
theorem ZM103{P:Prop}(h:P:=by
  go_roundg (O A.aV-(j+1))
  .exact⟨LJ,HT8,j+1,Y,rfl,eY,by rw[BS,<-Bool.or_assoc,hBj,HF];rfl⟩
  omega):P:=h
def fT(t:j6):Bool:=decide (t.var≠bU)&& !jL t.var
def fA(a:pB):Bool:= !jL a.rel||a.aV.any fT
def aHK(q:bK):Bool:= !jL q.name||q.head.any λh=> !jL h
theorem ae(q:bK):DY q=(aHK q||q.aD.any fA):=rfl
theorem ab(hv av:aE)(ps:List (dO×aE))(q:bK)(w:aA)(h:ED w hv av ps q):
  aK prog 157 #[.agg #[mX q.name,hv,av]] w λe w'=>e=mi (nj (DY q))/\U w [] w' []:=by
 obtain⟨ha,a,rfl,-⟩:=h.head.len;obtain⟨aa,T,rfl,-⟩:=h.aD.len;have c:=h.len;rw[c]at h|-;have d:=h.eD;have aPH:=d.aD;have V:q.name.size<=1048576:=d.EF _ (zdC ..);let⟨w1,u⟩:=D (i5 w (kd #[mX q.name,jS ha (O q.head) a,jS aa (O q.aD) T] 25));have F:=Za u;have b0:h8 w1 ⟨i7 w.heap,0,K⟩=H (mX q.name):=by rw[<-u];exact aP (mE w _) rfl
 have b1:h8 w1 ⟨i7 w.heap,1,K⟩=H (jS ha (O q.head) a):=by rw[<-u];exact aP (mE w _) rfl
 have b2:h8 w1 ⟨i7 w.heap,2,K⟩=H (jS aa (O q.aD) T):=by rw[<-u];exact aP (mE w _) rfl
 have HI:=Z (pk (jS ha (O q.head) a) q.head 195 #[] (λh=> !jL h) w1 (enters_of func195 dJ rfl) (h.head.on F) λx hx wz hz=>
  Rl x wz (d.EF _ (by simp[bK.EF];exact .inr (.inl hx))))
 clear c;go_in;go_upto_region 1 with(fail);go_cut [3] (λN wx=>N=nj (aHK q)/\U w1 [] wx [])
 case first=>
  cases S:jL q.name with
  |true=>
   have m:=Z S;go_wp2_with (first
    |(go_at_call 193;apply(DF _ _ V).dC;rintro wx rfl;rw[m.o])
    |(go_at_call 194;apply HI.o.dC;intro w2 v))
   go_meet;exact⟨by unfold aHK;rw[m.o];rfl,v⟩
  |false=>
   have m:=Z S;go_wp2_with (go_at_call 193;apply(DF _ _ V).dC;rintro wx rfl;rw[m.o]);go_meet;exact⟨by unfold aHK;rw[m.o];rfl,U.refl _ _⟩
 case rest=>
  obtain⟨rfl,v⟩:=hcut;have b2:=v.cell b2 J;let⟨W,lC⟩:=D (aHK q);rw[lC];clear HI b0 b1;go_wp2;go_loopg [3,20] (O q.aD) (λB b i wr=>U w1 [] wr []/\∃(k:Nat),k<=O q.aD/\B=O q.aD-k/\i=X k/\b=nj (W||(q.aD.take k).any fA))
  .exact⟨v,0,Y,rfl,rfl,J⟩
  obtain⟨L,k,hk,rfl,rfl,rfl⟩:=hrel;by_cases p:k<O q.aD
  .let⟨g,o,cap,ta,C,hg,hv,a0,a1,P⟩:=(h.on (F.ds L)).qV p;obtain rfl:=IK hv;have l:=d.rel p;have AY:=(λj=>d.aOI (j:=j) p);have Cp:=j8 (GH p) d.aV;have Q:=(Et fA sT p);generalize hA:hJ q.aD k sT=A at a0 a1 P l Cp Q AY;let⟨z,fm⟩:=D ((W||(q.aD.take k).any fA));rw[fm];clear hA;go_upto_region 5 with(fail);let⟨w5,r⟩:=D (i5 wr (kd #[mX A.rel,jS ta (O A.aV) C] 87));have G:=Za r;have d0:h8 w5 ⟨i7 wr.heap,0,K⟩=H (mX A.rel):=by rw[<-r];exact aP (mE wr _) rfl
   have d1:h8 w5 ⟨i7 wr.heap,1,K⟩=H (jS ta (O A.aV) C):=by rw[<-r];exact aP (mE wr _) rfl
   rw[r];have O6:=(P.on G);have gN:=(L.ds G);clear r G a0 a1;go_cut [3] (λN wx=>N=nj (z|| !jL A.rel)/\w5=wx)
   case first=>
    cases z with
    |true=>
     go_wp2;go_meet;exact⟨rfl,rfl⟩
    |false=>
     go_wp2_with (go_at_call 193;apply(DF _ _ l).dC;rintro wx rfl);go_meet;exact⟨rfl,rfl⟩
   case rest=>
    obtain⟨rfl,rfl⟩:=hcut;let⟨B1,fR⟩:=D ((z|| !jL A.rel));rw[fR];go_wp2;go_loopg [3,34] (O A.aV) (λB b i wx=>U w1 [] wx []/\AW wx (jS ta (O A.aV) C) A.aV/\∃(j:Nat),j<=O A.aV/\B=O A.aV-j/\i=X j/\b=nj (B1||(A.aV.take j).any fT))
    .exact⟨gN,O6,0,Y,rfl,rfl,J⟩
    obtain⟨f,n,j,hj,rfl,rfl,rfl⟩:=hrel;by_cases vm:j<O A.aV
    .let⟨gx,ox,cx,Kw,_,a⟩:=n.aS vm;obtain rfl:=IK Kw;have BS:=(Et fT sT vm);have c0:=a 0 E;have c1:=a 1 E;have c2:=a 2 E;have c3:=a 3 E;have rX:=(AY j vm).1;simp only[j6.cell,qZ]at c0 c1 c2 c3;generalize ht:hJ A.aV j sT=t at c0 c1 c2 c3 BS rX;let⟨Bj,hBj⟩:=D ((B1||(A.aV.take j).any fT));rw[hBj];clear a ht;go_upto_region 9 with(fail);let⟨w8,y⟩:=D (i5 wr (kd #[mX t.var,X t.xW.aG,X t.xW.num,mX t.xW.dZ] 92));have s:=Za y;have e0:h8 w8 ⟨i7 wr.heap,0,K⟩=H (mX t.var):=by rw[<-y];exact aP (mE wr _) rfl
     rw[y];have LJ:=(f.ds s);have HT8:=(n.on s);clear y s c0 c1 c2 c3;cases Bj with
     |true=>
      go_wp2;go_roundg (O A.aV-(j+1))
      .exact⟨LJ,HT8,j+1,Y,rfl,eY,by rw[BS,<-Bk,hBj];rfl⟩
      omega
     |false=>
      by_cases hv:t.var=bU
      .have hl:=oV hv;have HF:=(show fT t=rR by unfold fT;rw[kE (λh=>h hv)];rfl);clear hv;go_wp2;exact ZM103
      .have hl:=jJ hv;have IQ:=qE hv;have HF:=(show fT t= !jL t.var by unfold fT;rw[kY hv];rfl);clear hv;go_wp2_with (go_at_call 193;apply(DF _ _ rX).dC;rintro wx rfl);exact ZM103
    .obtain rfl:j=O A.aV:=Y;rw[TU];go_wp2;go_roundg (O q.aD-(k+1))
     .exact⟨f,k+1,Y,rfl,eY,by rw[Q,<-Bk,fm,<-fR,Bk];rfl⟩
     omega
  .obtain rfl:k=O q.aD:=Y;rw[TU];go_wp2;go_ret;exact⟨by rw[ae,lC];rfl,F.ds L⟩
theorem ZM23{P:Prop}(h:P:=by
  go_in;go_wp2_with (first
   |(go_at_call 163;apply(HUV.o _ gN.o).cX;rintro e w6 ⟨n6,rfl,KD,hU⟩;rw[BU.o]at KD;have lM:=Z (gN.o.ds hU);clear hU)
   |(go_at_call 162;apply(HDB.o _ lH.o).cX;rintro e w5 ⟨n5,rfl,Fp,rfl⟩;rw[BA.o]at Fp;have gN:=lH)
   |(go_at_call 155;apply(E3.o _ iF.o).dC;intro w4 hU;rw[OO.o];let⟨b0,b1,b2⟩:=hU.TR b0 b1 b2;have lH:=Z (iF.o.ds hU);clear hU)
   |(go_at_call 155;apply(tF.o _ eQ.o).dC;intro w3 hU;rw[JZ.o];let⟨b0,b1,b2⟩:=hU.TR b0 b1 b2;have iF:=Z (eQ.o.ds hU);clear hU)
   |(go_at_call 157;apply(lX.o _ (U.refl _ _)).dC;intro w2 hU;rw[j7.o];let⟨b0,b1,b2⟩:=hU.TR b0 b1 b2;have eQ:=Z hU;clear hU))
  go_ret;exact⟨by rw[IG.o,j7.o,JZ.o,R HN.o,OO.o,BA.o,BU.o];rfl,nN.o.ds lM.o⟩):P:=h
theorem ZM24{P:Prop}(h:P:=by
  go_in;go_wp2_with (first
   |(go_at_call 163;apply(HUV.o _ gN.o).cX;rintro e w6 ⟨n6,rfl,KD,hU⟩;rw[BU.o]at KD;have lM:=Z (gN.o.ds hU);clear hU)
   |(go_at_call 162;apply(HDB.o _ lH.o).cX;rintro e w5 ⟨n5,rfl,Fp,rfl⟩;rw[BA.o]at Fp;have gN:=lH)
   |(go_at_call 155;apply(E3.o _ iF.o).dC;intro w4 hU;rw[OO.o];let⟨b0,b1,b2⟩:=hU.TR b0 b1 b2;have lH:=Z (iF.o.ds hU);clear hU)
   |(go_at_call 155;apply(tF.o _ eQ.o).dC;intro w3 hU;rw[JZ.o];let⟨b0,b1,b2⟩:=hU.TR b0 b1 b2;have iF:=Z (eQ.o.ds hU);clear hU)
   |(go_at_call 157;apply(lX.o _ (U.refl _ _)).dC;intro w2 hU;rw[j7.o];let⟨b0,b1,b2⟩:=hU.TR b0 b1 b2;have eQ:=Z hU;clear hU))
  go_ret;exact⟨by rw[IG.o,j7.o,JZ.o,bW HN.o];rfl,nN.o.ds iF.o⟩):P:=h
theorem ED.aON(h:ED w hv av ps q):∀x,x∈ps->∃a n c,x.2=jS a n c:=λx e=>by
 obtain⟨i,d,rfl⟩:=Na e;have:=(h.lD i (h.len▸d)).2;obtain⟨a,c,b,-⟩:=this.len;rw[gV,kU d,O8]at b;exact⟨a,_,c,b⟩
theorem se{α:Type}(l:List α)(d:α)(F:α->Bool):((x' (O l)).any λi=>F (hJ l i d))=l.any F:=by
 rw[Fi,uj,uj];constructor
 .rintro⟨i,a,h⟩;exact⟨_,bO (wW.1 a),h⟩
 .rintro⟨x,b,h⟩;obtain⟨i,a,rfl⟩:=Na b;refine⟨i,wW.2 a,?_⟩;rw[gV,kU a];exact h
theorem ji(rel:dO)(v:aE)(ts:List j6)(w:aA)(h:AW w v ts)(hs:∀t,t∈ts->t.xW.dZ.size<=1048576):
  aK prog 158 #[.agg #[mX rel,v]] w λe w'=>e=mi (nj (ts.any gJ))/\U w [] w' []:=by
 obtain⟨a,cap,rfl,-⟩:=h.len;have b:U w [] (i5 w (kd #[mX rel,jS a (O ts) cap] 87)) []:=(U.refl w []).alloc _;have d:=Z (Xu (jS a (O ts) cap) ts 160 #[] gJ _ (enters_of func160 dJ rfl) (h.on b) λx hx wz hz=>Z' x wz (hs x hx));clear h;go_in;go_wp2_with (go_at_call 159;apply d.dC;intro w2 c);go_ret;exact⟨rfl,b.ds c⟩
theorem jh(rel:dO)(v:aE)(ts:List j6)(w:aA)(h:AW w v ts):
  aK prog 161 #[.agg #[mX rel,v]] w λe w'=>e=mi (nj (decide (5<O ts)))/\U w [] w' []:=by
 obtain⟨a,cap,rfl,b⟩:=h.len;unfold bH at b;clear h;have hd:decide (5<O ts)=decide ((5:Int)<(O ts:Int)):=by rw[Fi,QX,QX];omega
 go_in;go_wp2;go_ret;exact⟨by rw[hd];rfl,(U.refl w []).alloc _⟩
theorem Ae(hv av:aE)(ps:List (dO×aE))(q:bK)(B:Nat)(w:aA)(h:ED w hv av ps q)(n:h8 w ⟨B,2,K⟩=H av)(g:Nat)(F:pB->Bool)(r:∀args w,(callFunc g args).run prog w= .ok (.enter g args) w)(c:∀i,i<O q.aD->∀v,∀a,AW a v (hJ q.aD i sT).aV->aK prog g #[.agg #[mX (hJ q.aD i sT).rel,v]] a λe w'=>e=mi (nj (F (hJ q.aD i sT)))/\U a [] w' []):
  aK prog 155 #[.func (.func g) #[] #[],lr (H ⟨B,0,K⟩)] w λe w'=>e=mi (nj (q.aD.any F))/\U w [] w' []:=by
 obtain⟨y,x,rfl,-⟩:=h.aD.len;have b:Rq g #[] ps (λi=>F (hJ q.aD i sT)) w:=λi j a l=>by
  let⟨u,p⟩:=h.lD i (h.len▸j);have:=c i (h.len▸j) (hJ ps i sT).2 a (p.on l);rw[<-u]at this;exact this
 have d:=Z (Xw _ ps g #[] _ w r h.aD h.aON b);rw[h.len,se q.aD sT F]at d;rw[h.len]at n;clear h b c;go_in;go_wp2_with (go_at_call 156;apply d.dC;intro w2 m);go_ret;exact⟨rfl,m⟩
theorem Ay(hv av:aE)(ps:List (dO×aE))(q:bK)(w:aA)(h:ED w hv av ps q)(jD:yT hv):
  aK prog 116 #[.agg #[mX q.name,hv,av]] w λe w'=>e=mi (mj mn (fY q))/\U w [] w' []:=by
 obtain⟨ha,o,rfl,-⟩:=h.head.len;obtain⟨C,z,rfl,-⟩:=h.aD.len;have d:=h.len;have A:=h.eD;have V:=A.aD;rw[d]at h|-;let⟨w1,n⟩:=D (i5 w (kd #[mX q.name,jS ha (O q.head) o,jS C (O q.aD) z] 25));have u:=Za n;have b0:h8 w1 ⟨i7 w.heap,0,K⟩=H (mX q.name):=by rw[<-n];exact aP (mE w _) rfl
 have b1:h8 w1 ⟨i7 w.heap,1,K⟩=H (jS ha (O q.head) o):=by rw[<-n];exact aP (mE w _) rfl
 have b2:h8 w1 ⟨i7 w.heap,2,K⟩=H (jS C (O q.aD) z):=by rw[<-n];exact aP (mE w _) rfl
 have g:=h.on u;have lX:=Z λb (c:U w1 [] b [])=>ab _ _ ps q b (g.on c);have tF:=Z λb (c:U w1 [] b [])=>Ae _ _ ps q w.heap.size b (g.on c) (c.cell b2 J) 158 (λa=>a.aV.any gJ) (enters_of func158 dJ rfl) λi F v wy r=>ji _ v _ wy r λt S=>by
  obtain⟨j,L,rfl⟩:=Na S;have:=(A.aOI F L).2;rwa[gV (l:=(hJ q.aD i sT).aV),kU L]at this
 have E3:=Z λb (c:U w1 [] b [])=>Ae _ _ ps q w.heap.size b (g.on c) (c.cell b2 J) 161 (λa=>decide (5<O a.aV)) (enters_of func161 dJ rfl) λi F v wy r=>jh _ v _ wy r;have HDB:=Z λb (c:U w1 [] b [])=>Zp _ _ b (g.on c).head jD;have HUV:=Z λb (c:U w1 [] b [])=>Gl _ _ ps q b (g.on c);have nN:=Z u;have m:fY q=if DY q then 72 else if q.aD.any (λa=>a.aV.any gJ)then 21 else if O q.aD=0\/6<O q.aD then 90
  else if q.aD.any (λa=>decide (5<O a.aV))then 91 else if oO q.head then 92 else if q.head.any (λh=>decide (h∉vars q))then 93 else 0:=rfl
 have IG:=Z m;clear h g u d m jD;let⟨B1,G⟩:=D (DY q);let⟨P,y⟩:=D ((q.aD.any λa=>a.aV.any gJ));let⟨f,k⟩:=D ((q.aD.any λa=>decide (5<O a.aV)));let⟨N,B⟩:=D (oO q.head);let⟨Q,x⟩:=D ((q.head.any λh=>decide (h∉vars q)));have j7:=Z G;have JZ:=Z y;have OO:=Z k;have BA:=Z B;have BU:=Z x;clear G y k B x;cases B1 with
 |true=>
  go_in;go_wp2_with (first
   |(go_at_call 163;apply(HUV.o _ gN.o).cX;rintro e w6 ⟨n6,rfl,KD,hU⟩;rw[BU.o]at KD;have lM:=Z (gN.o.ds hU);clear hU)
   |(go_at_call 162;apply(HDB.o _ lH.o).cX;rintro e w5 ⟨n5,rfl,Fp,rfl⟩;rw[BA.o]at Fp;have gN:=lH)
   |(go_at_call 155;apply(E3.o _ iF.o).dC;intro w4 hU;rw[OO.o];let⟨b0,b1,b2⟩:=hU.TR b0 b1 b2;have lH:=Z (iF.o.ds hU);clear hU)
   |(go_at_call 155;apply(tF.o _ eQ.o).dC;intro w3 hU;rw[JZ.o];let⟨b0,b1,b2⟩:=hU.TR b0 b1 b2;have iF:=Z (eQ.o.ds hU);clear hU)
   |(go_at_call 157;apply(lX.o _ (U.refl _ _)).dC;intro w2 hU;rw[j7.o];let⟨b0,b1,b2⟩:=hU.TR b0 b1 b2;have eQ:=Z hU;clear hU))
  go_ret;exact⟨by rw[IG.o,j7.o];rfl,nN.o.ds eQ.o⟩
 |false=>
  cases P with
  |true=>
   go_in;go_wp2_with (first
    |(go_at_call 163;apply(HUV.o _ gN.o).cX;rintro e w6 ⟨n6,rfl,KD,hU⟩;rw[BU.o]at KD;have lM:=Z (gN.o.ds hU);clear hU)
    |(go_at_call 162;apply(HDB.o _ lH.o).cX;rintro e w5 ⟨n5,rfl,Fp,rfl⟩;rw[BA.o]at Fp;have gN:=lH)
    |(go_at_call 155;apply(E3.o _ iF.o).dC;intro w4 hU;rw[OO.o];let⟨b0,b1,b2⟩:=hU.TR b0 b1 b2;have lH:=Z (iF.o.ds hU);clear hU)
    |(go_at_call 155;apply(tF.o _ eQ.o).dC;intro w3 hU;rw[JZ.o];let⟨b0,b1,b2⟩:=hU.TR b0 b1 b2;have iF:=Z (eQ.o.ds hU);clear hU)
    |(go_at_call 157;apply(lX.o _ (U.refl _ _)).dC;intro w2 hU;rw[j7.o];let⟨b0,b1,b2⟩:=hU.TR b0 b1 b2;have eQ:=Z hU;clear hU))
   go_ret;exact⟨by rw[IG.o,j7.o,JZ.o];rfl,nN.o.ds iF.o⟩
  |false=>
   by_cases p:O q.aD=0
   .have W:((O q.aD:Int)==0)=qT:=kG LQ;have HN:=Z (show O q.aD=0\/6<O q.aD from .inl p);clear p;exact ZM24
   .have W:((O q.aD:Int)==0)=rR:=kG GD;by_cases KD:6<O q.aD
    .have T:decide ((6:Int)<(O q.aD:Int))=qT:=kY Y;have HN:=Z (show O q.aD=0\/6<O q.aD from .inr KD);clear p KD;exact ZM24
    .have T:decide ((6:Int)<(O q.aD:Int))=rR:=kE Y;have HN:=Z (show¬(O q.aD=0\/6<O q.aD) by omega);clear p KD;cases f with
     |true=>
      go_in;go_wp2_with (first
       |(go_at_call 163;apply(HUV.o _ gN.o).cX;rintro e w6 ⟨n6,rfl,KD,hU⟩;rw[BU.o]at KD;have lM:=Z (gN.o.ds hU);clear hU)
       |(go_at_call 162;apply(HDB.o _ lH.o).cX;rintro e w5 ⟨n5,rfl,Fp,rfl⟩;rw[BA.o]at Fp;have gN:=lH)
       |(go_at_call 155;apply(E3.o _ iF.o).dC;intro w4 hU;rw[OO.o];let⟨b0,b1,b2⟩:=hU.TR b0 b1 b2;have lH:=Z (iF.o.ds hU);clear hU)
       |(go_at_call 155;apply(tF.o _ eQ.o).dC;intro w3 hU;rw[JZ.o];let⟨b0,b1,b2⟩:=hU.TR b0 b1 b2;have iF:=Z (eQ.o.ds hU);clear hU)
       |(go_at_call 157;apply(lX.o _ (U.refl _ _)).dC;intro w2 hU;rw[j7.o];let⟨b0,b1,b2⟩:=hU.TR b0 b1 b2;have eQ:=Z hU;clear hU))
      go_ret;exact⟨by rw[IG.o,j7.o,JZ.o,R HN.o,OO.o];rfl,nN.o.ds lH.o⟩
     |false=>
      cases N with
      |true=>
       go_in;go_wp2_with (first
        |(go_at_call 163;apply(HUV.o _ gN.o).cX;rintro e w6 ⟨n6,rfl,KD,hU⟩;rw[BU.o]at KD;have lM:=Z (gN.o.ds hU);clear hU)
        |(go_at_call 162;apply(HDB.o _ lH.o).cX;rintro e w5 ⟨n5,rfl,Fp,rfl⟩;rw[BA.o]at Fp;have gN:=lH)
        |(go_at_call 155;apply(E3.o _ iF.o).dC;intro w4 hU;rw[OO.o];let⟨b0,b1,b2⟩:=hU.TR b0 b1 b2;have lH:=Z (iF.o.ds hU);clear hU)
        |(go_at_call 155;apply(tF.o _ eQ.o).dC;intro w3 hU;rw[JZ.o];let⟨b0,b1,b2⟩:=hU.TR b0 b1 b2;have iF:=Z (eQ.o.ds hU);clear hU)
        |(go_at_call 157;apply(lX.o _ (U.refl _ _)).dC;intro w2 hU;rw[j7.o];let⟨b0,b1,b2⟩:=hU.TR b0 b1 b2;have eQ:=Z hU;clear hU))
       go_ret;exact⟨by rw[IG.o,j7.o,JZ.o,R HN.o,OO.o,BA.o];rfl,nN.o.ds gN.o⟩
      |false=>
       cases Q with
       |true=>
        exact ZM23
       |false=>
        exact ZM23
theorem ZM194{P:Prop}(h:P:=by
  go_wp2;go_wp2;go_roundg (O l-(j+1))
  .exact⟨hU.drewN _,j+1,L,Y,rfl,eY,HL.on ((U.refl _ _).drewN _),Y,by rw[HXS,NH.o,Option.or_none,HH.o]⟩
  omega):P:=h
theorem ZM39{P:Prop}(h:P:=by
  refine dL _ _ rfl Yr Yr dK ?_;have Q:=eI (gD.cell Q.1 (HL.BJ (by show g<_;exact HG))) (gD.cell Q.2 (HL.BJ (by show g<_;exact HG)));have AZ:=Z nR;clear dK nR gD hN Wv nY;refine Zk hK Q<|I 14 ?_;refine bD dJ ?_ _;try simp only[Act.put,UB,U9,X9]
  go_wp2;go_roundg (O l-(j+1))
  .exact⟨dR,j+1,_,Y,rfl,eY,AZ,by simp;omega,by rw[HXS,sn.o,NX,HH.o,Option.or_assoc]⟩
  omega):P:=h
theorem ZM42{P:Prop}(h:P:=by
  let⟨x,hx⟩:=D (hJ l k sT);let⟨y,hy⟩:=D (hJ l j sT);rw[hx]at e0 e1 HTx;rw[hy]at f0 f1 HTy;rw[hx,hy]at hb;clear hx hy;clear yF;go_wp2;go_quiet (fail);exact ZM194):P:=h
theorem ZM70{P:Prop}(h:P:=by
  exact ZM194):P:=h
theorem ZM81{P:Prop}(h:P:=by
  obtain rfl:j=O l:=Y;go_wp2;go_roundg (O l-(k+1))
  .exact⟨hU,k+1,L,Y,rfl,eY,HL,Y,by rw[HH.o,n8,Option.or_assoc]⟩
  omega):P:=h
theorem ZM167{P:Prop}(h:P:=by
  exact⟨hU,0,L,Y,rfl,rfl,HL,Y,by rw[HH.o,NN,Option.or_none]⟩):P:=h
def KK(s:cU):Nat->aE
 |0=>mj mn (s.aG:Int)
 |1=>mj mn (s.bY:Int)
 |2=>mj mn (s.eR:Int)
 |_=>mj nr (s.cut:Int)
abbrev NC(w0 w:aA)(v:aE)(l:List cU):Prop:=bN KK sT 218 4 w0 w v l
theorem YN:kD prog 214 218 4 32:= .QZ (z:= .agg #[X 0,X 0,X 0,mj nr 0]) underlying214 dJ rfl
theorem MZ{a b c d:aE}{f:Nat->aE}(e:a=f 0)(m:b=f 1)(l:c=f 2)(g:d=f 3):∀j,j<4->hJ [a,b,c,d] j undef=f j:=λj i=>by
 match j,i with
 |0,_=>exact e
 |1,_=>exact m
 |2,_=>exact l
 |3,_=>exact g
theorem ZZ{x:cU}:∀y,y∈[x]->∀j,j<4->(KK y j).oneCell'=qT:=λ_ _ j a=>by
 match j,a with
 |0,_=>rfl
 |1,_=>rfl
 |2,_=>rfl
 |3,_=>rfl
theorem PS(v:aE)(l:List ES)(eb:Nat)(w:aA)(h:Mo w v l)(hs:kM l)(hl:O l<=7)(t:eb<2^32)(hd:(mV l).Nodup):
  aK prog 102 #[v,mj nr eb] w λe w'=>∃u L,e=mi u/\NC w w' u L/\L.head? =next l eb/\O L<=200/\U w [] w' []:=by
 obtain⟨ad,cap,rfl,-⟩:=h.len;have us:dT (next l eb=(j9 (O l) (IW l eb)).or ((j9 (O l) λi=>j9 (O l) (qL l i)).or (j9 (O l) λi=>j9 (O l) (tG l i)))):=Z (by unfold next;rw[Gx,Gy,Be]);have z:=Z hs;have HK:=Z t;clear hs t;go_in;go_wp2;go_loopg [5,6] (O l) (λg p i wr=>U w [] wr []/\∃(k:Nat) (L:List cU),k<=O l/\g=O l-k/\i=X k/\NC w wr p L/\O L<=k/\L.head? =j9 k (IW l eb))
 .exact⟨U.refl _ _,0,[],Y,rfl,rfl,bN.nil _ _,J,rfl⟩
 obtain⟨hU,k,L,t,rfl,rfl,b,a,m⟩:=hrel;obtain⟨a3,V,rfl,-⟩:=b.len;have HL:=Z b;have HH:=Z m;clear b m;by_cases n:k<O l
 .let⟨g,o,cap',hv,_,e0,e1⟩:=(h.on hU).zm n;injection hv with h1 h2 h3;subst h1 h3;clear h2;simp only[wP]at e0 e1;have HT:=(z.aS k);have N:=Z (n8 k (IW l eb));have HO:=(aBC z (hJ l k sT).1);have HC:dT (fS (fS (hJ l k sT).2 eb) (vM l (hJ l k sT).1)=kL l eb (hJ l k sT)):=Z rfl;have nI:dT (IW l eb k=if kL l eb (hJ l k sT)≠0 then H ⟨1,(hJ l k sT).1,0,kL l eb (hJ l k sT)⟩else K):=Z rfl;have G:=(kg (eC g o (O l) cap) l k wr (h.on hU) z hl n hd);let⟨x,hx⟩:=D (hJ l k sT);rw[hx]at e0 e1 HT HO HC nI G;clear hx;let⟨oo,hoo⟩:=D (vM l x.1);rw[hoo]at HO HC G;let⟨c,hc⟩:=D (kL l eb x);rw[hc]at HC nI;clear hoo hc;go_wp2_with fail;apply(GP x.2 eb HT HK _).cX;rintro e w2 ⟨rfl,rfl⟩;go_wp2_with fail;apply G.cX;rintro e w2 ⟨rfl,rfl⟩;go_wp2_with fail;apply(GP (fS x.2 eb) oo (Pc HT) HO _).cX;rintro e w2 ⟨rfl,rfl⟩;rw[HC.o];by_cases P:c=0
  .have hb:((c:Int)!=0)=rR:=by rw[P];rfl
   have N:dT (j9 (k+1) (IW l eb)=L.head?):=Z (by rw[N.o,nI.o,R (eP P),HH.o];simp);clear P;go_wp2;go_roundg (O l-(k+1))
   .exact⟨hU,k+1,L,Y,rfl,eY,HL,Y,N.symm⟩
   omega
  .have hb:((c:Int)!=0)=qT:=by rw[bne,show((c:Int)==0)=decide (c=0)from dH c 0,kE P];rfl
   have N:dT (j9 (k+1) (IW l eb)=(L++[(⟨1,x.1,0,c⟩:cU)]).head?):=Z (by rw[N.o,nI.o,bW P,NX,HH.o]);clear P;go_wp2_with (at_builtin;refine cK YN rfl _ _ rfl HL hU Yr [X 1,X (x.1:Int),X 0,mj nr (c:Int)] ⟨1,x.1,0,c⟩ Yr rfl (MZ rfl rfl rfl rfl) rfl Y GC ?_;rintro g2 gW w3 qY cW- -;have pM:=Z qY;clear qY);go_roundg (O l-(k+1))
   .exact⟨cW,k+1,_,Y,rfl,eY,pM,by simp;omega,N.symm⟩
   omega
 .obtain rfl:k=O l:=Y;let⟨T,hT⟩:=D (j9 (O l) (IW l eb));rw[hT]at HH us;clear hT;go_wp2;go_loopg [5,8,9] (O l) (λg p i _ wr=>U w [] wr []/\∃(k:Nat) (L:List cU),k<=O l/\g=O l-k/\i=X k/\NC w wr p L/\O L<=7+7*k/\L.head? =T.or (j9 k λi=>j9 (O l) (qL l i)))
  .exact ZM167
  clear a HL HH;obtain⟨hU,k,L,t,rfl,rfl,b,a,m⟩:=hrel;obtain⟨a3,V,rfl,-⟩:=b.len;have HL:=Z b;have HH:=Z m;clear b m;by_cases n:k<O l
  .go_wp2;go_loopg [5,9] (O l) (λg p i wr=>U w [] wr []/\∃(j:Nat) (L:List cU),j<=O l/\g=O l-j/\i=X j/\NC w wr p L/\O L<=7+7*k+j/\L.head? =(T.or (j9 k λi=>j9 (O l) (qL l i))).or (j9 j (qL l k)))
   .exact ZM167
   clear a HL HH;obtain⟨hU,j,L,hj,rfl,rfl,b,a,m⟩:=hrel;obtain⟨a3,V,rfl,-⟩:=b.len;have HL:=Z b;have HH:=Z m;clear b m;by_cases SP:j<O l
   .let⟨g,o,cap',hv,_,e0,e1⟩:=(h.on hU).zm n;let⟨_,_,_,C,_,f0,f1⟩:=(h.on hU).zm SP;rw[hv]at C;injection C with h1 h2 h3;injection h1 with h1;injection h1 with h1 h4;subst h1 h4;injection hv with h1 h2 h5;subst h1 h5;clear h2 h3;simp only[wP]at e0 e1 f0 f1;have HG:dT (g<i7 w.heap):=Z (by let⟨_,_,_,yP,W,_,_⟩:=h.zm n;injection yP with h1 _ _;injection h1 with h1;injection h1 with h1 _;rw[h1];exact W);have HXS:=(n8 j (qL l k));have HTx:=(z.aS k);have HTy:=(z.aS j);by_cases fd:k<j
    .have g1:decide ((k:Int)<(j:Int))=qT:=kY Y;have g1':(k:Int)<(j:Int):=Y;by_cases yF:(hJ l k sT).2=(hJ l j sT).2
     .have sn:dT (qL l k j=H ⟨2,(hJ l j sT).1,(hJ l k sT).1,0⟩):=Z (by unfold qL;rw[bW ⟨fd,yF⟩]);have hb:(((hJ l k sT).2:Int)==((hJ l j sT).2:Int))=qT:=by rw[dH];exact kY yF
      let⟨x,hx⟩:=D (hJ l k sT);let⟨y,hy⟩:=D (hJ l j sT);rw[hx]at e0 e1 HTx;rw[hy]at f0 f1 HTy;rw[hx,hy]at sn hb;clear hx hy;clear yF;go_wp2;go_quiet (fail);go_wp2;refine ig λwq B=> ?_;have r:dT (U wr [] wq []):=Z (by rw[B];exact(U.refl _ _).drewN _);clear B;refine e7 99 (ez (r.cell f0 J)<|ey (r.cell e0 J)) (λQ=> ?_);refine ek [0,1,2,3,4,5,6,7,8,9,10,11] ?_;refine Zo 12 λvm hK=> ?_;go_simp;let⟨q,Wv⟩:=D ((i5 wq (kd #[X 2,X (y.1:Int),X (x.1:Int),mj nr 0] 218)).drew);have nY:U wr [] q []:=Wv▸(r.alloc _).drew;have hN:uD q wq.heap.size [X 2,X (y.1:Int),X (x.1:Int),mj nr 0].toArray 218:=by rw[<-Wv];exact mE ..
      have Q:=eI (nY.cell f0 J) (nY.cell e0 J);rw[Wv];refine Zk hK Q<|Zo 13 λvm hK=> ?_;obtain⟨v',w6,dK,nR,dR,gD,a6,QM,rfl⟩:=jX (wb:=w) (w:=q) YN Y 214 (HL.on nY) (hU.ds nY) (fV _) (hU.ds nY).size (FM (f:=KK) (d:=sT) hN rfl ⟨2,y.1,x.1,0⟩ (MZ rfl rfl rfl rfl)) ZZ (by simp;omega) (by unfold bH;simp;omega);exact ZM39
     .have NH:dT (qL l k j=K):=Z (by unfold qL;rw[R (λh=>yF h.2)]);have hb:(((hJ l k sT).2:Int)==((hJ l j sT).2:Int))=rR:=by rw[dH];exact kE yF
      exact ZM42
    .have NH:dT (qL l k j=K):=Z (by unfold qL;rw[R (λh=>fd h.1)]);have g1:decide ((k:Int)<(j:Int))=rR:=kE Y;go_wp2;go_quiet (fail);exact ZM70
   .exact ZM81
  .obtain rfl:k=O l:=Y;let⟨T2,hT2⟩:=D ((j9 (O l) λi=>j9 (O l) (qL l i)));rw[hT2]at HH us;clear hT2;go_wp2;go_loopg [5,10,11] (O l) (λg p i _ wr=>U w [] wr []/\∃(k:Nat) (L:List cU),k<=O l/\g=O l-k/\i=X k/\NC w wr p L/\O L<=56+7*k/\L.head? =(T.or T2).or (j9 k λi=>j9 (O l) (tG l i)))
   .exact ZM167
   clear a HL HH;obtain⟨hU,k,L,t,rfl,rfl,b,a,m⟩:=hrel;obtain⟨a3,V,rfl,-⟩:=b.len;have HL:=Z b;have HH:=Z m;clear b m;by_cases n:k<O l
   .go_wp2;go_loopg [5,11] (O l) (λg p i wr=>U w [] wr []/\∃(j:Nat) (L:List cU),j<=O l/\g=O l-j/\i=X j/\NC w wr p L/\O L<=56+7*k+j/\L.head? =((T.or T2).or (j9 k λi=>j9 (O l) (tG l i))).or (j9 j (tG l k)))
    .exact ZM167
    clear a HL HH;obtain⟨hU,j,L,hj,rfl,rfl,b,a,m⟩:=hrel;obtain⟨a3,V,rfl,-⟩:=b.len;have HL:=Z b;have HH:=Z m;clear b m;by_cases SP:j<O l
    .let⟨g,o,cap',hv,_,e0,e1⟩:=(h.on hU).zm n;let⟨_,_,_,C,_,f0,f1⟩:=(h.on hU).zm SP;rw[hv]at C;injection C with h1 h2 h3;injection h1 with h1;injection h1 with h1 h4;subst h1 h4;injection hv with h1 h2 h5;subst h1 h5;clear h2 h3;simp only[wP]at e0 e1 f0 f1;have HG:dT (g<i7 w.heap):=Z (by let⟨_,_,_,yP,W,_,_⟩:=h.zm n;injection yP with h1 _ _;injection h1 with h1;injection h1 with h1 _;rw[h1];exact W);have HXS:=(n8 j (tG l k));have HTx:=(z.aS k);have HTy:=(z.aS j);by_cases yF:(hJ l k sT).2=(hJ l j sT).2
     .have NH:dT (tG l k j=K):=Z (by unfold tG;rw[R (λh=>h.1 yF)]);have hb:(((hJ l k sT).2:Int)!=((hJ l j sT).2:Int))=rR:=by rw[bne,dH,kY yF];rfl
      exact ZM42
     .have hb:(((hJ l k sT).2:Int)!=((hJ l j sT).2:Int))=qT:=by rw[bne,dH,kE yF];rfl
      cases S:part (hJ l k sT).2 (hJ l j sT).2 with
      |true=>
       have sn:dT (tG l k j=H ⟨3,(hJ l k sT).1,(hJ l j sT).1,0⟩):=Z (by unfold tG;rw[bW ⟨yF,S⟩]);clear yF;let⟨x,hx⟩:=D (hJ l k sT);let⟨y,hy⟩:=D (hJ l j sT);rw[hx]at e0 e1 HTx;rw[hy]at f0 f1 HTy;rw[hx,hy]at sn hb;have Cn:=hx;have xw:=hy;clear hx hy;rw[Cn,xw]at S;have F:dT (∀A:aA,uJ 145 #[mj nr (x.2:Int),mj nr (y.2:Int)] A λe w'=>e=mi (nj qT)/\w'=A):=Z λA=>(IS x.2 y.2 HTx HTy A).mono λe w' h=>⟨by rw[h.1,S],h.2.symm⟩;clear Cn xw;go_wp2;go_quiet ((go_at_call 145;exact Calls.quiet_of_same (F.o _)));go_wp2;refine ig λwq B=> ?_;have r:dT (U wr [] wq []):=Z (by rw[B];exact(U.refl _ _).drewN _);clear B;refine e7 99 (ez (r.cell e0 J)<|ey (r.cell f0 J)) (λQ=> ?_);refine ek [0,1,2,3,4,5,6,7,8,9,10,11] ?_;refine Zo 12 λvm hK=> ?_;go_simp;let⟨q,Wv⟩:=D ((i5 wq (kd #[X 3,X (x.1:Int),X (y.1:Int),mj nr 0] 218)).drew);have nY:U wr [] q []:=Wv▸(r.alloc _).drew;have hN:uD q wq.heap.size [X 3,X (x.1:Int),X (y.1:Int),mj nr 0].toArray 218:=by rw[<-Wv];exact mE ..
       have Q:=eI (nY.cell e0 J) (nY.cell f0 J);rw[Wv];refine Zk hK Q<|Zo 13 λvm hK=> ?_;obtain⟨v',w6,dK,nR,dR,gD,a6,QM,rfl⟩:=jX (wb:=w) (w:=q) YN Y 214 (HL.on nY) (hU.ds nY) (fV _) (hU.ds nY).size (FM (f:=KK) (d:=sT) hN rfl ⟨3,x.1,y.1,0⟩ (MZ rfl rfl rfl rfl)) ZZ (by simp;omega) (by unfold bH;simp;omega);exact ZM39
      |false=>
       have NH:dT (tG l k j=K):=Z (by unfold tG;rw[R (λh=>by rw[S]at h;exact dY h.2 E)]);clear yF;let⟨x,hx⟩:=D (hJ l k sT);let⟨y,hy⟩:=D (hJ l j sT);rw[hx]at e0 e1 HTx;rw[hy]at f0 f1 HTy;rw[hx,hy]at hb;have Cn:=hx;have xw:=hy;clear hx hy;rw[Cn,xw]at S;have F:dT (∀A:aA,uJ 145 #[mj nr (x.2:Int),mj nr (y.2:Int)] A λe w'=>e=mi (nj rR)/\w'=A):=Z λA=>(IS x.2 y.2 HTx HTy A).mono λe w' h=>⟨by rw[h.1,S],h.2.symm⟩;clear Cn xw;go_wp2;go_quiet ((go_at_call 145;exact Calls.quiet_of_same (F.o _)));exact ZM70
    .exact ZM81
   .obtain rfl:k=O l:=Y;go_wp2;go_loopg [5,12,13] (O l) (λg p i _ wr=>U w [] wr []/\∃(k:Nat) (L:List cU),k<=O l/\g=O l-k/\i=X k/\NC w wr p L/\O L<=105+7*k/\L.head? =next l eb)
    .exact⟨hU,0,L,Y,rfl,rfl,HL,Y,by rw[HH.o,us.o,Option.or_assoc]⟩
    clear a HL HH;obtain⟨hU,k,L,t,rfl,rfl,b,a,m⟩:=hrel;obtain⟨a3,V,rfl,-⟩:=b.len;have HL:=Z b;have HH:=Z m;clear b m;by_cases n:k<O l
    .go_wp2;go_loopg [5,13] k (λg p i wr=>U w [] wr []/\∃(j:Nat) (L:List cU),j<=k/\g=k-j/\i=X j/\NC w wr p L/\O L<=105+7*k+j/\L.head? =next l eb)
     .exact⟨hU,0,L,Y,rfl,rfl,HL,Y,HH⟩
     clear a HL HH;obtain⟨hU,j,L,hj,rfl,rfl,b,a,m⟩:=hrel;obtain⟨a3,V,rfl,-⟩:=b.len;have HL:=Z b;have HH:=Z m;clear b m;by_cases AO:j<k
     .have SP:j<O l:=Y;let⟨g,o,cap',hv,_,e0,e1⟩:=(h.on hU).zm n;let⟨_,_,_,C,_,f0,f1⟩:=(h.on hU).zm SP;rw[hv]at C;injection C with h1 h2 h3;injection h1 with h1;injection h1 with h1 h4;subst h1 h4;injection hv with h1 h2 h5;subst h1 h5;clear h2 h3;simp only[wP]at e0 e1 f0 f1;have HG:dT (g<i7 w.heap):=Z (by let⟨_,_,_,yP,W,_,_⟩:=h.zm n;injection yP with h1 _ _;injection h1 with h1;injection h1 with h1 _;rw[h1];exact W);have HTx:=(z.aS k);have HTy:=(z.aS j);by_cases yF:(hJ l k sT).2=(hJ l j sT).2
      .have sn:=Z (aAd AO n yF eb);have hb:(((hJ l k sT).2:Int)==((hJ l j sT).2:Int))=qT:=by rw[dH];exact kY yF
       let⟨x,hx⟩:=D (hJ l k sT);let⟨y,hy⟩:=D (hJ l j sT);rw[hx]at e0 e1 HTx;rw[hy]at f0 f1 HTy;rw[hx,hy]at hb;clear hx hy;clear yF;go_wp2;go_quiet (fail);go_wp2;refine ig λwq B=> ?_;have r:dT (U wr [] wq []):=Z (by rw[B];exact(U.refl _ _).drewN _);clear B;refine e7 99 (ez (r.cell f0 J)<|ey (r.cell e0 J)) (λQ=> ?_);refine ek [0,1,2,3,4,5,6,7,8,9,10,11] ?_;refine Zo 12 λvm hK=> ?_;go_simp;let⟨q,Wv⟩:=D ((i5 wq (kd #[X 2,X (y.1:Int),X (x.1:Int),mj nr 0] 218)).drew);have nY:U wr [] q []:=Wv▸(r.alloc _).drew;have hN:uD q wq.heap.size [X 2,X (y.1:Int),X (x.1:Int),mj nr 0].toArray 218:=by rw[<-Wv];exact mE ..
       have Q:=eI (nY.cell f0 J) (nY.cell e0 J);rw[Wv];refine Zk hK Q<|Zo 13 λvm hK=> ?_;obtain⟨v',w6,dK,nR,dR,gD,a6,QM,rfl⟩:=jX (wb:=w) (w:=q) YN Y 214 (HL.on nY) (hU.ds nY) (fV _) (hU.ds nY).size (FM (f:=KK) (d:=sT) hN rfl ⟨2,y.1,x.1,0⟩ (MZ rfl rfl rfl rfl)) ZZ (by simp;omega) (by unfold bH;simp;omega);refine dL _ _ rfl Yr Yr dK ?_;have Q:=eI (gD.cell Q.1 (HL.BJ (by show g<_;exact HG))) (gD.cell Q.2 (HL.BJ (by show g<_;exact HG)));have AZ:=Z nR;clear dK nR gD hN Wv nY;refine Zk hK Q<|I 14 ?_;refine bD dJ ?_ _;try simp only[Act.put,UB,U9,X9]
       go_wp2;go_roundg (k-(j+1))
       .exact⟨dR,j+1,_,Y,rfl,eY,AZ,by simp;omega,by rw[NX,HH.o];have h:=sn.o;cases hn:next l eb with|none=>rw[hn]at h;cases h|some s=>rfl⟩
       omega
      .have hb:(((hJ l k sT).2:Int)==((hJ l j sT).2:Int))=rR:=by rw[dH];exact kE yF
       let⟨x,hx⟩:=D (hJ l k sT);let⟨y,hy⟩:=D (hJ l j sT);rw[hx]at e0 e1 HTx;rw[hy]at f0 f1 HTy;rw[hx,hy]at hb;clear hx hy;clear yF;go_wp2;go_quiet (fail);go_wp2;go_wp2;go_roundg (k-(j+1))
       .exact⟨hU.drewN _,j+1,L,Y,rfl,eY,HL.on ((U.refl _ _).drewN _),Y,HH⟩
       omega
     .go_wp2;go_roundg (O l-(k+1))
      .exact⟨hU,k+1,L,Y,rfl,eY,HL,Y,HH⟩
      omega
    .go_wp2;go_ret;exact⟨_,L,rfl,HL,HH,Y,hU⟩
variable{V:Nat}{vv xv xv':aE}{wx wy:aA}
theorem aO6(hv av:aE)(ps:List (dO×aE))(q:bK)(w:aA)(h:ED w hv av ps q)(jD:yT hv)(hs:fY q≠0):
  aK prog 67 #[.agg #[mX q.name,hv,av]] w λe w'=>e=mi (mr #[.agg #[mj mn 0,jS K 0 0],mj nr 0,mj mn (fY q)])/\U w [] w' []:=by
 have hb:(fY q !=0)=qT:=by rw[bne_iff_ne];exact hs
 let⟨s,l⟩:=D (fY q);rw[l]at hb|-;obtain⟨ha,m,rfl,-⟩:=h.head.len;obtain⟨j,i,rfl,-⟩:=h.aD.len;have a:=h.len;rw[a]at h|-;let⟨wa,c⟩:=D (i5 (i5 w (kd #[mX q.name,jS ha (O q.head) m,jS j (O q.aD) i] 25)) (kd #[X 0,cR] 64));have d:U w [] wa []:=c▸((U.refl w []).alloc _).alloc _;have r:uD wa w.heap.size #[mX q.name,jS ha (O q.head) m,jS j (O q.aD) i] 25:=by rw[<-c];exact lP ..
 have n:uD wa (i7 w.heap+1) #[X 0,cR] 64:=by rw[<-c];exact lO ..
 obtain⟨b0,u,b2⟩:=Z3 r;have p:=((Ay _ _ ps q wa (h.on d) jD).mono λe w' h=>eI (h.1.ds (by rw[l])) h.2);go_in;go_wp2_with (go_at_call 116;apply p.dC;intro w2 g;have iU:=g.aC n J;obtain⟨e0,z⟩:=Z2 iU;have B:=aN iU;have eQ:=(d.ds g));exact ZM58
structure OfM(q:bK)(w:aA)(hv av:aE)(V:Nat)(vv:aE)(wx:aA)(xv:aE)(k:Nat):Prop where
 up:U w [] wx []
 q0:wx.heap[i7 w.heap]? =H (kd #[mX q.name,hv,av] 25 (0,0))
 g0:wx.heap[i7 w.heap+1]? =H (kd #[mj mn (O (vars q)),xv] 64 (0,0))
 v0:wx.heap[V]? =H (kd #[vv] 22 (0,0))
 vs:wU w wx vv (vars q)
 es:yS w wx xv ((aJ q).take k)
theorem OfM.on{k:Nat}(h:OfM q w hv av V vv wx xv k)(a:U wx [] wy S'):OfM q w hv av V vv wy xv k:=
 ⟨h.up.ds a.nil,a.aC h.q0 J,a.aC h.g0 J,a.aC h.v0 J,h.vs.on a,h.es.on a⟩
theorem OfM.vO{k:Nat}(h:OfM q w hv av V vv wx xv k)(g:U wx xv.ownBlock.toList wy S')(n:yS w wy xv' ((aJ q).take j)):
  OfM q w hv av V vv (hY wy ⟨i7 w.heap+1,1,K⟩ xv') xv' j:=by
 have ne:∀t,t≠65->∀b,b∈xv.ownBlock.toList->mU wx b≠H t:=λt m b c=>by rw[h.es.Fl b c];exact λe=>m (by injection e with e;exact e.symm)
 have l:=g.cF h.g0 (ne _ E);have d:=(U.refl wy [i7 w.heap+1]).setCell (a:=⟨i7 w.heap+1,1,K⟩) (.inl J) xv';have p:i7 w.heap∉[i7 w.heap+1]:=J;have v1:=g.cF h.v0 (ne _ E);refine⟨(h.up.bJ g h.es.ge).bJ d λb c=>by simp at c;omega,d.aC (g.cF h.q0 (ne _ E)) p,aF (i:=1) _ l,d.cF v1 λb c=> ?_,(h.vs.eb g (ne _ E)).set l E d,n.set l E d⟩;obtain rfl:b=i7 w.heap+1:=eP c;rw[fB l];decide
theorem aMV(hv av:aE)(ps:List (dO×aE))(q:bK)(w:aA)(h:ED w hv av ps q)(jD:yT hv)(hs:fY q=0):
  aK prog 67 #[.agg #[mX q.name,hv,av]] w λe w'=>∃u,e=mi (mr #[.agg #[mj mn (O (vars q):Int),u],mj nr (cL q:Int),mj mn 0])/\yS w w' u (aJ q)/\U w [] w' []:=by
 obtain⟨ha,hc,rfl,-⟩:=h.head.len;obtain⟨aa,ac,rfl,-⟩:=h.aD.len;have L:=h.len;rw[L]at h|-;have s:=Z h;let⟨wa,dM⟩:=D (i5 (i5 w (kd #[mX q.name,jS ha (O q.head) hc,jS aa (O q.aD) ac] 25)) (kd #[X 0,cR] 64));have cV:U w [] wa []:=dM▸((U.refl w []).alloc _).alloc _;have lC:uD wa w.heap.size #[mX q.name,jS ha (O q.head) hc,jS aa (O q.aD) ac] 25:=by rw[<-dM];exact lP ..
 have fR:uD wa (i7 w.heap+1) #[X 0,cR] 64:=by rw[<-dM];exact lO ..
 obtain⟨b0,r,b2⟩:=Z3 lC;have yM:=Z cV;have j7:=Z fR;have U7:=Z lC;let⟨_,ha6,Hp,p8,_,iD⟩:=gG hs;have FH:=Z p8;have HIN:=Z iD;have aUE:=h.eD.head;have IG:=Z ((Ay _ _ ps q wa (s.o.on cV) jD).mono λe w' h=>eI (h.1.ds (by rw[hs])) h.2);clear h L cV lC fR hs jD p8 iD;go_in;go_upto_region 5 with(first
  |(go_at_call 75;apply(ZF _ _ ps q _ (s.o.on (yM.o.ds eQ.o))).cX;rintro e w3 ⟨u,rfl,f,m⟩;obtain⟨va,vc,rfl,-⟩:=f.len;let⟨b0,r,b2⟩:=m.TR b0 r b2;have HO:=Z f;have iF:=Z (eQ.o.ds m);clear f m)
  |(go_at_call 116;apply IG.o.dC;intro w2 m;let⟨b0,r,b2⟩:=m.TR b0 r b2;have eQ:=Z m;clear m))
 let⟨V,hV⟩:=D (i7 w3.heap);let⟨w4,uC⟩:=D (i5 w3 (kd #[jS va (O (vars q)) vc] 22));have eJ:=Za uC;have W:=Ze uC hV;have z:=(iF.o.ds eJ).aC j7.o J;have hQ4:=(iF.o.ds eJ).aC U7.o J;have v0:=Zc W 0;have n:=Zc z 0;have gf:=aN z;have F:=Z z;have HQ4:=Z hQ4;have PD:=Z W;have Sb:=Z ((HO.o.on eJ).eO (yM.o.ds (eQ.o)).size);have lH:=Z (yM.o.ds (iF.o.ds eJ));rw[uC,hV];clear eJ W z hQ4 uC hV b0 r b2 iF eQ HO IG;go_upto_region 7 with(fail);have Ky:=(U.refl w4 [i7 w.heap+1]).setCell (a:=⟨i7 w.heap+1,0,K⟩) (.inl J) (X (O (vars q)));have l:OfM q w (jS ha (O q.head) hc) (jS aa (O q.aD) ac) V (jS va (O (vars q)) vc) (hY w4 ⟨i7 w.heap+1,0,K⟩ (X (O (vars q)))) cR 0:=
  ⟨lH.o.bJ Ky λb P=>by simp at P;omega,Ky.aC HQ4.o J,aF (i:=0) _ F.o,Ky.cF PD.o λb P=>by
   obtain rfl:b=i7 w.heap+1:=eP P;rw[fB F.o];decide,Sb.o.set F.o E Ky,bN.nil _ _⟩
 generalize oY:hY w4 ⟨i7 w.heap+1,0,K⟩ (X (O (vars q)))=w5 at l|-;obtain⟨b0,r,b2⟩:=Z3 l.q0;have N:=Z l;have KW:O (aJ q)=O q.aD:=by simp only[aJ,r8]
 have HEL:=Z KW;clear l oY Ky v0 n gf F HQ4 PD Sb lH KW;go_wp2;go_loopg [25] (O q.aD) (λgg i wr=>∃(k:Nat) (G:Option cg) (C:Nat),k<=O q.aD/\gg=O q.aD-k/\i=X k/\OfM q w (jS ha (O q.head) hc) (jS aa (O q.aD) ac) V (jS va (O (vars q)) vc) wr (jS G k C) k)
 .exact⟨0,K,0,Y,rfl,rfl,N.o⟩
 obtain⟨k,G,C,hk,rfl,rfl,l⟩:=hrel;clear b0 r b2 N;by_cases aY:k<O q.aD
 .let⟨g,o,cap,ta,tc,hg,hv,a0,a1,hT⟩:=(s.o.on l.up).qV aY;obtain rfl:=IK hv;have Cp:=FH.o _ (bO (d:=sT) aY);have HX:=Z (show(aJ q).take (k+1)=(aJ q).take k++[uE (vars q) (cJ (hJ q.aD k sT))] by
   rw[fW (d:=0) (by rw[HEL.o];exact aY)];congr 2;unfold aJ;rw[gV,So,kU aY,gV,kU aY];rfl)
  have Ts:=Z (show∀x,x∈cJ (hJ q.aD k sT)->x∈vars q from λx hx=>Vy.2 ⟨_,bO (d:=sT) aY,hx⟩);have yg:O ((aJ q).take k)=k:=by rw[PI,HEL.o];omega
  generalize hA:hJ q.aD k sT=A at a0 a1 hT Cp HX Ts;have N:=Z l;have HT:=Z hT;have A0:=Z yg;clear hA l hT yg;go_upto_region 10 with(fail);let⟨B,hB⟩:=D (i7 wr.heap);let⟨w5,oY⟩:=D (i5 wr (kd #[mX A.rel,jS ta (O A.aV) tc] 87));have cO:=Za oY;have hd:=Ze oY hB;have sA:=N.o.on cO;have O6:=Z (HT.o.on cO);obtain⟨d0,d1⟩:=Z2 hd;obtain⟨n,g1⟩:=Z2 sA.g0;have HD:=Z hd;have NI:=Z sA;rw[oY,hB];clear oY hB cO hd sA a0 a1 N HT;refine e7 9 (ez g1<|ez d0<|ey d1) (λQ=> ?_);refine ek [0,2,3,1] ?_;refine Zo 4 λt hK=> ?_;go_simp;go_at_call 37;have kP:U w5 [] w5.drew []:=(U.refl w5 []).drew;apply(CJ _ A.rel A.aV _ (O6.o.on kP) Y).cX;rintro e w6 ⟨u,rfl,f,m⟩;dsimp only;obtain⟨ua,uc,rfl,-⟩:=f.len;have dR:U w5 [] w6 []:=kP.ds m;replace Q:=m.gm Q;have HO:=Z f;have lM:=Z dR;clear f m dR kP;refine j5 ?_;clear hK t;refine Zo 5 λt hK=> ?_;go_simp;go_at_call 117;have SX:=NI.o.on lM.o;refine(Jw _ (bL A.aV []) V _ (vars q) _ HO.o.rd (aP SX.v0 rfl) SX.vs.rd (PK q) Hp Ts.o (j8 (iB A.aV []) (by simp;omega))).mono ?_;rintro e w7 ⟨rfl,rfl⟩;dsimp only;have p:=Z SX;clear SX;refine j5 ?_;clear hK t;refine Zo 6 λt hK=> ?_;go_simp;have hH6:=Q;let⟨M,hMe⟩:=D (uE (vars q) (bL A.aV []));have HX:dT ((aJ q).take (k+1)=(aJ q).take k++[M]):=Z (by rw[HX.o,<-hMe];rfl);rw[hMe];clear hMe;have nY:U w6 [] (i5 w6 (kd #[mj nr (M:Int)] 65)) []:=(U.refl w6 []).alloc _;replace Q:=nY.gm Q;refine j5 ?_;clear hK t;refine Zo 7 λt hK=> ?_;let⟨g7,c7,w7,dK,yQ,gD,rT,hg7⟩:=iT (ty:=62) (news:=[mj nr (M:Int)]) (T:=65) ie.ok Y p.o.es p.o.up (fV _) p.o.up.size M rfl (dE rfl) (λj hj=>rfl) (kG A0.o) (by rw[A0.o];unfold bH;omega);rw[A0.o]at dK yQ;refine dL _ _ rfl Yr Yr dK ?_;have Q:=hH6;have hD6:=lM.o.aC HD.o J;replace Q:=rT.gm Q (p.o.es.ne p.o.g0 E) (p.o.es.ne hD6 E) (p.o.es.ne hD6 E);have aPa:=rT.cF p.o.g0 (λb P=>by rw[p.o.es.Fl b P];decide);have gf:=aN aPa;obtain⟨h0,h1⟩:=Z2 aPa;have pW:=p.o.vO rT (j:=k+1) (by rw[HX.o];exact yQ);have TO:=Z pW;clear dK yQ gD rT pW hD6 nY hH6 aPa;refine j5 ?_;clear hK t;refine I 8 ?_;refine Zo 9 λt hK=> ?_;go_simp;refine LP ?_;clear hK t;go_wp2;go_roundg (O q.aD-(k+1))
  .exact⟨k+1,H (Ad g7 0),c7,Y,rfl,eY,TO.o⟩
  omega
 .obtain rfl:k=O q.aD:=Y;have GZ:(aJ q).take (O q.aD)=aJ q:=by rw[zdH];rw[HEL.o];exact fV _
  obtain⟨b0,r,b2⟩:=Z3 l.q0;obtain⟨n,g1⟩:=Z2 l.g0;have N:=Z l;clear l;go_upto_region 12 with(fail);refine e7 99 (ez n<|ez g1<|ey r) (λQ=> ?_);have c:=N.o.on (U.refl wr []).drew;generalize fF:wr.drew=wd at c Q|-;refine ek [0,1,2,3] ?_;refine Zo 4 λt hK=> ?_;go_simp;go_at_call 117;apply(Jw _ q.head V _ (vars q) _ (s.o.head.on c.up) (aP c.v0 rfl) c.vs.rd (PK q) Hp HIN.o aUE).cX;rintro e w7 ⟨rfl,rfl⟩;dsimp only;have gf:=aN c.g0;have LL:=Z c;clear c N fF;refine j5 ?_;clear hK t;refine Zo 5 λt hK=> ?_;go_simp;have hS:=UK (x:=X (O (vars q))) (y:=jS G (O q.aD) C) LL.o.g0;generalize DH:hY (hY wd ⟨i7 w.heap+1,0,K⟩ (X (O (vars q)))) ⟨i7 w.heap+1,1,K⟩ (jS G (O q.aD) C)=w8 at hS|-;have Yl:=hS.1;have jB:=LL.o.up.bJ hS.2 (λb P=>by simp at P;omega);have S:=LL.o.es.set LL.o.g0 E hS.2;rw[GZ]at S;have LJ:=Z jB;have HE8:=Z S;obtain⟨r0,r1⟩:=Z2 Yl;have Q:h8 w8 ⟨i7 w.heap+1,0,K⟩=H (X (O (vars q)))/\h8 w8 ⟨i7 w.heap+1,1,K⟩=H (jS G (O q.aD) C)/\h8 w8 ⟨i7 w.heap,1,K⟩=H (jS ha (O q.head) hc):=⟨r0,r1,hS.2.cell Q.2.2 J⟩;clear hS DH jB S Yl;refine j5 ?_;clear hK t;refine ek [6,7] ?_;refine bD dJ ?_ _;try simp only[Act.put,UB,U9,X9]
  go_wp2;refine mY (A4 (A:=⟨i7 w.heap+1,0,K⟩) (T:=64) rfl Yr (v:= .agg #[X (O (vars q)),jS G (O q.aD) C]) (by go_simp)) rfl ?_;exact⟨jS G (O q.aD) C,rfl,HE8.o,LJ.o⟩
variable{ss:List Nat}{z:aE}
theorem ZM66{P:Prop}(h:P:=by
  go_wp2_with (go_at_call 170;apply HC.dC;intro w2 hd;have ct:=ct w2 hd;have eQ:=Z (HU.ds (U.xN hd)));go_roundg (n-(k+1))
  .exact⟨eQ,k+1,Y,rfl,eY,CO NH HT⟩
  omega):P:=h
theorem GJ{α:Type}{f:Nat->Option α}{x:α}{k:Nat}(h:j9 k f=K)(a:f k=H x):∀{n:Nat},k<n->j9 n f=H x
 |0,hk=>Y
 |n+1,hk=>by
  rw[n8];by_cases e:k=n
  .subst e;rw[h,a];rfl
  .rw[GJ h a (show k<n by omega)];rfl
theorem CO{α:Type}{f:Nat->Option α}{k:Nat}(h:j9 k f=K)(a:f k=K):j9 (k+1) f=K:=by rw[n8,h,a];rfl
theorem Nw{B:Nat}{a b c d x y:aE}{t:ap}(h:w.heap[B]? =H (kd #[a,b,c,d] t (0,0))):
  (hY (hY (hY (hY w ⟨B,0,K⟩ x) ⟨B,1,K⟩ y) ⟨B,2,K⟩ z) ⟨B,3,K⟩ u).heap[B]? =H (kd #[x,y,z,u] t (0,0))/\U w [B] (hY (hY (hY (hY w ⟨B,0,K⟩ x) ⟨B,1,K⟩ y) ⟨B,2,K⟩ z) ⟨B,3,K⟩ u) [B]:=
 ⟨by rw[aF _ (aF _ (aF _ (aF _ h)))];rfl,(((qX w B 0 x).setCell (a:=Ad B 1) (.inl J) y).setCell (a:=Ad B 2) (.inl J) z).setCell (a:=Ad B 3) (.inl J) u⟩
def NE(ss:List Nat)(ts:List Bool)(n eb:Nat)(w:aA)(e:cc)(w':aA):Prop:=
 (match next (i8 ss ts n) eb with
  |some s=>e=mi (mr #[kQ s,nj qT])
  |none=>e=mi (mr #[.agg #[mj mn 0,mj mn 0,mj mn 0,mj nr 0],nj rR]))/\U w [] w' []
theorem NE.jO{ts:List Bool}{eb:Nat}{s:cU}{e:cc}(h:next (i8 ss ts n) eb=H s)(b:e=mi (mr #[kQ s,nj qT]))(a:U w [] w' []):NE ss ts n eb w e w':=by
 unfold NE;rw[h];exact⟨b,a⟩
theorem aEr(B:Nat)(ss:List Nat)(ts:List Bool)(n eb:Nat)(w:aA)(h:sD w B ss ts n eb)(hn:n<=7)(hs:∀s,s∈ss->s<2^32)(hk:eb<2^32):
  aK prog 124 #[lr (H ⟨B,0,K⟩)] w (NE ss ts n eb w):=by
 let⟨w1,eW⟩:=D (i5 w (kd #[X 0,X 0,X 0,mj nr 0] 177));have o:=Za eW;have P:=Zb eW;have g:=h.on o;have L:=g.num;have q:=(SA ss ts eb n);have HLO:=Z λi (f:i<7) t (V:U w1 [] t [])=>Bs B i ss ts n eb t (g.on V) f hn hs hk;have fz:=Z λi j (f:i<7) (hj:j<7) t (V:U w1 [] t [])=>Wh B i j ss ts n eb t (g.on V) f hj hs;have lB:=iP (dG g.cF);go_in;go_wp2;go_loopg [14] n (λl i wr=>U w1 [] wr []/\∃k:Nat,k<=n/\l=n-k/\i=X k/\j9 k (IV ss ts eb n)=K)
 .exact ZM186
 obtain⟨a,k,GX,rfl,rfl,p⟩:=hrel;have NH:=Z p;by_cases G:k<n
 .have Xn:k<7:=Y;have HC:=Z (HLO.o k Xn wr a);have HU:=Z a;have HT:dT (IV ss ts eb n k=if hJ ts k rR=qT/\jM ss ts eb k n≠0 then H ⟨1,k,0,jM ss ts eb k n⟩else K):=Z rfl;generalize hc:jM ss ts eb k n=c at HC HT;have ct:=λw2 (h2:∃m,w2=wr.drewN m)=>(g.on (HU.ds (U.xN h2))).t Xn;cases rE:hJ ts k rR with
  |false=>
   rw[rE]at ct HT;have HT:dT (IV ss ts eb n k=K):=Z (by rw[HT.o,R (λh=>by cases h.1)]);exact ZM66
  |true=>
   rw[rE]at ct HT;by_cases MU:c=0
   .subst MU;have HT:dT (IV ss ts eb n k=K):=Z (by rw[HT.o,R (λh=>h.2 rfl)]);exact ZM66
   .have N:((c:Int)!=0)=qT:=kG bne_iff_ne;have Ih:dT (IV ss ts eb n k=H ⟨1,k,0,c⟩):=Z (by rw[HT.o,bW ⟨rfl,MU⟩]);go_wp2_with (go_at_call 170;apply HC.dC;intro w2 hd;have ct:=ct w2 hd;have a:=HU.ds (U.xN hd);have d:=a.aC P J;obtain⟨e0,Q,e2,W⟩:=Z4 d;have ef:=aN d;have eQ:=Z a;have F:=(g.on a));have C:=Nw (x:=X 1) (y:=X k) (z:=X 0) (u:=mj nr c) d;refine mY (aW (A:=⟨w,0,K⟩) (T:=177) rfl Yr (v:= .agg #[X 1,X k,X 0,mj nr c]) (by go_simp)) rfl ?_;exact NE.jO (by rw[q,GJ NH.o Ih.o G];rfl) rfl ((o.ds eQ).bJ C.2 λb r=>by simp at r;omega)
 .obtain rfl:k=n:=Y;have L:=(g.on a).num;have S:=NH;have HU:=Z a;go_wp2;go_loopg [38] k (λl i wr=>U w1 [] wr []/\∃m:Nat,m<=k/\l=k-m/\i=X m/\j9 m (λi=>j9 k (FK ss ts i))=K)
  .exact⟨HU,0,Y,rfl,rfl,rfl⟩
  obtain⟨a,m,uS,rfl,rfl,p⟩:=hrel;have NH:=Z p;by_cases G:m<k
  .have HU:=Z a;go_wp2;go_loopg [7] (k-(m+1)) (λl i wr=>U w1 [] wr []/\∃j:Nat,m+1<=j/\j<=k/\l=k-j/\i=X j/\j9 j (FK ss ts m)=K)
   .exact⟨HU,m+1,fV _,G,rfl,eY,NO λi f=>by unfold FK;rw[R (λh=>Y)]⟩
   obtain⟨a,j,hj1,AO,rfl,rfl,p⟩:=hrel;have e:=Z p;have L:=(g.on a).num;by_cases FV:j<k
   .have HC:=Z (fz.o j m Y Y wr a);have HU:=Z a;have HT:dT (FK ss ts m j=if m<j/\kO ss ts j m=2 then H ⟨2,j,m,0⟩else K):=Z rfl;generalize hc:kO ss ts j m=c at HC HT;by_cases TY:c=2
    .have N:((c:Int)==2)=qT:=kG LQ;have HT:dT (FK ss ts m j=H ⟨2,j,m,0⟩):=Z (by rw[HT.o,bW ⟨Y,TY⟩]);go_wp2_with (go_at_call 171;apply HC.dC;intro w2 hd;have a:=HU.ds (U.xN hd);have d:=a.aC P J;obtain⟨e0,Q,e2,W⟩:=Z4 d;have ef:=aN d;have eQ:=Z a;have F:=(g.on a));have C:=Nw (x:=X 2) (y:=X j) (z:=X m) (u:=mj nr 0) d;refine mY (aW (A:=⟨w,0,K⟩) (T:=177) rfl Yr (v:= .agg #[X 2,X j,X m,mj nr 0]) (by go_simp)) rfl ?_;exact NE.jO (by rw[q,S.o,z',GJ NH.o (GJ e.o HT.o FV) G];rfl) rfl ((o.ds eQ).bJ C.2 λb r=>by simp at r;omega)
    .have N:((c:Int)==2)=rR:=kG GD;have HT:dT (FK ss ts m j=K):=Z (by rw[HT.o,R (λh=>TY h.2)]);go_wp2_with (go_at_call 171;apply HC.dC;intro w2 hd;have eQ:=Z (HU.ds (U.xN hd)));go_roundg (k-(j+1))
     .exact⟨eQ,j+1,Y,Y,rfl,eY,CO e HT⟩
     omega
   .obtain rfl:j=k:=Y;have HU:=Z a;go_wp2;go_roundg (j-(m+1))
    .exact⟨HU,m+1,Y,rfl,eY,CO NH e⟩
    omega
  .obtain rfl:m=k:=Y;have L:=(g.on a).num;have tF:=NH;have HU:=Z a;go_wp2;go_loopg [64] m (λl i wr=>U w1 [] wr []/\∃k:Nat,k<=m/\l=m-k/\i=X k/\j9 k (λi=>j9 m (BX ss ts i))=K)
   .exact⟨HU,0,Y,rfl,rfl,rfl⟩
   obtain⟨a,k,Xk,rfl,rfl,p⟩:=hrel;have NH:=Z p;have L:=(g.on a).num;by_cases G:k<m
   .have HU:=Z a;go_wp2;go_loopg [71] m (λl i wr=>U w1 [] wr []/\∃j:Nat,j<=m/\l=m-j/\i=X j/\j9 j (BX ss ts k)=K)
    .exact⟨HU,0,Y,rfl,rfl,rfl⟩
    obtain⟨a,j,hjm,rfl,rfl,p⟩:=hrel;have e:=Z p;by_cases FV:j<m
    .have HC:=Z (fz.o k j Y Y wr a);have HU:=Z a;have HT:dT (BX ss ts k j=if kO ss ts k j=3 then H ⟨3,k,j,0⟩else K):=Z rfl;generalize hc:kO ss ts k j=c at HC HT;by_cases WM:c=3
     .have N:((c:Int)==3)=qT:=kG LQ;have HT:dT (BX ss ts k j=H ⟨3,k,j,0⟩):=Z (by rw[HT.o,bW WM]);go_wp2_with (go_at_call 171;apply HC.dC;intro w2 hd;have a:=HU.ds (U.xN hd);have d:=a.aC P J;obtain⟨e0,Q,e2,W⟩:=Z4 d;have ef:=aN d;have eQ:=Z a;have F:=(g.on a));have C:=Nw (x:=X 3) (y:=X k) (z:=X j) (u:=mj nr 0) d;refine mY (aW (A:=⟨w,0,K⟩) (T:=177) rfl Yr (v:= .agg #[X 3,X k,X j,mj nr 0]) (by go_simp)) rfl ?_;exact NE.jO (by rw[q,S.o,tF.o,z',z',GJ NH.o (GJ e.o HT.o FV) G]) rfl ((o.ds eQ).bJ C.2 λb r=>by simp at r;omega)
     .have N:((c:Int)==3)=rR:=kG GD;have HT:dT (BX ss ts k j=K):=Z (by rw[HT.o,R WM]);go_wp2_with (go_at_call 171;apply HC.dC;intro w2 hd;have eQ:=Z (HU.ds (U.xN hd)));go_roundg (m-(j+1))
      .exact⟨eQ,j+1,Y,rfl,eY,CO e HT⟩
      omega
    .obtain rfl:j=m:=Y;have HU:=Z a;go_wp2;go_roundg (j-(k+1))
     .exact⟨HU,k+1,Y,rfl,eY,CO NH e⟩
     omega
   .obtain rfl:k=m:=Y;have d:=a.aC P J;obtain⟨e0,Q,e2,W⟩:=Z4 d;have ef:=aN d;have eQ:=Z a;have F:=(g.on a);go_wp2;have C:=Nw (x:=X 0) (y:=X 0) (z:=X 0) (u:=mj nr 0) d;refine mY (aW (A:=⟨w,0,K⟩) (T:=177) rfl Yr (v:= .agg #[X 0,X 0,X 0,mj nr 0]) (by go_simp)) rfl ?_;unfold NE;rw[q,S.o,tF.o,NH.o];exact⟨rfl,(o.ds eQ).bJ C.2 λb r=>by simp at r;omega⟩
theorem ZM191{P:Prop}(h:P:=by
  go_wp2;go_quiet (fail);go_wp2_with (go_at_call 171;apply(fz.o _ (U.drewN (U.refl _ []) _)).dC;intro w3 hd;have cW:=(U.drewN (U.refl w1 []) nq).ds (U.xN hd);let⟨b0,b1,b2,b3,ti⟩:=cW.zc5 b0 b1 b2 b3 ti;have iF:=Z (nN.o.ds cW);have rZ:=HR.o.on cW;have rf:=rZ.free;have FG:=Z rZ;clear hd cW rZ);go_region;all_goals
   go_wp2;go_ret;refine⟨rfl,?_,(((iF.o.quiet [B]).setCell (a:=Ad B (7+ed)) (.inl J) _)).drew⟩;rw[Y0.o,BS.o];exact(FG.o.nW (i:=ed) Y rR).on (U.refl _ []).drew):P:=h
theorem ZM14{P:Prop}(h:P:=by
  go_in;go_wp2;go_quiet (fail);go_wp2;let⟨w2,rM⟩:=D (w1.drewN nq);have bM:U w1 [] w2 []:=Sr rM;let⟨b0,b1,b2,b3,cn,ci,ti⟩:=bM.zc7 b0 b1 b2 b3 cn ci ti;have eQ:=Z bM;rw[rM];clear rM bM;go_quiet ((go_at_call 170;refine Calls.quiet_of (HLO.o _ (eQ.o.ds (U.drewN (U.refl _ []) _)))));go_wp2;let⟨w3,jA⟩:=D (w2.drewN nq);have cW:U w2 [] w3 []:=Sr jA;have bM:=cW;let⟨b0,b1,b2,b3,cn,ci,ti⟩:=bM.zc7 b0 b1 b2 b3 cn ci ti;have iF:=Z (nN.o.ds (eQ.o.ds cW));have rZ:=HR.o.on (eQ.o.ds cW);have FG:=Z rZ;have rf:=rZ.free;have hb:=AH (hJ ss ed 0) ct (D1 hs ed) Y9.o;have Y0:=Z (show gB ss ⟨1,ed,0,ct⟩=ss.set ed (fS (hJ ss ed 0) ct)from rfl);let⟨x,hx⟩:=D (hJ ss ed 0);rw[hx]at ci hb Y0;rw[jA];clear jA cW bM rZ hx hs ht;go_region;all_goals
   go_wp2;go_ret;refine⟨rfl,?_,(((iF.o.quiet [B]).setCell (a:=Ad B ed) (.inl J) _)).drew⟩;rw[Y0.o];exact(FG.o.aA9 (i:=ed) Y (fS x ct)).on (U.refl _ []).drew):P:=h
theorem ZM32{P:Prop}(h:P:=by
  go_in;exact ZM191):P:=h
theorem aBT(B:Nat)(ss:List Nat)(ts:List Bool)(n eb:Nat)(s:cU)(w:aA)(h:sD w B ss ts n eb)(r:n<=7)(hs:∀s,s∈ss->s<2^32)(u:eb<2^32)(m:s.bY<n)(ht:hJ ts s.bY rR=qT)(v:s.cut≠0)(p:s=⟨1,s.bY,0,jM ss ts eb s.bY n⟩):
  aK prog 125 #[lr (H ⟨B,0,K⟩),kQ s] w λe w'=>e=mi (nj qT)/\sD w' B (gB ss s) (vI ts s) n eb/\U w [B] w' [B]:=by
 obtain⟨G,ed,A,ct⟩:=s;injection p with h1 h2 h3 h4;dsimp only at m ht v h1 h3 h4 h2;subst h1 h3;have l:=Z h4;clear h2 h4;unfold kQ;dsimp only;let⟨w1,g⟩:=D (i5 w (kd #[X 1,X ed,X 0,mj nr ct] 177));have c:=Za g;have d:=Zb g;have b:=h.on c;have HR:=Z b;have k:=Z d;have nN:=Z c;have F:=iP (dG b.cF);obtain⟨b0,b1,b2,b3⟩:=Z4 d;have cn:=b.num;have ci:=b.s (i:=ed) Y;have ti:=b.t (i:=ed) Y;rw[ht]at ti;have y:((ct:Int)==0)=rR:=kG GD;have z:(ed:Int)<7:=Y;clear h c d b;have f:((ed:Int)<0)=False:=J;have gn:decide ((n:Int)<=(ed:Int))=rR:=kE Y;have HLO:=Z λj (q:U w1 [] j [])=>Bs B ed ss ts n eb j (HR.o.on q) Y r hs u;rw[<-l.o]at HLO;have Y9:=Z (show ct<4294967296 by rw[l.o];exact W9 hs);by_cases C:0<ed
 .exact ZM14
 .exact ZM14
theorem Pk(ss:List Nat)(ts:List Bool)(i j:Nat):kO ss ts i j=0\/kO ss ts i j=2\/kO ss ts i j=3:=by
 unfold kO;split
 .exact .inl rfl
 .split
  .exact .inr (.inl rfl)
  .split
   .exact .inr (.inr rfl)
   .exact .inl rfl
theorem aBU(B:Nat)(ss:List Nat)(ts:List Bool)(n eb:Nat)(s:cU)(w:aA)(h:sD w B ss ts n eb)(L:n<=7)(hs:∀s,s∈ss->s<2^32)(x:s.bY<n)(G:s.eR<n)(m:hJ ts s.bY rR=qT)(p:kO ss ts s.bY s.eR≠0)(z:s=⟨kO ss ts s.bY s.eR,s.bY,s.eR,0⟩):
  aK prog 125 #[lr (H ⟨B,0,K⟩),kQ s] w λe w'=>e=mi (nj qT)/\sD w' B (gB ss s) (vI ts s) n eb/\U w [B] w' [B]:=by
 obtain⟨c,ed,b,V⟩:=s;injection z with g h2 h3 h4;dsimp only at x G m p g h3 h4 h2;have v:=Pk ss ts ed b;have l:=Z g;rw[<-g]at p v;subst h4;clear g h2 h3;unfold kQ;dsimp only;let⟨w1,r⟩:=D (i5 w (kd #[X c,X ed,X b,mj nr 0] 177));have j:=Za r;have q:=Zb r;have d:=h.on j;have HR:=Z d;have T:=Z q;have nN:=Z j;have P:=iP (dG d.cF);obtain⟨b0,b1,b2,b3⟩:=Z4 q;have k:=d.num;have ti:=d.t (i:=ed) Y;rw[m]at ti;have N:(ed:Int)<7:=Y;have o:((c:Int)==1)=rR:=kG GD;have S:((c:Int)==0)=rR:=kG GD;have fz:=Z λu (C:U w1 [] u [])=>Wh B ed b ss ts n eb u (HR.o.on C) Y Y hs;rw[<-l.o]at fz;have Y0:=Z (show gB ss ⟨c,ed,b,0⟩=ss by unfold gB;rw[R];show¬c=1;omega);have BS:=Z (show vI ts ⟨c,ed,b,0⟩=ts.set ed rR by unfold vI;rw[R];show¬c=1;omega);clear h j q d v p hs m;have Q:((ed:Int)<0)=False:=J;have F:((b:Int)<0)=False:=J;have gn:decide ((n:Int)<=(ed:Int))=rR:=kE Y;have A:decide ((n:Int)<=(b:Int))=rR:=kE Y;by_cases f:b<ed
 .have y:¬ed<b:=Y;go_in;exact ZM191
 .by_cases g:ed<b
  .exact ZM32
  .exact ZM32
theorem aBB(B:Nat)(ss:List Nat)(ts:List Bool)(n eb:Nat)(s:cU)(w:aA)(h:sD w B ss ts n eb)(d:n<=7)(hs:∀s,s∈ss->s<2^32)(i:eb<2^32)(j:Ru ss ts eb n s):
  uJ 125 #[lr (H ⟨B,0,K⟩),kQ s] w λe w'=>e=mi (nj qT)/\sD w' B (gB ss s) (vI ts s) n eb/\U w [B] w' [B]:=by
 rcases j with⟨b,a,l,c⟩|⟨b,m,a,g,c⟩
 .exact aBT B ss ts n eb s w h d hs i b a l c
 .exact aBU B ss ts n eb s w h d hs b m a g c
variable{es:List Nat}{i:Nat}
def Ab(es:List Nat)(k:Nat):List Nat:=es.take k++List.replicate (7-k) 0
def Nk(k:Nat):List Bool:=List.replicate k qT++List.replicate (7-k) rR
theorem aEN{k:Nat}(c:k<O es)(e:O es<=7):(Ab es k).set k (hJ es k 0)=Ab es (k+1):=by
 unfold Ab;obtain⟨m,b⟩:∃m,7-k=m+1:=⟨7-k-1,Y⟩;have a:7-(k+1)=m:=Y;rw[zN _ _ (kG PI),PI,Dc Y,B5,b,a,B0,U9,fW (d:=0) c,zcV];rfl
theorem aDz{k:Nat}(c:k<7):(Nk k).set k qT=Nk (k+1):=by
 unfold Nk;obtain⟨m,b⟩:∃m,7-k=m+1:=⟨7-k-1,Y⟩;have a:7-(k+1)=m:=Y;rw[zN _ _ J,ic,B5,b,a,B0,U9,List.replicate_succ',zcV];rfl
theorem aA5(a:i<O es):hJ (Ab es (O es)) i 0=hJ es i 0:=by
 unfold Ab;rw[TU,gV,zbE a,<-gV]
theorem aAU(a:i<n):hJ (Nk n) i rR=qT:=by
 unfold Nk;rw[gV,zbE (eP a),List.getElem?_replicate,bW a];rfl
theorem jf{k:Nat}(h:∀s,s∈es->s<2^32):∀s,s∈Ab es k->s<2^32:=λs hs=>by
 unfold Ab at hs;rcases yU.1 hs with hs|hs
 .exact h s (List.mem_of_mem_take hs)
 .rw[(List.mem_replicate.1 hs).2];decide
theorem Ie(es:List Nat):i8 (Ab es (O es)) (Nk (O es)) (O es)=cD es:=Zi (λ_ a=>aA5 a) (λ_ a=>aAU a)
theorem aCV(v:aE)(es:List Nat)(aU eb:Nat)(w:aA)(h:E0 w v es)(N:O es<=7):
  aK prog 123 #[.agg #[mj mn aU,v],mj nr eb] w λe w'=>∃B,e=mi (lr (H ⟨B,0,K⟩))/\i7 w.heap<=B/\sD w' B (Ab es (O es)) (Nk (O es)) (O es) eb/\U w [] w' []:=by
 obtain⟨ad,cap,rfl,-⟩:=h.len;let⟨w1,z⟩:=D (i5 w (kd #[X aU,jS ad (O es) cap] 64));have u:=Za z;have P:=Zb z;obtain⟨b0,r⟩:=Z2 P;have s:=Z (h.on u);clear h;go_in;go_upto_region 2 with(fail);let⟨B,j⟩:=D (i7 w1.heap);let⟨w2,l⟩:=D (i5 w1 (kd #[mj nr 0,mj nr 0,mj nr 0,mj nr 0,mj nr 0,mj nr 0,mj nr 0,nj rR,nj rR,nj rR,nj rR,nj rR,nj rR,nj rR,X (O es),mj nr eb] 294));have q:=Za l;have S:sD w2 B (Ab es 0) (Nk 0) (O es) eb:=⟨by rw[<-l,<-j];exact mE w1 _,rfl,rfl⟩;have d:i7 w.heap<=B:=by rw[<-j];exact u.size
 have Q:i7 w1.heap<=B:=Y;have r:=q.cell r J;have f:=(u.ds q);rw[l,j];clear l j b0;go_wp2;go_loopg [17] (O es) (λL i wr=>∃k:Nat,k<=O es/\L=O es-k/\i=X k/\U w2 [B] wr []/\U w [] wr []/\sD wr B (Ab es k) (Nk k) (O es) eb)
 .exact⟨0,Y,rfl,rfl,(U.refl _ _).to J,f,S⟩
 obtain⟨k,W,rfl,rfl,m,n,c⟩:=hrel;by_cases A:k<O es
 .have b:k<7:=Y;have T:(k:Int)<7:=Y;let⟨g,o,cap',hv,t,C⟩:=fM.aS s.o A;have p:g≠B:=Y;have e0:=m.cell (q.cell (C 0 Y) J) (eP p);obtain rfl:=IK hv;rw[yC,qZ]at e0;simp only[FY]at e0;have cs:=c.s b;have ct:=c.t b;have V:=c.free;have y:=Z (aEN A N);have G:=(aDz b);generalize F:hJ es k 0=x at e0 y;clear F r C t;go_upto_region 5 with(fail);go_region;all_goals
   go_wp2;go_roundg (O es-(k+1))
   .refine⟨k+1,Y,rfl,eY,?_,?_,?_⟩
    .first
      |exact((m.setCell (a:=Ad B k) (.inl J) _).setCell (a:=Ad B (7+k)) (.inl J) _).drew
      |exact((m.setCell (a:=Ad B (7+k)) (.inl J) _).setCell (a:=Ad B k) (.inl J) _).drew
    .first
      |exact((n.setCell (a:=Ad B k) (.inr d) _).setCell (a:=Ad B (7+k)) (.inr d) _).drew
      |exact((n.setCell (a:=Ad B (7+k)) (.inr d) _).setCell (a:=Ad B k) (.inr d) _).drew
    .rw[<-y.o,<-G];first
      |exact((c.aA9 b x).nW b qT).on (U.refl _ []).drew
      |exact((c.nW b qT).aA9 b x).on (U.refl _ []).drew
   omega
 .obtain rfl:k=O es:=Y;go_wp2;go_ret;exact⟨B,rfl,d,c,n⟩
theorem aQg:kD prog 165 170 2 16:= .QZ (z:= .agg #[X 0,mj nr 0]) underlying165 dJ rfl
theorem aQc:kD prog 171 177 4 32:= .QZ (z:= .agg #[X 0,X 0,X 0,mj nr 0]) underlying171 dJ rfl
abbrev NB(w0 w:aA)(v:aE)(l:List ES):Prop:=bN wP sT 170 2 w0 w v l
abbrev Rs(w0 w:aA)(v:aE)(l:List cU):Prop:=bN KK sT 177 4 w0 w v l
theorem aFM(B:Nat)(ss:List Nat)(ts:List Bool)(n eb:Nat)(w:aA)(h:sD w B ss ts n eb)(f:n<=7):
  aK prog 126 #[lr (H ⟨B,0,K⟩)] w λe w'=>∃u,e=mi u/\NB w w' u (i8 ss ts n)/\U w [] w' []:=by
 have o:=h.num;have C:=iP (dG h.cF);go_in;go_wp2;go_loopg [3,9] n (λy p i wr=>∃(k:Nat) (L:List ES),k<=n/\y=n-k/\i=X k/\i8 ss ts k=L/\U w [] wr []/\NB w wr p L)
 .exact⟨0,[],Y,rfl,rfl,rfl,U.refl _ _,bN.nil _ _⟩
 obtain⟨k,L,P,rfl,rfl,d,b,j⟩:=hrel;obtain⟨a3,s,rfl,N⟩:=j.len;have S:O L<=k:=d▸Bx ss ts k;have g:=Z j;have l:=h.on b;by_cases T:k<n
 .have q:k<7:=Y;have F:(k:Int)<7:=Y;have cs:=l.s q;have r:=l.t q;have a:=Z (CG ss ts k);rw[d]at a;cases m:hJ ts k rR with
  |false=>
   rw[m]at r a;have c:dT (i8 ss ts (k+1)=L):=Z (a.o▸ui _);go_wp2;go_roundg (n-(k+1))
   .exact⟨k+1,L,Y,rfl,eY,c,b,g⟩
   omega
  |true=>
   rw[m]at r a;generalize G:hJ ss k 0=x at cs a;have c:dT (i8 ss ts (k+1)=L++[(k,x)]):=Z (by rw[a.o];rfl);go_wp2_with (at_builtin;refine cK aQg rfl _ _ rfl g b Yr [It k,mj nr (x:Int)] (k,x) Yr rfl (YC rfl rfl) rfl Y GC ?_;rintro g2 Q w3 v z- -;have A:=Z v);go_roundg (n-(k+1))
   .exact⟨k+1,_,Y,rfl,eY,c,z,by simpa using A.o⟩
   omega
 .obtain rfl:k=n:=Y;go_wp2;go_ret;exact⟨_,rfl,d▸g,b⟩
variable{tmps:Array aE}{fn:Func}{l:List ES}{P:Program}{u2:Tmp}{v2 v3:aE}
theorem ZM44{P:Prop}(h:P:=by
  go_roundg (O S-(k+1))
  .exact⟨k+1,C',Y,rfl,rfl,hC',by rw[NG.o];rfl,NG.o▸XO.1,(Fa.ds lM).bJ XO.2 (λb hb=>by simp at hb;omega),(sF.on lM).N' XO.2 (λb hb=>by
    obtain rfl:b=C':=eP hb;rw[fB BU.o];decide),by rw[CT.o];exact(pL.on lM).eU XO.2 (λb hb hm=>HGC.o b hb (eP hm)),HGC⟩
  omega):P:=h
theorem ZM64{P:Prop}(h:P:=by
  go_wp2_with (go_at_call 124;apply HN.dC;intro w4 hU;have lH:=Z hU;clear hU);go_meet;exact⟨_,rfl,j8 (cT.ds iF).size lH.size,by rw[HO.o];rfl,HO.o▸mE _ _,lH.alloc _⟩):P:=h
structure NA(w:aA)(B n eb:Nat)(l:List ES):Prop where
 ex:∃ss ts,sD w B ss ts n eb/\(∀s,s∈ss->s<2^32)/\i8 ss ts n=l
theorem NA.on{B eb:Nat}(h:NA w B n eb l)(a:U w [] w' S'):NA w' B n eb l:=by
 obtain⟨ss,ts,c,d,b⟩:=h.ex;exact⟨ss,ts,c.on a,d,b⟩
theorem NA.N'{B eb:Nat}(h:NA w B n eb l)(c:U w S w' S')(b:∀k,k∈S->mU w k≠H 294):NA w' B n eb l:=by
 obtain⟨ss,ts,e,d,a⟩:=h.ex;exact⟨ss,ts,e.N' c b,d,a⟩
theorem NA.ty{B eb:Nat}(h:NA w B n eb l):mU w B=H 294:=by
 obtain⟨ss,ts,a,c,b⟩:=h.ex;exact fB a.cF
theorem K7{s:cU}(h:∀x,x∈ss->x<2^32):∀x,x∈gB ss s->x<2^32:=λx a=>by
 unfold gB at a;split at a
 .rcases y' a with a|rfl
  .exact h x a
  .exact Sp (C8 _ _) (du (D1 h s.bY) E)
 .exact h x a
theorem Ru.bY{ts:List Bool}{eb:Nat}{s:cU}(h:Ru ss ts eb n s):s.bY<n:=by
 rcases h with⟨h,_⟩|⟨h,_⟩<;>exact h
theorem wu(B n eb:Nat)(l:List ES)(w:aA)(h:NA w B n eb l)(b:n<=7)(d:eb<2^32):
  uJ 124 #[lr (H ⟨B,0,K⟩)] w λe w'=>(match next l eb with
  |some s=>e=mi (mr #[kQ s,nj qT])
  |none=>e=mi (mr #[.agg #[mj mn 0,mj mn 0,mj mn 0,mj nr 0],nj rR]))/\U w [] w' []:=by
 obtain⟨ss,ts,c,a,rfl⟩:=h.ex;exact aEr B ss ts n eb w c b a d
theorem Kd(B n eb:Nat)(l:List ES)(w:aA)(h:NA w B n eb l)(a:n<=7)(b:eb<2^32){s:cU}(hs:next l eb=H s):
  uJ 124 #[lr (H ⟨B,0,K⟩)] w λe w'=>e=mi (mr #[.agg #[mj mn s.aG,mj mn s.bY,mj mn s.eR,mj nr s.cut],nj qT])/\U w [] w' []:=by
 refine(wu B n eb l w h a b).mono λe w' h=> ?_;rw[hs]at h;exact h
theorem wv(B n eb:Nat)(l:List ES)(w:aA)(h:NA w B n eb l)(a:n<=7)(b:eb<2^32)(hs:next l eb=K):
  uJ 124 #[lr (H ⟨B,0,K⟩)] w λe w'=>e=mi (mr #[.agg #[mj mn 0,mj mn 0,mj mn 0,mj nr 0],nj rR])/\U w [] w' []:=by
 refine(wu B n eb l w h a b).mono λe w' h=> ?_;rw[hs]at h;exact h
theorem xi(B n eb:Nat)(l:List ES)(s:cU)(w:aA)(h:NA w B n eb l)(d:n<=7)(g:eb<2^32)(hs:next l eb=H s):
  uJ 125 #[lr (H ⟨B,0,K⟩),kQ s] w λe w'=>e=mi (nj qT)/\NA w' B n eb (make l s)/\U w [B] w' [B]:=by
 obtain⟨ss,ts,a,c,rfl⟩:=h.ex;have b:=Vt ss ts hs;apply(aBB B ss ts n eb s w a d c g b).cX;rintro e w' ⟨rfl,i,j⟩;have m:=b.bY;exact⟨rfl,⟨_,_,i,K7 c,T6 ss ts (kG a.hs) (kG a.ht) n⟩,j⟩
theorem xm(B n eb:Nat)(l:List ES)(w:aA)(h:NA w B n eb l)(a:n<=7):
  uJ 126 #[lr (H ⟨B,0,K⟩)] w λe w'=>∃u,e=mi u/\NB w w' u l/\U w [] w' []:=by
 obtain⟨ss,ts,b,c,rfl⟩:=h.ex;exact aFM B ss ts n eb w b a
theorem R'(v:aE)(es:List Nat)(aU eb:Nat)(w:aA)(h:E0 w v es)(c:O es<=7)(hs:∀s,s∈es->s<2^32):
  uJ 123 #[.agg #[mj mn aU,v],mj nr eb] w λe w'=>∃B,e=mi (lr (H ⟨B,0,K⟩))/\i7 w.heap<=B/\NA w' B (O es) eb (cD es)/\U w [] w' []:=by
 apply(aCV v es aU eb w h c).cX;rintro e w' ⟨B,rfl,a,d,b⟩;exact⟨B,rfl,a,⟨_,_,d,jf hs,Ie es⟩,b⟩
theorem aT5{p u:Tmp}(h:fn.results=#[.tmp p,.tmp u,.tmp u2])(b:tmps.getD p undef=v)(c:tmps.getD u undef=v2)(a:tmps.getD u2 undef=v3):(results fn tmps).run P w= .ok (mr #[v,v2,v3]) w:=by
 subst b;subst c;subst a;simp[results,h]
def Ba:Option cU->Array aE
 |some s=>#[mj mn s.aG,mj mn s.bY,mj mn s.eR,mj nr s.cut]
 |none=>#[mj mn 0,mj mn 0,mj mn 0,mj nr 0]
theorem Ak(v:aE)(es:List Nat)(aU eb:Nat)(w:aA)(h:E0 w v es)(t:pA es aU)(Q:eb<2^32):
  aK prog 72 #[.agg #[mj mn aU,v],mj nr eb] w λe w'=>∃u x,e=mi (mr #[u,x,mj mn 0])/\Rs w w' u (run eb cI (cD es)).1/\NB w w' x (run eb cI (cD es)).2/\U w [] w' []:=by
 obtain⟨ad,cap,rfl,-⟩:=h.len;have r:=t.hm;let⟨w1,eW⟩:=D (i5 w (kd #[X aU,jS ad (O es) cap] 64));have cT:=Za eW;have fR:=Zb eW;obtain⟨b0,b1⟩:=Z2 fR;have hE:=h.on cT;have HV:=(Ax _ es aU w1 hE t);have N:=Z λwz (hz:U w1 [] wz [])=>R' _ es aU eb wz (hE.on hz) t.hm t.eD;have Ku:=lY r;have zK:=qD es;have oB:=oG t.eD;have i:=Z λn a=>NQ (eb:=eb) Ku zK oB (n:=n) a;have IN:O (run eb cI (cD es)).1<=300:=j8 (RT cI _ Ku zK oB) Ku;have VM:=(Ny (eb:=eb) cI (cD es));let⟨S,hS⟩:=D ((run eb cI (cD es)).1);rw[hS]at i IN VM;have HS:=Z hS;clear h fR hE t Ku zK oB hS;go_in;go_upto_region 4 with(first
  |(go_at_call 123;apply(N.o _ eQ).cX;rintro e w3 ⟨B,rfl,xC,m,hU⟩;have iF:=(eQ.ds hU);have g:=Z m;clear m hU)
  |(go_at_call 122;apply HV.dC;intro w2 hU;let⟨b0,b1⟩:=hU.zc2 b0 b1;have eQ:=Z hU;clear hU))
 have FG:=g;go_cut [8,9] (λs8 s9 wx=>∃C,s8= Pt C/\i7 w.heap<=C/\s9=nj (S[0]?).isSome/\uD wx C (Ba (S[0]?)) 177/\U w3 [] wx [])
 case first=>
  rcases i.o 0 (O9 _)with⟨hl,a⟩|⟨hl,s,hs,a,-⟩
  .have HN:=Z (wv B (O es) eb _ w3 g r Q a);have HO:=Z (show S[0]? =K from yo Y);clear hl a;exact ZM64
  .have HN:=Z (Kd B (O es) eb _ w3 g r Q a);have HO:=Z hs;clear hl a hs;exact ZM64
 case rest=>
  obtain⟨C,rfl,hC,rfl,AA,o⟩:=hcut;have lH:=Z (cT.ds (iF.ds o));have HBW:=Z (show i7 w.heap<=B from j8 (cT.ds eQ).size xC);have d:=Z (g.on o);clear o g FG HV N b0 b1;go_wp2;go_loopg [4,8,9] (O S) (λgg p s8 s9 wr=>∃(k C:Nat),k<=O S/\gg=O S-k/\s8= Pt C/\i7 w.heap<=C/\s9=nj (S[k]?).isSome/\uD wr C (Ba (S[k]?)) 177/\
   U w [] wr []/\NA wr B (O es) eb (after (cD es) (S.take k))/\Rs w wr p (S.take k)/\∀b,i6 p=H b->b≠C)
  .exact⟨0,C,Y,rfl,rfl,hC,rfl,AA,lH,d,bN.nil _ _,λb hb=>by simp[i6]at hb⟩
  obtain⟨k,C,hkS,rfl,rfl,hC,rfl,c,hU,m,j,eB⟩:=hrel;obtain⟨a3,G0,rfl,NV⟩:=j.len;have yg:O (S.take k)=k:=kG PI;rw[yg]at j NV eB|-;have wG:=Z eB;have HB:=Z c;have HU:=Z hU;have g:=Z m;have HL:=Z j;have A0:=Z yg;clear d lH c hU m j yg eB;rcases i.o k hkS with⟨hl,a⟩|⟨hl,s,hs,a,rE⟩
  .have HO:=Z (show S[k]? =K from yo Y);rw[HO.o];simp only[Option.isSome_none];clear a;subst hl;have CT:=Z (TU (l:=S));have P:=(xm B (O es) eb _ wr g r);rw[CT.o,VM]at P;go_wp2_with (go_at_call 126;apply P.cX;rintro e w4 ⟨u,rfl,hO,o⟩;have lH:=Z o;clear o);refine mY (aT5 rfl Yr Yr Yr) rfl ?_;refine⟨_,_,rfl,?_,hO.eO HU.size,HU.ds lH⟩;rw[HS.o];have:=HL.on lH.o;rw[CT.o]at this;exact this
  .have HO:=Z hs;rw[HO.o]at HB|-;simp only[Option.isSome_some];have CT:=Z rE;have F:=xi B (O es) eb _ s wr g r Q a;rw[<-o8,<-rE]at F;unfold kQ at F;have c:=HB.o;unfold Ba at c;obtain⟨e0,q,e2,A⟩:=Z4 c;clear a hs rE c;go_upto_region 10 with(first
    |(at_builtin;refine cK aQc rfl _ _ rfl LN lH Yr [mj mn s.aG,mj mn s.bY,mj mn s.eR,mj nr s.cut] s Yr rfl (MZ rfl rfl rfl rfl) rfl (kG A0.o) (by rw[A0.o];unfold bH;omega) ?_;rintro g2 c2 w5 j hU L-;rw[A0.o]at j|-;have W:C∉(jS a3 k G0).ownBlock.toList:=(λhm=>wG.o C (eP hm) rfl);have e0:=L.cell e0 W;have q:=L.cell q W;have e2:=L.cell e2 W;have A:=L.cell A W;have sF:=Z (d.N' L (λb hb=>by rw[LN.o.Fl b hb];decide));have pL:=Z j;have gN:=Z hU;clear j hU L W)
    |(go_at_call 125;apply F.dC;rintro w4 ⟨m,hU⟩;have TZ:=g.ty;have f:C∉[B]:=(λhm=>by rw[show C=B by simpa using hm]at HB;have:=fB HB.o;rw[TZ]at this;exact dY this E);have e0:=hU.cell e0 f;have q:=hU.cell q f;have e2:=hU.cell e2 f;have A:=hU.cell A f;have d:=Z m;have LN:=Z (HL.eb hU (λb hb=>by rw[show b=B by simpa using hb,TZ];decide));have lH:=Z (HU.bJ hU (λb hb=>by rw[show b=B by simpa using hb];exact HBW));clear m hU TZ f))
   obtain⟨C',G⟩:∃C',i7 w5.heap=C':=⟨_,rfl⟩;have hC':i7 w.heap<=C':=G▸gN.size;have HGC:dT (∀b,i6 (eC g2 0 (k+1) c2)=H b->b≠C'):=Z λb hb=>by
    have:=pL.1.lt b hb;omega
   go_upto_region 6 with(fail);let⟨w6,iA⟩:=D (i5 w5 (kd #[X s.aG,X s.bY,X s.eR,mj nr s.cut] 177));have dR:=Za iA;have mK:uD w6 C' #[X s.aG,X s.bY,X s.eR,mj nr s.cut] 177:=by rw[<-iA,<-G];exact mE w5 _
   have V:=sF.on dR;have pL:=Z (pL.on dR);have sF:=Z V;have Fa:=(gN.ds dR);rw[iA];clear iA G dR lH LN d e0 q e2 A;rcases i.o (k+1) Y with⟨IQ,a⟩|⟨IQ,s2,T,a,-⟩
   .have HN:=Z (wv B (O es) eb _ w6 V r Q a);have NG:=Z (show S[k+1]? =K from yo Y);clear IQ a V;go_wp2_with (go_at_call 124;apply HN.dC;intro w7 hU;have c:=hU.aC mK J;obtain⟨e0,q,e2,A⟩:=Z4 c;have ef:=aN c;have BU:=Z c;have lM:=Z hU;clear hU c);have XO:=Nw (x:=X 0) (y:=X 0) (z:=X 0) (u:=mj nr 0) BU.o;exact ZM44
   .have HN:=Z (Kd B (O es) eb _ w6 V r Q a);have NG:=Z T;clear IQ a T V;go_wp2_with (go_at_call 124;apply HN.dC;intro w7 hU;have c:=hU.aC mK J;obtain⟨e0,q,e2,A⟩:=Z4 c;have ef:=aN c;have BU:=Z c;have lM:=Z hU;clear hU c);have XO:=Nw (x:=X s2.aG) (y:=X s2.bY) (z:=X s2.eR) (u:=mj nr s2.cut) BU.o;exact ZM44
theorem Vg(v u:aE)(es:List Nat)(aU eb a:Nat)(w:aA)(h:E0 w v es)(p:pA es aU)(hk:eb<2^32){S:List cU}(hS:(run eb cI (cD es)).1=S)(Pu:a<=O S)(vm:fM KK sT 4 w u (S.take a)):
  aK prog 120 #[.agg #[mj mn aU,v],mj nr eb,u] w λe w'=>∃x,e=mi (mr #[x,mj mn a,mj mn 0])/\NB w w' x (after (cD es) (S.take a))/\U w [] w' []:=by
 obtain⟨ad,cap,rfl,-⟩:=h.len;have Fq:O (S.take a)=a:=kG PI;obtain⟨ua,uc,rfl,-⟩:=vm.len;rw[Fq]at vm|-;have h7:=p.hm;let⟨w1,eW⟩:=D (i5 w (kd #[X aU,jS ad (O es) cap] 64));have t:=Za eW;have fR:=Zb eW;obtain⟨b0,Q⟩:=Z2 fR;have hE:=h.on t;have HV:=(Ax _ es aU w1 hE p);have y:=Z λwz (hz:U w1 [] wz [])=>R' _ es aU eb wz (hE.on hz) p.hm p.eD;have L:=lY h7;have zK:=qD es;have W:=oG p.eD;have F:=Z λn z=>NQ (eb:=eb) L zK W (n:=n) z;have IN:O (run eb cI (cD es)).1<=300:=j8 (RT cI _ L zK W) L;rw[hS]at F IN;have HSU:=Z (vm.on t);have A:=Z Fq;clear h fR hE p L zK W hS vm Fq;go_in;go_upto_region 4 with(first
  |(go_at_call 123;apply(y.o _ N.o).cX;rintro e w3 ⟨B,rfl,xC,l,c⟩;have iF:=(N.o.ds c);have HR:=Z l;clear l c)
  |(go_at_call 122;apply HV.dC;intro w2 c;let⟨b0,Q⟩:=c.zc2 b0 Q;have N:=Z c;clear c))
 have P:=Z (show i7 w.heap<=B from j8 (t.ds N.o).size xC);have V:=(show i7 w1.heap<=B from j8 N.o.size xC);clear HV y b0 Q xC;go_wp2;go_loopg [7,20] a (λgg s7 i wr=>∃k:Nat,k<=a/\gg=a-k/\s7=X k/\i=X k/\U w [] wr []/\U w1 [B] wr []/\NA wr B (O es) eb (after (cD es) (S.take k)))
 .exact⟨0,Y,rfl,rfl,rfl,t.ds iF,(iF.quiet [B]).to J,HR.o⟩
 obtain⟨k,Xo,rfl,rfl,rfl,c,j,l⟩:=hrel;have HU:=Z c;have HRk:=Z l;by_cases aY:k<a
 .rcases F.o k Y with⟨hl,z⟩|⟨hl,s,hs,z,rE⟩
  .omega
  have r:hJ (S.take a) k sT=s:=by
   rw[gV,B4,bW aY,hs];rfl
  let⟨g,o,cx,hv,Hu,q⟩:=HSU.o.aS (i:=k) (by rw[A.o];exact aY);rw[A.o]at hv;obtain rfl:=IK hv;rw[r]at q;have d:g∉[B]:=λG=>by have h1:=V;rw[<-show g=B by simpa using G]at h1;omega
  have c0:=j.cell (q 0 E) d;have c1:=j.cell (q 1 E) d;have c2:=j.cell (q 2 E) d;have c3:=j.cell (q 3 E) d;simp only[KK,qZ]at c0 c1 c2 c3;have HN:=Z z;clear r q z hs c l d;go_upto_region 7 with(fail);let⟨C,hC⟩:=D (i7 wr.heap);let⟨w5,f⟩:=D (i5 wr (kd #[X s.aG,X s.bY,X s.eR,mj nr s.cut] 177));have cO:=Za f;have uV:=Ze f hC;obtain⟨d0,d1,d2,d3⟩:=Z4 uV;have m:=xi B (O es) eb _ s w5 (HRk.o.on cO) h7 hk HN.o;rw[<-o8,<-rE]at m;unfold kQ at m;rw[f];clear f uV c0 c1 c2 c3;go_wp2_with (go_at_call 125;apply m.dC;rintro w6 ⟨l,c⟩;have HR6:=Z l;have lM:=Z c;clear l c);go_roundg (a-(k+1))
  .exact⟨k+1,Y,rfl,eY,eY,(HU.o.ds cO).bJ lM.o (λb hb=>by rw[show b=B by simpa using hb];exact P.o),((j.to (T:=[B]) (λ_ G=> .inl G)).ds ((cO.quiet [B]).ds lM.o)).to J,HR6.o⟩
  omega
 .obtain rfl:k=a:=Y;have HLF:=(xm B (O es) eb _ wr l h7);clear c l;go_wp2_with (go_at_call 126;apply HLF.cX;rintro e w4 ⟨u,rfl,hO,eJ⟩);refine mY (aT5 rfl Yr Yr Yr) rfl ?_;exact⟨_,rfl,hO.eO HU.o.size,HU.o.ds eJ⟩
theorem aJJ{p u:Tmp}(h:fn.results=#[.tmp p,.tmp u])(b:tmps.getD p undef=v)(a:tmps.getD u undef=v2):(results fn tmps).run P w= .ok (mr #[v,v2]) w:=by
 subst b;subst a;simp[results,h]
def nz(l:List ES):List Nat:=(l.filter λx=>decide (x.2≠0)).map (·.2)
theorem aJY{k:Nat}(h:k<O l):nz (l.take (k+1))=nz (l.take k)++if(hJ l k sT).2=0 then[]else[(hJ l k sT).2]:=by
 unfold nz;rw[fW (d:=sT) h,zdF,QW];congr 1;by_cases a:(hJ l k sT).2=0
 .rw[bW a,List.filter_cons_of_neg (by simp only[QX,ne_eq,Decidable.not_not];exact a)];rfl
 .rw[R a,List.filter_cons_of_pos (by simp only[QX,ne_eq];exact a)];rfl
theorem aB0(l:List ES):O (nz l)<=O l:=by
 unfold nz;rw[r8];exact zdG _ _
theorem aO8(l:List ES):decide (O (nz l)=0)= !l.any λx=>decide (x.2≠0):=by
 unfold nz;rw[r8,Fi,QX,dt,zdE];simp
theorem un:kD prog 62 65 1 4:=ie.ok
theorem aAl(v:aE)(es:List Nat)(aU eb:Nat)(w:aA)(h:E0 w v es)(W:pA es aU)(hk:eb<2^32)(hl:(run eb cI (cD es)).2=l)(Sv:O l<=7):
  aK prog 118 #[.agg #[mj mn aU,v],mj nr eb] w λe w'=>∃a c,e=mi (mr #[jS a (O (nz l)) c,mj mn 0])/\U w [] w' []:=by
 obtain⟨ad,cap,rfl,-⟩:=h.len;let⟨w1,Q⟩:=D (i5 w (kd #[X aU,jS ad (O es) cap] 64));have G:=Za Q;have fR:=Zb Q;obtain⟨b0,b1⟩:=Z2 fR;have P:=(Ak _ es aU eb w1 (h.on G) W hk);rw[hl]at P;clear h fR W hl;go_in;go_wp2_with (go_at_call 72;apply P.cX;rintro e w2 ⟨u,x,rfl,T,n,d⟩;obtain⟨sa,sc,rfl,-⟩:=T.len;obtain⟨la,lc,rfl,-⟩:=n.len;have F:=(G.ds d);have HL:=Z (n.eO G.size);clear d n T);clear b0 b1;go_loopg [9,21] (O l) (λgg p i wr=>∃(k:Nat),k<=O l/\gg=O l-k/\i=X k/\U w [] wr []/\U w2 [] wr []/\yS w2 wr p (nz (l.take k)))
 .exact⟨0,Y,rfl,rfl,F,U.refl _ _,bN.nil _ _⟩
 obtain⟨k,Xl,rfl,rfl,d,bM,m⟩:=hrel;obtain⟨a3,G0,rfl,NV⟩:=m.len;have t:=aB0 (l.take k);rw[PI]at t;by_cases S:k<O l
 .have q:=Z (aJY S);let⟨g,o,cx,hv,Hu,f⟩:=(HL.rd.on bM).aS S;obtain rfl:=IK hv;have c0:=f 0 E;have c1:=f 1 E;let⟨x,V⟩:=D (hJ l k sT);rw[V]at c0 c1 q;simp only[wP,qZ]at c0 c1;have L:=Z d;let⟨N,hN⟩:=D (nz (l.take k));rw[hN]at q m t NV|-;clear V f d hN;go_upto_region 6 with(fail);let⟨w5,A⟩:=D (i5 wr (kd #[X x.1,mj nr x.2] 170));have y:=Za A;have d1:h8 w5 ⟨wr,1,K⟩=H (mj nr x.2):=A▸aP (mE wr _) rfl;have C:=(m.on y);have r:=Z (L.ds y);have j:=(bM.ds y);rw[A];clear A y c0 c1;by_cases z:x.2=0
  .have g0:((x.2:Int)!=0)=rR:=kG bne_eq_false_iff_eq;have s:dT (nz (l.take (k+1))=N):=Z (by rw[q.o,bW z,ui]);clear z;go_wp2;go_roundg (O l-(k+1))
   .exact⟨k+1,Y,rfl,eY,r,j,s.o▸C⟩
   omega
  .have g0:((x.2:Int)!=0)=qT:=kG bne_iff_ne;have s:dT (nz (l.take (k+1))=N++[x.2]):=Z (by rw[q.o,R z]);clear z;go_wp2_with (at_builtin;refine C2 un rfl _ _ rfl C r (F.size) (j.size) Yr [mj nr (x.2:Int)] x.2 Yr rfl (dE rfl) rfl Y GC ?_;rintro g2 c2 w6 n cV oD xS;have AZ:=Z n;clear n xS);go_roundg (O l-(k+1))
   .exact⟨k+1,Y,rfl,eY,cV,j.bJ oD C.ge,s.o▸AZ⟩
   omega
 .obtain rfl:k=O l:=Y;rw[TU]at m t NV|-;have B:=(aET _ _ _ _ m Y);have L:=Z d;clear d;go_wp2_with (go_at_call 164;apply B.dC;intro w5 d;have r:=Z d;clear d);refine mY (aJJ rfl Yr Yr) rfl ?_;exact⟨_,_,rfl,L.bJ r λb hb=>j8 F.size (m.ge b hb)⟩
theorem TF(v:aE)(es:List Nat)(aU:Nat)(w:aA)(h:E0 w v es)(b:pA es aU):
  aK prog 68 #[.agg #[mj mn aU,v]] w λe w'=>e=mi (mr #[nj (!((run 0 cI (cD es)).2.any λx=>decide (x.2≠0))),mj mn 0])/\U w [] w' []:=by
 obtain⟨ad,cap,rfl,-⟩:=h.len;let⟨w1,g⟩:=D (i5 w (kd #[X aU,jS ad (O es) cap] 64));have j:=Za g;have r:=Zb g;obtain⟨b0,y⟩:=Z2 r;have u:O (run 0 cI (cD es)).2<=7:=by
  have:=(GK (eb:=0) (p:=λl=>O l<=7) (λl s _ _ h _=>j8 (KB l s) h) cI (cD es) (lY b.hm) (qD es) (oG b.eD) (by rw[tR];exact b.hm)).1;exact this
 let⟨l,hl⟩:=D ((run 0 cI (cD es)).2);have d:=(aAl _ es aU 0 w1 (h.on j) b E hl (by rw[<-hl];exact u));rw[hl];have i:=(aO8 l);generalize n:O (nz l)=m at d i;have hd:decide (m=0)=((m:Int)==0):=by rw[Fi,LQ,QX];omega
 go_in;go_wp2_with (go_at_call 118;apply d.cX;rintro e w2 ⟨a,c,rfl,q⟩);refine mY (aJJ rfl Yr Yr) rfl ?_;exact⟨by rw[<-i,hd];rfl,j.ds q⟩
variable{bb m:Nat}
structure BOn(w0 w:aA)(bb:Nat)(b:r6)(l:List ES):Prop where
 ex:∃nv sv pv ns ss,LB w0 w bb nv sv pv ns ss b.2/\ns.map (·.1)=b.1/\O ss=O b.2/\(∀x,x∈ss->x<2^32)/\G2 ss l
theorem BOn.on{b:r6}(h:BOn w0 w bb b l)(d:U w [] w' S'):BOn w0 w' bb b l:=by
 obtain⟨nv,sv,pv,ns,ss,c,g,a,i,e⟩:=h.ex;exact⟨nv,sv,pv,ns,ss,c.on d,g,a,i,e⟩
theorem Ur(bb:Nat)(b:r6)(l:List ES)(s:cU)(w0 w:aA)(C:Tz w0)(h:BOn w0 w bb b l)(x:U w0 [] w []){eb k:Nat}(j:GB eb b l m 42)(o:m<=7)(v:0<m)(B:next l k=H s):
  uJ 74 #[lr (H ⟨bb,0,K⟩),kQ s] w λe w'=>e=mi (mr #[])/\TP EZ w w'/\U w0 [] w' []/\BOn w0 w' bb (gK (-1) b l s) (make l s):=by
 obtain⟨nv,sv,pv,ns,ss,G,r,i,u,y⟩:=h.ex;have d:=j.aGo B v o;have A:O ns=O b.1:=by rw[<-r,r8]
 have L:=d.b41;have N:=d.bY;have f:=d.eR;have t:=j.pm;have a:=rq (b:=b) y j.nd B;have c:G2 (gB ss s) (make l s):=y.set Y;have F:=K7 (s:=s) u;have z:O (gB ss s)=O ss:=by unfold gB;split<;>simp
 by_cases g:s.aG=1
 .apply(aA2 bb nv sv pv ns ss b.2 s w0 w C G x Y i g Y Y u d.cut).cX;rintro e w' ⟨rfl,n,q,UO,xv,p⟩;refine⟨rfl,n,q,BOn.mk ⟨UO,sv,pv,ns++[(uM ss b.2 s,xv)],gB ss s,?_,?_,?_,F,c⟩⟩
  .rw[a,bW g];dsimp only;rw[<-A];exact p
  .rw[a,QW,r];rfl
  .rw[a,z,i];dsimp only;rw[TS]
 .apply(aA3 bb nv sv pv ns ss b.2 s w0 w C G x Y i g Y Y Y u).cX;rintro e w' ⟨rfl,n,q,UO,xv,p⟩;refine⟨rfl,n,q,BOn.mk ⟨UO,sv,pv,ns++[(uM ss b.2 s,xv)],gB ss s,?_,?_,?_,F,c⟩⟩
  .rw[a,R g];dsimp only;rw[<-A];exact p
  .rw[a,QW,r];rfl
  .rw[a,z,i];dsimp only;rw[TS]
theorem Gi(l:List ES)(eb:Nat):(l.any λx=>decide (fS x.2 eb≠0))= !iN l eb:=by
 unfold iN part;rw[Fi,uj];simp
theorem Vn(v:aE)(l:List ES)(eb:Nat)(w:aA)(h:fM wP sT 2 w v l)(hs:kM l)(r:eb<2^32):
  uJ 121 #[v,mj nr eb] w λe w'=>e=mi (nj (iN l eb))/\U w [] w' []:=by
 obtain⟨a,cap,rfl,-⟩:=h.len;let⟨w1,g⟩:=D (i5 w (kd #[mj nr eb] 65));have i:=Za g;have n:=Zb g;have m:=Z (Xv (jS a (O l) cap) l 166 #[lr (H ⟨w,0,K⟩)] (λx=>decide (fS x.2 eb≠0)) w1 (enters_of func166 dJ rfl) (h.on i) λx hx wz hz=>by
  have p:=hz.aC n J;let⟨wy,b⟩:=D (i5 wz (kd #[X (x.1:Int),mj nr (x.2:Int)] 170));have c:=Za b;have c0:=c.cell (aP p (j:=0) rfl) J;have B:h8 wy ⟨wz,1,K⟩=H (mj nr (x.2:Int)):=b▸aP (mE wz _) rfl;have z:=hs x hx;have u:=AH x.2 eb (du z E) (du r E);have hd:decide (fS x.2 eb≠0)=(((fS x.2 eb:Nat):Int)!=0):=by
   rw[Fi,bne_iff_ne,QX];omega
  let⟨y,d⟩:=D (fS x.2 eb);have A:=(show decide (fS x.2 eb≠0)=((y:Int)!=0) by rw[hd,d]);rw[d]at u;show uJ 166 #[.agg #[X (x.1:Int),mj nr (x.2:Int)],lr (H ⟨w,0,K⟩)] wz _;go_enter func166,ntmps166;go_wp2;go_ret;exact⟨by first|(rw[A];rfl)|rfl,c⟩)
 rw[Gi]at m;go_enter func121,ntmps121;go_wp2_with (go_at_call 165;apply m.dC;intro w2 q);go_ret;exact⟨by rw[<-Bool.not_not (iN l eb)];rfl,i.ds q⟩
def aLv(w0:aA)(bb:Nat):Option (r6×List ES)->cc->aA->Prop
 |some (bF,lF),e,w'=>∃x,e=mi (mr #[x,nj qT])/\NB w0 w' x lF/\BOn w0 w' bb bF lF/\U w0 [] w' []
 |none,e,w'=>e=mi (mr #[jS K 0 0,nj rR])/\U w0 [] w' []
theorem aCE(bb:Nat)(v:aE)(es:List Nat)(aU head:Nat)(b0:r6)(w0 w:aA)(hw:Tz w0)(hE:E0 w0 v es)(P:pA es aU)(hk:head<2^32)(h:BOn w0 w bb b0 (cD es))(a:U w0 [] w [])(hM:GB head b0 (cD es) (O es) 42)(h0:0<O es):
  aK prog 71 #[lr (H ⟨bb,0,K⟩),.agg #[mj mn aU,v],mj nr head] w λe w'=>aLv w0 bb (dA (-1) head cI b0 (cD es)) e w':=by
 obtain⟨ad,cap,rfl,-⟩:=hE.len;have h7:=P.hm;let⟨w1,eW⟩:=D (i5 w (kd #[X aU,jS ad (O es) cap] 64));have cT:=Za eW;have fR:=Zb eW;obtain⟨c0,c1⟩:=Z2 fR;have N:=(Ak _ es aU head w1 (hE.on (a.ds cT)) P hk);have Ku:=lY h7;have zK:=qD es;have oB:=oG P.eD;have HCS:=Z λn p=>NQ (eb:=head) Ku zK oB (n:=n) p;have IN:O (run head cI (cD es)).1<=300:=j8 (RT cI _ Ku zK oB) Ku;generalize B:(run head cI (cD es)).1=S at HCS IN N;have HRP:=Z λn u z (A:U w0 [] z []) (p:n<=O S) hu=>Vg (jS ad (O es) cap) u es aU head n z (hE.on A) P hk B p hu;let⟨bEs,i⟩:=D (dA (-1) head cI b0 (cD es));rw[i];have HR:=Z i;have HB:=(h.on cT);have nN:=(a.ds cT);clear h a cT hE P zK oB B i;go_in;go_wp2_with (go_at_call 72;apply N.cX;rintro e w2 ⟨u,x,rfl,B,hL,a⟩;have jD:=B.N4;obtain⟨sa,sc,rfl,-⟩:=B.len;obtain⟨la,lc,rfl,-⟩:=hL.len;have eQ:=(nN.ds a);have tF:=Z (B.eO nN.size);have JZ:=(HB.on a);have HG2:=(a.aC fR J);clear a hL B);have jD:O S<=sc:=jD;go_loopg [11] (O S) (λgg s11 wr=>∃(k f:Nat) (b:r6),k<=O S/\gg=O S-k/\s11=X k/\U w0 [] wr []/\Rs w0 wr (jS sa (O S) sc) S/\uD wr w.heap.size #[X aU,jS ad (O es) cap] 64/\
  BOn w0 wr bb b (after (cD es) (S.take k))/\GB head b (after (cD es) (S.take k)) (O es) 42/\eS (after (cD es) (S.take k))<=f/\dA (-1) head f b (after (cD es) (S.take k))=bEs)
 .exact⟨0,cI,b0,Y,rfl,rfl,eQ,tF.o,HG2,JZ,hM,Ku,HR.o⟩
 obtain⟨k,f,b,q,rfl,rfl,a,Ia,hG,o,t,tT,i⟩:=hrel;have yh:k<=sc:=j8 q jD;have T:=(Ia.rd.RN (cap':=sc) q (λe=>by
  subst e;rcases Ia.1 with⟨V,_⟩|⟨g,c,cur,V,_⟩
  .injection V
  .cases V))
 have C:=(λz (A:U wr [] z [])=>HRP.o k (jS sa k sc) z (a.ds A) q (T.on A));obtain⟨d0,d1⟩:=Z2 hG;have HU:=Z a;have F:=Z o;have zM:=Od tT t.nd t.sm i;have l:=HCS.o k q;generalize mS:after (cD es) (S.take k)=lk at zM l t C F;clear a o tT i;go_upto_region 4 with(fail);refine fj 99 (ez d0<|ey d1) (λwd fF kP Q=> ?_);refine ek [0,1,2,3,4] ?_;refine Zo 5 λvm hK=> ?_;go_simp;go_at_call 120;apply(C wd kP).cX;rintro e w5 ⟨x5,rfl,hO,a⟩;dsimp only;obtain⟨xa,xc,rfl,-⟩:=hO.len;replace Q:=a.YZ Q;have cO:=kP.ds a;have TN:=(hO.eO (HU.o.ds kP).size);clear hO a kP fF d0 d1 C T;refine Zk hK Q<|I 6 ?_;refine ek [7,10,8,11,9,12] ?_;refine bD dJ ?_ _;try simp only[Act.put,UB,U9,X9]
 have j:=Vn _ lk head w5 TN.rd t.sm hk;clear Q;rcases zM with⟨d,i⟩|⟨d,p,i⟩|⟨d,f',s,p,hw',i⟩
 .rw[d]at j;have O7:=Z i;clear i d l;go_wp2_with (go_at_call 121;apply j.dC;intro w6 a;have y:=Z (cO.ds a);have HO6:=(TN.on a);clear a);refine mY (aJJ rfl Yr Yr) rfl ?_;rw[O7.o];exact⟨_,rfl,HO6,F.o.on y.o,HU.o.ds y.o⟩
 .rw[d]at j;have hke:k=O S:=by
   rcases l with⟨V,_⟩|⟨_,s,_,r,_⟩
   .exact V
   .rw[p]at r;cases r
  have g1:((k:Int)==(O S:Int))=qT:=kG LQ;have O7:=Z i;clear i d l hke;go_wp2_with (go_at_call 121;apply j.dC;intro w6 a;have y:=Z (cO.ds a);clear a);refine mY (aJJ rfl Yr Yr) rfl ?_;rw[O7.o];exact⟨rfl,HU.o.ds y.o⟩
 .rw[d]at j;rcases l with⟨_,r⟩|⟨aY,s2,W,r,rE⟩
  .rw[p]at r;cases r
  obtain rfl:s=s2:=by rw[p]at r;injection r
  have g1:((k:Int)==(O S:Int))=rR:=kG GD;have O7:=Z i;have L:hJ S k sT=s:=by rw[gV,W];rfl
  let⟨gS,oS,cS,hvS,hgS,m⟩:=Ia.rd.aS aY;obtain rfl:=IK hvS;rw[L]at m;clear i d r W L;have AX:=Z λz (A:U wr [] z [])=>Ur bb b lk s w0 z hw (F.o.on A) (HU.o.ds A) t h7 h0 p;unfold kQ at AX;go_wp2_with (first
   |(go_at_call 74;apply(AX.o _ y.o).dC;rintro w7 ⟨hF,a,o⟩;have PF:=Z a;have Si:=Z o;clear a o)
   |(go_at_call 121;apply j.dC;intro w6 a;have G:=cO.ds a;have s0:=G.cell (m 0 E) J;have s1:=G.cell (m 1 E) J;have s2:=G.cell (m 2 E) J;have s3:=G.cell (m 3 E) J;simp only[KK,qZ]at s0 s1 s2 s3;have y:=Z G;clear a G))
  go_roundg (O S-(k+1))
  .exact⟨k+1,f',gK (-1) b lk s,Y,rfl,eY,PF.o,(Ia.on y.o).aGn hF E,hF.cF _ _ _ (y.o.aC hG J) E,
   by rw[rE,o8,mS];exact Si.o,by rw[rE,o8,mS];exact t.step (-1) p,by rw[rE,o8,mS];exact hw',by rw[rE,o8,mS];exact O7.o⟩
  omega
variable{S2:List Nat}{N:List bE}{Bp c g:Nat}
section
structure Ey(w0 w:aA)(nv:aE)(ns:List (bE×aE)):Prop where
 n:Rt w0 w nv ns
 o:∀x,x∈ns->iC w0 w x.2 x.1.vars
section
variable{w0 w w':aA}{nv:aE}{ns:List (bE×aE)}
theorem Ey.on(h:Ey w0 w nv ns)(a:U w [] w' S'):Ey w0 w' nv ns:=⟨h.n.on a,λx b=>(h.o x b).on a⟩
theorem Ey.eb(h:Ey w0 w nv ns)(b:U w S w' S')(c:∀k,k∈S->mU w k≠H 79/\mU w k≠H 3):Ey w0 w' nv ns:=
 ⟨h.n.eb b λk a=>(c k a).1,λx d=>(h.o x d).eb b λk a=>(c k a).2⟩
theorem Ey.vars(h:Ey w0 w nv ns):N8 w ns:=λx a=>(h.o x a).rd
theorem Ey.rd(h:Ey w0 w nv ns)(a:h8 w ⟨Bp,2,K⟩=H nv):PRd w Bp ns:=⟨nv,a,h.n.rd,h.vars⟩
theorem aTT{w:aA}{t:ap}{x:Nat×Nat}(h:w.heap[b]? =H (kd cs t x)):mU w b=H t:=by
 unfold mU;rw[h]
theorem U.Kc(h:U w [] w' S'):U w S2 w' S2:=⟨h.os,h.tape,h.output,h.size,λk a _=>h.block k a J,λ_ h=> .inl h⟩
theorem Ey.cell(h:Ey w0 w (jS (H ⟨g,0,K⟩) n c) ns)(m:i<O ns)(r:j<7)(x:bE)(u:aE)(q:∀b,b<7->nS (x,(hJ ns i sT).2) b=if b=j then u else nS (hJ ns i sT) b)(hv:x.vars=(hJ ns i sT).1.vars):
  Ey w0 (hY w ⟨g,i*7+j,K⟩ u) (jS (H ⟨g,0,K⟩) n c) (ns.set i (x,(hJ ns i sT).2)):=by
 have e:=qX w g (i*7+j) u;have p:=h.n.ty (k:=g) rfl;refine⟨h.n.EW m r _ _ q,λy d=> ?_⟩;have a:∀k,k∈[g]->mU w k≠H 3:=λk a l=>by
  obtain rfl:k=g:=eP a;rw[p]at l;exact dY l E
 rcases y' d with d|rfl
 .exact(h.o y d).eb e a
 .rw[hv];exact(h.o _ (bO m)).eb e a
end
theorem Xz{k:Nat}(a:k<O N)(b:mD N):pV N (k+1)=(KT (hJ N k sT)).foldl (λl c=>xK l c k) (pV N k):=by
 rw[Xy a b];obtain⟨h,-,-⟩:=b k a;unfold KT;rcases h with h|h|h<;>rw[h]<;>rfl
theorem qm{α β:Type}(f:β->α->β)(b:β){l:List α}{d:α}{k:Nat}(a:k<O l):(l.take (k+1)).foldl f b=f ((l.take k).foldl f b) (hJ l k d):=by
 rw[fW (d:=d) a,um];rfl
theorem lm{ms:List (bE×aE)}{k:Nat}(a:c<O ms):(ms.set c (xG (hJ ms c sT).1 (k:Int),(hJ ms c sT).2)).map (·.1)=xK (ms.map (·.1)) c k:=by
 rw[B6];unfold xK;rw[gQ]
theorem lj{ms:List (bE×aE)}{k:Nat}(a:c<O ms):(ms.set c (xG (hJ ms c sT).1 (k:Int),(hJ ms c sT).2)).map (·.2)=ms.map (·.2):=by
 rw[B6];apply Co J;intro i d b;rw[List.getElem_set];split
 .rename_i h;subst h;simp[gV,kU a]
 .rfl
theorem aGW(Bp:Nat)(v0 v1 v3 v4:aE)(nv:aE)(ns:List (bE×aE))(w0 w:aA)(h:Ey w0 w nv ns)(hB:w.heap[Bp]? =H (kd #[v0,v1,nv,v3,v4] 75 (0,0)))(h0:0<O ns)(hl:O ns<=41)(B:mD (ns.map (·.1)))(MS:∀x,x∈ns.map (·.1)->x.bS= -1):
  aK prog 76 #[lr (H ⟨Bp,0,K⟩)] w λe w'=>e=mi (mr #[])/\U w nv.ownBlock.toList w' nv.ownBlock.toList/\∃ms:List (bE×aE),ms.map (·.1)=pV (ns.map (·.1)) (O ns)/\ms.map (·.2)=ns.map (·.2)/\Ey w0 w' nv ms:=by
 obtain⟨g,c,hv,-,-,-,-,-⟩:=(show eV _ _ _ _ _ _ from h.n.1).block h0;subst hv;have HN:=Z h;have b2:=Zc hB 2;have lB:=iP (IL b2);let⟨N,m⟩:=D (ns.map (·.1));have U5:dT (O N=O ns):=Z (by rw[<-m];simp);have HZ:dT (pV N 0=N):=Z (Xx (m▸MS));rw[m]at B|-;have z:=Z m;clear h m MS;go_in;go_wp2;go_loopg [10] (O ns) (λgg s10 wr=>∃(k:Nat) (ms:List (bE×aE)),k<=O ns/\gg=O ns-k/\s10=X k/\dT (ms.map (·.1)=pV N k)/\dT (ms.map (·.2)=ns.map (·.2))/\Ey w0 wr (eC g 0 (O ns) c) ms/\U w [g] wr [g])
 .exact⟨0,ns,Y,rfl,rfl,Z (by rw[HZ.o];exact z.o),Z rfl,HN.o,U.refl _ _⟩
 obtain⟨k,ms,hk,rfl,rfl,CU,EE,m,p⟩:=hrel;have W:O ms=O ns:=by have:=xE O EE.o;simpa using this
 have XN:Bp∉[g]:=λhm=>by
  have C:=HN.o.n.ty (k:=g) rfl;obtain rfl:Bp=g:=eP hm;rw[aTT hB]at C;exact dY C E
 have q2:=p.cell b2 XN;by_cases aY:k<O ns
 .have y:k<O N:=by rw[U5.o];exact aY
  have G:=Xz y B;have uS:(hJ ms k sT).1=xG (hJ N k sT) (xM N k k):=by
   rw[<-gQ,CU.o,F9 y]
  have KE:∀c,c∈KT (hJ N k sT)->c<k:=λc hc=>by
   have C:=Cg (ns:=ns) (by rw[z.o];exact B) aY (c:=c);rw[<-gQ,z.o]at C;exact C hc
  have X7:=(TC Bp ms k wr (m.rd q2) (by rw[W];exact aY) (by rw[uS];exact(B k y).1));rw[uS,show KT (xG (hJ N k sT) (xM N k k))=KT (hJ N k sT)from rfl]at X7;generalize hK:KT (hJ N k sT)=o at G KE X7;have oZ:O o<=2:=hK▸WA _;have L:=Z p;have q:=Z m;have QP:dT (g<i7 wr.heap):=Z (m.n.1.lt g rfl);clear hK uS y W p m;obtain⟨wq,rfl⟩:∃wq,wq=wr:=⟨_,rfl⟩;go_wp2_with (go_at_call 127;apply X7.cX;rintro e w2 ⟨u,rfl,r,p⟩;obtain⟨ka,kc,rfl,-⟩:=r.len;have T:=Z p;have HK2:=Z r;clear r p);have eQ:dT (U w [g] w2 [g]):=Z (L.o.ds (U.Kc T.o));have Fy:=Z (q.o.on T.o);go_loopg [17] (O o) (λgg s17 wr=>∃(j:Nat) (v:List (bE×aE)),j<=O o/\gg=O o-j/\s17=X j/\dT (v.map (·.1)=(o.take j).foldl (λl c=>xK l c k) (pV N k))/\dT (v.map (·.2)=ns.map (·.2))/\Ey w0 wr (eC g 0 (O ns) c) v/\U w [g] wr [g]/\iC wq wr (jS ka (O o) kc) o)
  .exact⟨0,ms,Y,rfl,rfl,Z CU.o,EE,Fy.o,eQ.o,HK2.o⟩
  obtain⟨j,v,hj,rfl,rfl,S,A,m,p,r⟩:=hrel;have W:O v=O ns:=by have:=xE O A.o;simpa using this
  have L:=Z p;have q:=Z m;have HO:=Z r;by_cases V:j<O o
  .have P:∀b,i6 (jS ka (O o) kc)=H b->b∉[g]:=λb B hm=>by
    have C:=r.2 b B;have h2:=QP.o;obtain rfl:b=g:=eP hm;omega
   have Q:=(r.eU (qX wr g (hJ o j 0*7+5) (X k)) P);let⟨gk,ok,ck,Fr,CP,yh⟩:=r.rd.aS V;obtain rfl:=IK Fr;have k0:=yh 0 E;simp only[fN,qZ,yC]at k0;have WK:=KE (hJ o j 0) (by rw[gV,kU V];exact gu V);have q2:=p.cell b2 XN;have CT:=(qm (λl c=>xK l c k) (pV N k) (d:=0) V);generalize f:hJ o j 0=F at k0 WK CT;have hcn:(F:Int)<(O ns:Int):=Y;have hgz:=q.o.n.1.lt g rfl;have n:F<O v:=Y;have cf:=m.n.1.free (g:=g) rfl;have c5:=fM.cells (show fM nS sT 7 wr (eC g 0 (O ns) c) v from m.n.rd) n 5 E;simp only[vW]at c5;have HSC:=(m.cell (i:=F) (j:=5) n E (xG (hJ v F sT).1 (k:Int)) (X k) (λj' uU=>by
    match j',uU with
    |0,_=>rfl
    |1,_=>rfl
    |2,_=>rfl
    |3,_=>rfl
    |4,_=>rfl
    |5,_=>rfl
    |6,_=>rfl) rfl)
   have fw:=(p.setCell (a:=Ad g (F*7+5)) (.inl J) (X k));have Y2:=Z (lm (k:=k) n);have tF:=Z (lj (k:=k) n);rw[f]at Q;clear f p m r yh P n;go_wp2;go_roundg (O o-(j+1))
   .exact⟨j+1,_,Y,rfl,eY,Z (by rw[Y2.o,S.o,CT]),Z (by rw[tF.o,A.o]),HSC,fw,Q⟩
   omega
  .have AO:j=O o:=Y;have HJ3:dT (v.map (·.1)=pV N (k+1)):=Z (by rw[S.o,AO,TU,G]);clear p r m;go_wp2;go_roundg (O ns-(k+1))
   .exact⟨k+1,v,Y,rfl,eY,HJ3,A,q.o,L.o⟩
   omega
 .have l8:k=O ns:=Y;have HF:dT (ms.map (·.1)=pV N (O ns)):=Z (by rw[CU.o,l8]);have L:=Z p;have q:=Z m;clear p m W;go_wp2;go_end0;exact⟨rfl,L.o,ms,HF.o,EE.o,q.o⟩
end
theorem aEd{α:Type}{f:α->Nat->aE}{d:α}{e:ap}(a:w.heap[b]? =H (kd #[] e (0,0)))(n:i7 w0.heap<=b):bN f d e sz w0 w (jS (H ⟨b,0,K⟩) 0 0) ([]:List α):=
 ⟨.inr ⟨b,0,#[],rfl,a,fV _,(by decide:0<=bH),J,λi j l m=>by cases l⟩,λg c=>by simp[i6]at c;omega⟩
theorem aCP(v:aE)(l:List Nat)(w:aA)(h:E0 w v l)(i:0<O l)(hl:O l<=1000):
  aK prog 73 #[v] w λe w'=>∃u,e=mi u/\yS w w' u l/\U w [] w' []:=by
 obtain⟨g,o,cap,rfl⟩:=fM.ad h i;have r:∀(w:aA) (a:Option cg) (n c n' c':Nat),(binOp .eql 62 (jS a n c) (jS K n' c')).run prog w= .ok (nj a.isNone) w:=λw a n c n' c'=>Lib.run_eql_slice_nil w _ _ a n c n' c' underlying62;go_in;go_upto_region 3 with(fail);let⟨w1,d⟩:=D (w.alloc (kd #[] 65));have b:=(d▸(U.refl w []).alloc (kd #[] 65):U w [] w1 []);have p:dT (yS w w1 (jS (H ⟨w,0,K⟩) 0 0) []):=Z (aEd (d▸mE w _) (fV _));go_wp2_with (at_builtin;refine jP un E rfl _ _ rfl p b (fV _) b.size (h.on b) (λy q j A=>rfl) Yr Yr (by simp;omega) (by unfold bH;simp;omega) ?_;rintro g5 x w5 m cO z;have pL:=Z m);exact ZM177
theorem ZM115{P:Prop}(h:P:=by
  have:=pL.o;rw[HN.o]at this;cases L with
  |nil=>cases this
  |cons x r=>exact⟨r,by simpa using this⟩):P:=h
theorem zF{a:Nat}(h:a+1<b):a<=b:=by omega
theorem NT{a:Nat}(h:a+1<b):b≠a+1:=by omega
theorem aIy(h:(m:Int)<100):100-(m+1)<100-m:=by omega
theorem aJB{a:Nat}(h:m+a<=36)(k:b<a):m+1+b<=36:=by omega
theorem aJ4{k:Nat}(h:k<7):(k+1)*8<=140737488355328:=by omega
theorem aJ8{k:Nat}(h:k<7):k+1<=bH:=by unfold bH;omega
theorem vj{k:Nat}(h:k<n):n-(k+1)<n-k:=by omega
theorem ne0{α:Type}(x:α)(l:List α):((O (x::l):Int)==0)=rR:=by rw[GD];simp;omega
theorem aU6{a:Nat}(h:m+a<=36)(b:0<a):(m:Int)<100:=by omega
theorem aE3(hv av:aE)(ps:List (dO×aE))(q:bK)(w:aA)(h:ED w hv av ps q)(hs:fY q=0)(hA:kT (aJ q) (O (vars q))=qT)(hC:CH (aJ q) (O (vars q)) (cL q)=qT)(bF:r6)(lF:List ES)(hph:dA 0 (cL q) cI (cN 0 (aJ q)) (cD (aJ q))=H (bF,lF)):
  aK prog 59 #[.agg #[mX q.name,hv,av]] w λe w'=>∃pv,e=mi (mr #[pv,mj mn 0])/\PC w w' pv (aB q).2/\U w [] w' []:=by
 obtain⟨ha,hc,rfl,-⟩:=h.head.len;obtain⟨aa,ac,rfl,-⟩:=h.aD.len;have hlen:=h.len;rw[hlen]at h|-;have p:=Z h;clear h hlen;let⟨wa,dM⟩:=D (i5 (i5 w (kd #[mX q.name,jS ha (O q.head) hc,jS aa (O q.aD) ac] 25)) (kd #[cR,cR,cR,X 0,cR] 53));have cV:U w [] wa []:=dM▸((U.refl w []).alloc _).alloc _;have lC:uD wa w.heap.size #[mX q.name,jS ha (O q.head) hc,jS aa (O q.aD) ac] 25:=by rw[<-dM];exact lP ..
 have fR:uD wa (i7 w.heap+1) #[cR,cR,cR,X 0,cR] 53:=by rw[<-dM];exact lO ..
 obtain⟨b0,b1,b2⟩:=Z3 lC;have yM:=Z cV;have j7:=Z fR;have U7:=Z lC;clear cV fR lC;let⟨_,ha6,Hp,p8,_,_⟩:=gG hs;have HG:=Z (qQ hs);have KW:O (aJ q)<=6:=by simp only[aJ,r8];omega
 have IG:=Z (jw _ _ ps q wa (p.o.on yM.o) hs);have hh:cL q<2^32:=xF (zD _ _) (Fk E Y);have HPH:=Z hph;have HHV:=Z (gG hs).2.2.2.2.2;have a11:O q.head<=30:=j8 (A7 (zB (gG hs).2.2.2.2.1) (gG hs).2.2.2.2.2) Hp;have uS:=aIp.xO (O (aJ q)) (O (aJ q)) (fV _) Y GC;simp only[yC]at uS;have HWE:=Z (IT (gG hs).2.1 (gG hs).2.2.2.1);have Qa:0<O (aJ q):=by simp only[aJ,r8];exact(gG hs).1
 have HCY:=Z (Ee HG.o.xJ HG.o.hv (j8 KW E) (λe=>by rw[e]at Qa;exact dY Qa E) hA);clear hph p8;go_in;go_upto_region 4 with(first|(go_at_call 16;apply IG.o.cX;rintro e w2 ⟨ev,rfl,hE,bM⟩;obtain⟨ea,ec,rfl,-⟩:=hE.len;have eQ:=Z (yM.o.ds bM);have aRQ:=Z bM;have HE:=Z (hE.eO yM.o.size);clear bM hE));let⟨Bg,yt⟩:=D (i7 w2.heap);let⟨wg,Kv⟩:=D (i5 w2 (kd #[X (O (vars q)),jS ea (O (aJ q)) ec] 64));have WO:=Za Kv;have hG0:=Ze Kv yt;have hQ0:=(aRQ.o.ds WO).aC U7.o J;obtain⟨g0,g1⟩:=Z2 hG0;obtain⟨q0,q1,q2⟩:=Z3 hQ0;have Y9:=Z (TB _ (aJ q) (O (vars q)) (cL q) wg (HE.o.rd.on WO) HG.o KW hh);rw[hA,hC]at Y9;have HG0:=Z hG0;have Tn:=Z (eQ.o.ds WO);have aLb:=Z (aRQ.o.ds WO);have HE:=Z (HE.o.on WO);rw[Kv,yt];clear WO Kv hG0 hQ0 yt hA hC;go_upto_region 10 with(first
  |(go_at_call 47;apply(UL _ _ ps q _ (p.o.on (Tn.o.ds iF.o))).cX;rintro e w4 ⟨vv,rfl,hO,eJ⟩;obtain⟨va,vc,rfl,-⟩:=hO.len;have lH:=Z (iF.o.ds eJ);have HO:=Z hO;clear eJ hO)
  |(go_at_call 98;apply Y9.o.dC;intro w3 cW;let⟨q0,q1,q2⟩:=cW.TR q0 q1 q2;have iF:=Z cW;clear cW))
 let⟨Bp,hBp⟩:=D (i7 w4.heap);let⟨wp,hwp⟩:=D (i5 w4 (kd #[jS va (O (vars q)) vc,cR,cR,X 0,cR] 53));have hUp:=Za hwp;have hP0:=Ze hwp hBp;have aBr:=lH.o.ds hUp;have HM:dT (MkB q w (i7 w.heap+1) Bg (jS ha (O q.head) hc) (jS aa (O q.aD) ac) (jS ea (O (aJ q)) ec) (jS va (O (vars q)) vc) wp):=Z ⟨Tn.o.ds aBr,(aLb.o.ds aBr).aC U7.o J,(aLb.o.ds aBr).aC j7.o J,aBr.aC HG0.o J,HE.o.on aBr,(HO.o.on hUp).eO (Tn.o.ds iF.o).size⟩;have oC:i7 w.heap+1<Bp:=by
  have G:=dG j7.o;have h2:=(aLb.o.ds lH.o).size;omega
 have HP0:=Z hP0;rw[hwp,hBp];clear hUp hwp hP0 aBr q0 q1 q2 g0 g1 b0 b1 b2 IG Y9 eQ aRQ Tn aLb HE HO iF lH U7 j7 yM HG0 dM hBp;go_wp2;go_loopg [12] (O q.head) (λg i wr=>∃(k:Nat) (xa:Option cg) (xc:Nat),k<=O q.head/\g=O q.head-k/\i=X k/\MkB q w (i7 w.heap+1) Bg (jS ha (O q.head) hc) (jS aa (O q.aD) ac) (jS ea (O (aJ q)) ec) (jS va (O (vars q)) vc) wr/\
  uD wr Bp #[jS va (O (vars q)) vc,jS xa k xc,cR,X 0,cR] 53/\iC w wr (jS xa k xc) ((q.head.take k).map λh=>(vars q).idxOf h))
 .exact⟨0,K,0,Y,rfl,rfl,HM.o,HP0.o,bN.nil _ _⟩
 obtain⟨k,xa,xc,hk,rfl,rfl,hM,hP,o⟩:=hrel;by_cases F:k<O q.head
 .let⟨g6,o6,QM,hv6,hg6,hc6⟩:=p.o.head.aS F;have e0:=hM.up.cell (hc6 0 Y) J;obtain rfl:=IK hv6;simp only[yK,yC,qZ]at e0;have HX:=Z (show(q.head.take (k+1)).map (λh=>(vars q).idxOf h)=(q.head.take k).map (λh=>(vars q).idxOf h)++[(vars q).idxOf (hJ q.head k bU)] by rw[fW (d:=bU) F,QW];rfl);have OI:=HHV.o _ (bO (d:=bU) F);have hLl:O ((q.head.take k).map λh=>(vars q).idxOf h)=k:=by rw[r8,PI];omega
  let⟨L,R4⟩:=D (((q.head.take k).map λh=>(vars q).idxOf h));let⟨y,hy⟩:=D (hJ q.head k bU);rw[R4]at HX hLl o;rw[hy]at e0 HX OI;have HAI:=Z λV (W:JV V (jS va (O (vars q)) vc) (vars q))=>(rx _ (vars q) y V W).mono λe w' h=>eI (h.1.ds (by rw[YQ OI])) h.2;have A0:=Z hLl;obtain⟨p0,p1⟩:=Z2 hP;have b1:=Zc hM.q0 1;have HL:=Z o;have HP:=Z hP;have HM:=Z hM;clear R4 hy hc6 OI hLl o hP hM;go_upto_region 13 with(fail);refine e7 13 (ez p0<|ez p1<|ez b1<|ey e0) (λQ=> ?_);refine ek [0,2,4,6,1,3,5,7,8] ?_;refine Zo 9 λvm hK=> ?_;go_simp;go_at_call 88;apply(HAI.o wr.drew (HM.o.v0.rd.on (U.refl wr []).drew)).cX;rintro e w5 ⟨rfl,N⟩;dsimp only;have N:U wr [] w5 []:=(U.refl wr []).drew.ds N;replace Q:=N.zh4 Q;refine j5 ?_;clear hK vm;refine Zo 10 λvm hK=> ?_;go_simp;have hH5:=Q;have nY:U w5 [] (i5 w5 (kd #[X ((vars q).idxOf y:Int)] 3)) []:=(U.refl w5 []).alloc _;replace Q:=nY.zh4 Q;refine j5 ?_;clear hK vm;refine Zo 11 λvm hK=> ?_;have lU:=HL.o.on N;have sA:=HM.o.on N;have Qm:=N.aC HP.o J;let⟨g7,c7,w7,dK,yQ,gD,P,hg7⟩:=iT (ty:=50) (news:=[X ((vars q).idxOf y:Int)]) (T:=3) QL Y lU sA.up (fV _) sA.up.size ((vars q).idxOf y) rfl (dE rfl) (λj hj=>rfl) (by have:=A0.o;omega) (by have:=A0.o;unfold bH;omega);refine dL _ _ rfl Yr Yr dK ?_;have Q:=hH5;replace Q:=P.zh4 Q (lU.ne Qm E) (lU.ne Qm E) (lU.ne sA.q0 E) (lU.BJ hg6);have Ql:=P.aC Qm (lU.ne Qm E);have MX:=sA.eU P (MkT.cZ lU (sA.neR lU E) (.inl rfl));rw[A0.o]at yQ|-;obtain⟨f0,f1⟩:=Z2 Ql;have ff:=aN Ql;have HP7:=Z Ql;have LA:=Z MX;have QR:=Z yQ;clear Ql MX yQ;clear dK gD P lU sA Qm nY hH5;refine j5 ?_;clear hK vm;refine I 12 ?_;refine Zo 13 λvm hK=> ?_;go_simp;refine LP ?_;clear hK vm;have hP8:=aF (i:=1) (eC g7 0 (k+1) c7) HP7.o;have jB:=qX w7 Bp 1 (eC g7 0 (k+1) c7);have pW:=LA.o.eU jB (MkT.cF HP7.o Y Y);have I1:=QR.o.set HP7.o E jB;go_wp2;go_roundg (O q.head-(k+1))
  .exact⟨k+1,H (Ad g7 0),c7,Y,rfl,eY,pW,hP8,by rw[HX.o];exact I1⟩
  omega
 .obtain rfl:k=O q.head:=Y;rw[TU]at o;let⟨hl,hhl⟩:=D (q.head.map (λh=>(vars q).idxOf h));rw[hhl]at o;have HHL:=Z hhl;have g1:=Zc hM.g0 1;have b1:=Zc hM.q0 1;let⟨gp,hgp⟩:=D (i7 wr.heap);let⟨wm,hwm⟩:=D (i5 wr (kd (madeCells #[X 0] (O (aJ q))) 3));have hUm:=Za hwm;have hR:iC w wm (eC gp 0 (O (aJ q)) (O (aJ q))) (oq (O (aJ q)) 0):=by
   have hT:=aIp.yY (O (aJ q)) (O (aJ q)) (fV _) GC wr Y;simp only[yC]at hT;rw[hwm,hgp]at hT;refine⟨?_,λg hg=>by simp[i6]at hg;have:=hM.up.size;omega⟩;exact ZM113
  have HF:dT (Ph q w (i7 w.heap+1) Bg (jS ha (O q.head) hc) (jS aa (O q.aD) ac) (jS ea (O (aJ q)) ec) (jS va (O (vars q)) vc) Bp gp (O (aJ q)) (jS xa (O q.head) xc) hl wm cR [] (oq (O (aJ q)) 0)):=Z
   ⟨hM.on hUm,hUm.aC hP J,o.on hUm,(λe=>by have:=o.1.lt gp e;omega),bN.nil _ _,λx hx=>(by cases hx),by rw[ic];exact hR⟩
  have HWM:=Z hwm;have HGP:=Z hgp;clear hM hP o hUm hR HM HP0 hhl hwm hgp;go_upto_region 15 with(fail);rw[HWM.o,HGP.o];clear g1 b1;go_wp2;go_loopg [14] (O (aJ q)) (λg i wr=>∃(k:Nat) (ya:Option cg) (S:Nat) (ns:List (bE×aE)),k<=O (aJ q)/\g=O (aJ q)-k/\i=X k/\ns.map (·.1)=(cN 0 (aJ q)).1.take k/\
   Ph q w (i7 w.heap+1) Bg (jS ha (O q.head) hc) (jS aa (O q.aD) ac) (jS ea (O (aJ q)) ec) (jS va (O (vars q)) vc) Bp gp (O (aJ q)) (jS xa (O q.head) xc) hl wr (jS ya k S) ns (x' k++oq (O (aJ q)-k) 0))
  .exact⟨0,K,0,[],Y,rfl,rfl,rfl,HF.o⟩
  obtain⟨k,ya,S,ns,hk,rfl,rfl,IP,C⟩:=hrel;have yG:O ns=k:=by
   have:=xE O IP;rw[r8,PI,uQ]at this;omega
  by_cases F:k<O (aJ q)
  .have HX:=Z (VQ F 0);have Tq:=Z IP;let⟨g6,o6,QM,hv6,e0⟩:=C.m.e0.rd.FC F;obtain rfl:=IK hv6;simp only[FY]at e0;have Lg:=HG.o.eD _ (bO (d:=0) F);let⟨y,hy⟩:=D (hJ (aJ q) k 0);rw[hy]at e0 HX Lg;have E4:=Z yG;have HRS:=Z (aAo F);have EJ:O (x' k++oq (O (aJ q)-k) 0)=O (aJ q):=by simp;omega
   let⟨pr,hpr⟩:=D (x' k++oq (O (aJ q)-k) 0);rw[hpr]at C HRS EJ;obtain⟨p0,p1,p2⟩:=Z3 C.p;have g1:=Zc C.m.g0 1;have Fb:=Z EJ;have HF:=Z C;clear hy C IP yG hpr EJ;go_upto_region 18 with(fail);refine e7 13 (ez p2<|ez g1<|ey e0) (λQ=> ?_);refine ek [0,2,3,5,1,4,6,7] ?_;refine Zo 8 λvm hK=> ?_;go_simp;go_at_call 99;apply(Jk _ _ Lg).cX;rintro e w5 ⟨u,rfl,Ky,N⟩;dsimp only;obtain⟨ua,uc,rfl,-⟩:=Ky.len;have N:U wr [] w5 []:=(U.refl wr []).drew.ds N;replace Q:=N.gm Q;refine j5 ?_;clear hK vm;refine I 9 ?_;refine Zo 10 λvm hK=> ?_;go_simp;have hH5:=Q;have nY:U w5 [] (i5 w5 (kd #[X 1,X k,jS ua (O (cB y)) uc,X 0,X 0,X 0,nj rR] 132)) []:=(U.refl w5 []).alloc _;replace Q:=nY.gm Q;refine j5 ?_;clear hK vm;refine Zo 11 λvm hK=> ?_;have a:=HF.o.on N;have Fp:G3 w w5 (jS ya (O ns) S) ns:=by rw[E4.o];exact a.n
   let⟨g7,c7,w7,dK,yQ,gD,P,hg7⟩:=iT (ty:=51) (news:=[X 1,X k,jS ua (O (cB y)) uc,X 0,X 0,X 0,nj rR]) (T:=132) yz Y a.n a.m.up (fV _) a.m.up.size
    (⟨1,k,cB y,0,0,0,rR⟩,jS ua (O (cB y)) uc) rfl (UJ rfl rfl rfl rfl rfl rfl rfl) (by intro j hj;rcases j with _|_|_|_|_|_|_|j<;>first|rfl|omega) (by have:=E4.o;omega) (by have:=E4.o;unfold bH;omega)
   refine dL _ _ rfl Yr Yr dK ?_;have Q:=hH5;have aU1:g6∉(jS ya k S).ownBlock.toList:=λhm=>eV.KA a.n.1 a.m.e0.1 E _ (eP hm) rfl;replace Q:=P.gm Q (a.n.ne a.p E) (a.n.ne a.m.g0 E) (aU1);have Ql:=P.aC a.p (a.n.ne a.p E);have hr7:=a.r.jT a.n E P;have Hu:=HF.o.r.1.lt gp rfl;have ho7:OV w w7 gp (ns++[(⟨1,k,cB y,0,0,0,rR⟩,jS ua (O (cB y)) uc)]):=λx hx=>by
    rcases yU.1 hx with hx|hx
    .exact a.o.eU a.n P (λk hk=> .inr (eP hk)) x hx
    .obtain rfl:=Gc.1 hx;exact⟨(Ky.jT a.n E P).eO HF.o.m.up.size,λe=>by have h5:i7 wr.heap<=gp:=Ky.2 gp e;omega⟩
   have Te:=a.put ((P.aL (T:=gp::(jS ya k S).ownBlock.toList) (λk hk=>UA _ hk)).to (T:=[]) J) Y Y yQ ho7 hr7;have r7:=(show eV _ _ _ _ _ _ from hr7.1).cell (i:=k) (j:=0) (by rw[Fb.o];exact F) Y;rw[yC,qZ]at r7;have rf7:=hr7.1.free (g:=gp) rfl k;have GY:gp≠Bp:=λe=>eV.ne hr7.1 Ql E (by rw[<-e];rfl);have f2:=Zc Ql 2;have ff:=aN Ql;rw[E4.o]at Te|-;have HF8:=Z Te;clear dK gD P yQ hr7 a ho7 Te Ql Ky Fp nY hH5 aU1 N;refine j5 ?_;clear hK vm;refine I 12 ?_;refine Zo 13 λvm hK=> ?_;go_simp;refine LP ?_;clear hK vm;go_wp2;have hF9:=HF8.o.C1 Y (i:=k) (by rw[Fb.o];exact F) k;rw[HRS.o]at hF9;go_roundg (O (aJ q)-(k+1))
   .exact⟨k+1,_,_,_,Y,rfl,eY,by rw[QW,Tq.o,HX.o];rfl,hF9⟩
   omega
  .obtain rfl:k=O (aJ q):=Y;have Q6:(cN 0 (aJ q)).1.take (O (aJ q))=(cN 0 (aJ q)).1:=by rw[zdH];rw[uQ];exact fV _
   have hrg:x' (O (aJ q))++oq (O (aJ q)-O (aJ q)) 0=(cN 0 (aJ q)).2:=by rw[B5];simp[cN]
   rw[Q6]at IP;rw[hrg]at C;obtain⟨g0,g1⟩:=Z2 C.m.g0;have HF:=Z C;have Tq:=Z IP;clear IP C Q6 hrg yG;go_upto_region 21 with(go_at_call 100;apply(jy _ (aJ q) _ _ HF.o.m.e0.rd Y).cX;rintro e w5 ⟨u,rfl,LH,N⟩;obtain⟨la,lc,rfl,-⟩:=LH.len;have TN:=Z LH;have gN:=Z N;clear LH N);go_wp2;go_loopg [15,16,17] 100 (λg s15 s16 s17 wr=>∃(m f:Nat) (la:Option cg) (lc:Nat) (ya:Option cg) (S:Nat) (b:r6) (l:List ES) (ns:List (bE×aE)),m+eS l<=36/\g=100-m/\s16=X m/\s15=jS la (O l) lc/\
    ND w wr (jS la (O l) lc) l/\ns.map (·.1)=b.1/\
    Ph q w (i7 w.heap+1) Bg (jS ha (O q.head) hc) (jS aa (O q.aD) ac) (jS ea (O (aJ q)) ec) (jS va (O (vars q)) vc) Bp gp (O (aJ q)) (jS xa (O q.head) xc) hl wr (jS ya (O b.1) S) ns b.2/\
    GB (cL q) b l (O (aJ q)) 42/\dA 0 (cL q) f b l=H (bF,lF))
   .refine⟨0,cI,la,lc,ya,S,cN 0 (aJ q),cD (aJ q),ns,by rw[vW];exact HWE.o,rfl,rfl,rfl,TN.o.eO HF.o.m.up.size,Tq.o,?_,?_,HPH.o⟩
    .rw[uQ];exact HF.o.on gN.o
    .exact GB.cN 0 HG.o.eD (λe=>by rw[e]at Qa;cases Qa) (by have:=HWE.o;omega)
   obtain⟨m,f,la,lc,ya,S,b,l,ns,hmw,rfl,rfl,rfl,o,IP,C,z,hp1⟩:=hrel;have Sv:O l<=7:=j8 z.ml (j8 KW E);have hwp:=PJ z.ne;have aU7:(m:Int)<100:=aU6 hmw hwp;have HAL:=Z λV (W:U wr [] V [])=>aE4 _ l (cL q) V (o.rd.on W) z.sm Sv hh;rcases Js hp1 with⟨hwi,rfl,rfl⟩|⟨hwi,f',s,rfl,hn,xy⟩
   .rw[hwi]at HAL;have HNT:=Z (S3 _ _ _ _ _ (Pg 0 (aJ q)) HPH.o);have yG:O ns=O bF.1:=by rw[<-IP,r8]
    have Tq:=Z IP;have Y5:=Z z;have E4:=Z yG;have p2:=Zc C.p 2;let⟨M,hMe⟩:=D (i7 wr.heap);have HMW:=Z (show i7 w.heap<=M by rw[<-hMe];exact C.m.up.size);have a5o:=Z (show i7 w.heap+1<M by rw[<-hMe];exact dG C.m.r0);have aXw:=Z (show gp<M by rw[<-hMe];exact C.r.1.lt gp rfl);have aXt:=Z (show∀g,i6 (jS xa (O q.head) xc)=H g->g<M by rw[<-hMe];exact λg hg=>C.h.1.lt g hg);have HXM:=Z (show∀x,x∈ns.map (·.2)->∀g,i6 x=H g->g<M by
     rw[<-hMe];intro x hx g hg;obtain⟨y,hy,rfl⟩:=AE.1 hx;exact(C.o y hy).1.1.lt g hg)
    have HME:=Z hMe;have HF:=Z C;have HL:=Z o;clear IP z C o hp1 hMe yG;let⟨B8,aQG⟩:=D ((lF.map λx=>hJ bF.2 x.1 0));have hNl:O B8=O lF:=by rw[<-aQG,r8]
    have dj:=Z aQG;have aR8:=Z hNl;clear aQG hNl;go_upto_region 30 with(go_at_call 101;apply(HAL.o _ (U.refl _ _)).dC;rintro w5 rfl);go_upto_region 32 with(fail);obtain⟨wo,rfl⟩:∃wo:aA,wo=wr:=⟨_,rfl⟩;go_loopg [19,20] (O lF) (λg s19 s20 wx=>∃(k:Nat) (na:Option cg) (nc:Nat) (dx:List (bE×aE)),k<=O lF/\g=O lF-k/\s20=X k/\s19=jS na k nc/\
     Ph q w (i7 w.heap+1) Bg (jS ha (O q.head) hc) (jS aa (O q.aD) ac) (jS ea (O (aJ q)) ec) (jS va (O (vars q)) vc) Bp gp (O (aJ q)) (jS xa (O q.head) xc) hl wx (jS ya (O bF.1) S) dx bF.2/\
     bN fN 0 3 1 wo wx (jS na k nc) (B8.take k)/\ND w wx (jS la (O lF) lc) (EX lF k)/\JX bF.1 (B8.take k) (dx.map (·.1))/\dx.map (·.2)=ns.map (·.2)/\M<=i7 wx.heap)
    .exact⟨0,K,0,ns,Y,rfl,rfl,rfl,HF.o,bN.nil _ _,by rw[jo];exact HL.o,by rw[Tq.o];exact JX.start HNT.o,rfl,by rw[<-HME.o];exact fV _⟩
    obtain⟨k,na,nc,dx,hk,rfl,rfl,rfl,hF4,Fu,XQ,MW,aKB,xD⟩:=hrel;by_cases F:k<O lF
    .let⟨hem,rN,rE,hNk,Xn,a1h,aBq⟩:=Jy Y5.o F (j8 KW E) dj.o;have aBe:O dx=O bF.1:=by have:=MW.1.len;rw[r8]at this;exact this.symm
     obtain⟨gl,cl,XI,-,-,E9,-,-⟩:=(show eV _ _ _ _ _ _ from XQ.1).block (by rw[tP];exact Sp (O9 _) F);obtain⟨gn,cn,hvn,-,-,hcn,-,-⟩:=(show eV _ _ _ _ _ _ from hF4.n.1).block (by rw[aBe];exact Sp (O9 _) rN);injection XI with x1 x2 x3;injection hvn with y1 y2 y3;subst x1 y1;clear x2 x3 y2 y3;have HRN:=Z (jp F);have l0:=E9 k 0 (by rw[tP];exact F) E;rw[Ao F,R (oj k),qZ]at l0;simp only[wP]at l0;have hrg:hJ (EX lF k) k sT=hJ lF k sT:=by rw[Ao F,R (oj k)]
     let⟨y,hy⟩:=D (hJ lF k sT);rw[hy]at l0 hem rN rE HRN hrg;have HRG:=Z hrg;clear hrg;have r0:=(show eV _ _ _ _ _ _ from hF4.r.1).cell (i:=y.1) (j:=0) (by rw[Y5.o.pm];exact hem) E;rw[yC,qZ]at r0;simp only[fN]at r0;let⟨t,ht⟩:=D (hJ bF.2 y.1 0);rw[ht]at r0 rN rE;let⟨LK,hLK⟩:=D (B8.take k);rw[hLK]at rE hNk Fu MW;clear hLK;have CT:=Z rE;have HNK:=Z hNk;have HY:=Z hy;have hwo:i7 wo.heap<=i7 wr.heap:=by rw[HME.o];exact xD
     have a1A:i7 w.heap<=i7 wo.heap:=by rw[HME.o];exact HMW.o
     have KX:(k+1)*8<=140737488355328:=aJ4 Xn;have hmx:k+1<=bH:=aJ8 Xn;have p2:=Zc hF4.p 2;have a4G:=Z (show∀x,x∈dx->∀g,i6 x.2=H g->g<M from λx hx g hg=>HXM.o x.2 (by rw[<-aKB];exact AE.2 ⟨x,hx,rfl⟩) g hg);have HF4:=Z hF4;have Y4:=Z Fu;have LN:=Z XQ;have R9:=Z MW;have a43:=Z aKB;have tz:=Z aBe;clear hF4 Fu XQ MW aKB aBe;clear ht hy E9 hcn rE hNk;go_upto_region 35 with(at_builtin;refine C2 QL rfl _ _ rfl Y4.o HF4.o.m.up a1A hwo Yr [It t] t Yr rfl (dE rfl) rfl (by rw[HNK.o];exact KX) (by rw[HNK.o];exact hmx) ?_;rintro g2 c2 w5 Yg-N-;have Sd:=Z Yg;have gN:=Z N;clear Yg N);have a:=HF4.o.BJ gN.o HMW.o (λb hb=>⟨by rw[<-HME.o];exact Y4.o.ge b hb,Y4.o.Fl b hb⟩) a5o.o aXw.o aXt.o a4G.o;have lU:=LN.o.eb gN.o (λb hb=>by rw[Y4.o.Fl b hb];decide);rw[HNK.o]at Sd|-;have p2:=Zc a.p 2;have l0:=gN.o.cell l0 (λhm=>dY (Y4.o.Fl _ hm) (by rw[LN.o.ty (k:=gl) rfl];decide));have r0:=gN.o.cell r0 (λhm=>by have G:=Y4.o.ge _ hm;have h2:=aXw.o;rw[HME.o]at G;exact oj _ (xF h2 G));obtain⟨gn',cn',a1E,-,-,hc5,nf,-⟩:=(show eV _ _ _ _ _ _ from a.n.1).block (by rw[tz.o];exact Sp (O9 _) rN);injection a1E with z1 z2 z3;injection z1 with z1;injection z1 with z1;subst z1;clear z2 z3;have n6:=hc5 t 6 (by rw[tz.o];exact rN) E;clear hc5;have Fe:=Z a;have pL:=Z lU;clear a lU;refine e7 99 (ez p2<|ez l0<|ey r0) (λQ=> ?_);refine ek [0,2,3,4,1,5,6,7,8,9,10,11] ?_;refine Zo 12 λvm hK=> ?_;go_simp;have dR:U w5 [gn] (hY w5 (Ad gn (t*7+6)) (nj qT)) [gn]:=qX w5 gn (t*7+6) _;have htn:=Fe.o.n.ty (k:=gn) rfl;have nb1:Bp∉[gn]:=λhm=>by
      have G:=fB Fe.o.p;rw[show Bp=gn by simpa using hm,htn]at G;exact dY G E
     have nb2:gl∉[gn]:=λhm=>by
      have G:=pL.o.ty (k:=gl) rfl;rw[show gl=gn by simpa using hm,htn]at G;exact dY G E
     have nb3:gp∉[gn]:=λhm=>by
      have G:=Fe.o.r.ty (k:=gp) rfl;rw[show gp=gn by simpa using hm,htn]at G;exact dY G E
     have Q:h8 (hY w5 (Ad gn (t*7+6)) (nj qT)).drew (Ad Bp 2)=H (eC gn 0 (O bF.1) S)/\h8 (hY w5 (Ad gn (t*7+6)) (nj qT)).drew (Ad gl (k*2))=H (X y.1)/\h8 (hY w5 (Ad gn (t*7+6)) (nj qT)).drew (Ad gp (y.1))=H (X t):=⟨dR.cell p2 nb1,dR.cell l0 nb2,dR.cell r0 nb3⟩;refine j5 ?_;clear hK vm;refine bD dJ ?_ _;try simp only[Act.put,UB,U9,X9]
     have c:=Fe.o.mark (zF oC) (t:=t) (by rw[tz.o];exact rN);have nR:=pL.o.eU dR (λg hg hm=>nb2 (by
      obtain rfl:gl=g:=by simpa[i6]using hg
      exact hm))
     have Qp:=Sd.o.eU dR (λg hg hm=>by
      have G:=Sd.o.ty hg;rw[show g=gn by simpa using hm,htn]at G;exact dY G E)
     have l0:=Q.2.1;have lf:=nR.1.free (g:=gl) rfl;have lf:(hY w5 (Ad gn (t*7+6)) (nj qT)).drew.frozen? (Ad gl (k*2))=rR:=lf (k*2);have c:=c.on (U.refl _ []).drew;have nR:=nR.drew;have Qp:=Qp.drew;have hs6:i7 wr.heap<=i7 (hY w5 (Ad gn (t*7+6)) (nj qT)).drew.heap:=j8 gN.o.size dR.size;let⟨w6,iA⟩:=D ((hY w5 (Ad gn (t*7+6)) (nj qT)).drew);rw[iA]at l0 lf c nR Qp hs6|-;have HF6:=Z c;have AZ:=Z nR;have fy:=Z Qp;have te:=Z hs6;clear c nR Qp hs6;clear iA Q dR nb1 nb2 nb3 p2 r0 n6 nf;go_wp2;have gD:U w6 [gl] (hY w6 (Ad gl (k*2)) (X k)) [gl]:=qX w6 gl (k*2) _;have yr:=HF6.o.left gD (λb hb=>by
      obtain rfl:b=gl:=eP hb;exact⟨AZ.o.2 b rfl,AZ.o.ty rfl⟩)
     have yQ:=AZ.o.EW (i:=k) (j:=0) (by rw[tP];exact F) E (k,y.2) (X k) (λj' uU=>by
      rw[HRG.o];match j',uU with
      |0,_=>rfl
      |1,_=>rfl)
     rw[<-HRN.o]at yQ;have hN7:=fy.o.eb gD (λb hb=>by
      obtain rfl:b=gl:=eP hb;rw[AZ.o.ty (k:=b) rfl];decide)
     have aU5:=R9.o.vO (t:=t) (by rw[r8,tz.o];exact rN);rw[<-CT.o]at aU5 hN7;go_roundg (O lF-(k+1))
     .exact⟨k+1,H (Ad g2 0),c2,dx.set t ({(hJ dx t sT).1 with mL:=qT},(hJ dx t sT).2),F,rfl,eY,rfl,yr,hN7,yQ,by rw[map_set,<-gQ];exact aU5,(YF (by rw[tz.o];exact rN)).ds a43.o,j8 (j8 xD te.o) gD.size⟩
     exact vj F
    .obtain rfl:k=O lF:=zo hk (zb F);have rE:B8.take (O lF)=B8:=by rw[zdH];rw[aR8.o];exact fV _
     rw[rE]at Fu MW;rw[Jh]at XQ;have Fq:0<O lF:=List.length_pos_iff.2 Y5.o.ne;have aP0:O lF<=7:=j8 Y5.o.ml (j8 KW E);have aKf:bN fN 0 3 1 wo wr (jS na (O B8) nc) B8:=by rw[aR8.o];exact Fu
     obtain⟨gw,cw,hvw,-,-,-,-,-⟩:=(show eV _ _ _ _ _ _ from aKf.1).block (by rw[aR8.o];exact Fq);injection hvw with x1 x2 x3;subst x1 x3;have hgw:=aKf.2 gw rfl;have aBe:O dx=O bF.1:=by have:=MW.1.len;rw[r8]at this;exact this.symm
     have a:Ph q w (i7 w.heap+1) Bg (jS ha (O q.head) hc) (jS aa (O q.aD) ac) (jS ea (O (aJ q)) ec) (jS va (O (vars q)) vc) Bp gw nc (jS xa (O q.head) xc) hl wr (jS ya (O bF.1) S) dx B8:=
      ⟨hF4.m,hF4.p,hF4.h,λe=>by have G:=aXt.o gw e;rw[<-HME.o]at G;exact oj _ (xF G hgw),hF4.n,
       λx hx=>⟨(hF4.o x hx).1,λe=>by have G:=HXM.o x.2 (by rw[<-aKB];exact AE.2 ⟨x,hx,rfl⟩) gw e;rw[<-HME.o]at G;exact oj _ (xF G hgw)⟩,
       aKf.eO (by rw[HME.o];exact HMW.o)⟩
     have aXk:dT (GB 0 (dx.map (·.1),B8) (oP lF) (O lF) 42):=Z (Y5.o.oP (dx.map (·.1),B8) (.inr MW.1) dj.o.symm);let⟨bEs,hR⟩:=D (fH 0 cI (dx.map (·.1),B8) (oP lF));have ft:=Z (show eS (oP lF)<=cI from ZA (by have:=aXk.o.wt;exact j8 (Nat.le_add_left _ _) this));have hla:O (oP lF)=O lF:=by rw[<-Jh,tP]
     have EP:=Z hla;have LN:=Z (show ND w wr (jS la (O (oP lF)) lc) (oP lF) by rw[hla];exact XQ);have Fe:=Z a;have HR:=Z hR;have a5B:=Z MW;have tz:=Z aBe;clear a hR MW aBe;clear hF4 Fu aKf XQ rE x2 hgw hla;go_wp2;go_loopg [15,21] (eS (oP lF)) (λg s15 s21 wx=>∃(f:Nat) (la:Option cg) (lc:Nat) (ya:Option cg) (S:Nat) (b:r6) (l:List ES) (ns:List (bE×aE)),g=eS l/\s15=jS la (O l) lc/\
      ND w wx (jS la (O l) lc) l/\ns.map (·.1)=b.1/\
      Ph q w (i7 w.heap+1) Bg (jS ha (O q.head) hc) (jS aa (O q.aD) ac) (jS ea (O (aJ q)) ec) (jS va (O (vars q)) vc) Bp gw nc (jS xa (O q.head) xc) hl wx (jS ya (O b.1) S) ns b.2/\
      GB 0 b l (O lF) 42/\eS l<=f/\fH 0 f b l=bEs)
     .exact⟨cI,la,lc,ya,S,(dx.map (·.1),B8),oP lF,dx,rfl,by rw[EP.o],LN.o,rfl,by rw[r8,tz.o];exact Fe.o,aXk.o,ft.o,HR.o⟩
     obtain⟨f,la,lc,ya,S,b,l,ns,rfl,rfl,o,IP,C,z,tT,hp1⟩:=hrel;have Sv:O l<=7:=j8 z.ml aP0;rcases Jp z.nd z.sm tT hp1 with⟨hn,hRe⟩|⟨f',s,rfl,hn,hwl,xy⟩
     .subst hRe;have Y0:=Z λV (W:U wr [] V [])=>PS _ l 0 V (o.rd.on W) z.sm Sv E z.nd;have aBq:O b.1<=41:=z.oE;have aP1:0<O l:=List.length_pos_iff.2 z.ne;obtain⟨gl,cl,XI,-,-,E9,-,-⟩:=(show eV _ _ _ _ _ _ from o.1).block aP1;injection XI with x1 x2 x3;subst x1;clear x2 x3;have l0:=E9 0 0 aP1 E;simp only[wP,zn,qZ]at l0;have hem:(hJ l 0 sT).1<O lF:=z.Kr _ (AE.2 ⟨_,bO aP1,rfl⟩);have YI:hJ b.2 (hJ l 0 sT).1 0<O b.1:=z.ok.C1 _ (by rw[z.pm];exact hem);let⟨y,hy⟩:=D ((hJ l 0 sT).1);rw[hy]at l0 hem YI;have r0:=(show eV _ _ _ _ _ _ from C.r.1).cell (i:=y) (j:=0) (by rw[z.pm];exact hem) E;rw[yC,qZ]at r0;simp only[fN]at r0;let⟨dQ,WH⟩:=D (hJ b.2 y 0);rw[WH]at r0 YI;have Mr:=Z (show dQ=hJ b.2 ((hJ l 0 sT).1) 0 by rw[hy,WH]);have a5j:=Z z.ok.below;have tw:=Z hn;have p3:=Zc C.p 3;have yG:O ns=O b.1:=by rw[<-IP,r8]
      have HF:=Z C;have Tq:=Z IP;have E4:=Z yG;clear C IP yG;clear o z E9 hy WH hn hp1 tT ft;go_upto_region 38 with(go_at_call 102;apply(Y0.o _ (U.refl _ _)).cX;rintro e w5 ⟨u,L,rfl,LH,lU,-,N⟩;obtain⟨sa,sc,rfl,-⟩:=LH.len;have TN:=Z LH;have gN:=Z N;have pL:=Z lU;clear LH N lU);obtain rfl:L=[]:=by
       have G:=pL.o;rw[tw.o]at G;exact List.head?_eq_none_iff.1 G
      let⟨l0,r0⟩:=gN.o.zc2 l0 r0;have a:=HF.o.on gN.o;have p3:=Zc a.p 3;have pf:=aN a.p;have Fe:=Z a;clear a;go_upto_region 42 with(fail);have hFN:=Fe.o.Yw (zF oC) (NT oC) dQ;let⟨w6,iA⟩:=D (hY w5 (Ad Bp 3) (X dQ));rw[iA]at hFN|-;have HFN:=Z hFN;have Pu:0<O b.1:=Sp (O9 _) YI;obtain⟨gn,cn,hvn,-,-,-,-,-⟩:=(show eV _ _ _ _ _ _ from HFN.o.n.1).block (by rw[E4.o];exact Pu);injection hvn with x1 x2 x3;subst x1;clear l0 r0 p3 pf iA hFN x2 x3 Y0 HF gN TN pL Fe;let⟨n,eB⟩:=D (O b.1);rw[eB]at YI aBq HFN E4 Pu;have wG:=Z eB;clear eB;go_upto_region 43 with(fail);go_loopg [22,23] n (λg s22 s23 wx=>∃(k:Nat) (K9:List (bE×aE)),k<=n/\g=n-k/\s22=X k/\
       K0 q w (i7 w.heap+1) Bg (jS ha (O q.head) hc) (jS aa (O q.aD) ac) (jS ea (O (aJ q)) ec) (jS va (O (vars q)) vc) Bp (jS xa (O q.head) xc) hl dQ wx (eC gn 0 n S) K9/\
       K9.map (·.1)=BQ b.1 (O bF.1) k)
      .exact⟨0,ns,Y,rfl,rfl,HFN.o,by rw[qn];exact Tq.o⟩
      obtain⟨k,K9,hk,rfl,rfl,c,KD⟩:=hrel;have aFj:O K9=n:=by
       have:=xE O KD;rw[r8,tQ,wG.o]at this;exact this
      obtain⟨p0,p1,p2,p3,p4⟩:=Z5 c.p;by_cases F:k<n
      .have hkN:k<O b.1:=by rw[wG.o];exact F
       have hx6:(hJ K9 k sT).1=hJ b.1 k sT:=by rw[<-gQ,KD,Dv hkN,R (oj k)]
       have n6:=(show eV _ _ _ _ _ _ from by have:=c.n.1;rw[aFj]at this;exact this).cell (i:=k) (j:=6) F E;have nf:=c.n.1.free (g:=gn) rfl;simp only[nS]at n6;rw[hx6]at n6;let⟨x,hx⟩:=D (hJ b.1 k sT);rw[hx]at n6 hx6;have HX:=Z hx;have Tl:=Z hx6;have fy:=Z KD;have HF6:=Z c;have aR9:=Z aFj;clear hx hx6 KD c aFj;go_upto_region 45 with(fail);go_cut [22] (λs22 wx=>s22=X k/\wx=(hY wr (Ad gn (k*7+6)) (nj (x.mL||decide (O bF.1<=k)))).drew)
       case first=>
        cases dz:x.mL with
        |true=>
         rw[dz]at n6;have Tk:=Z dz;clear dz;go_region;go_wp2;go_meet;exact⟨rfl,by rw[Tk.o,Bool.true_or]⟩
        |false=>
         rw[dz]at n6;have Tk:=Z dz;clear dz;by_cases zL:O bF.1<=k
         .go_region;go_wp2;go_meet;exact⟨rfl,by rw[Tk.o,Bool.false_or,kY zL]⟩
         .have a7F:=Nat.lt_of_not_le zL;go_region;go_wp2;go_meet;exact⟨rfl,by rw[Tk.o,Bool.false_or,kE zL]⟩
       case rest=>
        obtain⟨rfl,rfl⟩:=hcut;have yr:=(HF6.o.aOO (i:=k) (by rw[aR9.o];exact F) (x.mL||decide (O bF.1<=k))).on (U.refl _ []).drew;have hn7:(K9.set k ({(hJ K9 k sT).1 with mL:=x.mL||decide (O bF.1<=k)},(hJ K9 k sT).2)).map (·.1)=(BQ b.1 (O bF.1) k).set k {hJ b.1 k sT with mL:=(hJ b.1 k sT).mL||decide (O bF.1<=k)}:=by
         rw[map_set,fy.o,Tl.o,HX.o]
        have Sv:O (K9.set k ({(hJ K9 k sT).1 with mL:=x.mL||decide (O bF.1<=k)},(hJ K9 k sT).2))=n:=by rw[TS];exact aR9.o
        generalize (K9.set k ({(hJ K9 k sT).1 with mL:=x.mL||decide (O bF.1<=k)},(hJ K9 k sT).2))=ns7 at yr hn7 Sv;generalize (hY wr (Ad gn (k*7+6)) (nj (x.mL||decide (O bF.1<=k)))).drew=w7 at yr|-;clear p0 p1 p2 p3 p4 n6 nf;obtain⟨p0,p1,p2,p3,p4⟩:=Z5 yr.p;have nf:=yr.n.1.free (g:=gn) rfl;have n5:=(show eV _ _ _ _ _ _ from by have:=yr.n.1;rw[Sv]at this;exact this).cell (i:=k) (j:=5) F E;simp only[nS]at n5;have HF7:=Z yr;clear yr HF6 fy aR9 HX Tl;go_upto_region 47 with(fail);have Te:=HF7.o.xK (i:=k) (by rw[Sv];exact F) (-1);have hn8:(ns7.set k ({(hJ ns7 k sT).1 with bS:= -1},(hJ ns7 k sT).2)).map (·.1)=BO b.1 (O bF.1) k 0:=by
         rw[map_set,<-gQ];exact aEx hkN hn7
        generalize (ns7.set k ({(hJ ns7 k sT).1 with bS:= -1},(hJ ns7 k sT).2))=ns8 at Te hn8;generalize (hY w7 (Ad gn (k*7+5)) (X (-1)))=w8 at Te|-;have HF8:=Z Te;have HN8:=Z hn8;clear p0 p1 p2 p3 p4 nf n5 Te hn8 HF7 hn7 Sv;go_upto_region 48 with(fail);go_loopg [23] n (λg s23 wx=>∃(j:Nat) (ns9:List (bE×aE)),j<=n/\g=n-j/\s23=X j/\
         K0 q w (i7 w.heap+1) Bg (jS ha (O q.head) hc) (jS aa (O q.aD) ac) (jS ea (O (aJ q)) ec) (jS va (O (vars q)) vc) Bp (jS xa (O q.head) xc) hl dQ wx (eC gn 0 n S) ns9/\
         ns9.map (·.1)=BO b.1 (O bF.1) k j)
        .exact⟨0,ns8,Y,rfl,rfl,HF8.o,HN8.o⟩
        obtain⟨j,ns9,hj,rfl,rfl,hF9,nk⟩:=hrel;have hl9:O ns9=n:=by
         have:=xE O nk;rw[r8,Pe,wG.o]at this;exact this
        obtain⟨p0,p1,p2,p3,p4⟩:=Z5 hF9.p;by_cases FV:j<n
        .have hjN:j<O b.1:=by rw[wG.o];exact FV
         have Hw:=jx va xa K (O (vars q)) (O q.head) 0 vc xc 0 (eC gn 0 n S) dQ ns9 j k wr hF9.n.rd hF9.aS (by rw[hl9];exact FV);rw[<-gQ,nk,Vx hjN]at Hw;have X7:=Z Hw;have HF9:=Z hF9;have HN9:=Z nk;let⟨B,hB⟩:=D (eE (hJ b.1 j sT) k);rw[hB]at X7;have HB:=Z hB;clear Hw hF9 nk hB;cases B with
         |true=>
          go_upto_region 50 with(fail);go_wp2_with (go_at_call 105;apply X7.o.dC;intro IU yH;have Dq:=HF9.o.on yH;have p2:=Zc Dq.p 2;have nf:=Dq.n.1.free (g:=gn) rfl;have n5:=(show eV _ _ _ _ _ _ from by have:=Dq.n.1;rw[hl9]at this;exact this).cell (i:=k) (j:=5) F E;simp only[nS]at n5;have aRr:=Z Dq;clear yH Dq);go_roundg (n-(j+1))
          .exact⟨j+1,_,FV,rfl,eY,aRr.o.xK (i:=k) (by rw[hl9];exact F) j,by rw[map_set,<-gQ,HN9.o];exact aEy hkN HB.o⟩
          omega
         |false=>
          go_upto_region 50 with(fail);go_wp2_with (go_at_call 105;apply X7.o.dC;intro IU yH;have Dq:=HF9.o.on yH;have p2:=Zc Dq.p 2;have nf:=Dq.n.1.free (g:=gn) rfl;have n5:=(show eV _ _ _ _ _ _ from by have:=Dq.n.1;rw[hl9]at this;exact this).cell (i:=k) (j:=5) F E;simp only[nS]at n5;have aRr:=Z Dq;clear yH Dq);go_roundg (n-(j+1))
          .exact⟨j+1,ns9,FV,rfl,eY,aRr.o,by rw[HN9.o];exact aEz HB.o⟩
          omega
        .obtain rfl:j=n:=zo hj (zb FV);go_wp2;go_roundg (j-(k+1))
         .exact⟨k+1,ns9,F,rfl,eY,hF9,by rw[nk,<-wG.o];exact aBO hkN⟩
         exact vj F
      .obtain rfl:k=n:=zo hk (zb F);let⟨aPc,Qc,EJ⟩:=aE9 hs HCY.o HPH.o dj.o a5B.o HR.o Mr.o a5j.o (by rw[wG.o];exact YI);rw[wG.o]at aPc;rw[aPc]at KD;generalize l9 b.1 (O bF.1) B8=p at Qc EJ KD;have hor:=jv va xa K (O (vars q)) (O q.head) 0 vc xc 0 (eC gn 0 k S) dQ K9 (by rw[aFj];exact aBq) (by rw[KD];exact Qc) dQ (by rw[aFj];exact YI) wr c.n.rd c.aS;rw[KD]at hor;let⟨OL,hOL⟩:=D (fO p (dQ+1) dQ);rw[hOL]at hor;have HOR:=Z hor;have Y3:=Z hOL;have HF6:=Z c;have fy:=Z KD;have Fb:=Z EJ;clear hor hOL KD EJ Qc aPc c;go_upto_region 53 with(go_at_call 106;apply HOR.o.cX;rintro e w7 ⟨u,rfl,hO,gD⟩;obtain⟨oa,oc,rfl,-⟩:=hO.len;have yr:=HF6.o.on gD;have pf:=aN yr.p;have p4':=Zc yr.p 4;have HF7:=Z yr;have HO:=Z (hO.eO HF6.o.m.up.size);clear hO gD yr);let⟨w9,TV,hp9,hr9,aUR,hu9⟩:=HF7.o.done (Nat.le_succ _) (zF oC) (NT oC) HO.o;rw[TV];obtain⟨d0,d1,d2,d3,d4⟩:=Z5 hp9;obtain⟨r0,r1,r2,r3,r4⟩:=Z5 hr9;have rf:=aN hr9;have a4i:=Z aUR;have Fx:=Z hu9;clear TV hp9 hr9 aUR hu9 pf p4' p0 p1 p2 p3 p4;repeat(first|go_values|go_skip|go_guarded|go_step|go_upon)
       refine mY (aW (A:=⟨i7 w.heap+1,0,K⟩) (T:=53) rfl Yr (v:= .agg #[jS va (O (vars q)) vc,jS xa (O q.head) xc,eC gn 0 k S,X dQ,jS oa (O OL) oc]) (by go_simp)) rfl ?_;have hpq:(aB q).2=⟨vars q,hl,K9.map (·.1),dQ,OL⟩:=by
        rw[Fb.o,fy.o,HHL.o,Y3.o]
       exact⟨_,rfl,by rw[hpq];exact a4i.o,Fx.o⟩
     .have hf:=z.aGo hn Fq aP0;have AY:=Z λV (W:U wr [] V [])=>Ly (C.on W).n (C.on W).r (o.rd.on W) (C.on W).m.up IP z hf aP0;have R9:=Z λV (W:U wr [] V [])=>NS _ l s V (o.rd.on W) z.sm Sv hf.cut;have Y0:=Z λV (W:U wr [] V [])=>PS _ l 0 V (o.rd.on W) z.sm Sv E z.nd;have LL:=Z (z.step 0 hn);have HFC:=Z hf;have TL:=Z z.sm;have HN:=Z hn;have HP2:=Z xy;have HWL:=Z hwl;have Tq:=Z IP;have HF:=Z C;have HL:=Z o;clear z hn hp1 xy IP hwl C o hf;go_upto_region 38 with(first
       |(go_at_call 102;apply(Y0.o _ (U.refl _ _)).cX;rintro e w5 ⟨u,L,rfl,LH,lU,-,N⟩;obtain⟨sa,sc,rfl,-⟩:=LH.len;have TN:=Z LH;have gN:=Z N;have pL:=Z lU;clear LH N lU))
      obtain⟨rst,aPI⟩:∃r,L=s::r:=ZM115;subst aPI;obtain⟨gs,cs0,hvs,hog,Hu,zM,-,-⟩:=(show eV _ _ _ _ _ _ from TN.o.1).block (gz _);injection hvs with x1 x2 x3;subst x1;have et:=TN.o.ty (k:=gs) rfl;have aPR:=ne0 s rst;have s0:=zM 0 0 (gz _) E;have s1:=zM 0 1 (gz _) E;have s2:=zM 0 2 (gz _) E;have s3:=zM 0 3 (gz _) E;simp only[zn,vW,qZ,B2,KK]at s0 s1 s2 s3;have a:=HF.o.on gN.o;have p2:=Zc a.p 2;have aFt:0<O (s::rst):=gz _;let⟨n1,YK⟩:=D (O (s::rst));rw[YK]at aPR aFt|-;have Fe:=Z a;have Mq:=Z et;clear zM hog x2 x3 a TN pL et YK Hu;go_upto_region 39 with(fail);refine e7 9 (ez p2<|ez s0<|ez s1<|ez s2<|ey s3) (λQ=> ?_);refine ek [0,2,3,4,1,5,6] ?_;refine Zo 7 λvm hK=> ?_;go_simp;go_at_call 103;have kP:U w5 [] w5.drew []:=(U.refl w5 []).drew;have c:=Fe.o.on kP;apply(AY.o _ gN.o.drew).cX;rintro e w7 ⟨u,x,rfl,hn7,hr7,hx7,P,gD,nh⟩;dsimp only;have V3:mU w5.drew gs=H 218:=Mq.o;replace Q:=P.zh5 Q (c.BE (fB c.p) E E) (c.BE V3 E E) (c.BE V3 E E) (c.BE V3 E E) (c.BE V3 E E);let⟨h71,h72,h73⟩:=c.xI P (zF oC);have Te:=c.put P (zF oC) (NT oC) hn7 (c.ov P hx7) hr7;have nR:=(HL.o.on gN.o).on kP;have yQ:=nR.eb P (λk hk he=>by
       exact c.BE he E E hk)
      obtain⟨ua,uc,rfl,-⟩:=hn7.len;have uT:O (ns++[(oF 0 b.2 l s,x)])=O (gK 0 b l s).1:=by rw[<-nh,r8]
      rw[uT]at Te|-;have f2:=Zc h72 2;have ff:=aN h72;have GY:gs≠Bp:=λe=>by
       have G:=fB c.p;rw[<-e,V3]at G;exact dY G E
      have jB:=qX w7 Bp 2 (jS ua (O (gK 0 b l s).1) uc);have I1:=yQ.set h72 E jB;let⟨nb,TW⟩:=D (O (gK 0 b l s).1);rw[TW]at Te I1 jB|-;have s0:=jB.cell Q.2.1 (eP GY);have s1:=jB.cell Q.2.2.1 (eP GY);have s2:=jB.cell Q.2.2.2.1 (eP GY);have s3:=jB.cell Q.2.2.2.2 (eP GY);have HF8:=Z Te;have Y8:=Z I1;have HNB:=Z TW;have aR7:=Z nh;let⟨w8,DH⟩:=D (hY w7 (Ad Bp 2) (jS ua nb uc));rw[DH]at HF8 Y8 s0 s1 s2 s3;have HW8:=Z DH;clear h71 h72 h73 Te nR yQ I1 jB P gD hn7 hr7 hx7 c V3 kP TW nh uT DH Fe HF HL AY Y0;refine j5 ?_;clear hK vm;refine I 8 ?_;refine Zo 9 λvm hK=> ?_;go_simp;refine LP ?_;clear hK vm;rw[HW8.o];clear Q f2 ff p2;have hHM:=R9;clear R9;have R9:=Z (NS _ l s w8 Y8.o.rd TL.o Sv HFC.o.cut);clear hHM;unfold kQ at R9;go_wp2_with (go_at_call 104;apply R9.o.cX;rintro e w9 ⟨u9,rfl,hO9,rY⟩;obtain⟨la9,lc9,rfl,-⟩:=hO9.len;have HO9:=Z hO9;have Fx:=Z rY;clear hO9 rY);go_roundg (eS (make l s))
      .exact⟨f',la9,lc9,ua,uc,gK 0 b l s,make l s,_,rfl,rfl,HO9.o.eO HF8.o.m.up.size,aR7.o,by rw[HNB.o];exact HF8.o.on Fx.o,LL.o,HWL.o,HP2.o⟩
      exact HFC.o.wt
   .rw[hwi]at HAL;have hf:=z.aGo hn Qa (j8 KW E);have AY:=Z λV (W:U wr [] V [])=>Ly (C.on W).n (C.on W).r (o.rd.on W) (C.on W).m.up IP z hf (j8 KW E);have R9:=Z λV (W:U wr [] V [])=>NS _ l s V (o.rd.on W) z.sm Sv hf.cut;have Y0:=Z λV (W:U wr [] V [])=>PS _ l (cL q) V (o.rd.on W) z.sm Sv hh z.nd;have LL:=Z (z.step 0 hn);have HFC:=Z hf;have TL:=Z z.sm;have HN:=Z hn;have HP2:=Z xy;have Tq:=Z IP;have HF:=Z C;have HL:=Z o;clear z hn hp1 xy IP C o hf;go_upto_region 25 with(first
     |(go_at_call 102;apply(Y0.o _ (U.refl _ _)).cX;rintro e w5 ⟨u,L,rfl,LH,lU,-,N⟩;obtain⟨sa,sc,rfl,-⟩:=LH.len;have TN:=Z LH;have gN:=Z N;have pL:=Z lU;clear LH N lU)
     |(go_at_call 101;apply(HAL.o _ (U.refl _ _)).dC;rintro w5 rfl))
    obtain⟨rst,aPI⟩:∃r,L=s::r:=ZM115;subst aPI;obtain⟨gs,cs0,hvs,hog,Hu,zM,-,-⟩:=(show eV _ _ _ _ _ _ from TN.o.1).block (gz _);injection hvs with x1 x2 x3;subst x1;have et:=TN.o.ty (k:=gs) rfl;have aPR:=ne0 s rst;have s0:=zM 0 0 (gz _) E;have s1:=zM 0 1 (gz _) E;have s2:=zM 0 2 (gz _) E;have s3:=zM 0 3 (gz _) E;simp only[zn,vW,qZ,B2,KK]at s0 s1 s2 s3;have a:=HF.o.on gN.o;have p2:=Zc a.p 2;have aFt:0<O (s::rst):=gz _;let⟨n1,YK⟩:=D (O (s::rst));rw[YK]at aPR aFt|-;have Fe:=Z a;have Mq:=Z et;clear zM hog x2 x3 a TN pL et YK Hu;go_upto_region 27 with(fail);refine e7 9 (ez p2<|ez s0<|ez s1<|ez s2<|ey s3) (λQ=> ?_);refine ek [0,2,3,4,1,5,6] ?_;refine Zo 7 λvm hK=> ?_;go_simp;go_at_call 103;have kP:U w5 [] w5.drew []:=(U.refl w5 []).drew;have c:=Fe.o.on kP;apply(AY.o _ gN.o.drew).cX;rintro e w7 ⟨u,x,rfl,hn7,hr7,hx7,P,gD,nh⟩;dsimp only;have V3:mU w5.drew gs=H 218:=Mq.o;replace Q:=P.zh5 Q (c.BE (fB c.p) E E) (c.BE V3 E E) (c.BE V3 E E) (c.BE V3 E E) (c.BE V3 E E);let⟨h71,h72,h73⟩:=c.xI P (zF oC);have Te:=c.put P (zF oC) (NT oC) hn7 (c.ov P hx7) hr7;have nR:=(HL.o.on gN.o).on kP;have yQ:=nR.eb P (λk hk he=>by
     exact c.BE he E E hk)
    obtain⟨ua,uc,rfl,-⟩:=hn7.len;have uT:O (ns++[(oF 0 b.2 l s,x)])=O (gK 0 b l s).1:=by rw[<-nh,r8]
    rw[uT]at Te|-;have f2:=Zc h72 2;have ff:=aN h72;have GY:gs≠Bp:=λe=>by
     have G:=fB c.p;rw[<-e,V3]at G;exact dY G E
    have jB:=qX w7 Bp 2 (jS ua (O (gK 0 b l s).1) uc);have I1:=yQ.set h72 E jB;let⟨nb,TW⟩:=D (O (gK 0 b l s).1);rw[TW]at Te I1 jB|-;have s0:=jB.cell Q.2.1 (eP GY);have s1:=jB.cell Q.2.2.1 (eP GY);have s2:=jB.cell Q.2.2.2.1 (eP GY);have s3:=jB.cell Q.2.2.2.2 (eP GY);have HF8:=Z Te;have Y8:=Z I1;have HNB:=Z TW;have aR7:=Z nh;let⟨w8,DH⟩:=D (hY w7 (Ad Bp 2) (jS ua nb uc));rw[DH]at HF8 Y8 s0 s1 s2 s3;have HW8:=Z DH;clear h71 h72 h73 Te nR yQ I1 jB P gD hn7 hr7 hx7 c V3 kP TW nh uT DH Fe HF HL AY Y0;refine j5 ?_;clear hK vm;refine I 8 ?_;refine Zo 9 λvm hK=> ?_;go_simp;refine LP ?_;clear hK vm;rw[HW8.o];clear Q f2 ff p2;have hHM:=R9;clear R9;have R9:=Z (NS _ l s w8 Y8.o.rd TL.o Sv HFC.o.cut);clear hHM;unfold kQ at R9;go_wp2_with (go_at_call 104;apply R9.o.cX;rintro e w9 ⟨u9,rfl,hO9,rY⟩;obtain⟨la9,lc9,rfl,-⟩:=hO9.len;have HO9:=Z hO9;have Fx:=Z rY;clear hO9 rY);go_roundg (100-(m+1))
    .exact⟨m+1,f',la9,lc9,ua,uc,gK 0 b l s,make l s,_,aJB hmw HFC.o.wt,rfl,eY,rfl,HO9.o.eO HF8.o.m.up.size,aR7.o,by rw[HNB.o];exact HF8.o.on Fx.o,LL.o,HP2.o⟩
    exact aIy aU7
theorem ZM93{P:Prop}(h:P:=by
  go_wp2;refine mY (aW (A:=⟨i7 w.heap+1,0,K⟩) (T:=75) rfl Yr (v:=FR) (by go_simp)) rfl ?_;exact⟨rfl,gN⟩):P:=h
structure aN0(w0 w:aA)(v:aE)(p:vZ):Prop where
 ex:∃v0 v1 v2 v4 ns,v= .agg #[v0,v1,v2,mj mn (p.dQ:Int),v4]/\wU w0 w v0 p.vars/\iC w0 w v1 p.head/\Ey w0 w v2 ns/\ns.map (·.1)=p.aI/\iC w0 w v4 p.tops
abbrev FR:aE:= .agg #[jS K 0 0,jS K 0 0,jS K 0 0,mj mn 0,jS K 0 0]
theorem aBA(hv av:aE)(ps:List (dO×aE))(q:bK)(w:aA)(h:ED w hv av ps q)(jD:yT hv)(hs:fY q≠0):
  aK prog 33 #[.agg #[mX q.name,hv,av]] w λe w'=>e=mi (mr #[FR,mj mn (fY q)])/\U w [] w' []:=by
 have g:(fY q !=0)=qT:=by rw[bne_iff_ne];exact hs
 obtain⟨ha,C,rfl,-⟩:=h.head.len;obtain⟨p,m,rfl,-⟩:=h.aD.len;have c:=h.len;rw[c]at h|-;let⟨wa,i⟩:=D (i5 (i5 w (kd #[mX q.name,jS ha (O q.head) C,jS p (O q.aD) m] 25)) (kd #[cR,cR,cR,X 0,cR] 75));have j:U w [] wa []:=i▸((U.refl w []).alloc _).alloc _;have N:uD wa w.heap.size #[mX q.name,jS ha (O q.head) C,jS p (O q.aD) m] 25:=by rw[<-i];exact lP ..
 have f:uD wa (i7 w.heap+1) #[cR,cR,cR,X 0,cR] 75:=by rw[<-i];exact lO ..
 obtain⟨b0,V,b2⟩:=Z3 N;have a:=Z λr (F:U w [] r [])=>aO6 _ _ ps q r (h.on F) jD hs;generalize Q:fY q=s at g a|-;go_in;go_upto_region 2 with(go_at_call 67;apply(a.o _ j).dC;intro w2 n;have G:=(j.ds n);have k:=Z (n.aC f J));let⟨wg,B⟩:=D (i5 w2 (kd #[X 0,cR] 64));have l:=Za B;have d:=l.aC k J;have L:=(G.ds l);obtain⟨e0,P,e2,S,e4⟩:=Z5 d;have ef:=aN d;have el:=iP (dG d);let⟨W,o⟩:=Gr (x:=cR) (y:=cR) (z:=cR) (u:=X 0) (v:=cR) d;have gN:=(L.bJ o (λb g=>by simp at g;omega));rw[B];exact ZM93
variable{pa:Int}{w1 w2:aA}
section
section
variable{w0 w w':aA}{bb:Nat}{nv sv pv:aE}{ns:List (bE×aE)}{ss pr:List Nat}
theorem LB.xe{sv':aE}{x:Nat}(h:LB w0 w bb nv sv pv ns ss pr)(d:U w sv.ownBlock.toList w' S')(hs:yS w0 w' sv' (ss++[x])):
  LB w0 (hY w' ⟨bb,1,K⟩ sv') bb nv sv' pv ns (ss++[x]) pr:=by
 have ne:∀t,t≠65->∀b,b∈sv.ownBlock.toList->mU w b≠H t:=λt j b l=>by rw[h.s.Fl b l];exact λe=>j (by injection e with e;exact e.symm)
 have a:=d.cF h.cF (ne _ E);have c:=qX w' bb 1 sv';exact⟨aF (i:=1) _ a,(h.n.eb d (ne _ E)).set a E c,λy g=>((h.o y g).eb d (ne _ E)).set a E c,hs.set a E c,(h.p.eb d (ne _ E)).set a E c,h.ne,h.bge⟩
theorem LB.xg{pv':aE}{x:Nat}(h:LB w0 w bb nv sv pv ns ss pr)(g:U w pv.ownBlock.toList w' pv'.ownBlock.toList)(r:iC w0 w' pv' (pr++[x])):
  LB w0 (hY w' ⟨bb,2,K⟩ pv') bb nv sv pv' ns ss (pr++[x]):=by
 have ne:∀t,t≠3->∀b,b∈pv.ownBlock.toList->mU w b≠H t:=λt m b a=>by rw[h.p.Fl b a];exact λe=>m (by injection e with e;exact e.symm)
 have c:=g.cF h.cF (ne _ E);have j:=qX w' bb 2 pv';refine⟨aF (i:=2) _ c,(h.n.eb g (ne _ E)).set c E j,λy d=>((h.o y d).eU g λb a u=>h.ne y d b a (eP u)).set c E j,(h.s.eb g (ne _ E)).set c E j,r.set c E j,λy d b a q=> ?_,h.bge⟩;rcases g.fresh b (by rw[q];simp)with l|l
 .exact h.ne y d b a (eP l)
 .have:=(h.o y d).1.lt b a;omega
theorem LB.xO{nv:aE}{ns:List (bE×aE)}(hs:i7 w0.heap<=i7 w.heap)(e:Rt w0 w nv ns)(d:∀x,x∈ns->iC w0 w x.2 x.1.vars):LB w0 (i5 w (kd #[nv,jS K 0 0,jS K 0 0] 162)) w.heap.size nv (jS K 0 0) (jS K 0 0) ns [] []:=by
 have a:=(U.refl w []).alloc (kd #[nv,cR,cR] 162);exact⟨mE w _,e.on a,λx c=>(d x c).on a,bN.nil _ _,bN.nil _ _,λx c b g h=>by grind [i6],hs⟩
end
theorem aJ9(h:∀x,x∈l->x.2<2^n)(s:cU):∀x,x∈make l s->x.2<2^n:=λx a=>by
 grind [make,C8]
theorem Jr{eb:Nat}:∀(f:Nat) (b:r6) (l:List ES) (c:r6) (k:List ES),(∀x,x∈l->x.2<2^n)->dA pa eb f b l=H (c,k)->∀x,x∈k->x.2<2^n
 |0,b,l,c,k,h,hp=>by
  grind [dA]
 |f+1,b,l,c,k,h,hp=>by
  unfold dA at hp;split at hp
  .grind
  .split at hp
   .cases hp
   .exact Jr f _ _ c k (aJ9 h _) hp
theorem Yn{eb f:Nat}{b c:r6}{k:List ES}(a:pA (aJ q) (O (vars q)))(e:dA pa eb f b (cD (aJ q))=H (c,k))(l:O k<=7):pA (k.map (·.2)) (O (vars q)):=
 ⟨a.hv,BC,λs hs=>by
  obtain⟨x,g,rfl⟩:=AE.1 hs;refine Jr f b _ c k (λy d=> ?_) e x g;let⟨i,j⟩:=pS.1 (show(y.1,y.2)∈_ from d);rw[j];exact a.xJ _ (bO i)⟩
theorem U.yW{w:aA}{T T':List Nat}(h:U w S w1 S')(k:U w1 T w2 T')(e:∀b,b∈T->b∈S\/i7 w.heap<=b):U w S w2 S:=
 ⟨k.os.ds h.os,k.tape.ds h.tape,k.output.ds h.output,j8 h.size k.size,λi d c=>(k.block i (xF d h.size) (λa=>(e i a).elim c (λg=>Y))).ds (h.block i d c),λ_ a=> .inl a⟩
structure zt(w3 w7:aA)(cb M:Nat)(nv sv pv:aE)(ns:List (bE×aE))(ss pr L:List Nat)(w:aA):Prop where
 b:LB w3 w cb nv sv pv ns ss pr
 t:mC w7 w M L
 u:U w7 [cb] w [cb]
 fs:∀b,b∈sv.ownBlock.toList->i7 w7.heap<=b
 fp:∀b,b∈pv.ownBlock.toList->i7 w7.heap<=b
section
variable{w3 w7 w w':aA}{cb M:Nat}{nv sv pv sv' pv':aE}{ns:List (bE×aE)}{ss pr L:List Nat}{x:Nat}
theorem zt.on(h:zt w3 w7 cb M nv sv pv ns ss pr L w)(a:U w [] w' S'):zt w3 w7 cb M nv sv pv ns ss pr L w':=
 ⟨h.b.on a,h.t.on a,h.u.yW a J,h.fs,h.fp⟩
theorem zt.xe(h:zt w3 w7 cb M nv sv pv ns ss pr L w)(c:U w sv.ownBlock.toList w' sv'.ownBlock.toList)(hs:yS w3 w' sv' (ss++[x])):zt w3 w7 cb M nv sv' pv ns (ss++[x]) pr L (hY w' ⟨cb,1,K⟩ sv'):=by
 have e:=qX w' cb 1 sv';have j:=c.cF h.b.cF (λb a=>by rw[h.b.s.Fl b a];decide);have g:=h.t.eU c (λd=>h.t.ne (h.b.s.Fl M d) rfl);exact⟨h.b.xe c hs,g.eU e (λd=>g.ne (fB j) (eP d)),(h.u.yW c λb a=> .inr (h.fs b a)).yW e (λb a=> .inl a),λb a=>(c.fresh b a).elim (h.fs b) (λi=>j8 h.u.size i),h.fp⟩
theorem zt.xg(h:zt w3 w7 cb M nv sv pv ns ss pr L w)(c:U w pv.ownBlock.toList w' pv'.ownBlock.toList)(l:iC w3 w' pv' (pr++[x])):zt w3 w7 cb M nv sv pv' ns ss (pr++[x]) L (hY w' ⟨cb,2,K⟩ pv'):=by
 have e:=qX w' cb 2 pv';have j:=c.cF h.b.cF (λb a=>by rw[h.b.p.Fl b a];decide);have g:=h.t.eU c (λd=>h.t.ne (h.b.p.Fl M d) rfl);exact⟨h.b.xg c l,g.eU e (λd=>g.ne (fB j) (eP d)),(h.u.yW c λb a=> .inr (h.fp b a)).yW e (λb a=> .inl a),h.fs,λb a=>(c.fresh b a).elim (h.fp b) (λi=>j8 h.u.size i)⟩
theorem zt.put(h:zt w3 w7 cb M nv sv pv ns ss pr L w)(d:U w [M] w' [M])(g:mC w7 w' M (L++[x])):zt w3 w7 cb M nv sv pv ns ss pr (L++[x]) w':=by
 have a:∀t,∀k,k∈[M]->mU w k≠H t:=λt k a e=>by
  rw[show k=M by simpa using a,h.t.ty]at e;cases e
 exact⟨h.b.eb d λk c=>⟨a _ k c,a _ k c,a _ k c,a _ k c⟩,g,h.u.yW d λb i=> .inr ((show b=M by simpa using i)▸h.t.ge),h.fs,h.fp⟩
end
theorem Of(hv av:aE)(ps:List (dO×aE))(q:bK)(w:aA)(h:ED w hv av ps q)(jD:yT hv)(hs:fY q=0)(G:nK q=qT):
  aK prog 33 #[.agg #[mX q.name,hv,av]] w λe w'=>e=mi (mr #[FR,mj mn 161])/\U w [] w' []:=by
 obtain⟨ha,Q,rfl,-⟩:=h.head.len;obtain⟨L,o,rfl,-⟩:=h.aD.len;have g:=h.len;rw[g]at h|-;let⟨wa,C⟩:=D (i5 (i5 w (kd #[mX q.name,jS ha (O q.head) Q,jS L (O q.aD) o] 25)) (kd #[cR,cR,cR,X 0,cR] 75));have m:U w [] wa []:=C▸((U.refl w []).alloc _).alloc _;have P:uD wa w.heap.size #[mX q.name,jS ha (O q.head) Q,jS L (O q.aD) o] 25:=C▸lP ..;have fR:uD wa (i7 w.heap+1) #[cR,cR,cR,X 0,cR] 75:=C▸lO ..;obtain⟨b0,b1,b2⟩:=Z3 P;let⟨_,ha6,Hp,p8,_,iD⟩:=gG hs;have S:=(qQ hs);have KW:O (aJ q)<=6:=by simp only[aJ,r8];omega
 have p:=Z λf (W:U w [] f [])=>aMV _ _ ps q f (h.on W) jD hs;go_in;go_upto_region 2 with(go_at_call 67;apply(p.o _ m).cX;rintro e w2 ⟨ev,rfl,k,c⟩;obtain⟨V,ec,rfl,-⟩:=k.len;have eQ:=(m.ds c);have d:=Z (c.aC P J);have r:=Z (c.aC fR J);have n:=Z (k.eO m.size));let⟨Bg,N⟩:=D (i7 w2.heap);let⟨wg,F⟩:=D (i5 w2 (kd #[X (O (vars q):Int),jS V (O (aJ q)) ec] 64));have i:=Za F;have Tn:=(eQ.ds i);have l:=Ze F N;have d:=Z (i.aC d J);have r:=Z (i.aC r J);have B:=(n.on i);obtain⟨g0,g1⟩:=Z2 l;have a:=(TF _ (aJ q) (O (vars q)) wg B.rd S);rw[show((run 0 cI (cD (aJ q))).2.any λx=>decide (x.2≠0))=nK q from rfl]at a;rw[F,N];rw[G]at a;go_upto_region 6 with(go_at_call 68;apply a.dC;intro w3 c;have iF:=(Tn.ds c);have j:=c.aC r J);obtain⟨e0,e1,e2,e3,e4⟩:=Z5 j;have ef:=aN j;have el:=iP (dG j);let⟨h5,cO⟩:=Gr (x:=cR) (y:=cR) (z:=cR) (u:=X 0) (v:=cR) j;have gN:=(iF.bJ cO (λb hb=>by simp at hb;omega));exact ZM93
end
variable{tops:List Nat}{low:Nat}
def Un(N:List bE)(low:Nat)(tops:List Nat)(i:Nat):bE:={hJ N i sT with mL:=decide (low<=i)||decide (i∈tops)}
def EV(N:List bE)(low:Nat)(tops:List Nat)(k:Nat):List bE:=(List.range (O N)).map λi=>if i<k then Un N low tops i else hJ N i sT
theorem oL(N:List bE)(low:Nat)(tops:List Nat)(k:Nat):O (EV N low tops k)=O N:=by simp[EV]
theorem vH{k:Nat}(a:i<O N):hJ (EV N low tops k) i sT=if i<k then Un N low tops i else hJ N i sT:=by
 unfold EV;rw[gV,So,List.getElem?_range a];rfl
theorem ip(N:List bE)(low:Nat)(tops:List Nat):EV N low tops 0=N:=by
 refine I9 (oL _ _ _ _) λi a=> ?_;rw[oL]at a;rw[vH a,R Y]
theorem iq{k:Nat}(c:k<O N):EV N low tops (k+1)=(EV N low tops k).set k (Un N low tops k):=by
 refine I9 (by simp[oL]) λi a=> ?_;rw[oL]at a;rw[vH a,uW,oL];by_cases e:k=i
 .subst e;rw[bW Y,bW ⟨rfl,c⟩]
 .by_cases h:i<k
  .rw[bW (show i<k+1 by omega),R (λb:k=i/\_=>e b.1),vH a,bW h]
  .rw[R (show¬i<k+1 by omega),R (λb:k=i/\_=>e b.1),vH a,R h]
theorem X2(N:List bE)(low:Nat)(tops:List Nat)(k:Nat):kN N (EV N low tops k):=by
 unfold kN;apply Co (by simp[oL]);intro i a c;rw[r8]at a;rw[Ct,Ct];have b:=vH (low:=low) (tops:=tops) (k:=k) a;rw[gV,kU (by rw[oL];exact a),gV,kU a,O8,O8]at b;rw[b];split
 .unfold Un;rw[gV,kU a];rfl
 .rfl
theorem Mb{b:r6}{s:cU}(h:∀x,x∈b.1->x.bS= -1):∀x,x∈(gK (-1) b l s).1->x.bS= -1:=λx a=>by
 unfold gK at a;split at a<;>(rcases yU.1 a with a|a<;>first|exact h x a|(rw[Gc.1 a]))
theorem Aw{eb:Nat}:∀(n:Nat) (b:r6) (l:List ES) (c:r6) (k:List ES),(∀x,x∈b.1->x.bS= -1)->dA (-1) eb n b l=H (c,k)->∀x,x∈c.1->x.bS= -1
 |0,b,l,c,k,h,hp=>by
  unfold dA at hp;split at hp
  .injection hp with hp;injection hp with hp _;exact hp▸h
  .cases hp
 |n+1,b,l,c,k,h,hp=>by
  unfold dA at hp;split at hp
  .injection hp with hp;injection hp with hp _;exact hp▸h
  .split at hp
   .cases hp
   .exact Aw n _ _ c k (Mb h) hp
theorem Au:∀(n:Nat) (b:r6) (l:List ES),(∀x,x∈b.1->x.bS= -1)->∀x,x∈(fH (-1) n b l).1.1->x.bS= -1
 |0,b,l,h=>h
 |n+1,b,l,h=>by
  unfold fH;cases next l 0 with
  |none=>exact h
  |some s=>exact Au n _ _ (Mb h)
theorem lw(es:List Nat):∀x,x∈(cN (-1) es).1->x.bS= -1:=λx a=>by
 obtain⟨i,_,rfl⟩:=AE.1 a;rfl
theorem aAX{k:Nat}(h:∀x,x∈N->x.bS= -1):∀x,x∈EV N low tops k->x.bS= -1:=λx c=>by
 obtain⟨i,a,rfl⟩:=AE.1 c;have a:=wW.1 a;have b:=h (hJ N i sT) (by rw[gV,kU a];exact gu a);split
 .exact b
 .exact b
theorem aAY(a:i<O N):(hJ (EV N low tops (O N)) i sT).mL=(decide (low<=i)||decide (i∈tops)):=by
 rw[vH a,bW a];rfl
theorem pp(N:List bE)(low:Nat)(tops:List Nat):pV (EV N low tops (O N)) (O N)=l9 N low tops:=by
 have:=pq (low:=low) (tops:=tops) (X2 N low tops (O N)) λi a=>aAY a;rwa[oL]at this
theorem ZM31{P:Prop}(h:P:=by
  have HSC:=Z (hN.cell (i:=k) (j:=6) G9 E ({(hJ ms k sT).1 with mL:=tv}) (nj tv) (λj' uU=>by
   match j',uU with
   |0,_=>rfl
   |1,_=>rfl
   |2,_=>rfl
   |3,_=>rfl
   |4,_=>rfl
   |5,_=>rfl
   |6,_=>rfl) rfl)
  have uf:=Z (gP tv IM);have tF:=Z (YF (d:=sT) (x:=({(hJ ms k sT).1 with mL:=tv}:bE)) G9);have fw:=Z (hU.setCell (a:=Ad gn (k*7+6)) (.inl J) (nj tv));subst tv;clear gP hN hU G9 IM;go_wp2;go_roundg (O S8-(k+1))
  .exact⟨k+1,_,aKN,rfl,eY,uf,Z (by rw[tF.o];exact EE.o),HSC.o,fw.o⟩
  omega):P:=h
def aQw(q:bK)(w:aA):Option (r6×List ES)->cc->aA->Prop
 |none,e,w'=>e=mi (mr #[FR,mj mn 170])/\U w [] w' []
 |some _,e,w'=>∃v,e=mi (mr #[v,mj mn 0])/\aN0 w w' v (aB q).2/\U w [] w' []
theorem Az(hv av:aE)(ps:List (dO×aE))(q:bK)(w:aA)(h:ED w hv av ps q)(jD:yT hv)(hw:Tz w)(hs:fY q=0)(hcy:nK q=rR){bEs:Option (r6×List ES)}(hR:dA (-1) (cL q) cI (cN (-1) (aJ q)) (cD (aJ q))=bEs):
  aK prog 33 #[.agg #[mX q.name,hv,av]] w λe w'=>aQw q w bEs e w':=by
 obtain⟨ha,hc,rfl,-⟩:=h.head.len;obtain⟨aa,ac,rfl,-⟩:=h.aD.len;have hlen:=h.len;rw[hlen]at h|-;have us:=Z h;let⟨wa,dM⟩:=D (i5 (i5 w (kd #[mX q.name,jS ha (O q.head) hc,jS aa (O q.aD) ac] 25)) (kd #[cR,cR,cR,X 0,cR] 75));have cV:U w [] wa []:=dM▸((U.refl w []).alloc _).alloc _;have lC:wa.heap[i7 w.heap]? =H (kd #[mX q.name,jS ha (O q.head) hc,jS aa (O q.aD) ac] 25 (0,0)):=by rw[<-dM];exact lP ..
 have fR:wa.heap[i7 w.heap+1]? =H (kd #[cR,cR,cR,X 0,cR] 75 (0,0)):=by rw[<-dM];exact lO ..
 obtain⟨b0,b1,b2⟩:=Z3 lC;have yM:=Z cV;have j7:=Z fR;have U7:=Z lC;let⟨_,ha6,Hp,p8,_,iD⟩:=gG hs;have HG:=Z (qQ hs);have KW:O (aJ q)<=6:=by simp only[aJ,r8];omega
 have HOF:=Z λwz (hz:U w [] wz [])=>aMV _ _ ps q wz (h.on hz) jD hs;clear h lC fR cV jD iD;go_in;go_upto_region 2 with(go_at_call 67;apply(HOF.o _ yM.o).cX;rintro e w2 ⟨ev,rfl,hE,hU⟩;obtain⟨ea,ec,rfl,-⟩:=hE.len;have eQ:=Z (yM.o.ds hU);have HC0:=Z (hU.aC U7.o J);have Ik:=Z (hU.aC j7.o J);have HE2:=Z (hE.eO yM.o.size);clear hU hE);let⟨Bg,yt⟩:=D (i7 w2.heap);let⟨wg,Kv⟩:=D (i5 w2 (kd #[X (O (vars q):Int),jS ea (O (aJ q)) ec] 64));have WO:=Za Kv;have Tn:=Z (eQ.o.ds WO);have hG0:=Ze Kv yt;have HG0:=Z hG0;have HC0:=Z (WO.aC HC0.o J);have Ik:=Z (WO.aC Ik.o J);have HEG:=Z (HE2.o.on WO);obtain⟨g0,g1⟩:=Z2 hG0;have HAC:=Z (TF _ (aJ q) (O (vars q)) wg HEG.o.rd HG.o);rw[show((run 0 cI (cD (aJ q))).2.any λx=>decide (x.2≠0))=nK q from rfl]at HAC;rw[Kv,yt];clear WO Kv hG0 b0 b1 b2 eQ HE2 yt U7 j7;rw[hcy]at HAC;go_upto_region 7 with(go_at_call 68;apply HAC.o.dC;intro w3 hU;have iF:=Z (Tn.o.ds hU);have FG:=Z (hU.aC Ik.o J);have HQ3:=Z (hU.aC HC0.o J);have HG3:=Z (hU.aC HG0.o J);have HE3:=Z (HEG.o.on hU);clear hU);clear HAC HEG HG0 HC0 Ik Tn g0 g1;have XZ:=Z (hw.on iF.o);have O7:=Z hR;have Qa:0<O (aJ q):=by simp only[aJ,r8];exact(gG hs).1
 let⟨bb,oz⟩:=D (i7 w3.heap);let⟨w4,uC⟩:=D (i5 w3 (kd #[cR,cR,cR] 162));have lH:dT (U w3 [] w4 []):=Z (Za uC);have OO:dT (LB w3 w4 bb cR cR cR [] [] []):=Z (by rw[<-uC,<-oz];exact LB.xO (fV _) (bN.nil _ _) (λx hx=>by cases hx));have hG4:=lH.o.aC HG3.o J;obtain⟨g0,g1⟩:=Z2 hG4;have HCY:=Z hcy;clear hw hR hcy hG4;go_upto_region 8 with(fail);clear uC;go_wp2;go_loopg [51] (O (aJ q)) (λgg s51 wr=>∃(k:Nat) (nv sv pv:aE) (ns:List (bE×aE)),k<=O (aJ q)/\gg=O (aJ q)-k/\s51=X k/\LB w3 wr bb nv sv pv ns ((aJ q).take k) (x' k)/\dT (ns.map (·.1)=(cN (-1) (aJ q)).1.take k)/\U w3 [] wr [])
 .exact⟨0,_,_,_,[],Y,rfl,rfl,OO.o,Z rfl,lH.o⟩
 obtain⟨k,nv,sv,pv,ns,N,rfl,rfl,m,Tq,hU⟩:=hrel;by_cases aY:k<O (aJ q)
 .let⟨gx,ox,cx,Kw,hgx,JI⟩:=HE3.o.rd.aS aY;injection Kw with x1 x2 x3;clear x2 x3;subst x1;have x0:=hU.cell (JI 0 E) J;simp only[FY,yC,qZ]at x0;have hxs:=D1 (HG.o.eD) k;have hG0:=hU.aC HG3.o J;have CT:=Z (fW (d:=0) aY);have E4:=Z (VQ aY (-1));generalize hx:hJ (aJ q) k 0=x at x0 hxs CT E4;have hK:=m.cF;obtain⟨k0,P,k2⟩:=Z3 hK;obtain⟨sa,sc,rfl,-⟩:=m.s.len;have IN:O ((aJ q).take k)=k:=kG PI;generalize hES:(aJ q).take k=ES at m IN CT P;have BT:=Z IN;have HU:=Z hU;have H1:=Z m;clear hx JI hES IN m hU hK;go_upto_region 12 with(at_builtin;refine cK un rfl _ _ rfl H1.o.s HU.o Yr [mj nr (x:Int)] x Yr rfl (dE rfl) rfl (kG BT.o) (by rw[BT.o];unfold bH;omega) ?_;rintro g5 c5 w5 lU cO xS xC;have uV:=xS.cF H1.o.cF (λb r=>by rw[H1.o.s.Fl b r];decide);obtain⟨k0,P,k2⟩:=Z3 uV;have kf:=aN uV;have NI:=Z (H1.o.xe xS lU);have gN:=Z cO;have BA:=Z uV;clear lU cO xS xC uV);have aXQ:=Z (show i7 w3.heap<=bb from H1.o.bge);have dR:=gN.o.bJ (qX w5 bb 1 (eC g5 0 (O ES+1) c5)) (λb r=>by rw[show b=bb by simpa using r];exact aXQ.o);generalize iA:hY w5 (Ad bb 1) (eC g5 0 (O ES+1) c5)=w6 at dR NI|-;have lM:=Z dR;clear iA dR kf k0 P k2 BA gN H1 HU;have HNK:=Z (show O ns=k by
   have:=xE O Tq.o;rw[r8,PI,uQ]at this;omega)
  obtain⟨pa,pc,hpv,-⟩:=NI.o.p.len;rw[wn]at hpv;subst hpv;have hK:=NI.o.cF;obtain⟨k0,P,k2⟩:=Z3 hK;clear hK x0;refine fj 15 (ez P<|ey k2) (λwd G C Q=> ?_);refine ek [0,1,2,3,4,5,6,7] ?_;refine Zo 8 λvm hK=> ?_;go_simp;go_at_call 70;apply(Bu x wd (XZ.o.on (lM.o.ds C)) (du hxs E)).cX;rintro e w7 ⟨u,rfl,hO,ST⟩;dsimp only;obtain⟨ua,uc,rfl,-⟩:=hO.len;replace Q:=ST.YZ Q;have gD:=C.ds ST;have H7:=Z (NI.o.on gD);have PF:=Z (lM.o.ds gD);have HO7:=Z (hO.eO (lM.o.ds C).size);have wG:=Z (show∀b,i6 (jS ua (O (cB x)) uc)=H b->i6 (jS pa k pc)≠H b from λb r om=>by
   have m:=hO.2 b r;have h2:=(NI.o.p.on C).1.lt b om;omega)
  clear hO ST gD G C NI lM k0 P k2;refine j5 ?_;clear hK vm;refine I 9 ?_;refine Zo 10 λvm hK=> ?_;go_simp;go_at_call 69;have aBz:=Ro bb _ _ _ _ ns _ (x' k) ⟨1,k,cB x,0,0,-1,rR⟩ w3 w7 0 H7.o HO7.o wG.o PF.o (kG HNK.o) rfl;apply(show aK _ _ _ _ _ from aBz).cX;rintro e w8 ⟨UO,rfl,hM,-,jB⟩;dsimp only;have hK:=hM.cF;obtain⟨k0,P,k2⟩:=Z3 hK;have Q:=eI P k2;have TO:=Z hM;have LJ:=Z jB;clear hM jB hK aBz H7 HO7 PF wG k0 P k2;refine j5 ?_;clear hK vm;refine Zo 11 λvm hK=> ?_;go_simp;have hH8:=Q;have nY:U w8 [] (i5 w8 (kd #[X (O ns:Int)] 3)) []:=(U.refl w8 []).alloc _;replace Q:=nY.YZ Q;refine j5 ?_;clear hK vm;refine Zo 12 λvm hK=> ?_;let⟨g9,c9,w9,dK,Lo,rY,MV,hg9⟩:=iT (ty:=50) (news:=[X (O ns:Int)]) (T:=3) QL Y TO.o.p LJ.o (fV _) LJ.o.size (O ns) rfl (dE rfl) (λj hj=>rfl) (kG wn) (by rw[wn];unfold bH;omega);rw[wn]at dK Lo;refine dL _ _ rfl Yr Yr dK ?_;have Q:=hH8;have Qv:=MV.cF TO.o.cF (λb r=>by rw[TO.o.p.Fl b r];decide);obtain⟨k0,P,k2⟩:=Z3 Qv;have bf:=aN Qv;have Q:=eI P k2;have HM9:=Z (TO.o.xg MV Lo);have Fx:=Z (rY.bJ (qX w9 bb 2 (eC g9 0 (k+1) c9)) (λb r=>by rw[show b=bb by simpa using r];exact aXQ.o));clear dK Lo rY MV nY hH8 Qv hg9;refine j5 ?_;clear hK vm;refine Zo 13 λvm hK=> ?_;go_simp;refine j5 ?_;clear hK vm;refine I 14 ?_;refine Zo 15 λvm hK=> ?_;go_simp;refine LP ?_;clear hK vm;clear Q k0 P k2 bf;go_wp2;go_roundg (O (aJ q)-(k+1))
  .exact⟨k+1,_,_,_,_,aY,rfl,eY,by rw[CT.o,dr];have:=HM9.o;rw[HNK.o]at this;exact this,Z (by rw[E4.o,QW,Tq.o];rfl),Fx.o⟩
  omega
 .obtain rfl:k=O (aJ q):=Y;have Ft:BOn w3 wr bb (cN (-1) (aJ q)) (cD (aJ q)):=⟨nv,sv,pv,ns,aJ q,by rw[TU]at m;exact m,by rw[Tq.o,<-uQ (-1) (aJ q),TU],by simp[cN],HG.o.eD,G2.aW5 _⟩;have hh:cL q<2^32:=xF (zD _ _) (Fk E Y);have Xg:GB (cL q) (cN (-1) (aJ q)) (cD (aJ q)) (O (aJ q)) 42:=GB.cN (-1) HG.o.eD (λe=>by rw[e]at Qa;exact dY Qa E) (kX (IT (gG hs).2.1 (gG hs).2.2.2.1));have hFI:=aCE bb (jS ea (O (aJ q)) ec) (aJ q) (O (vars q)) (cL q) _ w3 wr XZ.o HE3.o.rd HG.o hh Ft hU Xg Qa;rw[O7.o]at hFI;have HU:=Z hU;have hG6:=hU.aC HG3.o J;obtain⟨g0,g1⟩:=Z2 hG6;have Y5:=Z Xg;clear m Ft hU hG6 Xg;cases bEs with
  |none=>
   have HFI:=Z (show aK _ _ _ _ (λe w'=>e=mi (mr #[cR,nj rR])/\U w3 [] w' [])from hFI);clear hFI;go_wp2_with (go_at_call 71;apply HFI.o.dC;intro w6 dR;have lA:=dR.aC FG.o J;obtain⟨e0,e1,e2,e3,e4⟩:=Z5 lA;have ef:=aN lA;have el:=iP (dG lA);have HR6:=Z lA;have lM:=Z dR;clear dR lA);let⟨h5,cO⟩:=Gr (x:=cR) (y:=cR) (z:=cR) (u:=X 0) (v:=cR) HR6.o;have gN:=Z ((iF.o.ds lM.o).bJ cO (λb r=>by simp at r;omega));clear h5 cO;refine mY (aW (A:=⟨i7 w.heap+1,0,K⟩) (T:=75) rfl Yr (v:=FR) (by go_simp)) rfl ?_;exact⟨rfl,gN.o⟩
  |some p=>
   obtain⟨bF,lF⟩:=p;have HFI:=Z (show aK _ _ _ _ (λe w'=>∃x,e=mi (mr #[x,nj qT])/\NB w3 w' x lF/\BOn w3 w' bb bF lF/\U w3 [] w' [])from hFI);clear hFI;go_upto_region 17 with(go_at_call 71;apply HFI.o.cX;rintro e w6 ⟨u6,rfl,nR,mK,dR⟩;obtain⟨la,lc,rfl,-⟩:=nR.len;have AZ:=Z nR;have BU:=Z mK;have lM:=Z dR;clear dR nR mK);obtain⟨nv6,sv6,pv6,W,ss6,h6,aUZ,bAW,bAS,bAT⟩:=BU.o.ex;have hK:=h6.cF;obtain⟨k0,P,k2⟩:=Z3 hK;obtain⟨na,nc,rfl,-⟩:=h6.n.len;have HMF:=Z (Y5.o.dA (-1) cI _ _ _ _ O7.o).1;have H6:=Z h6;clear h6 hK;have l6:=iP (IL k0);have HCB:=Z (LB.xO lM.o.size H6.o.n H6.o.o);have cV:U w6 [] (i5 w6 (kd #[jS na (O W) nc,cR,cR] 162)) []:=(U.refl w6 []).alloc _;go_region;have hbc:=l6.1;clear l6;let⟨cb,WK⟩:=D (i7 w6.heap);let⟨w7,vV⟩:=D ((i5 w6 (kd #[jS na (O W) nc,cR,cR] 162)).drew);have aRO:dT (U w6 [] w7 []):=Z (vV▸cV.drew);have HC7:dT (LB w3 w7 cb (jS na (O W) nc) cR cR W [] []):=Z (by rw[<-vV,<-WK];exact HCB.o.on (U.refl _ []).drew);have a1e:cb<i7 w7.heap:=by rw[<-vV,<-WK];show i7 w6.heap<i7 (w6.alloc _).heap;simp
   rw[vV,WK];rw[WK]at hbc;have HBC:=Z hbc;have bCd:=Z a1e;clear hbc;have H7:=Z (H6.o.on aRO.o);have QR:=Z (AZ.o.on aRO.o);have PF:=Z (lM.o.ds aRO.o);clear cV HCB H6 AZ BU vV WK k0 P k2;have uS:∀w:aA,(Instr.makeMap 168 K).run prog w= .ok (.map (H w.heap.size)) (w.alloc (.map #[] 0)):=λ_=>rfl;let⟨M,hM⟩:=D (i7 w7.heap);let⟨w8,DH⟩:=D (w7.alloc (.map #[] 0));have LJ:dT (U w7 [] w8 []):=Z (Za DH);have HT8:dT (mC w7 w8 M []):=Z (by rw[<-DH,<-hM];exact mC.xO (fV _));go_wp2;clear uS DH hM;let⟨B8,hN⟩:=D ((lF.map λx=>hJ bF.2 x.1 0));have dj:=Z hN;have HTW:dT (zt w3 w7 cb M (jS na (O W) nc) cR cR W [] [] [] w8):=Z ⟨HC7.o.on LJ.o,HT8.o,(U.refl w7 [cb]).yW LJ.o J,λb r=>by simp[i6]at r,λb r=>by simp[i6]at r⟩;have HLF:dT (O lF<=6):=Z (j8 HMF.o.ml KW);have aXh:=Z aUZ;clear hN aUZ;go_loopg [106] (O lF) (λgg aOS wr=>∃(k:Nat) (sv pv:aE),k<=O lF/\gg=O lF-k/\aOS=X k/\zt w3 w7 cb M (jS na (O W) nc) sv pv W ((lF.map (·.2)).take k) (B8.take k) (B8.take k) wr)
   .exact⟨0,_,_,Y,rfl,rfl,HTW.o⟩
   obtain⟨k,sv,pv,N,rfl,rfl,S⟩:=hrel;by_cases AM:k<O lF
   .let⟨hem,rN,rE,hNk,Xn,a1h,aBq⟩:=Jy HMF.o AM (j8 KW E) dj.o;have aPk:=fB HC7.o.cF;obtain⟨gl,cl,XI,-,-,E9,-,-⟩:=(show eV _ _ _ _ _ _ from QR.o.1).block (show 0<O lF by omega);injection XI with x1 x2 x3;clear x2 x3;subst x1;obtain⟨gp,cp,hvp,-,-,Sz,-,-⟩:=(show eV _ _ _ _ _ _ from H7.o.p.1).block (show 0<O bF.2 by rw[HMF.o.pm];omega);subst hvp;have aPQ:gl∉[cb]:=λF=>by
     have m:=QR.o.ty (k:=gl) rfl;rw[show gl=cb by simpa using F,aPk]at m;exact dY m E
    have aFm:gp∉[cb]:=λF=>by
     have m:=H7.o.p.ty (k:=gp) rfl;rw[show gp=cb by simpa using F,aPk]at m;exact dY m E
    have aPP:bb∉[cb]:=λF=>by
     have m:=HBC.o;rw[show bb=cb by simpa using F]at m;exact oj _ m
    have l0:=S.u.cell (E9 k 0 AM E) aPQ;have l1:=S.u.cell (E9 k 1 AM E) aPQ;have V:=S.u.cell (Sz (hJ lF k sT).1 0 (by rw[HMF.o.pm];exact hem) E) aFm;have q2:=S.u.cell (aP H7.o.cF (j:=2) rfl) aPP;have HP7:=Z (λwz (hz:U w7 [cb] wz [cb])=>hz.cell (Sz (hJ lF k sT).1 0 (by rw[HMF.o.pm];exact hem) E) aFm);have HQ7:=Z (λwz (hz:U w7 [cb] wz [cb])=>hz.cell (aP H7.o.cF (j:=2) rfl) aPP);simp only[wP,fN,yC,qZ]at l0 l1 V HP7;have Mq:=Z (fW (d:=0) (show k<O (lF.map (·.2)) by rw[r8];exact AM));have hd2:hJ (lF.map (·.2)) k 0=(hJ lF k sT).2:=by
     rw[gV,So,gV];simp[kU AM]
    rw[hd2]at Mq;have hpm:=HMF.o.pm;have EJ:((hJ lF k sT).1:Int)<(O bF.2:Int):=Y;generalize hy:hJ lF k sT=y at l0 l1 V hem rN rE Mq EJ HP7;generalize ht:hJ bF.2 y.1 0=t at V rN rE HP7;generalize hLK:B8.take k=LK at rE hNk S;let⟨SK,hSK⟩:=D ((lF.map (·.2)).take k);have hSl:O SK=k:=by rw[<-hSK,PI,r8];omega
    rw[hSK]at Mq S;have CT:=Z rE;have HNK:=Z hNk;have HSK:=Z hSl;have aXJ:=Z S;obtain⟨sa,sc,rfl,-⟩:=S.b.s.len;obtain⟨pa,pc,rfl,-⟩:=S.b.p.len;have htm:t<=1000000:=Y;clear hd2 hy ht hLK hSK hSl S rE hNk E9 Sz aPQ aFm aPP hpm aPk;let⟨bEo,hX⟩:=D (i7 wr.heap);let⟨w9,TV⟩:=D (i5 wr (kd #[X (y.1:Int),mj nr (y.2:Int)] 170));have rY:=Za TV;have hX9:=Ze TV hX;go_upto_region 22 with(fail);have sx:=Z (aXJ.o.on rY);have HX9:=Z hX9;obtain⟨x0,x1⟩:=Z2 hX9;have hK:=sx.o.b.cF;obtain⟨k0,P,k2⟩:=Z3 hK;have QP:=Z (show i7 w3.heap<=cb from HC7.o.bge);clear TV hX rY hX9 hK aXJ l0 l1 V q2;refine fj 11 (ez P<|ey x1) (λwd G C Q=> ?_);have o:=Z (sx.o.on C);have HXd:=Z (C.aC HX9.o J);have O4:=Z (PF.o.bJ o.o.u (λb r=>by rw[show b=cb by simpa using r];exact QP.o));clear G C sx HX9 k0 P k2 x0 x1;refine ek [0,1,5,2,3,4,6] ?_;refine Zo 7 λvm hK=> ?_;go_simp;have hH8:=Q;have nY:U wd [] (i5 wd (kd #[mj nr (y.2:Int)] 65)) []:=(U.refl wd []).alloc _;replace Q:=nY.YZ Q;refine j5 ?_;clear hK vm;refine Zo 8 λvm hK=> ?_;obtain⟨gA,cA,wA,dK,hLA,hUA,py,-⟩:=iT (ty:=62) (news:=[mj nr (y.2:Int)]) (T:=65) un Y o.o.b.s O4.o (fV _) O4.o.size y.2 rfl (dE rfl) (λj hj=>rfl) (kG HSK.o) (by rw[HSK.o];unfold bH;omega);refine dL _ _ rfl Yr Yr dK ?_;have Q:=hH8;have Qb:=o.o.b.s.ne o.o.b.cF E;have Hm:=o.o.b.s.ne HXd.o E;replace Q:=py.YZ Q (Qb) (Hm);have bf:=aN (py.aC o.o.b.cF Qb);have nI:=Z (o.o.xe (sv':=eC gA 0 (O SK+1) cA) py hLA);have HXA:=Z ((qX wA cb 1 (eC gA 0 (O SK+1) cA)).aC (py.aC HXd.o Hm) (λF=>by
     have m:=fB (py.aC o.o.b.cF Qb);rw[<-show bEo=cb by simpa using F,fB (py.aC HXd.o Hm)]at m;exact dY m E))
    generalize hwB:hY wA (Ad cb 1) (eC gA 0 (O SK+1) cA)=wB at nI HXA;have HWB:=Z hwB;clear dK hLA hUA py nY hH8 Qb Hm hwB o HXd O4;refine j5 ?_;clear hK vm;refine Zo 9 λvm hK=> ?_;go_simp;refine j5 ?_;clear hK vm;refine I 10 ?_;refine Zo 11 λvm hK=> ?_;go_simp;refine LP ?_;clear hK vm;rw[HWB.o];clear Q bf HWB;have hK:=nI.o.b.cF;obtain⟨k0,P,k2⟩:=Z3 hK;have hXA:=HXA.o;obtain⟨x0,x1⟩:=Z2 hXA;have V:=HP7.o _ nI.o.u;have q2:=HQ7.o _ nI.o.u;clear hK hXA;go_upto_region 23 with(fail);refine fj 17 (ez k2<|ez q2<|ez x0<|ey V) (λwd G C Q=> ?_);have o:=Z (nI.o.on C);have HXd:=Z (C.aC HXA.o J);have O4:=Z (PF.o.bJ o.o.u (λb r=>by rw[show b=cb by simpa using r];exact QP.o));clear G C nI HXA k0 P k2 x0 x1 V q2;refine ek [0,1,5,9,10,2,6,3,4,7,8,11,12] ?_;refine Zo 13 λvm hK=> ?_;go_simp;have hH8:=Q;have nY:U wd [] (i5 wd (kd #[It t] 3)) []:=(U.refl wd []).alloc _;replace Q:=nY.zh4 Q;refine j5 ?_;clear hK vm;refine Zo 14 λvm hK=> ?_;obtain⟨gC,cC,wC,dK,hLC,hUC,px,-⟩:=iT (ty:=50) (news:=[It t]) (T:=3) QL Y o.o.b.p O4.o (fV _) O4.o.size t rfl (dE rfl) (λj hj=>rfl) (kG HNK.o) (by rw[HNK.o];unfold bH;omega);refine dL _ _ rfl Yr Yr dK ?_;have Q:=hH8;have Qb:=o.o.b.p.ne o.o.b.cF E;have Hm:=o.o.b.p.ne HXd.o E;have hTC:=o.o.xg (pv':=eC gC 0 (O LK+1) cC) px hLC;have aV4:=qX wC cb 2 (eC gC 0 (O LK+1) cC);have hold:∀b,b<i7 w7.heap->b∉(jS pa (O LK) pc).ownBlock.toList:=λb r F=>oj _ (xF r (o.o.fp b F));have oC:=hold bb (dG H7.o.cF);have qP:=hold gp (H7.o.p.1.lt gp rfl);replace Q:=px.zh4 Q (Qb) (oC) (Hm) (qP);have bf:=aN (px.aC o.o.b.cF Qb);have nI:=Z hTC;have HXA:=Z (aV4.aC (px.aC HXd.o Hm) (λF=>by
     have m:=fB (px.aC o.o.b.cF Qb);rw[<-show bEo=cb by simpa using F,fB (px.aC HXd.o Hm)]at m;exact dY m E))
    generalize hwE:hY wC (Ad cb 2) (eC gC 0 (O LK+1) cC)=wE at nI HXA;have HWE:=Z hwE;clear dK hLC hUC px nY hH8 Qb Hm hwE o HXd O4 hTC aV4 hold oC qP;refine j5 ?_;clear hK vm;refine Zo 15 λvm hK=> ?_;go_simp;refine j5 ?_;clear hK vm;refine I 16 ?_;refine Zo 17 λvm hK=> ?_;go_simp;refine LP ?_;clear hK vm;rw[HWE.o];clear Q bf HWE;have hXA:=HXA.o;obtain⟨x0,x1⟩:=Z2 hXA;have V:=HP7.o _ nI.o.u;have q2:=HQ7.o _ nI.o.u;clear hXA;go_upto_region 24 with(fail);refine fj 11 (ez q2<|ez x0<|ey V) (λwd G C Q=> ?_);have o:=Z (nI.o.on C);clear G C nI x0 x1 V q2;have nQ:=o.o.t.vR htm;let⟨ct,F8⟩:=D (LK.count t);have a2S:ct<=7:=by
     have m:=List.count_le_length (a:=t) (l:=LK);rw[F8,HNK.o]at m;omega
    rw[F8]at nQ;let⟨wF,dK,htF,hUF⟩:=o.o.t.put htm (kG HNK.o) (c:=(ct:Int)+1) (by rw[F8]);have HTF:=Z (o.o.put hUF htF);clear F8 htF hUF;refine ek [0,1,5,6,2,3,4,7,8] ?_;refine Zo 9 λvm hK=> ?_;go_simp;refine j5 ?_;clear hK vm;refine I 10 ?_;refine Zo 11 λvm hK=> ?_;have xx:IntKind.i64.wrap ((ct:Int)+1)=(ct:Int)+1:=QY _ Y;try rw[xx]
    go_simp;refine LP ?_;clear hK vm;clear Q nQ dK a2S xx;go_wp2;go_roundg (O lF-(k+1))
    .exact⟨k+1,_,_,AM,rfl,eY,by rw[Mq.o,CT.o];exact HTF.o⟩
    omega
   .obtain rfl:k=O lF:=Y;have hNl:O B8=O lF:=by rw[<-dj.o,r8]
    have et1:(lF.map (·.2)).take (O lF)=lF.map (·.2):=zdH (kG r8);have et2:B8.take (O lF)=B8:=zdH Y;rw[et1,et2]at S;have aGA:pA (lF.map (·.2)) (O (vars q)):=Yn HG.o O7.o (kX HLF.o);have Fq:=List.length_pos_iff.2 HMF.o.ne;have aFp:GB 0 (bF.1,B8) (oP lF) (O lF) 42:=HMF.o.oP (bF.1,B8) (.inl rfl) dj.o.symm;have aPn:BOn w3 wr cb (bF.1,B8) (oP lF):=⟨_,sv,pv,W,lF.map (·.2),S.b,aXh.o,by rw[r8];exact hNl.symm,aGA.eD,G2.aW5 _⟩;let⟨ES,hES⟩:=D (lF.map (·.2));have aUy:O ES=O lF:=by rw[<-hES,r8]
    have aQ4:oP lF=cD ES:=by rw[<-hES];rfl
    rw[hES]at S aGA;rw[aQ4]at aFp aPn;have aYT:=Z aPn;have Mt:=Z aFp;have aYD:=Z aUy;have HES:=Z aQ4;have HT:=Z S;have aHe:=Z λu wz (hu:E0 wz u ES)=>Ak u ES (O (vars q)) 0 wz hu aGA E;obtain⟨sa,sc,rfl,-⟩:=S.b.s.len;have Lk:=PF.o.bJ S.u (λb r=>by rw[show b=cb by simpa using r];exact HC7.o.bge);have HUR:=Z Lk;have hG6:=Lk.aC HG3.o J;obtain⟨g0,g1⟩:=Z2 hG6;have hK:=S.b.cF;obtain⟨k0,P,k2⟩:=Z3 hK;have HG2:=Z aGA;clear et1 et2 hNl aFp aPn hES aUy aQ4 S aGA Lk hG6 hK;go_upto_region 26 with(fail);refine fj 99 (ez g0<|ey P) (λwd G C Q=> ?_);refine ek [0,2,1,3,4,5] ?_;refine Zo 6 λvm hK=> ?_;go_simp;go_at_call 73;refine(aCP _ ES wd (HT.o.b.s.on C).rd (by rw[aYD.o];exact Fq) (by rw[aYD.o];have:=HLF.o;omega)).mono ?_;rintro e w9 ⟨u,rfl,hO,ST⟩;dsimp only;obtain⟨ua,uc,rfl,-⟩:=hO.len;replace Q:=ST.YZ Q;have rY:=C.ds ST;have Fx:=Z rY;have HO9:=Z hO;clear hO ST G C rY;refine j5 ?_;clear hK vm;refine I 7 ?_;refine Zo 8 λvm hK=> ?_;go_simp;go_at_call 72;apply(aHe.o _ w9 HO9.o.rd).cX;rintro e IU ⟨u2,x2,rfl,hS,hL,ST⟩;dsimp only;replace Q:=ST.YZ Q;have aGM:=hS.N4;obtain⟨za,zc,rfl,-⟩:=hS.len;obtain⟨ra,rc,rfl,-⟩:=hL.len;have aC8:=Z (Fx.o.ds ST);have aXT:=Z hS;have aXp:=Z hL;clear hS hL ST Fx;refine j5 ?_;clear hK vm;refine ek [9,10,13,11,14,12,15] ?_;refine bD dJ ?_ _;try simp only[Act.put,UB,U9,X9]
    clear Q k0 P k2 g0 g1 aGM;have Ku:eS (cD ES)<=cI:=ZA (kX Mt.o.wt);have a1T:O (run 0 cI (cD ES)).1<=300:=j8 (RT cI _ Ku Mt.o.nd Mt.o.sm) Ku;have HCS:=Z λn hn=>NQ (eb:=0) Ku Mt.o.nd Mt.o.sm (n:=n) hn;have Q8:=Ny (eb:=0) cI (cD ES);let⟨S2,Qj⟩:=D ((run 0 cI (cD ES)).1);let⟨E2,hE2⟩:=D ((run 0 cI (cD ES)).2);rw[Qj]at a1T HCS Q8 aXT|-;rw[hE2]at Q8 aXp|-;let⟨R2,rU⟩:=D (fH (-1) cI (bF.1,B8) (cD ES));have II:=Z rU;have VM:=Z Q8;have HWT:=Z Ku;have aNC:=HUR.o.ds aC8.o;have aXG:=Z aNC;have a5p:=Z (aYT.o.on aC8.o);have aHc:=Z (HT.o.t.on aC8.o);clear Qj hE2 rU Q8 Ku aNC aHe HO9 HT aYT;go_wp2;go_loopg [165] (O S2) (λgg a01 wr=>∃(k f:Nat) (b:r6),k<=O S2/\gg=O S2-k/\a01=X k/\BOn w3 wr cb b (after (cD ES) (S2.take k))/\GB 0 b (after (cD ES) (S2.take k)) (O lF) 42/\eS (after (cD ES) (S2.take k))<=f/\dT (fH (-1) f b (after (cD ES) (S2.take k))=R2)/\mC w7 wr M B8/\U w3 [] wr []/\Rs w9 wr (jS za (O S2) zc) S2/\NB w9 wr (jS ra (O E2) rc) E2)
    .exact⟨0,cI,(bF.1,B8),Y,rfl,rfl,a5p.o,Mt.o,HWT.o,Z II.o,aHc.o,aXG.o,aXT.o,aXp.o⟩
    obtain⟨k,f,b,N,rfl,rfl,hB,iE,tT,HP2,hTo,hU,Ia,R4⟩:=hrel;have hrc:=HCS.o k N;have JH:=Jp iE.nd iE.sm tT HP2.o;by_cases aU9:k<O S2
    .rcases hrc with⟨m,_⟩|⟨_,s,hs2,hn,rE⟩
     .omega
     rcases JH with⟨m,_⟩|⟨g,s',rfl,Hr,hw',hP⟩
     .rw[hn]at m;cases m
     obtain rfl:s=s':=by rw[hn]at Hr;injection Hr
     have hsk:hJ S2 k sT=s:=by rw[gV,hs2];rfl
     let⟨gS,oS,cS,hvS,hgS,hcS⟩:=Ia.rd.aS aU9;injection hvS with x1 x2 x3;clear x2 x3;subst x1;rw[hsk]at hcS;have s0:=hcS 0 E;have s1:=hcS 1 E;have s2:=hcS 2 E;have s3:=hcS 3 E;simp only[KK,qZ]at s0 s1 s2 s3;generalize mS:after (cD ES) (S2.take k)=lk at hB iE hn hw' hP;let⟨wx,Wu⟩:=D (i5 wr (kd #[X s.aG,X s.bY,X s.eR,mj nr s.cut] 177));have V9:=Za Wu;have hBx:=Zb Wu;obtain⟨x0,x1,x2,x3⟩:=Z4 hBx;clear hBx;have AX:=Z (Ur cb b lk s w3 wx XZ.o (hB.on V9) (hU.ds V9) iE (kX HLF.o) Fq hn);unfold kQ at AX;have HTX:=Z (hTo.on V9);have HSX:=Z (Ia.on V9);have HLX:=Z (R4.on V9);have HMS:=Z (iE.step (-1) hn);have HWS:=Z hw';have HPS:=Z hP;have CT:=Z rE;have Sf:=Z mS;clear hsk hcS hs2 hn Hr hw' hP rE mS hB iE tT hU hTo Ia R4 hgS HP2 V9;go_wp2_with (go_at_call 74;apply AX.o.dC;rintro wy ⟨hF,hU,hB⟩;have HF:=Z hF;have HU:=Z hU;have HB:=Z hB;clear hF hU hB);go_roundg (O S2-(k+1))
     .exact⟨k+1,g,gK (-1) b lk s,aU9,rfl,eY,by rw[CT.o,o8,Sf.o];exact HB.o,by rw[CT.o,o8,Sf.o];exact HMS.o,by rw[CT.o,o8,Sf.o];exact HWS.o,Z (by rw[CT.o,o8,Sf.o];exact HPS.o),HTX.o.BJ HF.o,HU.o,HSX.o.aGn HF.o E,HLX.o.aGn HF.o E⟩
     omega
    .obtain rfl:k=O S2:=Y;have p8:after (cD ES) (S2.take (O S2))=E2:=by rw[TU];exact VM.o
     rw[p8]at hB iE JH hrc;rcases hrc with⟨_,hnn⟩|⟨m,_⟩;rotate_left
     .exact dY m (oj _)
     have hRE:R2=(b,E2):=by
      rcases JH with⟨_,h2⟩|⟨g,s',_,h2,_⟩
      .exact h2
      .rw[hnn]at h2;cases h2
     obtain⟨nvE,svE,pvE,S8,ssE,r,aUY,a1S,a1Q,-⟩:=hB.ex;have Lh:=List.length_pos_iff.2 iE.ne;have hei:(hJ E2 0 sT).1<O b.2:=by rw[iE.pm];exact iE.Kr _ (AE.2 ⟨_,bO Lh,rfl⟩)
     obtain⟨gr,cr,hvr,-,-,hcr,-,-⟩:=(show eV _ _ _ _ _ _ from R4.1).block Lh;injection hvr with x1 x2 x3;clear x2 x3;subst x1;obtain⟨gq,cq,hvq,-,-,hcq,-,-⟩:=(show eV _ _ _ _ _ _ from r.p.1).block (show 0<O b.2 by omega);subst hvq;obtain⟨xa,xc,Kw,-⟩:=r.n.len;subst Kw;have r0:=hcr 0 0 Lh E;have V:=hcq (hJ E2 0 sT).1 0 hei E;simp only[wP,fN,zn,yC,qZ,vW]at r0 V;have a2Z:=iE.pm;have Mr:=Z (iE.ok.C1 _ (by exact hei));generalize hee:(hJ E2 0 sT).1=ei at r0 V hei Mr;generalize WH:hJ b.2 ei 0=dQ at V Mr;have hQ:=hU.aC HQ3.o J;obtain⟨q0,q1,q2⟩:=Z3 hQ;have hK:=r.cF;obtain⟨k0,P,k2⟩:=Z3 hK;have yj:(ei:Int)<(O b.2:Int):=Y;have yi:(0:Int)<(O E2:Int):=Y;have HEE:=Z hee;have a48:=Z WH;have HRE:=Z hRE;have Fa:=Z (iF.o.ds hU);have HU:=Z hU;have aH4:=Z λwz (hz:U w [] wz [])=>ZF _ _ ps q wz (us.o.on hz);have HBE:=Z r;have aXg:=Z aUY;have Rz:=Z hTo;have aHn:=Z iE;clear p8 hnn JH hB R4 Ia hcr hcq a2Z hee WH hQ hK r hRE tT HP2 iE hU aUY a1S a1Q hTo;go_upto_region 32 with(fail);go_cut [24] (λs24 wx=>∃(B:Nat) (va:Option cg) (vc:Nat),s24= Pt B/\wx.heap[B]? =H (kd #[jS va (O (vars q)) vc,cR,jS xa (O S8) xc,It dQ,cR] 75 (0,0))/\wU w wx (jS va (O (vars q)) vc) (vars q)/\U wr [] wx []/\i7 wr.heap<=B)
     case first=>
      refine fj 18 (ez q0<|ez q1<|ez q2<|ez k0<|ez k2<|ez r0<|ey V) (λwd G C Q=> ?_);have o9:=Z C;clear G C k0 P k2 q0 q1 q2 r0 V;refine ek [0,2,3,4,5,6,7,8,9,10,11,12,13,14,15] ?_;refine vG (i:=1) (j:=17) dJ rfl rfl rfl rfl (λvm hK=> ?_) (λvm hK=> ?_)
      .go_simp;go_at_call 75;apply(aH4.o _ (Fa.o.ds o9.o)).cX;rintro e w2 ⟨u,rfl,hO,bM⟩;obtain⟨va,vc,rfl,-⟩:=hO.len;dsimp only;replace Q:=bM.zh7 Q;refine j5 ?_;clear hK vm;refine I 16 ?_;refine Zo 17 λvm hK=> ?_;go_simp;let⟨wz,Hn⟩:=D (i5 w2 (kd #[cR,cR,cR,X 0,cR] 75));have yn:=Za Hn;have hB:wz.heap[i7 w2.heap]? =H (kd #[cR,cR,cR,X 0,cR] 75 (0,0)):=by rw[<-Hn];exact mE ..
       replace Q:=yn.zh7 Q;obtain⟨e0,e1,e2,e3,e4⟩:=Z5 hB;have ef:=aN hB;have St:=(o9.o.ds bM).size;rw[Hn];refine j5 ?_;clear hK vm;refine Zo 18 λvm hK=> ?_;go_simp;refine LP ?_;clear hK vm;let⟨h5,cO⟩:=Gr (x:=jS va (O (vars q)) vc) (y:=cR) (z:=jS xa (O S8) xc) (u:= It dQ) (v:=cR) hB;go_wp2;go_meet;exact⟨_,va,vc,rfl,h5,((hO.eO (Fa.o.ds o9.o).size).on yn).set hB E cO,(o9.o.ds (bM.ds yn)).bJ cO (λk N=>by rw[show k=i7 w2.heap by simpa using N];exact St),St⟩
      .go_simp;let⟨wz,Hn⟩:=D (i5 wd (kd #[cR,cR,cR,X 0,cR] 75));have yn:=Za Hn;have hB:wz.heap[i7 wd.heap]? =H (kd #[cR,cR,cR,X 0,cR] 75 (0,0)):=by rw[<-Hn];exact mE ..
       replace Q:=yn.zh7 Q;rw[Hn];refine j5 ?_;clear hK vm;refine Zo 1 λvm hK=> ?_;go_simp;go_at_call 75;apply(aH4.o _ ((Fa.o.ds o9.o).ds yn)).cX;rintro e w2 ⟨u,rfl,hO,bM⟩;obtain⟨va,vc,rfl,-⟩:=hO.len;dsimp only;replace Q:=bM.zh7 Q;have hB:=bM.aC hB J;obtain⟨e0,e1,e2,e3,e4⟩:=Z5 hB;have ef:=aN hB;refine j5 ?_;clear hK vm;refine I 16 ?_;refine Zo 18 λvm hK=> ?_;go_simp;refine LP ?_;clear hK vm;let⟨h5,cO⟩:=Gr (x:=jS va (O (vars q)) vc) (y:=cR) (z:=jS xa (O S8) xc) (u:= It dQ) (v:=cR) hB;go_wp2;go_meet;exact⟨_,va,vc,rfl,h5,(hO.eO ((Fa.o.ds o9.o).ds yn).size).set hB E cO,(o9.o.ds (yn.ds bM)).bJ cO (λk N=>by rw[show k=i7 wd.heap by simpa using N];exact o9.o.size),o9.o.size⟩
     case rest=>
      obtain⟨Bp,va,vc,rfl,hP,hV,eJ,hBp⟩:=hcut;have Y4:dT (Ey w3 wc (jS xa (O S8) xc) S8):=Z ⟨(HBE.o.on eJ).n,(HBE.o.on eJ).o⟩;have HT4:=Z (Rz.o.on eJ);have aRP:=Z (HU.o.ds eJ);have aH5:=Z (Fa.o.ds eJ);have PD:=Z hV;have tt:=Z hP;have hQ4:=aRP.o.aC HQ3.o J;have HQ4:=Z hQ4;obtain⟨q0,q1,q2⟩:=Z3 hQ4;have HHV:=Z (gG hs).2.2.2.2.2;have a11:=j8 (A7 (zB (gG hs).2.2.2.2.1) (gG hs).2.2.2.2.2) Hp;have aYS:dT (i7 w3.heap<=Bp):=Z (j8 HU.o.size hBp);have aLt:dT (i7 w.heap<=Bp):=Z (j8 Fa.o.size hBp);have bDF:dT (i7 w.heap≠Bp):=Z λe=>by
       have m:=fB hQ4;rw[e,fB hP]at m;exact dY m E
      clear hP hV eJ hBp hQ4 HBE Rz HU Fa aH4;go_wp2;go_loopg [193] (O q.head) (λgg a0Z wr=>∃(k:Nat) (ya:Option cg) (yc:Nat),k<=O q.head/\gg=O q.head-k/\a0Z=X k/\wr.heap[Bp]? =H (kd #[jS va (O (vars q)) vc,jS ya k yc,jS xa (O S8) xc,It dQ,cR] 75 (0,0))/\iC wc wr (jS ya k yc) ((q.head.take k).map λh=>(vars q).idxOf h)/\U wc [Bp] wr [Bp])
      .exact⟨0,_,_,Y,rfl,rfl,tt.o,bN.nil _ _,U.refl _ _⟩
      obtain⟨k,ya,yc,N,rfl,rfl,hP,hL,hU⟩:=hrel;by_cases aKO:k<O q.head
      .let⟨g6,o6,QM,hv6,hg6,hc6⟩:=us.o.head.aS aKO;have e0:=hU.cell (aH5.o.cell (hc6 0 Y) J) (show g6∉[Bp]from λF=>by
        have m:=aLt.o;rw[show g6=Bp by simpa using F]at hg6;exact oj _ (xF hg6 m))
       injection hv6 with x1 x2 x3;clear x2 x3;subst x1;simp only[yK,yC,qZ]at e0;have HX:=Z (show(q.head.take (k+1)).map (λh=>(vars q).idxOf h)=(q.head.take k).map (λh=>(vars q).idxOf h)++[(vars q).idxOf (hJ q.head k bU)] by rw[fW (d:=bU) aKO,QW];rfl);have OI:=HHV.o _ (bO (d:=bU) aKO);have hLl:O ((q.head.take k).map λh=>(vars q).idxOf h)=k:=by rw[r8,PI];omega
       let⟨L,R4⟩:=D (((q.head.take k).map λh=>(vars q).idxOf h));let⟨y,hy⟩:=D (hJ q.head k bU);rw[R4]at HX hLl hL;rw[hy]at e0 HX OI;have HAI:=Z λwz (hz:JV wz (jS va (O (vars q)) vc) (vars q))=>(D4 _ (vars q) y wz hz).mono λe w' h=>eI (h.1.ds (by rw[YQ OI])) h.2;have A0:=Z hLl;have HV:=Z (PD.o.set tt.o E hU);obtain⟨V,p1⟩:=Z2 hP;have HL:=Z hL;have HP:=Z hP;have HU:=Z hU;clear R4 hy hc6 OI hLl hL hP hU;go_upto_region 36 with(fail);refine fj 9 (ez V<|ey p1) (λwd G C Q=> ?_);have HVd:=Z (HV.o.on C);have HLd:=Z (HL.o.on C);have HPd:=Z (C.aC HP.o J);have O4:=Z (HU.o.yW C J);clear G C HV HL HP HU V p1 e0;refine ek [0,2,4,1,3] ?_;refine Zo 5 λvm hK=> ?_;go_simp;go_at_call 36;apply(HAI.o wd HVd.o.rd).cX;rintro e w5 ⟨rfl,rfl⟩;dsimp only;refine j5 ?_;clear hK vm;refine Zo 6 λvm hK=> ?_;go_simp;have hH5:=Q;have nY:U wd [] (i5 wd (kd #[X ((vars q).idxOf y:Int)] 3)) []:=(U.refl wd []).alloc _;replace Q:=nY.YZ Q;refine j5 ?_;clear hK vm;refine Zo 7 λvm hK=> ?_;have aV6:=aH5.o.bJ O4.o (λb r=>by rw[show b=Bp by simpa using r];exact aLt.o);let⟨g7,c7,w7',dK,yQ,gD,sZ,hg7⟩:=iT (ty:=50) (news:=[X ((vars q).idxOf y:Int)]) (T:=3) QL Y HLd.o aV6 aH5.o.size O4.o.size ((vars q).idxOf y) rfl (dE rfl) (λj hj=>rfl) (kX A0.o) (by have:=A0.o;unfold bH;omega);refine dL _ _ rfl Yr Yr dK ?_;have Q:=hH5;have hnp:=HLd.o.ne HPd.o E;replace Q:=sZ.YZ Q (hnp) (hnp);have Ql:=sZ.aC HPd.o hnp;rw[A0.o]at yQ|-;obtain⟨f0,f1⟩:=Z2 Ql;have ff:=aN Ql;have jB:=qX w7' Bp 1 (eC g7 0 (k+1) c7);have HP8:=Z (aF (i:=1) (eC g7 0 (k+1) c7) Ql);have Y8:=Z (yQ.set Ql E jB);have LJ:=Z ((O4.o.yW sZ (λb r=> .inr (HLd.o.2 b (eP r)))).yW jB (λb r=> .inl r));clear dK gD sZ nY hH5 Ql yQ jB hnp aV6;refine j5 ?_;clear hK vm;refine I 8 ?_;refine Zo 9 λvm hK=> ?_;go_simp;refine LP ?_;clear hK vm;clear Q f0 f1 ff;go_wp2;go_roundg (O q.head-(k+1))
       .exact⟨k+1,_,_,aKO,rfl,eY,HP8.o,by rw[HX.o];exact Y8.o,LJ.o⟩
       omega
      .obtain rfl:k=O q.head:=Y;rw[TU]at hL;generalize hhd:q.head.map (λh=>(vars q).idxOf h)=hdl at hL;have hbl:O S8=O b.1:=by rw[<-aXg.o,r8]
       have Pu:0<O S8:=kX Mr.o;have aBq:O S8<=41:=by rw[hbl];exact aHn.o.oE
       obtain⟨gn,cn,hvn,-,-,-,-,-⟩:=(show eV _ _ _ _ _ _ from Y4.o.n.1).block Pu;injection hvn with x1 x2 x3;clear x2 x3;subst x1;have hBt:=fB tt.o;have hN:=Y4.o.eb hU (λk N=>by rw[show k=Bp by simpa using N,hBt];decide);have S:=HT4.o.eU hU (λF=>HT4.o.ne hBt (eP F));have hV:=PD.o.set tt.o E hU;have a4P:=Z (aH5.o.bJ hU (λb r=>by rw[show b=Bp by simpa using r];exact aLt.o));have aXF:=Z (aRP.o.ds (U.refl wc []));have XN:Bp∉[gn]:=λF=>by
        have m:=hN.n.ty (k:=gn) rfl;rw[<-show Bp=gn by simpa using F,fB hP]at m;exact dY m E
       have hMn:M∉[gn]:=λF=>S.ne (hN.n.ty (k:=gn) rfl) (eP F);have sF:=Z (hU.aC (aRP.o.aC FG.o J) (λF=>oj _ (xF (dG FG.o) (by rw[show i7 w.heap+1=Bp by simpa using F];exact aYS.o))));have HBP:=Z XN;have HMN:=Z hMn;have Sd:=Z hN;have O6:=Z S;have bz:=Z hV;have wD:=Z hP;have pL:=Z hL;have HHD:=Z hhd;have HBL:=Z hbl;obtain⟨V,p1,p2,p3,p4⟩:=Z5 hP;clear hL hP hU hN S hV XN hMn hbl hhd hBt;obtain⟨wq,rfl⟩:∃wq,wq=wr:=⟨_,rfl⟩;go_wp2;go_loopg [210] (O S8) (λgg a0Y wr=>∃(k:Nat) (ms:List (bE×aE)),k<=O S8/\gg=O S8-k/\a0Y=X k/\dT (ms.map (·.1)=EV b.1 (O W) B8 k)/\dT (ms.map (·.2)=S8.map (·.2))/\Ey w3 wr (eC gn 0 (O S8) xc) ms/\U wq [gn] wr [gn])
       .exact⟨0,S8,Y,rfl,rfl,Z (by rw[ip];exact aXg.o),Z rfl,Sd.o,U.refl _ _⟩
       obtain⟨k,ms,N,rfl,rfl,CU,EE,hN,hU⟩:=hrel;by_cases aKN:k<O S8
       .have a1c:O ms=O S8:=by have:=xE O EE.o;simpa using this
        have G9:k<O ms:=Y;have hkN:k<O b.1:=by rw[<-HBL.o];exact aKN
        have vC:(hJ ms k sT).1=hJ b.1 k sT:=by rw[<-gQ,CU.o,vH hkN,R (oj k)]
        have gP:∀tv,(decide (O W<=k)||decide (k∈B8))=tv->(ms.set k (({(hJ ms k sT).1 with mL:=tv}:bE),(hJ ms k sT).2)).map (·.1)=EV b.1 (O W) B8 (k+1):=λtv h=>by
         rw[B6,CU.o,iq hkN];congr 1;unfold Un;rw[<-h,vC]
        have q2:=hU.cell p2 HBP.o;have nQ:=(O6.o.eU hU HMN.o).vR (i:=k) Y;have cf:=hN.n.1.free (g:=gn) rfl;have c6:=fM.cells (show fM nS sT 7 wr (eC gn 0 (O S8) xc) ms from hN.n.rd) G9 6 E;simp only[vW]at c6;have hgz:=hN.n.1.lt gn rfl;have fb:(k:Int)<(O S8:Int):=Y;clear vC a1c hkN;by_cases zL:O W<=k
        .have xC:(O W:Int)<=(k:Int):=Y;obtain⟨tv,aF0⟩:∃tv,tv=qT:=⟨_,rfl⟩;have IM:(decide (O W<=k)||decide (k∈B8))=tv:=by rw[kY zL,aF0];rfl
         exact ZM31
        .have xC:¬(O W:Int)<=(k:Int):=Y;by_cases iD:k∈B8
         .have hc:=List.count_pos_iff.2 iD;have hc':(0:Int)<((B8.count k:Nat):Int):=Y;obtain⟨tv,aF0⟩:∃tv,tv=qT:=⟨_,rfl⟩;have IM:(decide (O W<=k)||decide (k∈B8))=tv:=by rw[kY iD,aF0,Bool.or_true]
          exact ZM31
         .have hc:=List.count_eq_zero_of_not_mem iD;rw[hc]at nQ;obtain⟨tv,aF0⟩:∃tv,tv=rR:=⟨_,rfl⟩;have IM:(decide (O W<=k)||decide (k∈B8))=tv:=by rw[kE iD,kE zL,aF0];rfl
          clear hc;exact ZM31
       .obtain rfl:k=O S8:=Y;have G9:O ms=O S8:=by have:=xE O EE.o;simpa using this
        have pJ:ms.map (·.1)=EV b.1 (O W) B8 (O b.1):=by rw[CU.o,HBL.o]
        have aWK:mD (ms.map (·.1)):=by rw[pJ];exact aHn.o.ok.below.Mi (X2 _ _ _ _)
        have MS:∀x,x∈ms.map (·.1)->x.bS= -1:=by
         rw[pJ];refine aAX ?_;have h0:=Aw cI _ _ bF lF (lw _) O7.o;have m:=Au cI (bF.1,B8) (cD ES) h0;rw[II.o,HRE.o]at m;exact m
        have hP6:=hU.aC wD.o HBP.o;have a5u:=Z (aGW Bp _ _ _ _ _ ms w3 wr hN hP6 Y Y aWK MS);have a5E:=Z pJ;have bC6:=Z EE;clear pJ aWK MS hN;have TY:=Zc hP6 2;go_upto_region 44 with(go_at_call 76;apply a5u.o.dC;rintro w6 ⟨dR,m2,rP,NW,Qp⟩;have lM:=Z dR;have HG1:=Z rP;have HG2:=Z NW;have fy:=Z Qp;clear dR rP NW Qp);have Ql:=lM.o.aC hP6 HBP.o;obtain⟨f0,f1,f2,f3,f4⟩:=Z5 Ql;have hHG:m2.map (·.1)=l9 b.1 (O W) B8:=by rw[HG1.o,G9,a5E.out,HBL.o];exact pp _ _ _
        have aPT:O m2=O S8:=by have:=xE O hHG;rw[r8,F3]at this;rw[this,HBL.o]
        have aGg:mD (m2.map (·.1)):=by rw[hHG];exact aHn.o.ok.below.Mi (DK _ _ _)
        have YI:dQ<O m2:=by rw[aPT,HBL.o];exact Mr.o
        have aBb:=aBE Bp m2 Y aGg dQ YI w6 (fy.o.rd f2);generalize hOL:fO (m2.map (·.1)) (dQ+1) dQ=OL at aBb;have a4l:=Z aBb;have Y3:=Z hOL;have HHG:=Z hHG;have a5k:=Z aGg;have bC8:=Z aPT;have HRL:=Z YI;clear hHG aPT aGg YI G9 TY aBb hOL;go_upto_region 45 with(go_at_call 77;apply a4l.o.cX;rintro e w9 ⟨u,rfl,hO,rY⟩;obtain⟨oa,oc,rfl,-⟩:=hO.len;have hP9:=rY.aC Ql J;obtain⟨f0,f1,f2,f3,f4⟩:=Z5 hP9;have ff:=aN hP9;have HP9:=Z hP9;have HO9:=Z hO;have Fx:=Z rY;clear hO rY hP9);let⟨IU,GT⟩:=D (hY w9 (Ad Bp 4) (jS oa (O OL) oc));have yH:U w9 [Bp] IU [Bp]:=GT▸qX w9 Bp 4 _;have aQC:IU.heap[Bp]? =H (kd #[jS va (O (vars q)) vc,jS ya (O q.head) yc,eC gn 0 (O S8) xc,It dQ,jS oa (O OL) oc] 75 (0,0)):=by rw[<-GT,aF _ HP9.o];rfl
        have a2A:=fy.o.n.ty (k:=gn) rfl;have aPw:i7 w.heap+1∉[gn]:=λF=>by
         have m:=fB sF.o;rw[show i7 w.heap+1=gn by simpa using F,Sd.o.n.ty (k:=gn) rfl]at m;exact dY m E
        have aPx:i7 w.heap+1≠Bp:=λe=>oj _ (xF (dG FG.o) (by rw[e];exact aYS.o));have hR9:=Fx.o.aC (lM.o.aC (hU.aC sF.o aPw) aPw) J;have H9:=yH.aC hR9 (λF=>aPx (eP F));let⟨h5,cO⟩:=Gr (x:=jS va (O (vars q)) vc) (y:=jS ya (O q.head) yc) (z:=eC gn 0 (O S8) xc) (u:= It dQ) (v:=jS oa (O OL) oc) H9;have gN:=Z cO;have HH5:=Z h5;have Tn:=Z (hU.ds lM.o);have de:=Z yH;have TM:=Z H9;have bCY:=Z aQC;obtain⟨V,p1,p2,p3,p4⟩:=Z5 aQC;obtain⟨r0,r1,r2,r3,r4⟩:=Z5 H9;have rf:=aN H9;have bCR:=Z aPx;clear f0 f1 f2 f3 f4 h5 cO hU yH aQC hR9 H9 aPx aPw a2A hP6 Ql;rw[GT];clear GT;repeat(first|go_values|go_skip|go_guarded|go_step|go_upon)
        refine mY (aW (A:=⟨i7 w.heap+1,0,K⟩) (T:=75) rfl Yr (v:= .agg #[jS va (O (vars q)) vc,jS ya (O q.head) yc,eC gn 0 (O S8) xc,It dQ,jS oa (O OL) oc]) (by go_simp)) rfl ?_;have Xe:(aB q).2=⟨vars q,hdl,m2.map (·.1),dQ,OL⟩:=by
         unfold aB;rw[R (by simp[hs]),R (by rw[show((run 0 cI (cD (aJ q))).2.any λx=>decide (x.2≠0))=nK q from rfl,HCY.o];simp),O7.o];simp only[];rw[HES.o,dj.o,II.o,HRE.o];have KD:O bF.1=O W:=by rw[<-aXh.o,r8]
         simp only[HHD.o,HEE.o,a48.o,KD];rw[<-HHG.o];have ho:fO (m2.map (·.1)) (O (m2.map (·.1))) dQ=OL:=by
          rw[C3 a5k.o dQ (by rw[r8];exact HRL.o) _ (by rw[r8];exact HRL.o)];exact Y3.o
         rw[ho]
        obtain⟨gnx,cnx,Kw,hox,-,-,-,bBo,aMt⟩:=(show eV _ _ _ _ _ _ from Sd.o.n.1).block Pu;injection Kw with x1 x2 x3;injection x1 with x1;injection x1 with x1;subst x1;have hnt:∀(k:Nat),k∈[Bp]->mU w9 k≠H 79/\mU w9 k≠H 3:=λk N=>by
         rw[show k=Bp by simpa using N,fB HP9.o];exact⟨E,E⟩
        have a19:∀(k:Nat),k∈[i7 w.heap+1]->mU IU k≠H 79/\mU IU k≠H 3:=λk N=>by
         rw[show k=i7 w.heap+1 by simpa using N,fB TM.o];exact⟨E,E⟩
        have aVp:=((fy.o.on Fx.o).eb de.out hnt).eb gN.o a19;have a2d:=(((bz.o.eU Tn.o (λk N F=>bz.o.ne aMt E (by rw[N,show k=gn by simpa using F];simp))).on Fx.o).set HP9.o E de.out).set TM.o E gN.o;have a3C:=(((pL.o.eU Tn.o (λk N F=>pL.o.ne aMt E (by rw[N,show k=gn by simpa using F];simp))).on Fx.o).set HP9.o E de.out).set TM.o E gN.o;have a2r:=(HO9.o.set HP9.o E de.out).set TM.o E gN.o;have a2B:i7 w.heap<=gn:=j8 iF.o.size (fy.o.n.2 gn rfl);have XJ:U w [] w6 []:=a4P.o.bJ Tn.o (λk N=>by rw[show k=gn by simpa using N];exact a2B);have aJx:=((XJ.ds Fx.o).bJ de.out (λk N=>by rw[show k=Bp by simpa using N];exact aLt.o)).bJ gN.o (λk N=>by rw[show k=i7 w.heap+1 by simpa using N];omega);exact⟨_,rfl,⟨⟨_,_,_,_,m2,by rw[Xe],by rw[Xe];exact a2d,by rw[Xe];exact a3C.eO aH5.o.size,⟨aVp.n.eO iF.o.size,λx hx=>(aVp.o x hx).eO iF.o.size⟩,by rw[Xe],by rw[Xe];exact a2r.eO XJ.size⟩⟩,aJx⟩
end Go.Proofs.YtohhhhfdpceppaaGreatDoor
