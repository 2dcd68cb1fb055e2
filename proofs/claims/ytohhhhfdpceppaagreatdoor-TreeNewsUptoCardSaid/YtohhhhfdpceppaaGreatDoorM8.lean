/- Part of the proof that the tied card of a law of the tree holds; no condition is added. -/
import Derived.Test.YtohhhhfdpceppaaGreatDoorM7
namespace Go.Proofs.YtohhhhfdpceppaaGreatDoor
set_option maxHeartbeats 4000000
set_option maxRecDepth 100000
set_option linter.all false
open Go.RowKit Go.Maps Go.Proofs.Tryz Tryz
open _root_.Array renaming size→i7
open _root_.Bool renaming false→rR,true→qT
open _root_.Go.Ending renaming returned→mi
open _root_.Go.IntKind renaming i64→mn,u8→n9
open _root_.Go.Obj renaming cells→kd
open _root_.Go.Value renaming bool→nj,int→mj,ownBlock→i6,pointer→lr,slice→jS,string→mX,tuple→mr
open _root_.Go.World renaming alloc→i5,cell?→h8,setCell→hY
open _root_.Inhabited renaming default→sT
open _root_.List renaming getD→hJ,length→O,range→gz,length_reverse→oj
open _root_.Option renaming none→K,some→H
open Go renaming World→aA,Value→aE,TypeId→ap,maxLen→bH,Program→cj
open Go.RowKit renaming Hid→dT
variable{ns:List (bE×aE)}{F G b bu dQ ub β:Nat}{q:bK}{r:Row}{ρ:bC}{rv v0 v1 v2 v4:aE}{w w3 we wx:aA}
theorem ZM196{P:Prop}(h:P:=by
  refine j5 ?_;clear hK vm;refine Zo 11 λvm hK=> ?_;go_simp;refine LP ?_;clear hK vm;clear Q bf b0;go_wp2;go_meet;rw[fu.o];exact HN.o):P:=h
theorem ZM2{P:Prop}(h:P:=by
  have htq:=Tf.xt;have huq:=Tf.xu;have z1:=Zc htq 0;have y1:=Zc huq 0;obtain⟨-,-,-,l12,lb,aOp,aOo⟩:=hCq.bd.CI;have MT:t.lK<=N:=HH.num.2;have hcw:IntKind.i64.wrap ((t.lK:Int)+1)=(t.lK:Int)+1:=QY _ (kX Tr.1);let⟨aGT,pJ⟩:=hCq.bd.tL (t.lK+1);let⟨w1,eW⟩:=D (hY wq (Ad b 12) (X ((t.lK:Int)+1)));have Xt:gT w1 pC β b q cells t.state (t.lK+1) Wk.T F G:=eW▸aGT;have aG8:bI wq pC (·=β) w1 pC:=eW▸pJ;have aHy:=Z Xt;have CU:=Z aG8;have HCQ:=Z hCq;have HBQ:=Z Tf;have HRQ:=Z hRq;clear aGT pJ Xt aG8 hCq Tf hRq htq huq;go_upto_region 25 with(fail);have rN:=HBQ.BD.2.1;have z2:=CU.cell z1 (kG rN);obtain⟨-,-,-,MI,mb,aOm,-⟩:=aHy.CI;clear l12 lb aOp aOo z1 y1 rN;refine fj 7 (ez z2<|ey MI) (λw2 rM bM Q=> ?_);clear z2 MI mb aOm;have oy:=aHy.on bM;obtain⟨-,-,n11,-,nb2,aOe,-⟩:=oy.CI;let⟨Db,qi⟩:=oy.Uw (t.lK+1);obtain⟨w3',mg⟩:∃w3',hY w2 (Ad b 11) (X ((t.lK+1:Nat):Int))=w3':=⟨_,rfl⟩;rw[mg]at Db qi;have aRz:=Z Db;have Se:=Z ((CU.kV bM).ds qi);have HW3:=Z (show hY w2 (Ad b 11) (X ((t.lK:Int)+1))=w3' from mg);clear rM bM oy Db qi mg;refine ek [0,1,2,3,4] ?_;refine Zo 5 λvm hK=> ?_;go_simp;refine j5 ?_;clear hK vm;refine I 6 ?_;refine Zo 7 λvm hK=> ?_;go_simp;refine LP ?_;clear hK vm;clear Q n11 nb2 aOe;rw[HW3.o];have tV:=HBQ.eb Se Y Y (λx hx=>by rw[hx];unfold CK;omega);have aFY:=HCQ.ub.eb Se Y Y;have hbu:=tV.xu;have y3:=Zc hbu 0;obtain⟨-,-,k7,k8,-,-,-,-⟩:=aFY.cells;have hqr:pC br=β+8:=HC.EG;have rZ:=Se.aC HRQ (kG hqr);obtain⟨s0,s1⟩:=Z2 rZ;have sf:=aN rZ;have sl:=iP (dG rZ);let⟨M4,M3⟩:=UK (x:=X (Wk.aQ:Int)) (y:=X (Wk.count (O (aB q).2.aI):Int)) rZ;have FG:=Z (eI hqr (eI M4 M3));clear tV aFY hbu hqr rZ M4 M3;repeat(first|go_values|go_skip|go_guarded|go_step|go_upon)
  have f0:=Zc FG.2.1 0;have f1:=Zc FG.2.1 1;refine mY (aW (A:=Ad br 0) (T:=38) rfl Yr (v:= .agg #[X (Wk.aQ:Int),X (Wk.count (O (aB q).2.aI):Int)]) (by go_simp)) rfl ?_;rw[X7.o];have xD:bI w3' pC (·=β+8) (hY (hY w3' (Ad br 0) (X (Wk.aQ:Int))) (Ad br 1) (X (Wk.count (O (aB q).2.aI):Int))) pC:=FG.2.2.qO (λk hk=> .inl (by rw[show k=br by simpa using hk];exact FG.1));have hG:=U6.2.2;have hF:=U6.2.1;refine⟨pC,rfl,?_,⟨((aRz.eb xD Y Y (λi c _ _=>by unfold mR;omega)).mono Y Y),HH.ok,HC.ZM,⟨fV _,by have:=HH.num.2;simp only;omega⟩,HH.cel⟩⟩;exact((((wH.ds Y6).aL nZ).ds (HC.fK.aL (λ_=>gj.tr))).kV LI).ds ((Se.aL (λx hx=>by rw[hx];unfold CK;omega)).ds (xD.aL (λx hx=>by rw[hx];unfold CK;omega)))):P:=h
theorem ZM15{P:Prop}(h:P:=by
  have H9:=Ii.aC Ms.1 (by rw[Ms.o.2];exact BB.not Y Y Y Y);have aFd:LO br=β+8:=(Ii.cE br (dG Ms.1)).ds Ms.2;obtain⟨s0,s1⟩:=Z2 H9;have sf:=aN H9;have sl:=iP (dG H9);let⟨M4,M3⟩:=UK (x:=X 0) (y:=X 0) H9;have TM:=Z (eI aFd (eI M4 M3));clear H9 aFd M4 M3;repeat(first|go_values|go_skip|go_guarded|go_step|go_upon)
  have f0:=Zc TM.2.1 0;have f1:=Zc TM.2.1 1;refine mY (aW (A:=Ad br 0) (T:=38) rfl Yr (v:= .agg #[X 0,X 0]) (by go_simp)) rfl ?_;rw[X7.o];have Yk:bI IU LO (·=β+8) (hY (hY IU (Ad br 0) (X 0)) (Ad br 1) (X 0)) LO:=TM.2.2.qO (λk hk=> .inl (by rw[show k=br by simpa using hk];exact TM.1));refine⟨LO,rfl,?_,⟨(aHc.bd.eb Yk Y Y (λi c _ _=>by unfold mR;omega)),HH.ok,dk,⟨HH.num.1,Nat.le_succ_of_le HH.num.2⟩,HH.cel⟩⟩;exact(((wH.ds Y6).aL nZ).ds (aCd.aL (λ_=>gj.tr))).ds ((Ii.aL (λ_=>BB.tr)).ds (Yk.aL (λx hx=>by unfold CK;omega)))):P:=h
theorem ZM28{P:Prop}(h:P:=by
  have oB:=aHd.o E;have JH:=aGk (P:=aZ (aB q).2) (add:=add) (l:=List.range' (k+1) (O q.aD-(k+1))) (done:=done) aHp HX (w:=Wk) (by rw[HD'.out,HEC.o];decide);rw[HD'.out,oB]at JH;have Sh:=Z JH;have TL:=Z oB;clear oB JH;go_wp2;go_roundg (O q.aD-(k+1))
  .refine⟨k+1,X8,d.1,done,dv,Y,rfl,eY,?_⟩;rw[TL.o];have ht:=sx.o;rw[TL.o]at ht;exact⟨aCd,ht,gi,by rw[<-Sh.o];exact gd,HC.ZM,by have:=HC.stp;rw[Nat.succ_mul];unfold P9 at*;simp only;omega,by have:=HC.eG;simp only;exact Nat.le_succ_of_le this,HC.dn,kX HC.dl,Ms.1,Ms.2⟩
  have:=JY.o;omega):P:=h
theorem ZM59{P:Prop}(h:P:=by
  have bf:=aN hBz;have b0:=Zc hBz 0;clear dR mK iA Pn hBz;exact ZM196):P:=h
theorem ZM140{P:Prop}(h:P:=by
  subst e;rw[hb]at Kx;have:=Option.some.inj Kx;injection this with _ h2;exact dY h2 E):P:=h
def Mn(w:aA)(ρ:bC)(β b:Nat)(q:bK)(cells N:Nat)(bEs:iL×Nat×Nat×Nat)(e:Ending)(w':aA):Prop:=
 ∃bV,e=mi (mr #[.agg #[mj mn (bEs.2.1:Int),mj mn (bEs.2.2.1:Int)],mj mn (bEs.2.2.2:Int)])/\bI w ρ (CK β) w' bV/\lR w' bV β b q cells bEs.1 (N+1) (N+1)
def ij(T:gZ):jU:=⟨T,0,λ_=>[]⟩
theorem ZE(T:gZ)(n:Nat):(ij T).count n=0:=by
 unfold jU.count ij;induction n with
 |zero=>rfl
 |succ n ih=>rw[dr,QW,List.sum_append,ih];rfl
structure FE(w3:aA)(b dQ:Nat)(v0 v1 v2 v4:aE)(add:Bool)(s6:aE)(wx:aA):Prop where
 ex:∃bu ub M,s6=lr (H ⟨bu,0,K⟩)/\U w3 [] wx []/\(i7 w3.heap<=bu/\i7 w3.heap<=ub/\i7 w3.heap<=M)/\wx.heap[bu]? =H (kd #[lr (H ⟨ub,0,K⟩)] 142 (0,0))/\
  wx.heap[ub]? =H (kd (lS b dQ v0 v1 v2 v4 add 0 0 M) 145 (0,0))/\gM wx 3 M (λ_=>K) 0
def OS(n ub M β:Nat)(ρ:bC):bC:=λk=>if k=ub then β+2 else if k=M then β+4 else if n<=k then β+6 else ρ k
theorem FE.start{cells:Nat}{t:iL}{s6:aE}{add:Bool}(h:FE w3 b (aB q).2.dQ v0 v1 v2 v4 add s6 wx)(p:gT w3 ρ β b q cells t.state t.lK t.T F G)(C:bo q)(y:lW nS sT 7 w3 ρ (β+1) v2 ns)(L:ns.map (·.1)=(aB q).2.aI)(w:∀x,x∈ns->∃a n c,x.2=jS a n c)(v:∃a n c,v0=jS a n c)(B:∃a n c,v1=jS a n c)(f:∃a n c,v4=jS a n c):
  ∃bu ub M,s6=lr (H ⟨bu,0,K⟩)/\bI w3 ρ eZ wx (OS w3.heap.size ub M β ρ)/\wx.heap[bu]? =H (kd #[lr (H ⟨ub,0,K⟩)] 142 (0,0))/\OS w3.heap.size ub M β ρ bu=β+6/\
   f9 wx (OS w3.heap.size ub M β ρ) β b ub M q cells t.state t.lK add (ij t.T) F G/\(i7 w3.heap<=bu/\i7 w3.heap<=ub/\i7 w3.heap<=M):=by
 obtain⟨bu,ub,M,rfl,g,⟨r,g2,g3⟩,hb,Kx,m⟩:=h.ex;have l:∀k,k<i7 w3.heap->OS w3.heap.size ub M β ρ k=ρ k:=λk u=>by
  unfold OS;rw[R Y,R Y,R Y]
 have d:bI w3 ρ eZ wx (OS w3.heap.size ub M β ρ):=⟨g.os,g.tape,g.output,g.size,λk u _=>g.block k u J,l⟩;have A:bu≠ub:=λe=>by
  exact ZM140
 have e2:=(m.ne hb).symm;have z:=(m.ne Kx).symm;refine⟨bu,ub,M,rfl,d,hb,?_,⟨p.eb d id id (λ_ _ _ _ h=>h),⟨⟨v0,v1,v2,v4,ns,?_,y.eb d id,L,w,v,B,f⟩,?_⟩,⟨⟨λ_=>K,0,m,Y,λi N=>⟨[],pI.nil _ _ _,rfl,λj us=>dY us (Gd j)⟩⟩,?_⟩,C⟩,r,g2,g3⟩
 .unfold OS;rw[R A,R e2,bW r]
 .rw[ZE];exact Kx
 .unfold OS;rw[bW rfl]
 .unfold OS;rw[R z.symm,bW rfl]
theorem FE.of{M:Nat}{add:Bool}(g:U w3 [] we [])(d:i7 w3.heap<=bu)(g2:i7 w3.heap<=ub)(g3:i7 w3.heap<=M)(hb:we.heap[bu]? =H (kd #[lr K] 142 (0,0)))(Kx:we.heap[ub]? =H (kd (lS b dQ v0 v1 v2 v4 add 0 0 M) 145 (0,0)))(c:gM we 3 M (λ_=>K) 0):FE w3 b dQ v0 v1 v2 v4 add (lr (H ⟨bu,0,K⟩)) (hY we ⟨bu,0,K⟩ (lr (H ⟨ub,0,K⟩))):=by
 have j:ub≠bu:=λe=>by
  exact ZM140
 have a:U we [bu] (hY we (Ad bu 0) (Pt ub)) [bu]:=qX we bu 0 _;refine⟨bu,ub,M,rfl,g.bJ a (λx i=>by rw[show x=bu by simpa using i];exact d),⟨d,g2,g3⟩,?_,a.aC Kx (eP j),c.eU a (eP (c.ne hb))⟩;rw[aF _ hb];rfl
theorem Ej{cells N tr:Nat}{t:iL}{add:Bool}{rel:dO}(h:lR w ρ β b q cells t N N)(hN:N+1<1073741824)(hv:lW dV aR 3 w ρ tr rv r)(pY:¬CK β tr)(hf:CE r):
  Calls prog 24 #[lr (H ⟨b,0,K⟩),.agg #[nj add,mX rel,rv]] w (Mn w ρ β b q cells N (fC (aZ (aB q).2) cells (O q.aD) t add (pD q rel) (d8 q r))):=by
 obtain⟨ra,rc,hrv,-⟩:=hv.1.len;subst hrv;let⟨wa,dM⟩:=D (i5 w (kd #[Pt b] 27));let⟨wb,qG⟩:=D (i5 wa (kd #[nj add,mX rel,jS ra (O r) rc] 36));let⟨w3,jA⟩:=D (i5 wb (kd #[X 0,X 0] 38));have cV:=Za dM;have oD:=Za qG;have cW:=Za jA;have hsa:i7 wa.heap=i7 w.heap+1:=by rw[<-dM];simp
 have hsb:i7 wb.heap=i7 w.heap+2:=by rw[<-qG];simp[hsa]
 have hs3:i7 w3.heap=i7 w.heap+3:=by rw[<-jA];simp[hsb]
 have hBt:uD w3 w.heap.size #[Pt b] 27:=(oD.ds cW).aC (by rw[<-dM];exact mE w _) J;have hBc:uD w3 wa.heap.size #[nj add,mX rel,jS ra (O r) rc] 36:=cW.aC (by rw[<-qG];exact mE wa _) J;have TZ:=Zb jA;have pw:U w [] w3 []:=(cV.ds oD).ds cW;let⟨bt,KX⟩:=D (i7 w.heap);let⟨bc,hbc⟩:=D (i7 wa.heap);let⟨br,hbr⟩:=D (i7 wb.heap);have xT:bI w ρ eZ w3 (up br (β+8) (up w (β+6) ρ)):=(pw.fK (S:=eZ) (β+6) (λ_ h=>dY h J)).D6 (β+8) Y;let⟨mI,nD⟩:=D (up br (β+8) (up w (β+6) ρ));have Kz:mI bt=β+6:=by rw[<-nD,fG Y];exact cY Y
 have htc:mI bc=β+6:=by rw[<-nD,fG Y];exact cY Y
 have aTw:mI br=β+8:=by rw[<-nD];exact cY Y
 rw[nD]at xT;rw[KX]at hBt;rw[hbc]at hBc;rw[hbr]at TZ;obtain⟨F,G,aWG,aWF,aWE,aWD,aWC⟩:∃F G,(if add=qT then F+1<=G else G<=F)/\N<=F/\N<=G/\F<=N+1/\G=N+1:=by
  cases add with
  |true=>exact⟨N,N+1,J,Y,Y,Y,rfl⟩
  |false=>exact⟨N+1,N+1,J,Y,Y,Y,rfl⟩
 have Db:=(h.bd.eb xT id id (λ_ _ _ _ h=>h)).mono aWF aWE;have aMe:=hv.eb xT id;obtain⟨yP,av,v0,v1,v2,v4,nv,ov,ps,ns,xB,bs,aGP,hfx,-⟩:=Db.ex;obtain⟨⟨us,f,L,hv0⟩,⟨va1,vn1,z,Ww⟩,⟨va4,vn4,B,hv4⟩⟩:=hfx.vs;obtain⟨va2,vc2,A8,-⟩:=hfx.aI.1.len;obtain⟨aa,ac,hav,ham⟩:=hfx.qt.aD.1.len;rw[hfx.qt.len]at hav ham;subst hav hv0 Ww hv4;have SR:=aGP;unfold iO at SR;rw[A8]at SR;have a2:=Zc SR 2;have p3:=Zc SR 3;have p4:=Zc SR 4;have p5:=Zc SR 5;have p6:=Zc SR 6;have p7:=Zc SR 7;have t0:=Zc hBt 0;obtain⟨c0,c1,c2⟩:=Z3 hBc;have mk:∀wz:aA,(Instr.makeMap 143 K).run prog wz= .ok (.map (H wz.heap.size)) (wz.alloc (.map #[] 0)):=λ_=>rfl;have HH:=Z h;have HBD:=Z Db;have HFX:=Z hfx;have aHg:=Z aMe;have wH:=Z xT;have Tu:=Z (eI hBt (eI hBc (eI TZ (eI Kz (eI htc aTw)))));have U6:=Z (eI aWG (eI aWD aWC));have Tr:=Z (eI hN (eI pY hf));have fu:=Z A8;have QP:=Z (show bt<i7 w3.heap/\bc<i7 w3.heap/\br<i7 w3.heap by omega);clear h hv pY hf hN cV oD cW hsa hsb hs3 hBt hBc TZ pw xT nD Kz htc aTw aWG aWF aWE aWD aWC Db aMe aGP SR hfx A8;go_in;go_upto_region 1 with(fail);go_cut [6] (λs6 wx=>FE w3 b (aB q).2.dQ (jS us f L) (jS va1 vn1 z) v2 (jS va4 vn4 B) add s6 wx)
 case first=>
  refine fj 11 (ez t0<|ez c0<|ez p3<|ez p4<|ez p5<|ez p6<|ey p7) (λwd fF pH Q=> ?_);clear t0 c0 c1 c2 a2 p3 p4 p5 p6 p7;have o9:=Z pH;clear fF pH;refine ek [0,1,5,2,6,3,4] ?_;refine vG (i:=7) (j:=10) dJ rfl rfl rfl rfl (λvm hK=> ?_) (λvm hK=> ?_)
  .go_simp;let⟨w4,uC⟩:=D (wd.alloc (.map #[] 0));let⟨M,hM⟩:=D (i7 wd.heap);have eJ:=Za uC;have hm4:gM w4 3 M (λ_=>K) 0:=by rw[<-uC,<-hM];exact gM.xO wd _
   rw[uC,hM];replace Q:=eJ.zh7 Q;have lH:=Z (o9.ds eJ);have LM:=Z hm4;have HGM:=Z (show i7 w3.heap<=M by have:=o9.size;omega);clear eJ hm4 uC hM;refine j5 ?_;clear hK vm;refine I 8 ?_;refine vG (i:=9) (j:=10) dJ rfl rfl rfl rfl (λvm hK=> ?_) (λvm hK=> ?_)
   .go_simp;let⟨w5,p⟩:=D (i5 w4 (kd (lS b (aB q).2.dQ (jS us f L) (jS va1 vn1 z) (jS va2 (O ns) vc2) (jS va4 vn4 B) add 0 0 M) 145));have W:=Za p;have uV:uD w5 w4.heap.size (lS b (aB q).2.dQ (jS us f L) (jS va1 vn1 z) (jS va2 (O ns) vc2) (jS va4 vn4 B) add 0 0 M) 145:=by rw[<-p];exact mE w4 _
    have aJs:=p;unfold lS at aJs;simp only[Int.natCast_zero]at aJs;rw[aJs];replace Q:=W.zh7 Q;have gN:=Z (lH.ds W);have BA:=Z uV;have NI:=Z (LM.eU W J);clear W uV p aJs;refine j5 ?_;clear hK vm;refine Zo 10 λvm hK=> ?_;go_simp;let⟨w6,iA⟩:=D (i5 w5 (kd #[lr K] 142));have dR:=Za iA;have mK:=Zb iA;rw[iA];replace Q:=dR.zh7 Q;have HN:=Z (FE.of (gN.ds dR) (j8 gN.size (fV _)) lH.size HGM mK (dR.aC BA J) (NI.eU dR J));have bf:=aN mK;have b0:=Zc mK 0;clear dR mK iA;exact ZM196
   .go_simp;let⟨w5,p⟩:=D (i5 w4 (kd #[lr K] 142));have W:=Za p;have uV:=Zb p;rw[p];replace Q:=W.zh7 Q;have gN:=Z (lH.ds W);have BA:=Z uV;have NI:=Z (LM.eU W J);clear W uV p;refine j5 ?_;clear hK vm;refine Zo 9 λvm hK=> ?_;go_simp;let⟨w6,iA⟩:=D (i5 w5 (kd (lS b (aB q).2.dQ (jS us f L) (jS va1 vn1 z) (jS va2 (O ns) vc2) (jS va4 vn4 B) add 0 0 M) 145));have dR:=Za iA;have mK:uD w6 w5.heap.size (lS b (aB q).2.dQ (jS us f L) (jS va1 vn1 z) (jS va2 (O ns) vc2) (jS va4 vn4 B) add 0 0 M) 145:=by rw[<-iA];exact mE w5 _
    have Pn:=iA;unfold lS at Pn;simp only[Int.natCast_zero]at Pn;rw[Pn];replace Q:=dR.zh7 Q;have hBz:=dR.aC BA J;have HN:=Z (FE.of (gN.ds dR) lH.size gN.size HGM hBz mK (NI.eU dR J));exact ZM59
  .go_simp;let⟨w4,uC⟩:=D (i5 wd (kd #[lr K] 142));have eJ:=Za uC;have AA:=Zb uC;rw[uC];replace Q:=eJ.zh7 Q;have lH:=Z (o9.ds eJ);have OO:=Z AA;clear eJ AA uC;refine j5 ?_;clear hK vm;refine Zo 7 λvm hK=> ?_;go_simp;let⟨w5,p⟩:=D (w4.alloc (.map #[] 0));let⟨M,hM⟩:=D (i7 w4.heap);have W:=Za p;have hm5:gM w5 3 M (λ_=>K) 0:=by rw[<-p,<-hM];exact gM.xO w4 _
   rw[p,hM];replace Q:=W.zh7 Q;have gN:=Z (lH.ds W);have NI:=Z hm5;have BA:=Z (W.aC OO J);have HGM:=Z (show i7 w3.heap<=M by have:=lH.size;omega);clear W hm5 p hM;refine j5 ?_;clear hK vm;refine I 8 ?_;refine Zo 9 λvm hK=> ?_;go_simp;let⟨w6,iA⟩:=D (i5 w5 (kd (lS b (aB q).2.dQ (jS us f L) (jS va1 vn1 z) (jS va2 (O ns) vc2) (jS va4 vn4 B) add 0 0 M) 145));have dR:=Za iA;have mK:uD w6 w5.heap.size (lS b (aB q).2.dQ (jS us f L) (jS va1 vn1 z) (jS va2 (O ns) vc2) (jS va4 vn4 B) add 0 0 M) 145:=by rw[<-iA];exact mE w5 _
   have Pn:=iA;unfold lS at Pn;simp only[Int.natCast_zero]at Pn;rw[Pn];replace Q:=dR.zh7 Q;have hBz:=dR.aC BA J;have HN:=Z (FE.of (gN.ds dR) o9.size gN.size HGM hBz mK (NI.eU dR J));exact ZM59
 case rest=>
  obtain⟨bu,ub,M,rfl,xD,hbu,htu,Lm,CD⟩:=hcut.start HBD HH.ok HFX.aI HFX.nsp HFX.nvs ⟨_,_,_,rfl⟩ ⟨_,_,_,rfl⟩ ⟨_,_,_,rfl⟩;generalize Hk:OS w3.heap.size ub M β mI=ρ4 at xD htu Lm;let⟨w5,p⟩:=D (i5 wc (kd #[cR] 50));have W:=Za p;have hBd:=Zb p;have sA:bI wc ρ4 eZ w5 (up wc (β+6) ρ4):=W.fK (S:=eZ) (β+6) (λ_ h=>dY h J);have htd:up wc (β+6) ρ4 wc.heap.size=β+6:=cY (fV _);let⟨bd,hbd⟩:=D (i7 wc.heap);generalize GS:up wc (β+6) ρ4=oT at sA htd;rw[hbd]at hBd htd;have FW:bI w3 mI eZ w5 oT:=xD.ds sA;have FA:=Lm.eb sA vF vF (λ_ _ _ _ h=>h);obtain⟨b1,b2,b3,b4,b5,b6⟩:=Tu.o;obtain⟨z1,z2,z3⟩:=QP.o;have aVS:KQ w5 oT β b ub bu bd bt bc add rel (jS ra (O r) rc) cR r tr []:=
   ⟨sA.aC hbu id,FW.aC b1 id,FW.aC b2 id,hBd,⟨(sA.cE _ (dG hbu)).ds htu,(FW.cE _ z1).ds b4,(FW.cE _ z2).ds b5,htd⟩,aHg.eb FW id,Tr.2.1,Tr.2.2,pI.nil _ _ _⟩
  have Xg:aNu w5 oT β b ub M bu bd bt bc br q cells t.state t.lK add F G rel (jS ra (O r) rc) r tr (bX (aZ (aB q).2) add (pD q rel) (d8 q r) (gz (O q.aD)) (ij t.T) []) 0 w5 oT (ij t.T) [] cR:=
   ⟨bI.refl _ _ _,FA,aVS,by rw[List.range_eq_range',Nat.sub_zero],HH.ZM,by simp[ij],by rw[ZE];exact O9 _,J,J,FW.aC b3 id,(FW.cE _ z3).ds b6⟩
  have Y5:=Z Xg;have t0':=xD.cell t0 id;have a2':=xD.cell a2 id;have t5:=FW.cell t0 id;have a5:=FW.cell a2 id;have Y6:=Z FW;have a5m:=Z hbd;have lbt:=iP (IL t0');have lb:=iP (IL a2');clear hcut xD hbu htu Lm CD Hk hbd W hBd sA htd GS FW FA b1 b2 b3 b4 b5 b6 z1 z2 z3 aVS Xg t0 c0 c1 c2 a2 p3 p4 p5 p6 p7 mk;go_upto_region 5 with(fail);try rw[p]
  rw[a5m.o];clear p lbt lb t0' a2';generalize hRG:bX (aZ (aB q).2) add (pD q rel) (d8 q r) (gz (O q.aD)) (ij t.T) []=RG at Y5;have HRG:=Z hRG;have hm6:=HH.ok.six;clear hRG;go_loopg [33] (O q.aD) (λgg s33 wr=>∃(k:Nat) (pC:bC) (Wk:jU) (done:List Nat) (dv:aE),k<=O q.aD/\gg=O q.aD-k/\s33=X k/\aNu w5 oT β b ub M bu bd bt bc br q cells t.state t.lK add F G rel (jS ra (O r) rc) r tr RG k wr pC Wk done dv)
  .exact⟨0,oT,_,[],_,Y,rfl,rfl,Y5⟩
  obtain⟨k,pC,Wk,done,dv,hk,CP,rfl,m⟩:=hrel;have JY:=Z CP;clear CP;by_cases aY:k<O q.aD
  .obtain⟨A8,av2,v02,v12,v22,v42,nv2,ov2,ps2,ns2,a9r,bs2,aGO,aGD,-⟩:=m.xI.bd.ex;have hx:=m.fK.cell a5 (by rw[show oT b=β from(Y6.o.cE b (by have:=HBD.o.CI.2.2.2.2.1;exact this)).ds HBD.o.cE];exact gj.not Y Y Y Y Y Y);have ow:=aGO;unfold iO at ow;have hy:=Zc ow 2;rw[hy]at hx;injection hx with hx;change av2=jS aa (O q.aD) ac at hx;subst hx;obtain⟨ga,oa,ca,a24,-,fh⟩:=fM.aS aGD.qt.aD.1 (i:=k) (by rw[aGD.qt.len];exact aY);let⟨aFb,JD⟩:=aGD.qt.lD k aY;generalize ha:hJ q.aD k sT=a at aFb JD;obtain⟨ta,tc,IM,-⟩:=JD.1.len;have p0:h8 wr (Ad ga (oa+k*2))=H (mX a.rel):=by have:=fh 0 E;rwa[show xV (hJ ps2 k sT) 0=mX (hJ ps2 k sT).1 from rfl,aFb]at this
   have p1:h8 wr (Ad ga (oa+k*2+1))=H (jS ta (O a.aV) tc):=by have:=fh 1 E;rwa[show xV (hJ ps2 k sT) 1=(hJ ps2 k sT).2 from rfl,IM]at this
   injection a24 with x1 x2 x3;clear x2 x3;subst x1;have mJ:=m.box;have hu:=mJ.xu;have ht:=mJ.xt;have hcc:=mJ.xc;have hd:=mJ.xd;have y0:=Zc hu 0;have z0:=Zc ht 0;obtain⟨q0,q1,q2⟩:=Z3 hcc;have d0:=Zc hd 0;have lga:=iP (IL p0);have lu:=iP (IL y0);have lt':=iP (IL z0);have lc:=iP (IL q0);have ld:=iP (IL d0);have hlen:k<O (gz (O q.aD)):=by rw[List.length_range];exact aY
   have V:=m.eq;rw[ju aY]at V;have gd:=Z V;have HA:=Z ha;have YW:=Z aY;have HBL:=Z (eI aGO aGD);have BH:(k:Int)<(O q.aD:Int):=Y;have HC:=Z m;clear aGO ow aGD hy fh aFb JD IM mJ hu ht hcc hd hlen V ha;by_cases YI:a.rel=rel
   .have aUm:pD q rel k=qT:=by unfold pD;rw[HA.o];exact kY YI
    have aHp:=Z aUm;have hsx:=A2 rel rel;rw[YI]at p0;let⟨w6,iA⟩:=D (i5 wr (kd #[mX rel,jS ta (O a.aV) tc] 87));have dR:=Za iA;have kI:=Zb iA;obtain⟨ea0,ea1⟩:=Z2 kI;have y6:=dR.cell y0 J;have q61:=dR.cell q1 J;clear kI;have hT6:=m.xI.on dR;obtain⟨-,-,k7,-,-,klt,kf7,-⟩:=hT6.ub.cells;let⟨w7,vV⟩:=D (hY w6 (Ad ub 7) (X ((Wk.aQ:Int)+1)));have hT7:f9 w7 pC β b ub M q cells t.state t.lK add {Wk with aQ:=Wk.aQ+1} F G:=by rw[<-vV];exact hT6.M0 (Wk.aQ+1)
    have MX:bI w6 pC (·=β+2) w7 pC:=by rw[<-vV];exact hT6.ub.Bh (Wk.aQ+1)
    have qg:bI wr pC (·=β+2) w7 pC:=(dR.fL).ds MX;have FX:=m.box.eb qg Y Y (λx hx=>by unfold CK;omega);have rX:=m.stp;have hcw:IntKind.i64.wrap ((Wk.aQ:Int)+1)=(Wk.aQ:Int)+1:=QY _ (kX (UI (k:=k) Y));have aVQ:pC b=β:=m.xI.bd.cE;have aMu:=qg.aC HBL.1 (kG aVQ);have aUs:=HBL.2.eb qg Y;have eo:=FX.xu;have ht7:=FX.xt;have hc7:=FX.xc;have y7:=Zc eo 0;have z7:=Zc ht7 0;have r7:=Zc hc7 2;have HLR:=Z (WC (i:=k) (a:=a) aMu aUs HH.ok aY HA FX.row.1 Tr.2.2);have Sa:=Z hT7;have Si:=Z FX;have LA:=Z (m.fK.ds (qg.aL (T:=gj β) (λx hx=>by unfold gj BB;omega)));have HR7:=Z (eI (qg.aC m.Jf (kG m.EG)) ((qg.cE br (dG m.Jf)).ds m.EG));have hrw:d8 q r k=jI (aB q).2 a k r:=by unfold d8;rw[HA.o]
    rw[<-hrw]at HLR;clear YI aUm m dR hT6 hT7 MX qg FX rX aVQ aMu aUs eo ht7 hc7 hrw;cases hx:d8 q r k with
    |none=>
     have HX:=Z hx;rw[hx]at HLR;clear hx;go_wp2_with (go_at_call 63;apply HLR.cX;rintro e w8 ⟨jB,rfl⟩;have LJ:=Z jB;clear jB);go_roundg (O q.aD-(k+1))
     .refine⟨k+1,pC,{Wk with aQ:=Wk.aQ+1},done,dv,Y,rfl,eY,?_⟩;exact⟨LA.kV LJ,Sa.on LJ,Si.on LJ,by rw[<-aKs aHp.o HX.o];exact gd,HC.ZM,by have:=HC.stp;rw[Nat.succ_mul];unfold P9 at*;simp only;omega,by have:=HC.eG;simp only;exact Nat.le_succ_of_le this,HC.dn,kX HC.dl,LJ.aC HR7.1 J,HR7.2⟩
     have:=JY.o;omega
    |some x=>
     have HX:=Z hx;rw[hx]at HLR;clear hx;have GX:k<O (aB q).2.aI:=xF YW HH.ok.wf.CZ;have hrf:=WB HH.ok YW (λv hv=>(Tr.2.2.2 v hv).2) HX.o;have Q6:=HH.ok.wf.cN k YW.o;have WK:∀W':jU,W'={Wk with aQ:=Wk.aQ+1}->W'.count (O (aB q).2.aI)=Wk.count (O (aB q).2.aI):=λW' e=>by rw[e];rfl
     obtain⟨W1,ym⟩:∃W1:jU,W1={Wk with aQ:=Wk.aQ+1}:=⟨_,rfl⟩;have aVK:=WK W1 ym;rw[<-ym]at Sa;have XY:=Z ym;have hdb:=qS (P:=aZ (aB q).2) (add:=add) W1 GX rR x;let⟨d,hd⟩:=D (fE (aZ (aB q).2) add W1 k rR x);have rX:=HC.stp;have hk6:=UI (k:=k) Y;have Tt:=Z (show Wk.count (O (aB q).2.aI)<=400000000/\Wk.aQ<=400000000 by have:=HC.eG;omega);have hdc:(fE (aZ (aB q).2) add W1 k rR x).1.count (O (aB q).2.aI)<=1099511627776:=by
      have h3:=hdb.2.2.1 rfl;have h7:=hdb.2.2.2.2.2.2;have:=Tt.o;omega
     rw[hd]at hdb;have HDB:=Z hdb;have HD:=Z hd;have HRF:=Z hrf;have HKN:=Z GX;have HLV:=Z Q6;have HDC:=Z hdc;have HCB:=Z aVK;clear WK aVK ym hdb hd rX hk6 hdc hrf GX Q6;go_upto_region 11 with(go_at_call 63;apply HLR.cX;rintro e w8 ⟨jB,u,rfl,hO8⟩;obtain⟨xa,xc,rfl,-⟩:=hO8.len;have y8:=jB.cell y7 J;have LJ:=Z jB;have HO8:=Z hO8;clear jB hO8);have pW:bI w7 pC eZ w8 (up w7 (β+3) pC):=LJ.fK (S:=eZ) (β+3) (λ_ h=>dY h J);have hK8:=(HO8.jR (β+3) pC).rd;generalize V0:up w7 (β+3) pC=ρ8 at pW hK8;have Hz:=Sa.eb pW vF vF (λ_ _ _ _ h=>h);have HDO:=Z (qv rR Hz HKN hK8 (λh'=>by have:=PW h';omega) HRF U6.1 (pN U6.2.2 Tr.1) HDC);rw[HD.o]at HDO;have HB8:=Z (Si.eb pW id id nZ);have TO:=Z (LA.ds (pW.aL (T:=gj β) nZ));have th:=Z (eI (pW.aC HR7.1 id) ((pW.cE br (dG HR7.1)).ds HR7.2));clear pW hK8 V0 Hz y7 z7 r7 k7 kf7 ea0 ea1 y6 q61;go_upto_region 12 with(go_at_call 64;apply HDO.cX;rintro e w9 ⟨X8,fv,tO,rfl,Td,Qh,htO,hf9⟩;obtain⟨fa,fc,rfl,-⟩:=hf9.len;have HM9:=Z Td;have sx:=Z Qh;have HF9:=Z (eI htO hf9);clear Td Qh htO hf9);have aKS:k<42:=pN HKN.o HH.ok.oE;have aG7:bI w8 ρ8 (BB β) w9 X8:=HM9.aL (λ_=>DoW.cl aKS);have Qv:=HB8.eb aG7 (BB.not Y Y Y Y) (BB.not Y Y Y Y) (λ_=>BB.tr);have gi:=Z Qv;have aCd:=Z (TO.ds (aG7.aL (T:=gj β) (λ_ h=> .inl h)));have Ms:=Z (eI (aG7.aC th.1 (by rw[th.o.2];exact BB.not Y Y Y Y)) ((aG7.cE br (dG th.1)).ds th.2));have Cx:fE (aZ (aB q).2) add {Wk with aQ:=Wk.aQ+1} k rR x=d:=by rw[<-XY.o];exact HD.o
     have HD':=Z Cx;have aGK:=aHB (P:=aZ (aB q).2) (add:=add) (w:={Wk with aQ:=Wk.aQ+1}) (k:=k) (sd:=rR) (r:=x);rw[Cx]at aGK;have WG:d.2.2.2≠0->d.1={Wk with aQ:=Wk.aQ+1}:=λh=>by rw[<-Cx]at h|-;exact aGy h
     generalize hec:d.2.2.2=ec at aGK WG|-;have aHd:=Z WG;have HEC:=Z hec;clear aKS aG7 Qv Cx WG hec HLR HDO HB8 TO th HM9 LJ HO8 Si LA HR7 Sa y8;rcases aGK with rfl|rfl|rfl|rfl
     .have hw0:(jU.mk Wk.T (Wk.aQ+1) Wk.aX)=({Wk with aQ:=Wk.aQ+1}:jU):=rfl;have aY:=aB2 (add:=add) (r:=x) HH.ok.wf.l9 (w:={Wk with aQ:=Wk.aQ+1}) HC.ZM HLV.1 HLV.2.1 HLV.2.2 (by rw[HD'.out,HEC.o];decide);have JH:=aWY (P:=aZ (aB q).2) (add:=add) (l:=List.range' (k+1) (O q.aD-(k+1))) (done:=done) aHp HX (w:=Wk) (by rw[HD'.out,HEC.o];decide) (by rw[HD'.out,HEC.o];decide) (by rw[HD'.out,HEC.o];decide);rw[HD'.out]at aY JH;have hN':(aZ (aB q).2).n=O (aB q).2.aI:=rfl;rw[hN']at aY JH;rw[JH]at gd;have qj:=HH.ok.oE;have AM:(eT (aZ (aB q).2) add (O (aB q).2.aI) k d.2.1 d.1).aQ<=Wk.aQ+1+O (aB q).2.aI*(512*(2+512)):=aY.2.1;have TW:O (aB q).2.aI*(512*(2+512))<=11053056:=Y;have WK:(eT (aZ (aB q).2) add (O (aB q).2.aI) k d.2.1 d.1).count (O (aB q).2.aI)<=(eT (aZ (aB q).2) add (O (aB q).2.aI) k d.2.1 d.1).aQ:=by
       have h1:(eT (aZ (aB q).2) add (O (aB q).2.aI) k d.2.1 d.1).count (O (aB q).2.aI)+(Wk.aQ+1)<=Wk.count (O (aB q).2.aI)+1+(eT (aZ (aB q).2) add (O (aB q).2.aI) k d.2.1 d.1).aQ:=aY.2.2.1;have:=HC.eG;omega
      generalize hWR:eT (aZ (aB q).2) add (O (aB q).2.aI) k d.2.1 d.1=WR at AM WK gd;have aPB:=aY.1;rw[hWR]at aPB;have HWR:=Z hWR;have CT:=Z aPB;have AY:=Z (show WR.aQ<=Wk.aQ+P9 by unfold P9;omega);have HCB:=Z WK;have hdg:G5 (aB q).2 k d.2.1:=by
       rw[<-HD.o];exact Ec HH.ok.wf HH.ok.wide HKN HRF (λhk=>by
        have h1:((aZ (aB q).2).spec k).aG=1:=HLV.2.1;have h2:(eF (aB q).2 k).aG=1:=h1;omega)
      have HDG:=Z hdg;clear hw0 aY JH hN' qj AM TW WK hWR aPB hdg;obtain⟨da,dc0,hdv,-⟩:=gi.cZ.len;subst hdv;have hu9:=gi.xu;have hd9:=gi.xd;have y9:=Zc hu9 0;have d9:=Zc hd9 0;have lbd:=iP (dG hd9);have hdl:O done<=6:=kX HC.dl;have lb9:bd<i7 w9.heap:=dG hd9;clear hu9 hd9;go_upto_region 19 with(at_builtin;refine cK QL rfl _ _ rfl (gi.cZ.cZ w9) (OB w9) Yr [It k] k Yr rfl (dE rfl) rfl Y GC ?_;rintro g10 CR IU aBx yH aGZ a2H;have XP:bI w9 X8 (·=β+7) IU (up w9 (β+7) X8):=gi.cZ.fK (v':=eC g10 0 (O done+1) CR) aGZ rfl;have aVm:=aBx.ON gi.cZ aGZ;let⟨aIr,aWU,Yk⟩:=gi.aO1 XP aVm;have d10:=Zc aIr 0;have a3l:=aN aIr;have a3j:=iP (dG aIr);have Ii:=Z XP;have aLu:=Z aWU;have aRf:=Z Yk;clear aBx yH aGZ a2H XP aVm aIr aWU Yk);let⟨w11,Ho⟩:=D (hY IU (Ad bd 0) (eC g10 0 (O done+1) CR));generalize Ws:up w9 (β+7) X8=LO at Ii aLu aRf;rw[Ho]at aLu aRf|-;have uH:bI w9 X8 (λx=>x=β+6\/x=β+7) w11 LO:=(Ii.aL (λ_ h=> .inr h)).ds (aRf.aL (λ_ h=> .inl h));have aVe:=sx.eb uH (λc hc=>Y) (λi _=>Y) (λi c _ _=>by unfold mR;omega);have aUx:=HF9.2.eb uH (by have:=HF9.1;unfold mR at this;omega) Y;have aKS:k<42:=pN HKN.o HH.ok.oE;have E9:=Lv aVe HKN aUx (by rcases HF9.1 with e|e;exact .inl e;exact .inr (.inr ⟨k,aKS,e⟩)) (λup hu _=>by have:=HF9.1;unfold mR at this;omega) HDG U6.1 (pN U6.2.2 Tr.1) (by rw[HWR.o];have:=AY.o;have:=Tt.o;unfold P9 at*;omega) (by rw[HWR.o];have:=HCB.o;have:=AY.o;have:=Tt.o;unfold P9 at*;omega);rw[HWR.o]at E9;have Y9:=Z E9;have aJx:=aLu.xu;have y11:=Zc aJx 0;have HMX:=Z (aCd.ds (uH.aL (T:=gj β) (λ_ h=> .inr h)));have tm:=Z (eI (uH.aC Ms.1 (kG Ms.o.2)) ((uH.cE br (dG Ms.1)).ds Ms.2));clear Ho Ws uH aVe aUx E9 aJx y9 d9 lbd d10 a3l a3j lb9;go_wp2_with (go_at_call 65;apply Y9.cX;rintro e w12 ⟨aIl,rfl,aBw,aVd⟩;have a5D:=Z aBw;have a4X:=Z aVd;clear aBw aVd);go_roundg (O q.aD-(k+1))
      .have hM:=a5D.o;have h6:¬BB β (β+6):=BB.not Y Y Y Y;have h7:¬BB β (β+7):=BB.not Y Y Y Y;refine⟨k+1,aIl,WR,done++[k],eC g10 0 (O done+1) CR,Y,rfl,eY,?_⟩;refine⟨HMX.ds (hM.aL (λ_ h=> .inl h)),a4X,aLu.eb hM h6 h7 (λ_=>BB.tr),gd,CT,by have:=AY.o;have:=HC.stp;rw[Nat.succ_mul];omega,HCB,λi hi=> ?_,by rw[E7,Ty];have:=HC.dl;omega,hM.aC tm.1 (by rw[tm.o.2];exact BB.not Y Y Y Y),(hM.cE br (dG tm.1)).ds tm.2⟩;rcases yU.1 hi with hi|hi
       .exact HC.dn i hi
       .rw[Gc.1 hi];exact⟨YW,x,HX⟩
      have:=JY.o;omega
     .exact ZM28
     .exact ZM28
     .have oB:=aHd.o E;have JH:=aKu (P:=aZ (aB q).2) (add:=add) (l:=List.range' (k+1) (O q.aD-(k+1))) (done:=done) aHp HX (w:=Wk) (by rw[HD'.out,HEC.o]);rw[HD'.out,gd.o]at JH;let⟨RB,Qk⟩:=D (nH (aZ (aB q).2) (d8 q r) done.reverse d.1);have Hw:fC (aZ (aB q).2) cells (O q.aD) t add (pD q rel) (d8 q r)=({t with T:=RB.T},0,0,110):=by
       unfold fC;simp only;rw[show bX (aZ (aB q).2) add (pD q rel) (d8 q r) (gz (O q.aD)) ⟨t.T,0,λ_=>[]⟩ []=RG from HRG.o,JH];simp only[yN];rw[Qk]
      have g:=Eo (bB:=d8 q r) HH.ok.wf.l9 done.reverse d.1 (λi hi=>by
       have h':=HC.dn i (List.mem_reverse.1 hi);have h2:=HH.ok.wf.cN i h'.1;exact⟨h2.1,h2.2.1⟩) (by rw[oB];exact HC.ZM)
      rw[Qk]at g;have hdl:=HC.dl;have hN':(aZ (aB q).2).n=O (aB q).2.aI:=rfl;rw[oj,hN']at g;have C:=En (n:=O (aB q).2.aI) (len:=O done) HH.ok.oE Y;generalize Yi:O done*(O (aB q).2.aI*(512*(2+512)))=MM at C g;have aUB:d.1.aQ=Wk.aQ+1:=by rw[oB]
      have a2T:d.1.count (O (aB q).2.aI)=Wk.count (O (aB q).2.aI):=by rw[oB];rfl
      have Ta:=ag gi (sx.mono (F':=N+1) (G':=N+1) U6.2.1 (by rw[U6.o.2.2];exact fV _)) (fV _) Tr.1 HC.dn Qk (kX Tt.o) (kX Tt.o);have HBK:=Z Ta;have X7:=Z Hw;have dk:=Z g.2.2;have a3g:=enters_of func61 dJ rfl;clear oB JH Qk Hw g hdl hN' C aUB a2T Ta Yi;go_upto_region 17 with(go_at_call 61;apply HBK.cX;rintro e IU ⟨LO,rfl,XP,Dn⟩;have Ii:=Z XP;have aHc:=Z Dn;clear XP Dn);exact ZM15
   .have P4:=ZV YI;have aMk:pD q rel k=rR:=by unfold pD;rw[HA.o];exact kE YI
    have HMS:=Z aMk;clear YI aMk m;go_wp2;go_roundg (O q.aD-(k+1))
    .refine⟨k+1,pC,Wk,done,dv,Y,rfl,eY,?_⟩;have hU:=(U.refl wr []).alloc (kd #[mX a.rel,jS ta (O a.aV) tc] 87);exact⟨HC.fK.kV hU,HC.xI.on hU,HC.box.on hU,by rw[<-aKt HMS.o];exact gd,HC.ZM,by have:=HC.stp;rw[Nat.succ_mul];omega,HC.eG,HC.dn,kX HC.dl,hU.aC HC.Jf J,HC.EG⟩
    have:=JY.o;omega
  .obtain rfl:k=O q.aD:=Y;have V:=m.eq;rw[aAp]at V;have aUo:bX (aZ (aB q).2) add (pD q rel) (d8 q r) [] Wk done=(Wk,done,rR):=rfl;rw[aUo]at V;have mJ:=m.box;have hu:=mJ.xu;have ht:=mJ.xt;have hcc:=mJ.xc;have y0:=Zc hu 0;have z0:=Zc ht 0;have q0:=Zc hcc 0;obtain⟨-,u8,-,-,-,-,-⟩:=m.xI.bd.CI;have gd:=Z V;have HC:=Z m;have aVJ:fC (aZ (aB q).2) cells (O q.aD) t add (pD q rel) (d8 q r)=(if(add&&decide (cells<eH (aZ (aB q).2) Wk.T))=qT then({t with T:=(nH (aZ (aB q).2) (d8 q r) done.reverse Wk).T},0,0,201)else({T:=Wk.T,state:=t.lK+1,lK:=t.lK+1},Wk.aQ,Wk.count (O (aB q).2.aI),0)):=by
    unfold fC;simp only;rw[show bX (aZ (aB q).2) add (pD q rel) (d8 q r) (gz (O q.aD)) ⟨t.T,0,λ_=>[]⟩ []=RG from HRG.o,<-gd.o];rfl
   have aLr:=Z aVJ;clear hk aY V aUo mJ hu ht hcc m aVJ hm6;cases add with
   |false=>
    have Hw:fC (aZ (aB q).2) cells (O q.aD) t rR (pD q rel) (d8 q r)=({T:=Wk.T,state:=t.lK+1,lK:=t.lK+1},Wk.aQ,Wk.count (O (aB q).2.aI),0):=by rw[aLr.o];rfl
    have X7:=Z Hw;clear Hw;go_upto_region 21 with(fail);go_quiet (fail);have Tc:U wr [] (wr.drewN nq) []:=(U.refl wr []).drewN nq;generalize MP:wr.drewN nq=wq at Tc|-;clear MP;have hCq:=HC.xI.on Tc;have Tf:=HC.box.on Tc;have hRq:=Tc.aC HC.Jf J;have LI:=Z Tc;clear Tc y0 z0 q0 u8;exact ZM2
   |true=>
    have rQ:=HH.ok.oE;generalize hSS:eH (aZ (aB q).2) Wk.T=SS at aLr;go_upto_region 21 with(fail);refine fj 99 (ez q0<|ez z0<|ey u8) (λwd fF pH Q=> ?_);clear y0 z0 q0 u8;have aPF:=yV (HC.xI.bd.on pH) rQ;rw[hSS]at aPF;have a4Z:=Z aPF;have o9:=Z pH;clear fF pH aPF hSS rQ;refine ek [0,1,2,3,5,6,7,8] ?_;refine sI (i:=4) dJ rfl dJ (λvm hK=> ?_);(try simp only[List.getElem_toArray,Tw,Tx]);go_simp;go_at_call 12;apply a4Z.cX;rintro e wq ⟨rfl,hUs⟩;dsimp only;replace Q:=hUs.gm Q;have fw:=Z (o9.ds hUs);clear hUs;refine j5 ?_;clear hK vm;by_cases hex:cells<SS
    .have a2N:(cells:Int)<(SS:Int):=Y;let⟨RB,Qk⟩:=D (nH (aZ (aB q).2) (d8 q r) done.reverse Wk);have Hw:fC (aZ (aB q).2) cells (O q.aD) t qT (pD q rel) (d8 q r)=({t with T:=RB.T},0,0,201):=by
      rw[aLr.o,Qk,bW (by rw[kY hex];rfl)]
     have g:=Eo (bB:=d8 q r) HH.ok.wf.l9 done.reverse Wk (λi hi=>by
      have h':=HC.dn i (List.mem_reverse.1 hi);have h2:=HH.ok.wf.cN i h'.1;exact⟨h2.1,h2.2.1⟩) HC.ZM
     rw[Qk]at g;have hdl:=HC.dl;have hN':(aZ (aB q).2).n=O (aB q).2.aI:=rfl;rw[oj,hN']at g;have hm6:=HH.ok.six;have C:=En (n:=O (aB q).2.aI) (len:=O done) HH.ok.oE Y;generalize Yi:O done*(O (aB q).2.aI*(512*(2+512)))=MM at C g;have rX:=HC.stp;have F8:=HC.eG;have h6b:=UI (k:=O q.aD) hm6;have gi:=Z (HC.box.on fw);have X7:=Z Hw;have dk:=Z g.2.2;have HBK:=Z (ag gi ((HC.xI.on fw).mono (F':=N+1) (G':=N+1) U6.2.1 (by rw[U6.o.2.2];exact fV _)) (fV _) Tr.1 HC.dn Qk Y Y);have aCd:=Z (HC.fK.kV fw);have Ms:=Z (eI (fw.aC HC.Jf J) HC.EG);have a3g:=enters_of func61 dJ rfl;clear Qk Hw g hdl hN' C Yi rX F8 h6b hm6 hex;refine ek [9,10] ?_;refine bD dJ ?_ _;clear Q;go_upto_region 23 with(go_at_call 61;apply HBK.cX;rintro e IU ⟨LO,rfl,XP,Dn⟩;have Ii:=Z XP;have aHc:=Z Dn;clear XP Dn);exact ZM15
    .have a2N:¬(cells:Int)<(SS:Int):=Y;have Hw:fC (aZ (aB q).2) cells (O q.aD) t qT (pD q rel) (d8 q r)=({T:=Wk.T,state:=t.lK+1,lK:=t.lK+1},Wk.aQ,Wk.count (O (aB q).2.aI),0):=by
      rw[aLr.o,R (by rw[kE hex];simp)]
     have X7:=Z Hw;clear Hw hex;refine ek [9,10] ?_;refine bD dJ ?_ _;clear Q;have hCq:=HC.xI.on fw.o;have Tf:=HC.box.on fw.o;have hRq:=fw.aC HC.Jf J;have LI:=fw;exact ZM2
variable{cs:Array aE}{g j n sz:Nat}{v:aE}
section
structure aw(bEq:ap)(w wr:aA)(ρ:bC)(t:Nat):Prop where
 fK:bI w ρ (λx=>x=t) wr ρ
 OE:∀(k:Nat) (cs:Array aE) (T:ap),w.heap[k]? =H (kd cs T (0,0))->T≠bEq->wr.heap[k]? =w.heap[k]?
 fY:∀(k:Nat) (cs:Array aE) (T:ap),w.heap[k]? =H (kd cs T (0,0))->∃cs',cs'.size=cs.size/\wr.heap[k]? =H (kd cs' T (0,0))
section
variable{bEq:ap}{w wr wx:aA}{ρ:bC}{t:Nat}
theorem aw.refl(bEq:ap)(w:aA)(ρ:bC)(t:Nat):aw bEq w w ρ t:=⟨bI.refl _ _ _,λ_ _ _ _ _=>rfl,λk cs T h=>⟨cs,rfl,h⟩⟩
theorem aw.on(h:aw bEq w wr ρ t){L:List Nat}(b:U wr [] wx L):aw bEq w wx ρ t:=
 ⟨h.fK.kV b,λk cs T a d=>(b.block k (xF (dG a) h.fK.size) J).ds (h.OE k cs T a d),λk cs T a=>by
  let⟨c,g,e⟩:=h.fY k cs T a;exact⟨c,g,b.aC e J⟩⟩
theorem aw.set(h:aw bEq w wr ρ t)(b:w.heap[g]? =H (kd cs bEq (0,0)))(d:ρ g=t)(v:aE):aw bEq w (hY wr ⟨g,j,K⟩ v) ρ t:=by
 refine⟨h.fK.setCell (.inl d) v,λk Ef T' hk a=> ?_,λk Ef T' hk=> ?_⟩
 .have c:k≠g:=λe=>by
   subst e;rw[b]at hk;injection hk with hk;injection hk with _ hk;exact a hk.symm
  rw[Mz wr (Ad g j) k v (λe=>c e)];exact h.OE k Ef T' hk a
 .exact ZM60
theorem aw.PQ(h:aw bEq w wr ρ t)(a:w.heap[g]? =H (kd cs bEq (0,0)))(b:ρ g=t)(x0 x1 x2:aE):
  aw bEq w (hY (hY (hY wr ⟨g,j,K⟩ x0) ⟨g,j+1,K⟩ x1) ⟨g,j+2,K⟩ x2) ρ t:=((h.set a b x0).set a b x1).set a b x2
theorem aw.cF(h:aw bEq w wr ρ t){k:Nat}{T:ap}(a:w.heap[k]? =H (kd cs T (0,0)))(b:T≠bEq):wr.heap[k]? =H (kd cs T (0,0)):=(h.OE k cs T a b).ds a
theorem aw.has(h:aw bEq w wr ρ t){e:ap}{c:Nat->Nat->aE}(hT:eV w v e sz n c)(a:0<n):
  ∃g cap,v=jS (H ⟨g,0,K⟩) n cap/\i6 v=H g/\g<i7 wr.heap/\(∀j,wr.frozen? ⟨g,j,K⟩=rR)/\(∃cs,w.heap[g]? =H (kd cs e (0,0)))/\∀i j,i<n->j<sz->∃u,h8 wr ⟨g,i*sz+j,K⟩=H u:=by
 exact ZM45
end
def TI(β x:Nat):Prop:=CK β x\/x=1
def aC6(w:aA)(ρ:bC)(β b:Nat)(q:bK)(cells N:Nat)(bEs:iL×Nat×Nat×Nat)(e:Ending)(w':aA):Prop:=
 ∃bV,e=mi (mr #[.agg #[mj mn (bEs.2.1:Int),mj mn (bEs.2.2.1:Int)],mj mn (bEs.2.2.2:Int)])/\bI w ρ (TI β) w' bV/\lR w' bV β b q cells bEs.1 (N+1) (N+1)
theorem PZ{w:aA}{ρ:bC}{cells N tr:Nat}{t:iL}{add:Bool}{rel:dO}(h:lR w ρ β b q cells t N N)(hN:N+1<1073741824)(hv:lW dV aR 3 w ρ tr rv r)(pY:¬TI β tr)(hf:CE r)(hβ:10<=β):
  Calls prog 8 #[lr (H ⟨b,0,K⟩),.agg #[nj add,mX rel,rv]] w (aC6 w ρ β b q cells N (fC (aZ (aB q).2) cells (O q.aD) t add (pD q rel) (d8 q r))):=by
 obtain⟨ra,rc,rfl,iQ⟩:=hv.1.len;let⟨wa,dM⟩:=D (i5 w (kd #[nj add,mX rel,jS ra (O r) rc] 36));let⟨wb,qG⟩:=D (i5 wa (kd #[X 0,X 0] 38));let⟨wc,C⟩:=D (i5 wb (kd #[nj add,mX rel,jS ra (O r) rc] 36));let⟨bc,P⟩:=D (i7 w.heap);let⟨G,hbr⟩:=D (i7 wa.heap);let⟨bs,hbs⟩:=D (i7 wb.heap);have cV:=Za dM;have oD:=Za qG;have P7:=Za C;have L:=Ze dM P;have TZ:=Ze qG hbr;have hBs:=Ze C hbs;have aWL:=oD.aC L J;obtain⟨d0,d1,d2⟩:=Z3 aWL;obtain⟨s0,s1,s2⟩:=Z3 hBs;have xC:bc<=G/\G<=bs/\bs<=i7 wc.heap:=⟨kX cV.size,kX oD.size,kX P7.size⟩;have HBC:=((oD.ds P7).aC L J);have HBR:=(P7.aC TZ J);have us:=(cV.ds (oD.ds P7));have X6:=(aLN (g:=bs) (o:=0) (cap:=1) s0 s1 s2 (hv.1.on (cV.ds (oD.ds P7))) hf.1);have hf1:=hf.1;clear cV oD P7 L TZ hBs aWL s0 s1 s2 iQ;go_in;go_upto_region 2 with(first
  |(go_at_call 27;apply X6.cX;rintro e w4 ⟨b4,u,rfl,l⟩;obtain⟨ua,uc,rfl,-⟩:=l.row.len;have AA:=l.cF;obtain⟨x0,x1,x2⟩:=Z3 AA;have F:=Z l;clear l AA))
 let⟨w5,oY⟩:=D (i5 w4 (kd #[nj add,mX rel,jS ua (O r) uc] 36));let⟨bi,B⟩:=D (i7 w4.heap);have cO:=Za oY;have hBI:=Ze oY B;rw[oY,B];obtain⟨i0,i1,i2⟩:=Z3 hBI;have Qg:=F.o.eU.ds cO;have sA:bI w ρ eZ w5 (up w.heap.size 1 ρ):=(us.ds Qg).fK (S:=eZ) 1 (λ_ h=>dY h J);have FA:=h.eb sA vF;have tU:=((F.o.row.on cO).eO us.size).jR 1 ρ;let⟨oT,GS⟩:=D (up w.heap.size 1 ρ);have i:∀k,i7 w.heap<=k->oT k=1:=λk hk=>by rw[<-GS];exact cY hk
 rw[GS]at sA FA tU;have p:¬CK β 1:=by unfold CK;omega
 have X7:=(Ej (add:=add) (rel:=rel) FA hN tU.rd p hf);have a5n:=(Qg.aC HBC J);have aYP:=(Qg.aC HBR J);have bz:=(hv.eb sA id);generalize hR:fC (aZ (aB q).2) cells (O q.aD) t add (pD q rel) (d8 q r)=bEs at X7|-;have O7:=Z hR;clear cO FA GS p oY x0 x1 x2 d0 d1 d2 dM qG C hR;go_upto_region 3 with(first
  |(go_at_call 24;apply X7.cX;rintro e w6 ⟨qJ,rfl,SX,hT6⟩))
 let⟨w7,vV⟩:=D (i5 w6 (kd #[X (bEs.2.1:Int),X (bEs.2.2.1:Int)] 38));let⟨bk,Ta⟩:=D (i7 w6.heap);have gD:=Za vV;have hBK:=Ze vV Ta;have m:bI w6 qJ eZ w7 (up w6.heap.size 1 qJ):=gD.fK (S:=eZ) 1 (λ_ h=>dY h J);rw[vV,Ta];generalize Wr:up w6.heap.size 1 qJ=ρ7 at m;have z:bI w5 oT (CK β) w7 ρ7:=SX.ds (m.aL nZ);have p:¬CK β 1:=by unfold CK;omega
 have hnt:¬CK β tr:=λh=>pY (.inl h);have d:i7 w.heap<=bc/\i7 w.heap<=G/\i7 w.heap<=bi:=⟨Nat.le_of_eq P,pN P xC,by have:=B;have:=us.size;have:=F.o.eU.size;omega⟩;have aWS:=z.aC hBI (by rw[i _ d.2.2];exact p);have aWT:=z.aC a5n (by rw[i _ d.1];exact p);have a3W:=z.aC aYP (by rw[i _ d.2.1];exact p);have a1M:ρ7 G=1:=(z.cE G (dG aYP)).ds (i _ d.2.1);have hR7:=tU.eb z p;have hV7:=bz.eb z hnt;obtain⟨i0,i1,i2⟩:=Z3 aWS;obtain⟨d0,d1,d2⟩:=Z3 aWT;have TL:=(Nz hR7.rd.1 hV7.1);rw[kY rfl]at TL;have a5F:=(((sA.aL (T:=TI β) nZ).ds (z.aL (T:=TI β) (λ_ h=> .inl h))));have Sa:=(hT6.eb m vF);clear vV gD m Wr z p hnt aWT hV7 d Ta;go_upto_region 5 with(first
  |(go_at_call 28;apply TL.dC;intro w8 W;have Yl:=W.aC aWS J;obtain⟨j0,j1,j2⟩:=Z3 Yl;clear i0 i1 i2 d0 d1 d2))
 go_upto_region 6 with(fail);clear j0 j1 j2;have th:=(hR7.on W);have a5g:=(W.aC a3W J);have a5i:=(W.aC hBK J);let⟨n,hn⟩:=D (O r);have HN:=Z hn;rw[hn]at hf1|-;clear hn;go_loopg [31] n (λgg s31 wr=>∃k:Nat,k<=n/\gg=n-k/\s31=X k/\aw 90 w8 wr ρ7 1)
 .exact⟨0,Y,rfl,rfl,aw.refl _ _ _ _⟩
 obtain⟨k,hk,CP,rfl,V⟩:=hrel;have JY:=Z CP;clear CP;by_cases aY:k<n
 .have c:k<O r:=by rw[HN.o];exact aY
  have c2:=aP (V.cF Yl E) (j:=2) rfl;rw[HN.o]at c2;have BH:(k:Int)<(n:Int):=Y;go_upto_region 8 with(fail);refine fj 5 (ey c2) (λwd fF pH Q=> ?_);clear c2;have HWD:=(V.on pH);clear fF pH;refine ek [0,2,1] ?_;refine Zo 3 λs hK=> ?_;go_simp;go_at_call 25;apply(wj _ wd).cX;rintro e w9 ⟨rfl,rY⟩;dsimp only;have Q:=rY.cell Q J;have f:=HWD.on rY;let⟨g,cap,hv,ew,aU8,Cu,⟨cs,zM⟩,F8⟩:=f.has th.1 (Nat.zero_lt_of_lt c);rw[HN.o]at hv;injection hv with x1 x2 x3;subst x1;let⟨u0,c0⟩:=F8 k 0 c E;let⟨u1,c1⟩:=F8 k 1 c E;let⟨u2,c2⟩:=F8 k 2 c E;rw[qZ]at c0;have bl:=iP aU8;have AY:=(f.PQ (j:=k*3) zM (th.2 g ew));have HK:=Z aY;clear f F8 zM ew aU8 x2 x3 c aY rY;refine j5 ?_;clear hK s;refine I 4 ?_;refine Zo 5 λs hK=> ?_;go_simp;refine LP ?_;clear hK s;clear Q c0 c1 c2;go_wp2;go_roundg (n-(k+1))
  .exact⟨k+1,HK.o,rfl,eY,AY _ _ _⟩
  have:=JY.o;have:=HK.o;omega
 .obtain rfl:k=n:=Y;have aWR:=V.cF a5i E;have a:=V.cF a5g E;obtain⟨k0,k1⟩:=Z2 aWR;obtain⟨r0,r1⟩:=Z2 a;have rf:=aN a;have rl:=iP (dG a);have hs2:=UK (x:=X (bEs.2.1:Int)) (y:=X (bEs.2.2.1:Int)) a;have tF:=Z hs2;clear aWR a hs2;go_wp2;refine mY (aW (A:=Ad G 0) (T:=38) rfl Yr (v:= .agg #[X (bEs.2.1:Int),X (bEs.2.2.1:Int)]) (by go_simp)) rfl ?_;have pW:bI w ρ (TI β) w8 ρ7:=a5F.kV W;have hMr:bI w ρ (TI β) wr ρ7:=pW.ds (V.fK.aL (T:=TI β) (λ_ h=> .inr h));have hMs:bI wr ρ7 (λx=>x=1) _ ρ7:=tF.o.2.qO (S:=λx=>x=1) (λk hk=> .inl (by
   have:k=G:=eP hk;rw[this];exact a1M))
  have hS:∀x,β<=x->¬x=1:=λx hx=>Y;rw[O7.o];exact⟨ρ7,rfl,hMr.ds (hMs.aL (T:=TI β) (λ_ h=> .inr h)),((Sa.eb (W.fL (S:=eZ)) vF).eb V.fK hS).eb hMs hS⟩
end
variable{i st:Nat}{T:gZ}
theorem gT.R5{cells ls:Nat}(h:gT w ρ β b q cells st ls T F G)(g:i<O (aB q).2.aI):
  O (T i).aM<=65536/\∀j,j<O (T i).aM->O (hJ (T i).aM j [])<=30:=by
 obtain⟨nb,go,oo,co,-,-,⟨lb,rb,iv,-,-,e⟩,-⟩:=h.zC g;have hl:=e.lv;refine⟨j8 hl.Gp.KZ hl.ok.aH.2,λj c=> ?_⟩;have a:=(hl.Gp.good _ (bO (d:=[]) c)).1.1;unfold dS at a;simp only[My,QX]at a;exact a.1
def AlW(β t x:Nat):Prop:=CK β x\/x=t
variable{b6:Nat}{bEs:iL×Nat×Nat×Nat}{w' w4 w5 w6:aA}
def sX:dO:={data:=#[120]}
def sR:dO:={data:=#[82]}
def sQ:dO:={data:=#[81]}
def q0:bK:=⟨sQ,[sX],[⟨sR,[⟨sX,aR⟩]⟩]⟩
def r0:Row:=[⟨1,3,bU⟩]
theorem aJM:(aB q0).1=0:=by decide+kernel
def R0:iL×Nat×Nat×Nat:=fC (aZ (aB q0).2) 9 (O q0.aD) LU qT (pD q0 {data:=#[82]}) (d8 q0 r0)
theorem aL1:R0.2=(2,2,0):=by decide+kernel
theorem aL2:O (R0.1.T 0).aM=1/\eH (aZ (aB q0).2) R0.1.T=2/\R0.1.state=1/\O (aB q0).2.aI=2:=by decide+kernel
theorem aE5:q0.kM:=by
 refine⟨E,E,E,λs hs=> ?_⟩;have:q0.EF=[sQ,sX,sR,sX,bU]:=rfl;rw[this]at hs;simp only[xZ,List.not_mem_nil,or_false]at hs;rcases hs with rfl|rfl|rfl|rfl|rfl<;>decide
theorem aOZ:CE r0:=⟨E,λv hv=>by
 have:v=⟨1,3,bU⟩:=by simpa[r0]using hv
 subst this;exact⟨E,by unfold rng;decide⟩⟩
theorem aLM(d:i5 w5 (kd #[mj mn 1,mj mn 3,mX bU] 90)=w6)(b:i7 w5.heap=b6)(e:U w4 [] w5 [])(c:bC):
  bI w4 c eZ w6 (up w4 1 c)/\lW dV aR 3 w6 (up w4 1 c) 1 (jS (H ⟨b6,0,K⟩) 1 1) r0:=by
 have m:=Za d;have a:=Ze d b;refine⟨(e.ds m).fK (S:=eZ) 1 (λ_ h=>dY h J),.inr ⟨b6,0,1,rfl,Nat.one_pos,(by decide:1<=bH),dG a,λi j n g=> ?_⟩,λ_ k l=> ?_⟩
 .obtain rfl:i=0:=by have:i<1:=n;omega
  match j,g with
  |0,_=>exact aP a rfl
  |1,_=>exact aP a rfl
  |2,_=>exact aP a rfl
 .have:b6=k:=by simpa[Value.nL]using l
  exact cY (kX e.size)
theorem awk{cells N:Nat}{e:Ending}(d:bEs.2=(2,2,0))(h:Mn w ρ β b q cells N bEs e w'):
  ∃bV,e=mi (mr #[.agg #[mj mn 2,mj mn 2],mj mn 0])/\bI w ρ (CK β) w' bV/\lR w' bV β b q cells bEs.1 (N+1) (N+1):=by
 obtain⟨bV,a,g,c⟩:=h;rw[d]at a;exact⟨bV,a,g,c⟩
theorem O2(hw:Tz w):
  Calls prog 7 #[] w λe w'=>e=mi (nj qT)/\U w [] w' []:=by
 let⟨w1,eW⟩:=D (i5 w (kd #[mX {data:=#[120]}] 9));let⟨w2,rM⟩:=D (i5 w1 (kd #[mX {data:=#[120]},X 0,X 0,mX {data:=#[]}] 92));let⟨b1,oC⟩:=D (i7 w.heap);let⟨b2,qP⟩:=D (i7 w1.heap);let⟨b3,WN⟩:=D (i7 w2.heap);let⟨w3,jA⟩:=D (i5 w2 (kd #[mX {data:=#[82]},jS (H ⟨b2,0,K⟩) 1 1] 87));have cT:=Za eW;have bM:=Za rM;have G:=Za jA;have fR:uD w3 b1 #[mX sX] 9:=(bM.ds G).aC (by rw[<-eW,<-oC];exact mE w _) (by simp);have d:uD w3 b2 #[mX sX,X 0,X 0,mX bU] 92:=G.aC (by rw[<-rM,<-qP];exact mE w1 _) (by simp);have Q:=Ze jA WN;have hQ:ED w3 (jS (H ⟨b1,0,K⟩) 1 1) (jS (H ⟨b3,0,K⟩) 1 1) [(sR,jS (H ⟨b2,0,K⟩) 1 1)] q0:=by
  refine⟨.inr ⟨b1,0,1,rfl,by decide,by decide,dG fR,λi j b L=> ?_⟩,.inr ⟨b3,0,1,rfl,Nat.one_pos,(by decide:1<=bH),dG Q,λi j b L=> ?_⟩,rfl,λi b=> ?_,aE5⟩
  .obtain rfl:i=0:=by have:i<1:=b;omega
   obtain rfl:j=0:=by omega
   exact aP fR rfl
  .obtain rfl:i=0:=by have:i<1:=b;omega
   match j,L with
   |0,_=>exact aP Q rfl
   |1,_=>exact aP Q rfl
  .obtain rfl:i=0:=by have:i<1:=b;omega
   refine⟨rfl,.inr ⟨b2,0,1,rfl,by decide,by decide,dG d,λi j b L=> ?_⟩⟩;obtain rfl:i=0:=by have:i<1:=b;omega
   match j,L with
   |0,_=>exact aP d rfl
   |1,_=>exact aP d rfl
   |2,_=>exact aP d rfl
   |3,_=>exact aP d rfl
 have c:=(cT.ds bM).ds G;have Fa:=Z c;have W:q0.name={data:=#[81]}:=rfl;have hp:=aJM;have C:=aL1;have m:=aL2;unfold R0 at C m;let⟨q,hq⟩:=D (q0);rw[hq]at hQ W hp C m;have HN:=Z (PM (ρ:=up w 1 λ_=>0) 10 9 hQ (by show 1<=1;omega) (hw.on c) hp (by decide));rw[W,show((9:Nat):Int)=9 from rfl]at HN;let⟨bEs,hR⟩:=D (fC (aZ (aB q).2) 9 (O q.aD) LU qT (pD q {data:=#[82]}) (d8 q r0));rw[hR]at C m;have HR:=Z hR;have HR1:=Z C;have n:=Z m;clear hq hR C m hp W;clear cT bM G fR d Q hQ c;go_in;go_upto_region 2 with(go_at_call 10;apply HN.cX;rintro e w4 ⟨bt,G8,rfl,eJ,a,hT⟩;have lH:=Z eJ;have HT:=Z hT;have aCb:=Z a;clear eJ hT a);go_upto_region 4 with(fail);go_upto_region 5 with(first
  |(go_at_call 24;apply us.cX;rintro e w7 ⟨f,rfl,MX,r⟩;have LA:=Z MX;have Sa:=Z r;clear MX r)
  |(go_at_call 25;apply(wj 3 w4).dC;intro w5 cO;let⟨w6,iA⟩:=D (i5 w5 (kd #[mj mn 1,mj mn 3,mX bU] 90));let⟨b6,hb6⟩:=D (i7 w5.heap);have Tl:=Z (aLM iA hb6 cO G8);have us:=Z (Ej (add:=qT) (rel:={data:=#[82]}) (HT.eb Tl.1 vF) (by decide) Tl.2 (by unfold CK;omega) aOZ);rw[HR.o]at us;have us:=Z (us.mono λe w' h=>awk HR1 h);have gN:=Z cO;clear cO))
 let⟨w8,N⟩:=D (i5 w7 (kd #[X 2,X 2] 38));let⟨bk,Ta⟩:=D (i7 w7.heap);have jB:=Za N;have A:=Ze N Ta;have o:bI w7 f eZ w8 (up w7 1 f):=jB.fK (S:=eZ) 1 (λ_ h=>dY h (by simp));have V:up w7 1 f bk=1:=cY (by omega);let⟨CM,V0⟩:=D (up w7 1 f);rw[V0]at o V;rw[N,Ta];have P:=Sa.eb o vF;have p:=Z (ZK (t:=1) (v:=0) P.bd P.ok.oE (by rw[n.o.2.2.2];decide) (.inl (by unfold mR;omega)));rw[show((0:Nat):Int)=0 from rfl]at p;have g:=Z (eI A V);have TO:=Z o;have HFW:=Z P.ok.oE;clear jB A o V V0 P Ta N;go_upto_region 6 with(go_at_call 13;apply p.cX;rintro e w9 ⟨X8,u,rfl,Td,Qv,B⟩;obtain⟨ua,uc,rfl,-⟩:=B.len;have y:=Td.aC g.1 (by rw[g.o.2];intro h;have:=PW h;omega);obtain⟨k0,k1⟩:=Z2 y;have HM9:=Z Td;have gi:=Z Qv;clear Td Qv B y);rw[n.o.1];have AY:=Z (yV gi HFW);have YU:=Z (Iu gi);rw[n.o.2.1]at AY;rw[n.o.2.2.1]at YU;go_wp2_with (first
  |(go_at_call 26;apply(Iu (gi.on l)).dC;rintro w11 rfl;rw[n.o.2.2.1])
  |(go_at_call 12;apply AY.dC;intro IU yH;have l:=Z yH;clear yH))
 go_ret;have h48:=(Tl.1.aL (T:=CK 10) nZ).ds (LA.ds (TO.aL (T:=CK 10) nZ));have z:=Fa.ds lH.o;have aG9:bI w (λ_=>0) (CK 10) w4 G8:=⟨z.os,z.tape,z.output,z.size,λk F _=>z.block k F (by simp),λk F=>(aCb.o k (xF F Fa.size)).ds (fG F)⟩;exact⟨rfl,((aG9.ds h48).ds ((HM9.aL (λx h=>kt (by decide) h)).kV l)).uz (λk _=>by unfold CK;omega)⟩
variable{args:Array aE}{before:List MemPlace}{W':aA}
section
open Go.ChangeShapes Go.WideShapes Go.ChangeAt Go.RowKit
theorem cZ:ownKnob prog.godebug=K:=by kernel_rfl
theorem xq:laidOutB prog=qT:=by kernel_rfl
section
variable{us:Type}{enc:ap×aE->us}{P:cj}
theorem OP(hl:laidOutB P=qT){W:aA}(e:Below W.heap.size W W'):∀(ts:List ap) (vs:List aE) (a:List (DataW us)) (ps:List MemPlace),
  (ts.all λt=>P.readableRec t&&decide (t<P.types.size))=qT->DataW.TrodAll enc P W 0 (λ_=>qT) qT ts vs a ps->(∀x∈ps,x.block<i7 W.heap)->
  DataW.TrodAll enc P W' 0 (λb=>decide (b<i7 W.heap)) qT ts vs a ps
 |[],[],[],ps,_,h,_=>h
 |[],_::_,_,_,_,h,_=>by cases h
 |[],[],_::_,_,_,h,_=>by cases h
 |_::_,[],_,_,_,h,_=>by cases h
 |_::_,_::_,[],_,_,h,_=>by cases h
 |t::ts,v::vs,d::a,ps,ht,h,hlt=>by
  obtain⟨p,q,g,i,rfl⟩:=h;rw[List.all_cons,My,My,QX]at ht;exact⟨p,q,Below.trod hl ht.1.1 ht.1.2 g e (λx c=>hlt x (yU.2 (.inl c))),OP hl e ts vs a q ht.2 i (λx c=>hlt x (yU.2 (.inr c))),rfl⟩
theorem Vl{f:Func}{s:ChangeSpec}{W:aA}{b gs:List (DataW us)}{T:ap}(hl:laidOutB P=qT)(j:(f.params.toList.all λt=>P.readableRec t&&decide (t<P.types.size))=qT)(hv:s.vars=[])(r:f.resultTypes=#[T])(l:P.underlying T=H .bool)(i:DataW.Whole enc P f.params.toList s.vars rR W args.toList b gs before)(c:s.fn us b={results:=[.lit (.bool qT)],args:=b})(e:Below W.heap.size W W'):
  s.post enc P f rR qT rR rR W args (.bool qT) W':=by
 have g:=i;obtain⟨p,q,n,d,rfl,u,v⟩:=i;rw[hv]at d;obtain⟨rfl,rfl⟩:=trodVars_none d;have m:∀x∈p,x.block<i7 W.heap:=λx a=>g.lt x (eP a);refine⟨b,[],p++[],[],p,[],g,?_,?_,?_,World.keptBut_mono (λx a=>⟨a,.inr (.inl (eP a))⟩) (e.frame (·∈p++[])),λh=>by cases h⟩
 .rw[ui,c,r];exact trodAll_mk1 (shut_bool l qT)
 .rw[ui,c];exact OP hl e _ _ _ _ j n m
 .rw[hv,ui,c];exact rfl
end
end
variable{fs:Array Field}{pl:List MemPlace}{S':List Nat}{fuel:Nat}
section
theorem ZM79{P:Prop}(h:P:=by
  obtain⟨a,b,c,rfl⟩:=aMY hlen;simp only[List.getElem?_cons_zero,List.getElem?_cons_succ,Option.some.injEq]at t0 t1 t2;rw[t0,t1,t2]):P:=h
open Go.ChangeShapes Go.WideShapes Go.ChangeAt Go.RowKit Go.Deep
theorem Em{us:Type}(d:DataW us):1<=Rows.uptoBulk d:=by
 cases d with
 |lit l=>cases l<;>simp[Rows.uptoBulk]
 |nil=>simp[Rows.uptoBulk]
 |ptr d=>simp[Rows.uptoBulk]
 |slice b spare=>simp[Rows.uptoBulk]
 |agg c=>simp[Rows.uptoBulk]
 |iface t d=>simp[Rows.uptoBulk]
 |map a=>simp[Rows.uptoBulk]
 |held h=>simp[Rows.uptoBulk]
theorem nG{us:Type}{d:DataW us}:∀{l:List (DataW us)},d∈l->Rows.uptoBulk d<=Rows.uptoBulkAll l
 |x::l,h=>by
  simp only[Rows.uptoBulkAll];rcases xZ.1 h with rfl|h
  .omega
  .have:=nG h;omega
theorem J'{us:Type}:∀(l:List (DataW us)),O l<=Rows.uptoBulkAll l
 |[]=>by simp[Rows.uptoBulkAll]
 |x::l=>by have:=Em x;have:=J' l;simp only[Rows.uptoBulkAll,TT];omega
theorem I'{us:Type}(bEp:Nat->DataW us)(μ:Nat->Nat):∀(l:List Nat),(∀i∈l,μ i<=Rows.uptoBulk (bEp i))->(l.map μ).sum<=Rows.uptoBulkAll (l.map bEp)
 |[],_=>J
 |i::l,h=>by
  have c:=h i J;have b:=I' bEp μ l λj a=>h j (by simp[a]);grind [Rows.uptoBulkAll]
theorem Cc{α:Type}(μ:α->Nat){x:α}:∀{l:List α},x∈l->μ x<=(l.map μ).sum
 |y::l,h=>by
  rw[KR,List.sum_cons];rcases xZ.1 h with rfl|h
  .omega
  .have:=Cc μ h;omega
section
variable{us:Type}{enc:ap×aE->us}{P:cj}{w:aA}{eO:Nat}{spare:Nat->Bool}{held:Bool}
theorem S7{α:Type}{f:α->Nat->aE}{d:α}{B:Nat}{G:α->Prop}{μ:α->Nat}{t e:ap}{cs:List aE}{bEp:DataW us}(td:P.underlying t=H (.slice e))(V:P.cellsOf e=sz)(N:0<sz)(C:∀n u y pl,DataW.trod enc P w eO spare held n e u=H (y,pl)->Rows.uptoBulk y<=B->∃x:α,(∀j,j<sz->u[j]? =H (f x j))/\G x/\μ x<=Rows.uptoBulk y)(h:DataW.trod enc P w eO spare held fuel t cs=H (bEp,pl))(hB:Rows.uptoBulk bEp<=B):
  ∃v l,cs=[v]/\fM f d sz w v l/\yT v/\(∀x∈l,G x)/\O l+1<=Rows.uptoBulk bEp/\(l.map μ).sum+1<=Rows.uptoBulk bEp:=by
 rcases open_slice td h with⟨rfl,c⟩|⟨a,len,cap,m,n,D',Pl,rfl,hb,hl,hm,z,c,L⟩
 .exact⟨_,[],rfl,fM.nil w,fV _,λx c=>(by cases c),Em bEp,by grind [Em]⟩
 .injection c with c _;subst c;rw[V]at L;have G9:len<=m:=by rw[z];split<;>omega
  have QA:∀i,i<len->Rows.uptoBulk (D' i)<=B:=λi p=>by
   have:=nG (AE.2 ⟨i,wW.2 p,rfl⟩:D' i∈(gz len).map D');grind [Rows.uptoBulk]
  have F:∀i,i<len->∃x:α,(∀j,j<sz->h8 w ((a.add (i*sz)).add j)=H (f x j))/\G x/\μ x<=Rows.uptoBulk (D' i):=λi p=>by
   let⟨u,T,Q⟩:=L i Y;let⟨x,x1,x2,x3⟩:=C n u _ _ Q (QA i p);let⟨_,_,p8⟩:=World.cells?_some T;grind
  obtain⟨b,vm⟩:∃b:Nat->α,∀i,i<len->(∀j,j<sz->h8 w ((a.add (i*sz)).add j)=H (f (b i) j))/\G (b i)/\μ (b i)<=Rows.uptoBulk (D' i):=by
   classical
   exact⟨λi=>if h:i<len then Classical.choose (F i h)else d,λi h=>by grind⟩
  have q:O ((gz len).map b)=len:=J;refine⟨_,(gz len).map b,rfl,?_,hl,λx c=> ?_,?_,?_⟩
  .unfold fM;rw[q];rcases Nat.eq_zero_or_pos len with r|r
   .subst r;exact .inl ⟨rfl,H a,cap,rfl,λh=>by cases h⟩
   .obtain⟨g,o,s⟩:=a;have c0:=(vm 0 r).1 0 N;have hs:s=K:=by
     simp only[Nat.zero_mul,Addr.add,yN]at c0;unfold h8 at c0;split at c0
     .simp_all
     .cases c0
    subst hs;have S:∀k,((Ad g o):Addr).add k=(Ad g (o+k)):=λk=>by
     grind [Addr.add]
    have A:∀i j,(((Ad g o):Addr).add (i*sz)).add j=(Ad g (o+i*sz+j)):=λi j=>by
     rw[S];grind [Addr.add]
    refine .inr ⟨g,o,cap,rfl,r,Y,?_,λi j p W=> ?_⟩
    .rw[A]at c0;exact IL c0
    grind
  .grind
  .grind [J',Rows.uptoBulk,List.length_map]
  .have:=I' D' (λi=>μ (b i)) (gz len) λi p=>(vm i (wW.1 p)).2.2;simp only[Rows.uptoBulk];rw[List.map_map];have e:(gz len).map (μ∘b)=(gz len).map λi=>μ (b i):=rfl;rw[e];omega
end
section
variable{us:Type}{enc:ap×aE->us}{w:aA}{eO B:Nat}{spare:Nat->Bool}{held:Bool}
theorem aMY{α:Type}:∀{l:List α},O l=3->∃a b c,l=[a,b,c]
 |[a,b,c],_=>⟨a,b,c,rfl⟩
theorem fld{P:cj}{cs:List aE}{a:List (DataW us×List MemPlace)}(g:∀(i:Nat) (f:Field),fs[i]? =H f->DataW.trod enc P w eO spare held n f.type ((cs.drop f.offset).take (P.cellsOf f.type))=a[i]?)(hl:O a=fs.size)(i:Nat)(f:Field)(e:fs[i]? =H f){t:ap}{o k:Nat}(b:f.type=t)(d:f.offset=o)(c:P.cellsOf t=k):∃y,a[i]? =H y/\DataW.trod enc P w eO spare held n t ((cs.drop o).take k)=H y:=by
 grind
theorem K6{cs:List aE}{k:Nat}(h:(cs.drop k).take 1=[v]):cs[k]? =H v:=by
 have a:((cs.drop k).take 1)[0]? =H v:=by rw[h];rfl
 grind
theorem Vq{cs:List aE}{y:DataW us}(h:DataW.trod enc prog w eO spare held n 90 cs=H (y,pl)):
  ∃x:L4,(∀j,j<3->cs[j]? =H (dV x j))/\rng x/\x.dZ.size<=Rows.uptoBulk y:=by
 let⟨l,n',F,a,i,b,c⟩:=DataW.trod_struct underlying90 h;obtain⟨C,-,u⟩:=fld c b 0 _ rfl rfl rfl (show prog.cellsOf 88=1 by kernel_rfl);obtain⟨B,-,r⟩:=fld c b 1 _ rfl rfl rfl (show prog.cellsOf 2=1 by kernel_rfl);let⟨z,m,p⟩:=fld c b 2 _ rfl rfl rfl (show prog.cellsOf 9=1 by kernel_rfl);let⟨v,e0,_,w0⟩:=DataW.trod_int underlying88 u;let⟨g,q,_,w1⟩:=DataW.trod_int underlying2 r;let⟨d,e2,x2,_⟩:=DataW.trod_string underlying9 p;refine⟨⟨v,g,d⟩,λj A=> ?_,?_,?_⟩
 .match j,A with
  |0,_=>exact K6 e0
  |1,_=>exact K6 q
  |2,_=>exact K6 e2
 .have e:IntKind.i64.min= -9223372036854775808:=E;have:IntKind.i64.min<=g/\g<=9223372036854775807:=by simpa[Lit.wf,IntKind.has]using w1
  rw[e]at this;exact this
 .injection a with a _;subst a;have:=nG (AE.2 ⟨_,ul m,rfl⟩:z.1∈l.map (·.1));rw[x2]at this;simp only[Rows.uptoBulk]at this|-;have hs:O d.data.toList=d.size:=Array.length_toList;omega
theorem MD{cs:List aE}{y:DataW us}(h:DataW.trod enc prog w eO spare held n 9 cs=H (y,pl)):∃s:dO,cs=[mX s]/\s.size<=Rows.uptoBulk y:=by
 let⟨a,e2,x2,_⟩:=DataW.trod_string underlying9 h;injection x2 with x2 _;subst x2;refine⟨a,e2,?_⟩;simp only[Rows.uptoBulk];simp_all
theorem aBI{cs:List aE}{y:DataW us}(h:DataW.trod enc prog w eO spare held n 34 cs=H (y,pl))(a:Rows.uptoBulk y<=1048576):
  ∃v r,cs=[v]/\fM dV aR 3 w v r/\CE r:=by
 obtain⟨v,l,e,c,-,b,m,j⟩:=S7 (f:=dV) (d:=aR) (G:=λx=>rng x) (μ:=λx=>x.dZ.size) underlying34 (show prog.cellsOf 90=3 by kernel_rfl) E
  (λn i y pl h _=>Vq h) h a
 exact⟨v,l,e,c,Y,λx g=>⟨by grind [Cc],b x g⟩⟩
theorem aEh{cs:List aE}{y:DataW us}(h:DataW.trod enc prog w eO spare held n 36 cs=H (y,pl))(u:Rows.uptoBulk y<=1048576):
  ∃c:Chg,cs=[nj c.add,mX c.rel,c.rv]/\fM dV aR 3 w c.rv c.row/\CE c.row:=by
 let⟨j,n',G,d,hlen,e,g⟩:=DataW.trod_struct underlying36 h;obtain⟨C,-,B⟩:=fld g e 0 _ rfl rfl rfl (show prog.cellsOf 4=1 by kernel_rfl);obtain⟨F,-,x⟩:=fld g e 1 _ rfl rfl rfl (show prog.cellsOf 9=1 by kernel_rfl);let⟨q,l,m⟩:=fld g e 2 _ rfl rfl rfl (show prog.cellsOf 34=1 by kernel_rfl);let⟨b0,e0,_⟩:=DataW.trod_bool underlying4 B;let⟨i,p,_⟩:=MD x;injection d with d _;subst d;have f:=nG (AE.2 ⟨_,ul l,rfl⟩:q.1∈j.map (·.1));simp only[Rows.uptoBulk]at u;let⟨v,r,e2,A,z⟩:=aBI m Y;refine⟨⟨b0,i,v,r⟩,?_,A,z⟩;rw[show prog.cellsOf 36=3 by kernel_rfl]at hlen;have t0:cs[0]? =H (nj b0):=K6 e0;have t1:cs[1]? =H (mX i):=K6 p;have t2:cs[2]? =H v:=K6 e2;exact ZM79
structure TJ(w:aA)(v:aE)(cs:List Chg):Prop where
 rd:fM aKx Kb 3 w v cs
 lD:∀c∈cs,fM dV aR 3 w c.rv c.row/\CE c.row
 len:O cs<=1048576
theorem TJ.on{w:aA}{cs:List Chg}(h:TJ w v cs)(a:U w [] w' S'):TJ w' v cs:=⟨h.rd.on a,λc b=>⟨(h.lD c b).1.on a,(h.lD c b).2⟩,h.len⟩
theorem Vr{cs:List aE}{y:DataW us}(h:DataW.trod enc prog w eO spare held n 26 cs=H (y,pl))(a:Rows.uptoBulk y<=1048576):∃v l,cs=[v]/\TJ w v l:=by
 obtain⟨v,l,e,g,-,b,p,-⟩:=S7 (f:=aKx) (d:=Kb) (G:=λc=>fM dV aR 3 w c.rv c.row/\CE c.row) (μ:=λ_=>0) underlying26 (show prog.cellsOf 36=3 by kernel_rfl) E
  (λn q y pl h m=>by
   let⟨c,e,c1,c2⟩:=aEh h m;refine⟨c,λj i=> ?_,⟨c1,c2⟩,Y⟩;rw[e];match j,i with
   |0,_=>rfl
   |1,_=>rfl
   |2,_=>rfl) h a
 exact⟨v,l,e,g,b,Y⟩
theorem aBH{cs:List aE}{y:DataW us}(h:DataW.trod enc prog w eO spare held n 92 cs=H (y,pl)):
  ∃t:j6,(∀j,j<4->cs[j]? =H (t.cell j))/\t.var.size<=Rows.uptoBulk y/\t.xW.dZ.size<=Rows.uptoBulk y:=by
 let⟨b,n',C,a,e,c,d⟩:=DataW.trod_struct underlying92 h;let⟨q,g,p⟩:=fld d c 0 _ rfl rfl rfl (show prog.cellsOf 9=1 by kernel_rfl);let⟨i,m1,m⟩:=fld d c 1 _ rfl rfl rfl (show prog.cellsOf 90=3 by kernel_rfl);let⟨l,e0,A⟩:=MD p;obtain⟨x,u,-,B⟩:=Vq m;injection a with a _;subst a;have b0:=nG (AE.2 ⟨_,ul g,rfl⟩:q.1∈b.map (·.1));have z:=nG (AE.2 ⟨_,ul m1,rfl⟩:i.1∈b.map (·.1));simp only[Rows.uptoBulk];refine⟨⟨l,x⟩,λj r=> ?_,BC,BC⟩;have hd:∀k,k<3->cs[k+1]? =H (dV x k):=λk v=>by
  grind
 match j,r with
 |0,_=>exact K6 e0
 |1,_=>exact hd 0 E
 |2,_=>exact hd 1 E
 |3,_=>exact hd 2 E
theorem kh{cs:List aE}{y:DataW us}(h:DataW.trod enc prog w eO spare held n 85 cs=H (y,pl))(a:Rows.uptoBulk y<=1048576):
  ∃v l,cs=[v]/\AW w v l/\O l<=Rows.uptoBulk y/\∀t∈l,t.var.size<=1048576/\t.xW.dZ.size<=1048576:=by
 obtain⟨v,l,e,g,-,c,b,-⟩:=S7 (f:=j6.cell) (d:=sT) (G:=λt=>t.var.size<=1048576/\t.xW.dZ.size<=1048576) (μ:=λ_=>0) underlying85 (show prog.cellsOf 92=4 by kernel_rfl) E
  (λn i y pl h j=>by
   grind [aBH]) h a
 grind
theorem kj{cs:List aE}{y:DataW us}(h:DataW.trod enc prog w eO spare held n 23 cs=H (y,pl))(u:Rows.uptoBulk y<=1048576):
  ∃v,∃l:List ((dO×aE)×pB),cs=[v]/\fM (λx=>xV x.1) sT 2 w v l/\(∀x∈l,x.1.1=x.2.rel/\AW w x.1.2 x.2.aV/\∀s∈x.2.EF,s.size<=1048576)/\O l<=1048576/\(l.map λx=>O x.2.aV).sum<=1048576:=by
 obtain⟨v,l,e,V,-,T,k,o⟩:=S7 (f:=λx:(dO×aE)×pB=>xV x.1) (d:=sT) (G:=λx=>x.1.1=x.2.rel/\AW w x.1.2 x.2.aV/\∀s∈x.2.EF,s.size<=1048576) (μ:=λx=>O x.2.aV) underlying23 (show prog.cellsOf 87=2 by kernel_rfl) E
  (λn L y pl h B=>by
   let⟨b,n',P,a,m,c,g⟩:=DataW.trod_struct underlying87 h;let⟨A,p,z⟩:=fld g c 0 _ rfl rfl rfl (show prog.cellsOf 9=1 by kernel_rfl);let⟨q,m1,C⟩:=fld g c 1 _ rfl rfl rfl (show prog.cellsOf 85=1 by kernel_rfl);let⟨i,e0,S⟩:=MD z;injection a with a _;subst a;have b0:=nG (AE.2 ⟨_,ul p,rfl⟩:A.1∈b.map (·.1));have Q:=nG (AE.2 ⟨_,ul m1,rfl⟩:q.1∈b.map (·.1));simp only[Rows.uptoBulk]at B|-;let⟨tv,tl,r,t1,t2,N⟩:=kh C Y;refine⟨((i,tv),⟨i,tl⟩),λj F=> ?_,⟨rfl,t1,λs hs=> ?_⟩,BC⟩
   .match j,F with
    |0,_=>exact K6 e0
    |1,_=>exact K6 r
   grind [pB.EF]) h u
 grind
theorem Lr{α β:Type}(g:α->β)(l:List α)(d:α)(e:β)(h:i<O l):hJ (l.map g) i e=g (hJ l i d):=by
 grind
theorem ki{cs:List aE}{y:DataW us}(h:DataW.trod enc prog w eO spare held n 25 cs=H (y,pl))(k:Rows.uptoBulk y<=1048576):
  ∃(q:bK) (hv av:aE) (ps:List (dO×aE)),cs=[mX q.name,hv,av]/\ED w hv av ps q/\yT hv:=by
 let⟨p,n',Hr,l,hlen,m,r⟩:=DataW.trod_struct underlying25 h;let⟨P,v,o⟩:=fld r m 0 _ rfl rfl rfl (show prog.cellsOf 9=1 by kernel_rfl);let⟨z,m1,N⟩:=fld r m 1 _ rfl rfl rfl (show prog.cellsOf 22=1 by kernel_rfl);let⟨L,A,C⟩:=fld r m 2 _ rfl rfl rfl (show prog.cellsOf 23=1 by kernel_rfl);let⟨u,e0,Su⟩:=MD o;injection l with l _;subst l;have b0:=nG (AE.2 ⟨_,ul v,rfl⟩:P.1∈p.map (·.1));have b1:=nG (AE.2 ⟨_,ul m1,rfl⟩:z.1∈p.map (·.1));have b2:=nG (AE.2 ⟨_,ul A,rfl⟩:L.1∈p.map (·.1));simp only[Rows.uptoBulk]at k;obtain⟨hv,hl,F,S,jD,Q,V,-⟩:=S7 (f:=yK) (d:=bU) (G:=λs=>s.size<=1048576) (μ:=λ_=>0) underlying22 (show prog.cellsOf 9=1 by kernel_rfl) E
  (λn T y pl h W=>by
   let⟨s,e,hs⟩:=MD h;refine⟨s,λj hj=> ?_,Y,Y⟩;obtain rfl:j=0:=Y;rw[e];rfl) N (B:=1048576) Y
 let⟨av,al,e2,a1,a2,a3,a4⟩:=kj C Y;have gP:∀i,i<O al->hJ (al.map (·.2)) i sT=(hJ al i sT).2/\hJ (al.map (·.1)) i sT=(hJ al i sT).1:=λi g=>⟨Lr _ al sT sT g,Lr _ al sT sT g⟩;have jW:∀i,i<O al->hJ al i sT∈al:=λi g=>bO g;refine⟨⟨u,hl,al.map (·.2)⟩,hv,av,al.map (·.1),?_,⟨S,?_,J,λi g=> ?_,⟨BC,BC,?_,λs hs=> ?_⟩⟩,jD⟩
 .rw[show prog.cellsOf 25=3 by kernel_rfl]at hlen;have t0:cs[0]? =H (mX u):=K6 e0;have t1:cs[1]? =H hv:=K6 F;have t2:cs[2]? =H av:=K6 e2;exact ZM79
 .grind [fM,Rd.congr]
 .grind
 .grind [List.length_flatMap]
 .unfold bK.EF at hs;rcases xZ.1 hs with e|hs
  .grind
  .rcases yU.1 hs with hs|hs
   .exact Q s hs
   .let⟨a,ha,hs⟩:=List.mem_flatMap.1 hs;obtain⟨x,hx,rfl⟩:=AE.1 ha;grind
end
end
section
section
variable{wa wr w2:aA}{ρ fD:bC}{q:bK}{b d cells N:Nat}{t:iL}
end
section
variable{q:bK}{cells:Nat}{t:iL}{add:Bool}{rel:dO}{r:Row}{bEs:iL×Nat×Nat×Nat}
theorem bo.l9(h:bo q):tX (aZ (aB q).2) (λv=>(eA (aB q).2.aI v).cM) (λv=>(eA (aB q).2.aI v).bP):=h.wf.l9
theorem RL(a:bo q)(h:tC (aZ (aB q).2) t.T)(d:fC (aZ (aB q).2) cells (O q.aD) t add (pD q rel) (d8 q r)=bEs)(b:bEs.2.2.2≠0):
  bEs.1=t/\add=qT/\(bEs.2.2.2=110\/bEs.2.2.2=201):=by
 obtain⟨t1,st,c,e⟩:=bEs;have:=Ei a.l9 a.wf.cN a.wf.WE h d b;exact⟨this.1,this.2.1,this.2.2.1⟩
end
theorem MH{q:bK}{c:Int}(h:mN q c=0):(aB q).1=0:=by
 unfold mN at h;split at h
 .rename_i a;exact dY h a
 .rename_i a;exact zbT a
end
variable{P:cj}
section
theorem ZM67{P:Prop}(h:P:=by
  go_in;go_wp2_with (first
   |(go_at_call 7;apply(O2 (XZ.on cT)).dC;intro w2 bM)
   |(go_at_call 6;apply LL.dC;intro w1 cT))
  go_ret;exact⟨rfl,cV.ds (cT.ds bM)⟩):P:=h
theorem ZM132{P:Prop}(h:P:=by
  subst he;exact⟨_,rfl,Vl (T:=4) xq dJ rfl rfl underlying4 Dj rfl hU.below⟩):P:=h
open Go.ChangeShapes Go.WideShapes Go.ChangeAt Go.RowKit
section
variable{us:Type}{enc:ap×aE->us}{W:aA}{eO:Nat}{v:aE}{d:DataW us}{p:List MemPlace}
theorem a3y{a b c:aE}(h:(Value.agg cs).cells.toList=[a,b,c]):Value.agg cs= .agg #[a,b,c]:=by
 simp only[Value.cells]at h;obtain⟨l⟩:=cs;simp only at h;rw[h]
theorem Gv{t:ap}(a:P.underlying t=H (.struct fs))(h:Value.okWide P W .any eO t v):∃cs,v= .agg cs:=by
 unfold Value.okWide at h;rw[a]at h;obtain⟨cs,h,-⟩:=h;exact⟨cs,h⟩
theorem Mg(b:Value.okWide prog W .any eO 25 v)(h:DataW.Trod enc prog W 0 (λ_=>qT) qT 25 v d p)(a:Rows.uptoBulk d<=1048576):∃(q:bK) (hv av:aE) (ps:List (dO×aE)),v= .agg #[mX q.name,hv,av]/\ED W hv av ps q/\yT hv:=by
 obtain⟨cs,rfl⟩:=Gv underlying25 b;obtain⟨fuel,i⟩:=h;let⟨q,hv,av,ps,e,g,c⟩:=ki i a;exact⟨q,hv,av,ps,a3y e,g,c⟩
theorem Es(c:Value.okWide prog W .any eO 26 v)(h:DataW.Trod enc prog W 0 (λ_=>qT) qT 26 v d p)(a:Rows.uptoBulk d<=1048576):∃cs,TJ W v cs:=by
 obtain⟨a0,len,cap,rfl⟩:=okWide_slice underlying26 c;obtain⟨fuel,g⟩:=h;let⟨v,l,e,b⟩:=Vr g a;simp[Value.cells]at e;rw[e];exact⟨l,b⟩
end
theorem aW0:prog.globalNamed "math/bits.deBruijn32tab"=H 0:=by kernel_rfl
theorem a0M:(prog.globals[0]?).map (·.type)=H 285:=by kernel_rfl
theorem a3t:prog.cellsOf 285=32:=by kernel_rfl
theorem cU8:prog.cellsOf 5=1:=by kernel_rfl
def xp{us:Type}:List (String×DataW us):=[("math/bits.deBruijn32tab",Rows.laid_math_bits_deBruijn32tab)]
theorem aEH:∀i,i<32->([0,1,28,2,29,14,24,3,30,22,20,15,25,17,4,8,31,27,13,23,21,19,16,7,26,12,18,6,11,5,10,9]:List Int).getD i 0=(aDy.getD i 0:Int):=by decide
theorem ut{W:aA}(h:laidMetH prog xp W):Tz W:=by
 have b:Lib.TabIs prog W "math/bits.deBruijn32tab" n9 [0,1,28,2,29,14,24,3,30,22,20,15,25,17,4,8,31,27,13,23,21,19,16,7,26,12,18,6,11,5,10,9]:=
  Lib.tabIs_of_head (rest:=[]) aW0 a0M underlying285 underlying5 cU8 a3t h
 intro i a;have:=b.cell aW0 i a;rw[this,aEH i a]
noncomputable def GR(os:Os):aA:=
 {World.holding prog os ⟨#[],#[],[]⟩with heap:=(World.holding prog os ⟨#[],#[],[]⟩).heap.modify 0 fun
   |kd _ t frozen=>kd #[mj n9 0,mj n9 1,mj n9 28,mj n9 2,mj n9 29,mj n9 14,mj n9 24,mj n9 3,mj n9 30,mj n9 22,mj n9 20,mj n9 15,mj n9 25,mj n9 17,mj n9 4,mj n9 8,mj n9 31,mj n9 27,mj n9 13,mj n9 23,mj n9 21,mj n9 19,mj n9 16,mj n9 7,mj n9 26,mj n9 12,mj n9 18,mj n9 6,mj n9 11,mj n9 5,mj n9 10,mj n9 9] t frozen
   |o=>o}
theorem Wg(a:Os)(args:Array aE):laidMet prog xp ((GR a).forCall (λ_ _=>0) ⟨#[],args,[]⟩).memory:=
 laidMet_of_run' 8 dJ dJ
end
end Go.Proofs.YtohhhhfdpceppaaGreatDoor
