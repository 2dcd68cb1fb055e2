/- Part of the proof that the tied card of a law of the tree holds; no condition is added. -/
import Derived.Test.YtbcooplfakebmaaGreatDoorM3
namespace Go.Proofs.YtbcooplfakebmaaGreatDoor
set_option maxHeartbeats 4000000
set_option maxRecDepth 100000
set_option linter.all false
open Go.RowKit Go.Maps Go.Proofs.Tryz Tryz
open _root_.Array renaming size→hJ
open _root_.Bool renaming false→po,true→oj
open _root_.Go.Ending renaming returned→i5
open _root_.Go.IntKind renaming i64→i7
open _root_.Go.Obj renaming cells→h8
open _root_.Go.Value renaming bool→j4,int→i6,ownBlock→gz,pointer→h9,slice→hY,string→j3,tuple→i8
open _root_.Go.World renaming alloc→e8,cell?→e7,setCell→ey
open _root_.Inhabited renaming default→qc
open _root_.List renaming getD→ep,length→O
open _root_.Option renaming none→K,some→H
open Go renaming World→aA,Value→aF,Calls→aH,maxLen→bw,Ending→cg,Addr→cj,Program→cu
open Go.RowKit renaming Hid→dT
variable{L' PA:List Nat}{i n:Nat}{m1 my:gP}{uk:aF}{wk:aA}
section
theorem WE:wI prog 43 3 1 8 #[i6 i7 0]:= .PU (z:=J 0) underlying43 dB rfl rfl
theorem eG.not{β tb:Nat}(h:∀c,c<20->tb≠β+c):¬eG β tb:=λhs=>by
 unfold eG at hs;exact h (tb-β) Y Y
structure CH(w:aA)(ρ:aW)(β tb:Nat)(L:IJ)(m mx:gP)(mk:Bool)(uv v:aF)(A B:List lY)(r:Row)(s F G bb bc:Nat)(bl:List Int)(wx:aA)(f7:aW):Prop where
 eW:bA w ρ (eG β) wx f7
 st:gU wx f7 β L mx mk uv
 yF:jD mx (A++(r,s)::B) F G
 slots:mx.slots=m.slots
 wK:mx.bL=m.bL/\mx.most=m.most/\mx.gs=m.gs
 row:mK dR aP 3 wx f7 (β+6) v r
 bh:oF fI 0 3 1 wx f7 tb (hY (H ⟨bb,0,K⟩) (O bl) bc) bl
 aI5:hJ w.heap<=bb
section
variable{w wx wy:aA}{ρ f7 ρy:aW}{β tb:Nat}{L:IJ}{m mx:gP}{mk:Bool}{uv v:aF}{A B:List lY}{r:Row}{s F G bb bc j:Nat}{bl:List Int}{ks:Nat->List Row}
theorem CH.bE(h:CH w ρ β tb L m mx mk uv v A B r s F G bb bc bl wx f7):mx.bE=m.bE:=by unfold gP.bE;rw[h.wK.2.2]
theorem CH.on(h:CH w ρ β tb L m mx mk uv v A B r s F G bb bc bl wx f7)(a:U wx [] wy L'):CH w ρ β tb L m mx mk uv v A B r s F G bb bc bl wy f7:=
 ⟨h.eW.jH a,h.st.on a,h.yF,h.slots,h.wK,h.row.on a,h.bh.on a,h.aI5⟩
theorem CH.move(h:CH w ρ β tb L m mx mk uv v A B r s F G bb bc bl wx f7)(i:∀c,c<20->tb≠β+c)(a:bA wx f7 (eG β) wy ρy)(e:gU wy ρy β L my mk uv)(g:jD my (A++(r,s)::B) F G)(d:my.slots=mx.slots)(b:my.bL=mx.bL/\my.most=mx.most/\my.gs=mx.gs):CH w ρ β tb L m my mk uv v A B r s F G bb bc bl wy ρy:=
 ⟨h.eW.dd a,e,g,d.dd h.slots,⟨b.1.dd h.wK.1,b.2.1.dd h.wK.2.1,b.2.2.dd h.wK.2.2⟩,h.row.dg a (by unfold eG;omega),h.bh.dg a (eG.not i),h.aI5⟩
theorem CH.set(h:CH w ρ β tb L m mx mk uv v A B r s F G bb bc bl wx f7)(b:∀c,c<20->tb≠β+c)(a:i<O bl)(x:Int):CH w ρ β tb L m mx mk uv v A B r s F G bb bc (bl.set i x) (ey wx ⟨bb,i,K⟩ (i6 i7 x)) f7:=by
 obtain⟨g,cap,hv,-,l,-,-,-⟩:=h.bh.aU a;injection hv with x1 x2 x3;injection x1 with x1;injection x1 with x1;subst x1;have d:bA wx f7 (·=tb) (ey wx (Ad bb i) (J x)) f7:=(bA.refl wx f7 _).setCell (.inl l) _;have n:=h.bh.De (j:=0) a D x (J x) (λq u=>by
  obtain rfl:q=0:=Y;rw[bR rfl];rfl)
 rw[wZ,pK]at n;refine⟨h.eW.setCell (.inr h.aI5) _,h.st.dg d (λc p e=>b c p e.symm),h.yF,h.slots,h.wK,h.row.dg d (λe=>b 6 D e.symm),?_,h.aI5⟩;grind
theorem CH.cell(h:CH w ρ β tb L m mx mk uv v A B r s F G bb bc bl wx f7)(a:i<O bl):e7 wx ⟨bb,i,K⟩=H (i6 i7 (ep bl i 0))/\wx.frozen? ⟨bb,i,K⟩=po/\bb<hJ wx.heap:=by
 obtain⟨g,cap,hv,c,e,d,b,-⟩:=h.bh.aU a;injection hv with x1 x2 x3;injection x1 with x1;injection x1 with x1;subst x1;have:=d 0 D;rw[wZ,pK]at this;exact⟨this,b i,c⟩
structure Ig(mx:gP)(A B:List lY)(r:Row)(s F G j n:Nat)(PA:List Nat):Prop where
 dM:n<mx.most*mx.bE+1
 aU:mx.mO n=PA++(s*mx.bE+j)::(mR mx B r j).map (dZ mx j)
 aTp:j=0->∃ks',d8 {mx with mO:=put mx.mO n (PA++(mR mx B r j).map (dZ mx j))} (uU (A++(r,s)::B) (A++B) (j+1)) ks' F G
 a0U:∀k,j=k+1->∃n',n=n'+1/\mx.grp k (bI (cE mx k r))=H (n:Int)/\mx.bQ.dC n'=oj/\O (PA++(mR mx B r j).map (dZ mx j))<=mx.most/\
  ∀m',Wf {mx with mO:=put mx.mO n (PA++(mR mx B r j).map (dZ mx j))} k (cE mx k r) n' m'->∃ks',d8 m' (uU (A++(r,s)::B) (A++B) (j+1)) ks' F G
theorem Ig.of(hs:J2 mx)(h:d8 mx (uU (A++(r,s)::B) (A++B) j) ks F G)(l:j<mx.bE)(e:G<=F):∃n PA,Ig mx A B r s F G j n PA:=by
 cases j with
 |zero=>
  obtain⟨PA,b,c⟩:=h.aXe;exact⟨0,PA,Y,b,λ_=>⟨ks,c⟩,λk a=>Y⟩
 |succ k=>
  have a:k<O mx.gs:=by grind [gP.bE]
  let⟨n,PA,b,c,g,d,i,m⟩:=h.aXd hs a e;refine⟨n+1,PA,g,d,λh=>Y,λk' p=> ?_⟩;grind
theorem CH.next(h:CH w ρ β tb L m mx mk uv v A B r s F G bb bc bl wx f7)(b:Ig mx A B r s F G j n PA)(z:Int)(a:z=((s*m.bE+j:Nat):Int)):
  tR 236 #[h9 (H ⟨L.ob,0,K⟩),i6 i7 z] wx λe w'=>e=i5 (i8 #[i6 i7 (iS ((mR mx B r j).map (dZ mx j)).head?),i6 i7 0])/\wx=w':=by
 subst a;rw[<-h.bE];exact aE6 wx h.st.mO b.aU
theorem CH.rem(h:CH w ρ β tb L m mx mk uv v A B r s F G bb bc bl wx f7)(g:∀c,c<20->tb≠β+c)(i:Ig mx A B r s F G j n PA)(z:Int)(d:z=((s*m.bE+j:Nat):Int)):
  tR 237 #[h9 (H ⟨L.ob,0,K⟩),i6 i7 z] wx λe w'=>∃bN,e=i5 (i6 i7 0)/\CH w ρ β tb L m {mx with mO:=put mx.mO n (PA++(mR mx B r j).map (dZ mx j))} mk uv v A B r s F G bb bc bl w' bN:=by
 subst d;rw[<-h.bE];apply(im wx h.st.mO i.aU).cF;rintro e w' ⟨bN,rfl,a,b⟩;exact⟨bN,rfl,h.move g (a.xJ (β:=β) (c:=5) D) (h.st.XA a b) (h.yF.bE _ _ _ _ _ _) rfl ⟨rfl,rfl,rfl⟩⟩
theorem CH.aJ3{k:Nat}(h:CH w ρ β tb L m m1 mk uv v A B r s F G bb bc bl wx f7)(qW:m1={mx with mO:=put mx.mO n (PA++(mR mx B r j).map (dZ mx j))})(qL:∀c,c<20->tb≠β+c)(P:Ig mx A B r s F G j n PA)(a:d8 mx (uU (A++(r,s)::B) (A++B) j) ks F G)(W:j=k+1)(C:k<O m1.gs)(hG:G<1073741824)(y:dI r/\O r=m.bL)(d:bG dR aP 65 3 wx wk uk (cE m1 k r))(V:U wx [] wk []):
  tR 238 #[h9 (H ⟨L.b,0,K⟩),i6 i7 k,uk] wk λe w'=>∃bN m' g,e=i5 (i8 #[])/\CH w ρ β tb L m m' mk uv v A B r s F G bb bc bl w' bN/\d8 m' (uU (A++(r,s)::B) (A++B) (j+1)) g F G:=by
 subst qW;obtain⟨n',rfl,R,g2,g3,g4⟩:=P.a0U k W;have q:=h.st.kF.wK;have u:dI r/\O r=mx.bL:=⟨y.1,by have:mx.bL=m.bL:=h.wK.1;rw[this];exact y.2⟩;have o:=lT q u.1 u.2 C;have z:bA wx f7 eL wk (up wx (β+7) f7):=V.eW (S:=eL) (β+7) (λ_ h=>dS h (by simp));have i:mK dR aP 3 wk (up wx (β+7) f7) (β+7) uk (cE mx k r):=d.rd.jU (λh0 b Q=>d.2 b (eJ.cY d.1 Q)) (β+7) f7;have x:=h.move qL (z.aN (T:=eG β) pW) (h.st.dg z zE) h.yF rfl ⟨rfl,rfl,rfl⟩;have h5:mx.bE<=5:=by have:O mx.gs<=4:=q.few;grind [gP.bE]
 have Q8:mx.most<=65536:=q.ag.2;have IV:mx.most*mx.bE<=327680:=Nat.mul_le_mul Q8 h5;have nU:=P.dM;have a7R:=a.wf.al n' g2;refine(aL1 k x.st C i (by unfold eG;omega) o.1 o.2 (N:=n'+1) rfl R nU (by omega) a.wf g2 (by show mx.bQ.jP n'<mx.bQ.gens;have:mx.bQ.gens=1073741824:=a.gens;omega) (by have:=a.lrefs n';grind) (by grind [O0])).mono ?_;rintro e w' ⟨bN,m',rfl,hM,hS,f⟩;let⟨g,l⟩:=g4 m' f;have p:jD m' (A++(r,s)::B) F G/\m'.slots=mx.slots/\m'.bL=mx.bL/\m'.most=mx.most/\m'.gs=mx.gs:=by
  rcases f with⟨-,rfl⟩|⟨-,rfl⟩
  .exact⟨h.yF,rfl,rfl,rfl,rfl⟩
  .exact⟨h.yF.bE _ _ _ _ _ _,rfl,rfl,rfl,rfl⟩
 exact⟨bN,m',g,rfl,x.move qL hM hS p.1 p.2.1 p.2.2,l⟩
def J1(m:gP)(B:List lY)(r:Row)(j:Nat):List Int:=(xX m B r).take j++List.replicate (m.bE-j) 0
theorem G2{m:gP}(B:List lY)(r:Row){j:Nat}(h:j<=m.bE):O (J1 m B r j)=m.bE:=by grind [J1,kE]
theorem iu(m:gP)(B:List lY)(r:Row):J1 m B r 0=List.replicate m.bE 0:=by unfold J1;simp
theorem zx(m:gP)(B:List lY)(r:Row):J1 m B r m.bE=xX m B r:=by grind [J1,kE]
theorem Hz{m:gP}(B:List lY)(r:Row){j:Nat}(h:j<m.bE):(J1 m B r j).set j (rM (mR m B r j))=J1 m B r (j+1):=by
 apply List.ext_getElem?;intro i;unfold J1;rw[List.getElem?_set];have hl:=kE m B r;have ha:=xW m B r h;grind
end
end
variable{mk:Bool}{B:List lY}{F G tb β:Nat}{ks:Nat->List Row}{r:Row}{ρ:aW}{uv:aF}{w:aA}
theorem ZM5{P:Prop}(h:P:=by
  have lR:=HBe.st.kF.bS;rw[HBe.o.bE,qC.o]at lR;have c2:=Zc lR 2;have B7:=Zc lR 10;clear lR;try go_upto_region 10 with(fail)
  refine ee 99 (eb c2<|d7 B7) (λQ=> ?_);clear c2 B7;have HBf:=Z (HBe.on ((U.refl _ []).drew));refine dw [0,4,5,10,1,6,2,7,3,8,9,11] ?_;refine Zo 12 λqL hK=> ?_;go_simp;go_at_call 237;refine(HBf.rem Cl DZ _ ?_).mono ?_
  .first|exact HC.o|(rw[HW.o.1];exact HC)|(rw[HW.o.1,HW.o.2];exact HC)
  rintro e wz ⟨Bs,rfl,hZ⟩;let⟨m1,qW⟩:=E (({mx with mO:=put mx.mO n (PA++(mR mx B r j).map (dZ mx j))}:gP));rw[qW]at hZ;have HZ:=Z hZ;have D4:=Z qW.symm;have JB:=hZ.st.kF.bS;rw[hZ.bE,qC.o]at JB;have c2:=Zc JB 2;have B7:=Zc JB 10;have Q:=dX c2 B7;clear hZ qW JB c2 B7 HBe HBf;refine j8 ?_;clear hK qL;refine aY dB ?_ _;clear Q;by_cases h0:j=0
  .have hjz:¬(0<j):=Y;let⟨kz,hLz⟩:=DZ.aTp h0;rw[<-D4.o]at hLz;have HLZ:=Z hLz;clear hLz h0;go_wp2;go_roundg (Kl-(j+1))
   .exact⟨j+1,m1,Bs,kz,rV HJ.o qC.o,rfl,eO,HZ,HLZ⟩
   have:=HJ.o;have:=qC.o;omega
  .obtain⟨k,hk⟩:∃k,k+1=j:=⟨j-1,Y⟩;have hjp:0<j:=Y;have Ta:k<O m1.gs:=by have:=HJ.o;rw[HZ.o.wK.2.2];unfold gP.bE at this;omega
   have hwk:IntKind.i64.wrap ((j:Int)-1)=(k:Int):=by rw[TA _ Y];omega
   have ki:=Z (lo k HZ.st.kF Ta HZ.row.1 (by rw[HZ.o.wK.1];exact HG.2));have HKM:=Z Ta;have HKJ:=Z hk;clear Ta h0 hk;go_upto_region 13 with(first|(go_at_call 239;apply ki.cF;rintro e wk ⟨uk,rfl,hO,hU⟩;have HO:=Z hO;have HUK:=Z hU;clear hO hU)|(go_at_call 238;apply(HZ.aJ3 D4 Cl DZ HLX HKJ.symm HKM HGG.2 HG HO HUK).cF;rintro e wo ⟨ρo,mo,ko,rfl,hBo,hLo⟩;have HBO:=Z hBo;have qy:=Z hLo;clear hBo hLo));go_wp2;go_roundg (Kl-(j+1))
   .exact⟨j+1,mo,ρo,ko,rV HJ.o qC.o,rfl,eO,HBO,qy⟩
   have:=HJ.o;have:=qC.o;omega):P:=h
theorem ZM122{P:Prop}(h:P:=by
  rw[Ym];refine JE.congr λi j hi hj=> ?_;obtain rfl:j=0:=Y;rw[iB,List.getElem?_replicate,bR hi];rfl):P:=h
def aEg(w:aA)(ρ:aW)(β tb:Nat)(L:IJ)(m:gP)(mk:Bool)(uv:aF)(A B:List lY)(r:Row)(s F G:Nat)(e:cg)(w':aA):Prop:=
 ∃bN m' ks' bv,e=i5 bv/\bA w ρ (eG β) w' bN/\gU w' bN β L m' mk uv/\jD m' (A++B) F G/\d8 m' (λ_=>A++B) ks' F G/\m'.slots=m.slots.yZ (hY K 0 0) s/\m'.bL=m.bL/\m'.most=m.most/\m'.gs=m.gs/\mK fI 0 1 w' bN tb bv (xX m B r)
theorem aBm{s:Nat}{L:IJ}{m:gP}{A:List lY}(h:gU w ρ β L m mk uv)(hT:jD m (A++(r,s)::B) F G)(hL:d8 m (λ_=>A++(r,s)::B) ks F G)(D0:G<=F)(hG:G<1073741824)(vH:∀c,c<20->tb≠β+c):
  aH prog 229 #[h9 (H ⟨L.b,0,K⟩),i6 i7 s] w (aEg w ρ β tb L m mk uv A B r s F G):=by
 have gV:(r,s)∈A++(r,s)::B:=X;have JD:m.slots.dC s=oj:=(hT.dC s).2 ⟨r,gV⟩;have oV:=hT.row r s gV;obtain⟨v,hth⟩:∃v,m.slots.oP s=H v:=Option.isSome_iff_exists.1 (by rw[TE];exact JD);have hv:mK dR aP 3 w ρ (β+6) v r:=by have:=h.bX s v hth;rw[oV]at this;exact this
 obtain⟨va,vc,rfl,-⟩:=hv.len;have a:m.kJ s=H (m.slots.jP s):=by rw[hT.kJ,bR JD]
 have nU:=hT.lt gV;have Q8:=h.kF.ag;have cd:s<=1048576:=Y;have hg:=hT.good r s gV;have f:=Z h;have HT:=Z hT;have HL:=Z hL;have HV:=Z hv;have HG:=Z hg;have P:=Z JD;have HTH:=Z hth;have HRF:=Z a;have Cl:=Z vH;have HGG:=Z (dX D0 hG);have R3:=Z nU;let⟨Kl,Ml⟩:=E (m.bE);have qC:=Z Ml;have aZu:(Kl:Int)<=5:=by have:=h.kF.few;unfold gP.bE at Ml;omega
 have aZv:0<Kl:=by unfold gP.bE at Ml;omega
 let⟨γ,Q4⟩:=E (m.slots.jP s);have HGA:=Z Q4;have hb:=h.kF.bS;have b4:=Zc hb 4;have b5:=Zc hb 5;clear h hT hL hv hg gV JD oV hth a nU vH D0 hG Ml Q4 hb Q8;go_in;go_upto_region 1 with(fail);refine ek 99 (eb b4<|d7 b5) (λw1 eT cM Q=> ?_);clear b4 b5;have oN:=Z cM;have T3:=Z (f.on cM);have mS:=T3.fx cd (HRF.dd (wJ H HGA));unfold rI at mS;clear eT cM;refine dw [0,4,8,1,5,2,6,3,7] ?_;refine Zo 9 λqL hK=> ?_;go_simp;refine Zk hK Q<|Zo 10 λqL hK=> ?_;go_simp;go_at_call 175;have N:=Nf va (O r) vc w1 T3.slots P HTH.o;rw[HGA.o]at N;apply N.cF;rintro e w2 ⟨rfl,hU⟩;dsimp only;replace Q:=hU.Of Q;have eM:=Z (oN.dd hU);have rT:=Z (T3.on hU);clear N hU mS oN T3;refine Zk hK Q<|I 11 ?_;refine dw [12,14,13,15] ?_;refine aY dB ?_ _;clear Q;have pP:=rT.kF.bS;rw[qC.o]at pP;have c2:=Zc pP 2;clear pP;have vI:=WE.wO Kl Kl (fV _) Y F4;simp only[wZ]at vI;go_upto_region 3 with(fail);let⟨bb,eh⟩:=E (hJ w2.heap);have JE:=WE.yF Kl Kl (fV _) F4 w2 Y;simp only[wZ]at JE;let⟨w3,iQ⟩:=E (e8 w2 (h8 (madeCells #[i6 i7 0] Kl) 3));have cU:=Za iQ;rw[iQ,eh]at JE;rw[iQ,eh];have qU:bA w2 ρ eL w3 (up w2 tb ρ):=cU.eW (S:=eL) tb (λ_ h=>dS h X);have sH:CH w ρ β tb L m m mk uv (hY va (O r) vc) A B r s F G bb Kl (J1 m B r 0) w3 (up w2 tb ρ):=by
  refine⟨(eM.fK (S:=eG β) (ρ:=ρ)).dd (qU.aN pW),rT.dg qU zE,HT,rfl,⟨rfl,rfl,rfl⟩,(HV.on eM).dg qU id,?_,by rw[<-eh];exact eM.size⟩;rw[iu,qC.o,Ym];refine⟨?_,λg hg=>(show bb=g by simpa[gz]using hg)▸eh▸cJ (fV _)⟩;exact ZM122
 let⟨kM,lO⟩:=E (up w2 tb ρ);rw[lO]at sH;have MW:=Z sH;have c2:=(cU.cell c2 X:e7 w3 ⟨L.b,2,K⟩=_);clear sH lO qU JE cU iQ eh eM rT;go_upto_region 4 with(fail);go_loopg [34] Kl (λgg s34 wr=>∃(j:Nat) (mx:gP) (f7:aW) (Bz:Nat->List Row),j<=Kl/\gg=Kl-j/\s34=i6 i7 j/\CH w ρ β tb L m mx mk uv (hY va (O r) vc) A B r s F G bb Kl (J1 m B r j) wr f7/\d8 mx (uU (A++(r,s)::B) (A++B) j) Bz F G)
 .exact⟨0,m,kM,ks,Y,rfl,rfl,MW,by rw[YE];exact HL⟩
 obtain⟨j,mx,f7,Bz,hj,rfl,rfl,kB,R⟩:=hrel;by_cases aV:j<Kl
 .have FJ:j<m.bE:=by rw[qC.o];exact aV
  let⟨n,PA,N⟩:=Ig.of kB.st.kF.wK R (by rw[kB.bE];exact FJ) HGG.1;have uW:(j:Int)<(Kl:Int):=Y;have z:=Z kB;have HLX:=Z R;have DZ:=Z N;have HJ:=Z FJ;let⟨C,hC⟩:=E (s*Kl);have hC0:(s:Int)*(Kl:Int)=(C:Int):=by rw[<-hC];simp
  have hs5:s*Kl<=1048576*5:=Nat.mul_le_mul Y Y;have HW:=Z (dX (show IntKind.i64.wrap ((s:Int)*(Kl:Int))=(C:Int) by rw[TA _ Y];exact hC0) (show IntKind.i64.wrap ((C:Int)+(j:Int))=(C:Int)+(j:Int)from TA _ Y));have HC:dT ((C:Int)+(j:Int)=((s*m.bE+j:Nat):Int)):=Z (by rw[qC.o,hC];simp);have lR:=kB.st.kF.bS;rw[kB.bE,qC.o]at lR;have c2:=Zc lR 2;have B7:=Zc lR 10;clear kB R N lR FJ aV hj hC hC0 hs5;have hlB:=YF z.wK.2.2 B r j;cases hB:mR m B r j with
  |nil=>
   have HLB:=Z (hlB.dd hB);have HB:=Z hB;clear hlB hB;go_upto_region 6 with(fail);refine ek 99 (eb c2<|d7 B7) (λwd eY qS Q=> ?_);clear c2 B7;have d:=Z (z.on qS);clear eY qS;refine dw [0,6,7,12,1,8,2,9,3,10,4,11,5,13] ?_;refine Zo 14 λqL hK=> ?_;go_simp;go_at_call 236;refine(d.next DZ _ ?_).mono ?_
   .first|exact HC.o|(rw[HW.o.1];exact HC)|(rw[HW.o.1,HW.o.2];exact HC)
   rintro e wz ⟨rfl,rfl⟩;rw[HLB.o];simp only[List.map_nil,UU,List.head?_nil,List.head?_cons,iS];try rw[HY.o]
   refine Zk hK Q<|I 15 ?_;refine dw [16,18,17,19] ?_;refine aY dB ?_ _;have q:=d.cell (i:=j) (by rw[G2 B r (Nat.le_of_lt HJ.o)];exact HJ);have c2:=Q.1;have B7:=Q.2;have bj:=q.1;have bf:=q.2.1;have bl:=iO q.2.2;clear Q q z;go_upto_region 8 with(fail);have W:=Hz B r HJ.o;rw[HB.o]at W;simp only[rM]at W;let⟨we,YQ⟩:=E (ey wd (Ad bb j) (i6 i7 (-1)));have V:=d.set Cl (i:=j) (by rw[G2 B r (Nat.le_of_lt HJ.o)];exact HJ) (-1);rw[YQ,W]at V;rw[YQ];have HBe:=Z V;clear W YQ V bj bf bl c2 B7 d;exact ZM5
  |cons x B'=>
   obtain⟨x1,x2⟩:=x;have HLB:=Z (hlB.dd hB);have HB:=Z hB;have I8:dZ mx j (x1,x2)=x2*Kl+j:=by unfold dZ;rw[z.o.bE,qC.o]
   let⟨y,hy⟩:=E (dZ mx j (x1,x2));rw[hy]at I8;have hxm:x2<m.most:=by
    have hx:(x1,x2)∈A++(r,s)::B:=by
     have h1:(x1,x2)∈mR m B r j:=by rw[hB];simp
     have h2:(x1,x2)∈B:=by
      cases j with
      |zero=>exact h1
      |succ k=>exact(T8.1 h1).1
     simp[h2]
    exact HT.lt hx
   have Lg:x2*Kl<=65536*5:=Nat.mul_le_mul (by have:=z.st.kF.ag;rw[z.o.wK.2.1]at this;omega) Y;have hyd:y/Kl=x2:=by rw[I8,Nat.mul_comm,Nat.mul_add_div aZv,Nat.div_eq_of_lt Y];rfl
   have aXw:x2<=65536:=by have:=z.st.kF.ag;rw[z.o.wK.2.1]at this;omega
   have HYQ:=Z (show wrap64 ((y:Int)/(Kl:Int))=(x2:Int) by unfold wrap64;rw[<-Int.natCast_ediv,hyd];omega);have hyp:(0:Int)<=(y:Int):=Y;have HY:=Z hy;clear hlB hB I8 hxm Lg hyd hy aXw;go_upto_region 6 with(fail);refine ek 99 (eb c2<|d7 B7) (λwd eY qS Q=> ?_);clear c2 B7;have d:=Z (z.on qS);clear eY qS;refine dw [0,6,7,12,1,8,2,9,3,10,4,11,5,13] ?_;refine Zo 14 λqL hK=> ?_;go_simp;go_at_call 236;refine(d.next DZ _ ?_).mono ?_
   .first|exact HC.o|(rw[HW.o.1];exact HC)|(rw[HW.o.1,HW.o.2];exact HC)
   rintro e wz ⟨rfl,rfl⟩;rw[HLB.o];simp only[List.map_nil,UU,List.head?_nil,List.head?_cons,iS];try rw[HY.o]
   refine Zk hK Q<|I 15 ?_;refine dw [16,18,17,19] ?_;refine aY dB ?_ _;have q:=d.cell (i:=j) (by rw[G2 B r (Nat.le_of_lt HJ.o)];exact HJ);have c2:=Q.1;have B7:=Q.2;have bj:=q.1;have bf:=q.2.1;have bl:=iO q.2.2;clear Q q z;go_upto_region 8 with(fail);let⟨we,YQ⟩:=E (ey wd (Ad bb j) (i6 i7 (-1)));have V:=d.set Cl (i:=j) (by rw[G2 B r (Nat.le_of_lt HJ.o)];exact HJ) (-1);rw[YQ]at V;rw[YQ];have hln:j<O ((J1 m B r j).set j (-1)):=by rw[VP,G2 B r (Nat.le_of_lt HJ.o)];exact HJ.o
   have W:=Hz B r HJ.o;rw[HB.o]at W;simp only[rM]at W;have hBf:=V.set Cl hln (x2:Int);rw[List.set_set,W]at hBf;have q:=V.cell hln;have lR:=V.st.kF.bS;rw[V.bE,qC.o]at lR;clear bj bf bl c2 B7;have bj:=q.1;have bf:=q.2.1;have bl:=iO q.2.2;have c2:=Zc lR 2;have HBe:=Z hBf;clear W YQ V q lR hln hBf d;go_upto_region 10 with(fail);rw[<-HYQ.o]at HBe;let⟨wf,sG⟩:=E (ey we (Ad bb j) (i6 i7 (wrap64 ((y:Int)/(Kl:Int)))));rw[sG]at HBe;rw[sG];clear sG c2 bj bf bl;exact ZM5
 .obtain rfl:j=Kl:=Y;have z:=Z kB;have HLX:=Z (R.congr (E':=λ_=>A++B) λl hl=>by
   have:l<m.bE:=by rw[kB.wK.2.2]at hl;unfold gP.bE;omega
   exact(bR (nA qC.o)).symm)
  clear kB R;go_upto_region 14 with(fail);have lR:=z.st.kF.bS;have b6:=Zc lR 6;clear lR;refine ek 99 (d7 b6) (λw5 oD cQ Q=> ?_);clear b6;have yP:=Z (z.on cQ);clear oD cQ z;refine dw [0,4,1,2,3] ?_;refine Zo 5 λqL hK=> ?_;go_simp;go_at_call 235;apply(RR _ r w5 yP.row.1 HG.1).cF;rintro e w6 ⟨u,rfl,hO,dK⟩;dsimp only;have Q:=dK.cell Q X;have SM:bA w5 f7 eL w6 (up w5 (β+7) f7):=dK.eW (S:=eL) (β+7) (λ_ h=>dS h X);have HK6:=Z (S5 (ρ:=f7) hO (β+7));have b:=Z (yP.move Cl (SM.aN (T:=eG β) pW) (yP.st.dg SM zE) yP.yF rfl ⟨rfl,rfl,rfl⟩);obtain⟨ua,uc,rfl,-⟩:=hO.len;let⟨rU,Lf⟩:=E (up w5 (β+7) f7);rw[Lf]at HK6 b;clear hO dK SM yP Lf;refine Zk hK Q<|Zo 6 λqL hK=> ?_;go_simp;go_at_call 240;apply(Sa w6 b.st.wher HK6 Y HG.1.dM (b.yF.wher1 r s X)).cF;rintro e w7 ⟨rfl,F1,hI7⟩;dsimp only;have RE:=Z (b.st.Jn F1 hI7);have aNa:=F1.xJ (β:=β) (c:=8) D;have IM:=Z (b.eW.dd aNa);have ju:=Z (b.bh.dg aNa (eG.not Cl));have Q:=F1.cell Q (by show¬_=_;rw[b.o.st.kF.bT];omega);have HTU:=Z (b.yF.aLW rfl HGG.1 cH);have HLU:=Z (HLX.F6 cH r s);have A5:=Z b.yF;have qw:=Z (dX b.slots b.wK);clear F1 aNa hI7 b HK6 HLX;refine j8 ?_;clear hK qL;refine aY dB ?_ _;clear Q;have a:mx.kJ s=H γ:=by rw[A5.o.kJ,qw.o.1,bR P.o,HGA.o]
  have HRX:=Z a;have MS:=RE.kF.bS;have b4:=Zc MS 4;have b5:=Zc MS 5;clear a MS;go_upto_region 15 with(fail);refine ek 99 (eb b4<|d7 b5) (λw8 wP iE Q=> ?_);clear b4 b5;have Yc:=Z (RE.on iE);have VN:=Z (IM.jH iE);have HR8:=Z (ju.on iE);have mS:=Yc.fx cd HRX.o;unfold rI at mS;clear wP iE RE IM ju;refine dw [0,4,8,1,5,2,6,3,7] ?_;refine Zo 9 λqL hK=> ?_;go_simp;refine Zk hK Q<|Zo 10 λqL hK=> ?_;go_simp;go_at_call 241;have hGv:=aAC w8 Yc.slots A5.wf (by rw[qw.o.1];exact P) (i:=s) (by have h1:=A5.wf.al s (by rw[qw.o.1];exact P);have h2:=A5.gens;have h3:=HGG.2;show mx.slots.jP s<mx.slots.gens;omega);rw[show({mx with wher:=λp=>if p=bI r then K else mx.wher p,wc:=mx.wc-1}:gP).slots.jP s=γ from by show mx.slots.jP s=γ;rw[qw.o.1];exact HGA.o]at hGv;apply hGv.cF;rintro e w9 ⟨US,rfl,Ot,hA9⟩;dsimp only;have aN8:=Ot.xJ (β:=β) (c:=1) D;have Q:=dX (Ot.cell Q.1 (by show¬_=_;rw[Yc.o.kF.bT];omega)) (Ot.cell Q.2 (by show¬_=_;rw[Yc.o.kF.bT];omega));have HS9:=Z (Yc.Qq Ot hA9 (row':=mx.row) (λi v hv=>by
   have aZY:mx.slots.dC s=oj:=by rw[qw.o.1];exact P.o
   rw[fw (A:=mx.slots) aZY]at hv;by_cases e:i=s
   .rw[bR e]at hv;cases hv
   .rw[bD e]at hv;exact(Yc.bX i v hv).dg Ot (by show¬_=_;omega)))
  have HM9:=Z (VN.dd aN8);have Ip:=Z (HR8.dg aN8 (eG.not Cl));clear hGv Ot aN8 hA9 mS Yc VN HR8;refine j8 ?_;clear hK qL;refine aY dB ?_ _;clear Q;have hb9:=HS9.kF.bS;have b5:=Zc hb9 5;clear hb9;obtain⟨wa,dP,kP,-,UA⟩:=HS9.aOK cd HRX 0;have aN6:=kP.xJ (β:=β) (c:=2) D;have jr:=Z UA;have JU:=Z (HM9.dd aN6);have HRA:=Z (Ip.dg aN6 (eG.not Cl));clear kP aN6 UA HS9 HM9 Ip;go_wp2;go_ret;refine⟨_,_,_,_,rfl,JU,jr,HTU,HLU,?_,qw.2.1,qw.2.2.1,qw.2.2.2,?_⟩
  .show mx.slots.yZ _ s=_;rw[qw.o.1]
  .have:=HRA.rd;rw[<-qC.o,zx,kE]at this;rw[<-qC.o];exact this
variable{F' G' tO:Nat}{v:aF}
section
def JH(w:aA)(ρ:aW)(β b wd most:Nat)(gs:List (List Nat))(bV:List Row)(F G:Nat):Prop:=
 ∃(L:IJ) (m:gP) (ks:Nat->List Row) (es:List lY),L.b=b/\gU w ρ β L m po (hY K 0 0)/\jD m es F G/\d8 m (λ_=>es) ks F G/\m.bL=wd/\m.most=most/\m.gs=gs/\es.map (·.1)=bV
section
variable{w w':aA}{ρ bN:aW}{β b wd most:Nat}{gs:List (List Nat)}{bV:List Row}{F G:Nat}
theorem JH.dg{S:Nat->Prop}(h:JH w ρ β b wd most gs bV F G)(a:bA w ρ S w' bN)(d:∀c,c<20->¬S (β+c)):JH w' bN β b wd most gs bV F G:=by
 obtain⟨L,m,ks,es,g,i,e⟩:=h;exact⟨L,m,ks,es,g,i.dg a d,e⟩
theorem JH.mono(h:JH w ρ β b wd most gs bV F G)(a:F<=F')(c:G<=G'):JH w ρ β b wd most gs bV F' G':=by
 obtain⟨L,m,ks,es,i,j,g,e,d⟩:=h;exact⟨L,m,ks,es,i,j,g.mono a c,e.mono a c,d⟩
theorem JH.good(h:JH w ρ β b wd most gs bV F G):∀r∈bV,dI r/\O r=wd:=by
 obtain⟨L,m,ks,es,i,j,a,g,rfl,rfl,rfl,rfl⟩:=h;intro r d;obtain⟨e,c,rfl⟩:=BB.1 d;exact a.good e.1 e.2 c
theorem jD.Fp{m:gP}{T:List lY}(h:jD m T F G):(T.map (·.1)).Nodup:=by
 refine List.pairwise_map.2 ?_;refine List.Pairwise.imp_of_mem (λ{a b} ha hb dW e=>dW ?_) (List.pairwise_map.1 h.cZ);obtain⟨a1,a2⟩:=a;obtain⟨g,b2⟩:=b;simp only at e;subst e;exact h.Jb ha hb
theorem JH.cZ(h:JH w ρ β b wd most gs bV F G):bV.Nodup:=by
 obtain⟨L,m,ks,es,c,e,a,d,rfl,rfl,rfl,rfl⟩:=h;exact a.Fp
theorem JH.JF(h:JH w ρ β b wd most gs bV F G):O bV<=most:=by
 obtain⟨L,m,ks,es,c,e,a,d,rfl,rfl,rfl,rfl⟩:=h;rw[sN];exact a.JF
end
def iN(w:aA)(ρ:aW)(tO t:Nat)(v:aF)(bV:List Row):Prop:=
 ∃bX:List aF,O bX=O bV/\mK ID undef 1 w ρ tO v bX/\∀i,i<O bV->mK dR aP 3 w ρ t (ep bX i undef) (ep bV i [])
theorem iN.dg{w w':aA}{ρ bN:aW}{t:Nat}{bV:List Row}{S:Nat->Prop}(h:iN w ρ tO t v bV)(a:bA w ρ S w' bN)(b:¬S tO)(d:¬S t):iN w' bN tO t v bV:=by
 obtain⟨bX,g,j,e⟩:=h;exact⟨bX,g,j.dg a b,λi c=>(e i c).dg a d⟩
theorem iN.on{w w':aA}{ρ:aW}{t:Nat}{bV:List Row}(h:iN w ρ tO t v bV)(a:U w [] w' L'):iN w' ρ tO t v bV:=h.dg (S:=eL) a.fK id id
theorem gU.aJe{w w':aA}{ρ bN:aW}{β:Nat}{L:IJ}{m:gP}{S:Nat->Prop}(h:gU w ρ β L m mk uv)(a:bA w ρ S w' bN)(b:∀c,c<20->c≠7->¬S (β+c)):gU w' bN β L m mk uv:=
 ⟨h.kF.dg a (b 0 Y Y),h.slots.dg a (b 1 Y Y),h.kJ.dg a (h.GU▸b 2 Y Y),(a.bT _ h.kJ.lt).dd h.GU,h.bQ.dg a (b 3 Y Y),
  h.lrefs.dg a (h.vQ▸b 4 Y Y),(a.bT _ h.lrefs.lt).dd h.vQ,h.mO.dg a (b 5 Y Y),λi v hv=>(h.bX i v hv).dg a (b 6 Y Y),h.wher.dg a (b 8 Y Y) (b 9 Y Y),
  λk d=>by
   have:=h.kF.few;have e:β+10+2*k=β+(10+2*k):=Y;have g:β+10+2*k+1=β+(11+2*k):=Y;exact(h.grp k d).dg a (e▸b _ Y Y) (g▸b _ Y Y)⟩
def lM(wd most:Nat)(bV:List Row)(r:Row):Bool×Nat×List Row:=
 if¬(O r=wd/\iC r=oj)then(po,62,bV)else if r∈bV then(po,0,bV)else if O bV=most then(po,31,bV)else(oj,0,bV++[r])
def kD(wd:Nat)(bV:List Row)(r:Row):Bool×Nat×List Row:=
 if¬(O r=wd/\iC r=oj)then(po,62,bV)else if r∈bV then(oj,0,bV.erase r)else(po,0,bV)
end
variable{w':aA}
section
section
variable{m:gP}{T:List lY}{F G:Nat}{r:Row}
theorem gP.FW{m:gP}{r:Row}:m.FX r=oj↔O r=m.bL/\iC r=oj:=by unfold gP.FX;simp
theorem jD.Zm(h:jD m T F G)(a:(r,i)∈T):m.FX r=oj/\m.RS r=(i:Int):=by
 have c:=h.good r i a;have b:m.FX r=oj:=gP.FW.2 ⟨c.2,c.1.1⟩;refine⟨b,?_⟩;unfold gP.RS;rw[bR b,h.wher1 r i a];rfl
theorem jD.Jl(h:jD m T F G)(c:AP r)(d:r∉T.map (·.1)):m.RS r= -1:=by
 unfold gP.RS;split
 .rename_i a;have g:dI r:=⟨(gP.FW.1 a).2,λx a=>(c.2 x a).2⟩;rw[h.wher0 (bI r) λq i b e=>d (BB.2 ⟨(q,i),b,nG (h.good q i b).1 g e⟩)];rfl
 .rfl
theorem jD.split(c:r∈T.map (·.1)):∃A B i,T=A++(r,i)::B:=by
 obtain⟨e,b,rfl⟩:=BB.1 c;let⟨A,B,a⟩:=List.append_of_mem b;exact⟨A,B,e.2,a⟩
theorem Ur{A:List lY}(h:((A++(r,i)::B).map (·.1)).Nodup):((A++(r,i)::B).map (·.1)).erase r=(A++B).map (·.1):=by
 rw[R8,UU]at h|-;have b:r∉A.map (·.1):=λa=>(Iy.1 h).2.2 r a r X rfl;rw[List.erase_append_right _ b,List.erase_cons_head,R8]
end
def aEt(w:aA)(ρ:aW)(β b wd most:Nat)(gs:List (List Nat))(bV:List Row)(F G:Nat)(v:aF)(e:cg)(w':aA):Prop:=
 ∃bN,e=i5 v/\bA w ρ (eG β) w' bN/\JH w' bN β b wd most gs bV F G
section
variable{w:aA}{ρ:aW}{β b wd most F G:Nat}{gs:List (List Nat)}{bV:List Row}{v:aF}{r:Row}
theorem qi.Fm{L:IJ}{m:gP}{x:aF}{e:cg}{es:List lY}(h:qi w ρ β L m po (hY K 0 0) x e w')(a:L.b=b)(i:jD m es F G)(g:d8 m (λ_=>es) ks F G):aEt w ρ β b m.bL m.most m.gs (es.map (·.1)) F G x e w':=by
 obtain⟨bN,rfl,c,d⟩:=h;exact⟨bN,rfl,c,L,m,ks,es,a,d,i,g,rfl,rfl,rfl,rfl⟩
theorem aGU(h:JH w ρ β b wd most gs bV F G)(hv:eX dR aP 3 w v r)(d:AP r):
  tR 228 #[h9 (H ⟨b,0,K⟩),v] w λe w'=>∃n:Int,aEt w ρ β b wd most gs bV F G (i6 i7 n) e w'/\(r∈bV->0<=n)/\(r∉bV->n= -1):=by
 obtain⟨L,m,ks,es,rfl,i,c,l,rfl,rfl,rfl,rfl⟩:=h;apply(X3 i hv d).cF;intro e w' j;refine⟨_,j.Fm rfl c l,λa=> ?_,λa=>c.Jl d a⟩;obtain⟨x,g,rfl⟩:=BB.1 a;rw[(c.Zm (show(x.1,x.2)∈es from g)).2];omega
theorem aBk(h:JH w ρ β b wd most gs bV F G)(hv:eX dR aP 3 w v r)(j:AP r):
  aH prog 225 #[h9 (H ⟨b,0,K⟩),v] w (aEt w ρ β b wd most gs bV F G (j4 (decide (r∈bV)))):=by
 have m:=(aGU h hv j);obtain⟨va,vc,rfl,-⟩:=hv.len;by_cases d:r∈bV
 .rw[kI d];clear h hv j;go_in;go_wp2_with (go_at_call 228;apply m.cF;rintro e w1 ⟨n,⟨dN,rfl,i,a⟩,g,c⟩;have g:=g d;have l:=Z a;clear a c);go_ret;exact⟨_,rfl,i,l⟩
 .rw[jO d];clear h hv j;go_in;go_wp2_with (go_at_call 228;apply m.cF;rintro e w1 ⟨n,⟨dN,rfl,i,a⟩,g,c⟩;have c:=c d;subst c;have l:=Z a;clear a g);go_ret;exact⟨_,rfl,i,l⟩
theorem Jk(h:JH w ρ β b wd most gs bV F G):
  aH prog 45 #[h9 (H ⟨b,0,K⟩)] w λe w'=>e=i5 (i6 i7 (O bV))/\w=w':=by
 obtain⟨L,m,ks,es,rfl,a,g,j,rfl,rfl,rfl,rfl⟩:=h;have i:=(aEf w a.slots);have d:=a.kF.bS;have l:=Zc d 4;have hl:m.slots.aI=O (es.map (·.1)):=by rw[g.aI,sN]
 let⟨n,c⟩:=E (O (es.map (·.1)));rw[hl,c]at i;rw[c];clear a g j d hl c;go_in;go_wp2_with (go_at_call 85;apply i.cL;rintro w1 rfl);go_ret;exact⟨rfl,rfl⟩
end
def aP6(w:aA)(ρ:aW)(β b wd most:Nat)(gs:List (List Nat))(bV:List Row)(F G:Nat)(x:Bool×Nat×List Row)(e:cg)(w':aA):Prop:=
 ∃bN,e=i5 (i8 #[j4 x.1,i6 i7 (x.2.1:Int)])/\bA w ρ (eG β) w' bN/\JH w' bN β b wd most gs x.2.2 F G
theorem GQ{w:aA}{ρ:aW}{β b wd most F G:Nat}{gs:List (List Nat)}{bV:List Row}{v:aF}{r:Row}(h:JH w ρ β b wd most gs bV F G)(hv:eX dR aP 3 w v r)(R:AP r)(D0:G<=F)(hG:G<1073741824):
  aH prog 221 #[h9 (H ⟨b,0,K⟩),v] w (aP6 w ρ β b wd most gs bV F G (kD wd bV r)):=by
 obtain⟨L,m,ks,es,rfl,d,u,hL,rfl,rfl,rfl,rfl⟩:=h;obtain⟨va,vc,rfl,-⟩:=hv.len;let⟨wa,dE⟩:=E (e8 w (h8 #[h9 (H ⟨L.b,0,K⟩)] 126));have cR:=Za dE;have W:=Zb dE;let⟨bx,lR⟩:=E (hJ w.heap);have x:bA w ρ eL wa (up w (β+7) ρ):=cR.eW (S:=eL) (β+7) (λ_ h=>dS h X);have f:=d.dg x zE;have mE:up w (β+7) ρ bx=β+7:=cJ Y;have nN:=hv.on cR;generalize nL:up w (β+7) ρ=ρa at x f mE;rw[lR]at W;have q:=(Zi f.kF nN R);have HTX:=(show bx<hJ wa.heap from cV W);have HL:=Z hL;have y:=(dX D0 hG);have x0:=Zc W 0;clear d hv cR nL hL D0 hG;by_cases g:m.FX r=oj
 .rw[g]at q;have N:=gP.FW.1 g;by_cases n:r∈es.map (·.1)
  .obtain⟨A,B,s,rfl⟩:=jD.split n;have gV:(r,s)∈A++(r,s)::B:=X;have C:=(u.Zm gV).2;have he:=Ur u.Fp;have l:kD m.bL ((A++(r,s)::B).map (·.1)) r=(oj,0,(A++B).map (·.1)):=by unfold kD;rw[bD (by simp[N]),bR n,he]
   rw[l];have hs0:(0:Int)<=(s:Int):=Y;have p:=Z λwz (k:U wa [] wz [])=>X3 (f.on k) (nN.on k) R;rw[C]at p;clear l he C gV n N g;go_in;go_upto_region 6 with(first|(go_at_call 227;apply q.cL;intro w1 a;have x0:=a.cell x0 X)|(go_at_call 228;apply(p.o _ a).cF;rintro e w2 ⟨fB,rfl,i,d⟩;have sY:=i.cell ((a.cell (aL W (j:=0) rfl) X)) (by rw[mE];unfold eG;omega);have P:=Z (i.dd (bA.refl _ _ _));have rT:=Z d;clear i d));clear dE lR x0 q p;go_upto_region 7 with(go_at_call 229;apply(aBm rT u HL y.1 y.2 (tb:=β+20) (λc N=>Y)).cF;rintro e w3 ⟨kM,m3,k3,bv,rfl,i,d,JE,pV,-,V,e2,Q,qL⟩;obtain⟨ba,bc,rfl,-⟩:=qL.len;have x0:=i.cell sY (by rw[(P.bT bx (rV a.size HTX)).dd mE];unfold eG;omega);have tC:=Z i;have CJ:=Z d;have nR:=Z pV;have HE3:=Z (dX V (dX e2 Q));clear i d pV V e2 Q qL);let⟨w4,qJ⟩:=E (e8 w3 (h8 #[hY ba (O (xX m B r)) bc] 43));have eA:=Za qJ;rw[qJ];have VK:=Z (CJ.on eA);have x4:=eA.cell x0 X;have JV:=(((x.aN (T:=eG β) pW).dd ((a.fK (S:=eG β)).dd (P.dd tC))).jH eA);have z:=VK.kF.bS;have b11:=Zc z 11;clear qJ eA x0 sY z;go_wp2;go_ret2;obtain⟨V,e2,Q⟩:=HE3.o;exact⟨kM,rfl,JV,L,m3,k3,A++B,rfl,VK,JE,nR,V,e2,Q,rfl⟩
  .have C:=u.Jl R n;have l:kD m.bL (es.map (·.1)) r=(po,0,es.map (·.1)):=by unfold kD;rw[bD (by simp[N]),bD n]
   rw[l];have p:=Z λwz (k:U wa [] wz [])=>X3 (f.on k) (nN.on k) R;rw[C]at p;clear l C n N g;go_in;go_wp2_with (first|(go_at_call 227;apply q.cL;intro w1 a;have x0:=a.cell x0 X)|(go_at_call 228;apply(p.o _ a).cF;rintro e w2 ⟨fB,rfl,i,d⟩;have P:=Z i;have rT:=Z d;clear i d));go_ret2;exact⟨fB,rfl,(x.aN (T:=eG β) pW).dd ((a.fK (S:=eG β)).dd P),L,m,ks,es,rfl,rT,u,HL,rfl,rfl,rfl,rfl⟩
 .have g:m.FX r=po:=eI g;rw[g]at q;have l:kD m.bL (es.map (·.1)) r=(po,62,es.map (·.1)):=by
   unfold kD;rw[bR];intro hx;rw[gP.FW.2 hx]at g;cases g
  rw[l];clear l g;go_in;go_wp2_with (go_at_call 227;apply q.cL;intro w1 a;have x0:=a.cell x0 X);go_ret2;exact⟨ρa,rfl,(x.aN (T:=eG β) pW).jH a,L,m,ks,es,rfl,f.on a,u,HL,rfl,rfl,rfl,rfl⟩
end
variable{gs:List (List Nat)}{bV:List Row}{b j most wd:Nat}
def rO(n j:Nat):List Int:=List.replicate j (-1)++List.replicate (n-j) 0
theorem Ae(h:j<=n):O (rO n j)=n:=by unfold rO;simp;omega
theorem zh(n:Nat):rO n 0=List.replicate n 0:=by unfold rO;simp
theorem aEP(n:Nat):rO n n=List.replicate n (-1):=by unfold rO;simp
theorem aEO(h:j<n):(rO n j).set j (-1)=rO n (j+1):=by
 apply List.ext_getElem?;intro i;unfold rO;rw[List.getElem?_set];by_cases e:j=i
 .subst e;rw[bR rfl,bR (by simp;omega),zbE X,List.getElem?_replicate,bR Y]
 .rw[bD e];rcases WB i j with a|a
  .rw[zbE (by simp;omega),zbE (by simp;omega),List.getElem?_replicate,List.getElem?_replicate,bR a,bR Y]
  .rw[List.getElem?_append_right (by simp;omega),List.getElem?_append_right (by simp;omega),List.getElem?_replicate,List.getElem?_replicate,Ym,Ym];by_cases b:i-j<n-j
   .rw[bR b,bR Y]
   .rw[bD b,bD Y]
theorem ji(m:gP)(r:Row):xX m [] r=List.replicate m.bE (-1):=by
 apply List.ext_getElem
 .rw[kE,Ym]
 .intro i b c;rw[kE]at b;have a:=xW m [] r b;rw[iB,kX (by rw[kE];exact b)]at a;simp only[NQ]at a;rw[a,List.getElem_replicate];cases i<;>rfl
def Wd(w:aA)(ρ:aW)(β b wd most:Nat)(gs:List (List Nat))(bV:List Row)(F G:Nat)(x:Bool×Nat×List Row)(e:cg)(w':aA):Prop:=
 ∃bN,e=i5 (i8 #[j4 x.1,i6 i7 (x.2.1:Int)])/\bA w ρ (eG β) w' bN/\JH w' bN β b wd most gs x.2.2 F G
theorem NV{tr:Nat}(h:JH w ρ β b wd most gs bV F G)(hv:mK dR aP 3 w ρ tr v r)(oY:¬eG β tr)(W:AP r)(pH:F+1<=G)(hG:G<=1073741824):
  aH prog 224 #[h9 (H ⟨b,0,K⟩),v] w (Wd w ρ β b wd most gs bV F G (lM wd most bV r)):=by
 obtain⟨L,m,ks,es,rfl,p,R,hL,rfl,rfl,rfl,rfl⟩:=h;obtain⟨va,vc,rfl,-⟩:=hv.len;let⟨wa,dE⟩:=E (e8 w (h8 #[h9 (H ⟨L.b,0,K⟩)] 126));have cR:=Za dE;have kG:=Zb dE;let⟨bx,lR⟩:=E (hJ w.heap);have kP:bA w ρ eL wa (up w (β+7) ρ):=cR.eW (S:=eL) (β+7) (λ_ h=>dS h X);have UA:=p.dg kP zE;have mE:up w (β+7) ρ bx=β+7:=cJ Y;have nN:=hv.dg kP id;generalize nL:up w (β+7) ρ=ρa at kP UA mE nN;rw[lR]at kG;have HF:=Z (Zi UA.kF nN.1 W);have wU:=Z (kP.aN (T:=eG β) pW);have jr:=Z UA;have mP:=Z mE;have Np:=Z nN;have MG:=Z oY;have tQ:=Z kG;have HTX:=Z (show bx<hJ wa.heap from cV kG);have HT:=Z R;have HL:=Z hL;have HFR:=Z W;have x0:=Zc kG 0;clear oY p hv cR kP UA mE nN nL kG hL;have HGG:=Z (dX pH hG);clear pH hG;by_cases y:m.FX r=oj
 .rw[y]at HF;have hc:=gP.FW.1 y;by_cases f:r∈es.map (·.1)
  .let⟨x,hx,Ok⟩:=BB.1 f;obtain⟨r',s⟩:=x;simp only at Ok;subst Ok;have GB:=(R.Zm hx).2;have A:lM m.bL m.most (es.map (·.1)) r'=(po,0,es.map (·.1)):=by unfold lM;rw[bD (by simp[hc]),bR f]
   rw[A];have hs0:(0:Int)<=(s:Int):=Y;have A6:=Z λq (P:U wa [] q [])=>X3 (jr.o.on P) (Np.o.on P).1 HFR.o;rw[GB]at A6;clear A GB hx f hc y W R;go_in;go_wp2_with (first|(go_at_call 227;apply HF.o.cF;rintro e w1 ⟨rfl,l⟩;have c:=Z l;have x0:=l.cell x0 X;clear l)|(go_at_call 228;apply(A6.o _ c.o).cF;rintro e w2 ⟨fB,rfl,a,p⟩;have B:=a.cell ((c.o.cell (aL tQ.o (j:=0) rfl) X)) (by rw[mP.o];unfold eG;omega);have Et:=Z ((a.bT bx (rV c.o.size HTX.o)).dd mP.o);have zZ:=Z (wU.o.dd ((c.o.fK (S:=eG β)).dd a));have C:=Z p;have Ya:=Z ((Np.o.on c.o).dg a MG.o);clear a p));go_ret2;exact⟨fB,rfl,zZ.o,L,m,ks,es,rfl,C.o,HT.o,HL.o,rfl,rfl,rfl,rfl⟩
  .have GB:=R.Jl W f;have A6:=Z λq (P:U wa [] q [])=>X3 (jr.o.on P) (Np.o.on P).1 HFR.o;rw[GB]at A6;have Hd:m.slots.aI=O es:=R.aI;have FL:=R.JF;by_cases hn:O es=m.most
   .have A:lM m.bL m.most (es.map (·.1)) r=(po,31,es.map (·.1)):=by unfold lM;rw[bD (by simp[hc]),bD f,bR (by rw[sN];exact hn)]
    rw[A];clear A GB f hc y W R;go_in;have Wv:dT (∀(q:aA) (Bs:aW),gU q Bs β L m po cH->tR 45 #[h9 (H ⟨L.b,0,K⟩)] q λe w'=>e=i5 (J m.most)/\q=w'):=Z λq Bs P=>by
     have:=Jk ⟨L,m,ks,es,rfl,P,HT.o,HL.o,rfl,rfl,rfl,rfl⟩;rw[sN,hn]at this;exact this
    clear hn Hd FL;go_upto_region 5 with(first|(go_at_call 227;apply HF.o.cF;rintro e w1 ⟨rfl,l⟩;have c:=Z l;have x0:=l.cell x0 X;clear l)|(go_at_call 228;apply(A6.o _ c.o).cF;rintro e w2 ⟨fB,rfl,a,p⟩;have B:=a.cell ((c.o.cell (aL tQ.o (j:=0) rfl) X)) (by rw[mP.o];unfold eG;omega);have Et:=Z ((a.bT bx (rV c.o.size HTX.o)).dd mP.o);have zZ:=Z (wU.o.dd ((c.o.fK (S:=eG β)).dd a));have C:=Z p;have Ya:=Z ((Np.o.on c.o).dg a MG.o);clear a p));have pP:=C.o.kF.bS;have b1:=Zc pP 1;clear pP;refine ek 99 (eb B<|d7 b1) (λw3 iQ N Q=> ?_);clear B b1;have V:=Z (C.o.on N);have tC:=Z (zZ.o.jH N);have NL:=Z (Ya.o.on N);have LO:=Z (show bx<hJ w3.heap from WC Q.1);clear iQ N C zZ Ya;refine dw [0,2,3,4,5] ?_;refine Zo 1 λqL hK=> ?_;go_simp;go_at_call 45;apply(Wv.o w3 fB V.o).cF;rintro e w4 ⟨rfl,rfl⟩;dsimp only;refine j8 ?_;clear hK qL;refine dw [6,7] ?_;refine aY dB ?_ _;have B:=Q.1;clear Q;go_wp2;go_ret2;exact⟨fB,rfl,tC.o,L,m,ks,es,rfl,V.o,HT.o,HL.o,rfl,rfl,rfl,rfl⟩
   .have A:lM m.bL m.most (es.map (·.1)) r=(oj,0,es.map (·.1)++[r]):=by unfold lM;rw[bD (by simp[hc]),bD f,bD (by rw[sN];exact hn)]
    rw[A];have Wv:dT (∀(q:aA) (Bs:aW),gU q Bs β L m po cH->tR 45 #[h9 (H ⟨L.b,0,K⟩)] q λe w'=>e=i5 (J (O es))/\q=w'):=Z λq Bs P=>by
     have:=Jk ⟨L,m,ks,es,rfl,P,HT.o,HL.o,rfl,rfl,rfl,rfl⟩;rw[sN]at this;exact this
    have RF:=Z (show∀i,(r,i)∉es++[]from λi hi=>f (BB.2 ⟨(r,i),by simpa using hi,rfl⟩));have CK:=Z (show(es++[]).length<m.most by rw[kn];omega);have Wx:=Z (show dI r/\O r=m.bL from⟨⟨hc.2,λx hx=>(W.2 x hx).2⟩,hc.1⟩);generalize xm:O es=n at Wv hn;have dW:((n:Int)==(m.most:Int))=po:=by simp;omega
    have aDR:¬((n:Int)=(m.most:Int)):=Y;clear A f hc y W R hn Hd FL GB xm;go_in;go_upto_region 5 with(first|(go_at_call 227;apply HF.o.cF;rintro e w1 ⟨rfl,l⟩;have c:=Z l;have x0:=l.cell x0 X;clear l)|(go_at_call 228;apply(A6.o _ c.o).cF;rintro e w2 ⟨fB,rfl,a,p⟩;have B:=a.cell ((c.o.cell (aL tQ.o (j:=0) rfl) X)) (by rw[mP.o];unfold eG;omega);have Et:=Z ((a.bT bx (rV c.o.size HTX.o)).dd mP.o);have zZ:=Z (wU.o.dd ((c.o.fK (S:=eG β)).dd a));have C:=Z p;have Ya:=Z ((Np.o.on c.o).dg a MG.o);clear a p));have pP:=C.o.kF.bS;have b1:=Zc pP 1;clear pP;refine ek 99 (eb B<|d7 b1) (λw3 iQ N Q=> ?_);clear B b1;have V:=Z (C.o.on N);have tC:=Z (zZ.o.jH N);have NL:=Z (Ya.o.on N);have LO:=Z (show bx<hJ w3.heap from WC Q.1);clear iQ N C zZ Ya;refine dw [0,2,3,4,5] ?_;refine Zo 1 λqL hK=> ?_;go_simp;go_at_call 45;apply(Wv.o w3 fB V.o).cF;rintro e w4 ⟨rfl,rfl⟩;dsimp only;refine j8 ?_;clear hK qL;refine dw [6,7] ?_;refine aY dB ?_ _;have B:=Q.1;clear Q;go_upto_region 7 with(fail);clear dE lR dW aDR HF A6 Wv tQ;let⟨d,Ml⟩:=E (m.bE);have qC:=Z Ml;have aZu:(d:Int)<=5:=by have:=V.o.kF.few;unfold gP.bE at Ml;omega
    have U9:=V.o.kF.bS;rw[Ml]at U9;have b2:=Zc U9 2;clear U9 Ml;have vI:=WE.wO d d (fV _) Y F4;simp only[wZ]at vI;go_upto_region 8 with(fail);let⟨bb,eh⟩:=E (hJ w3.heap);have JE:=WE.yF d d (fV _) F4 w3 Y;simp only[wZ]at JE;let⟨w4,qJ⟩:=E (e8 w3 (h8 (madeCells #[J 0] d) 3));have eA:=Za qJ;rw[qJ,eh]at JE;rw[qJ,eh];have RC:bG fI 0 3 1 w3 w4 (eB bb 0 d d) (rO d 0):=by
     rw[zh];refine⟨?_,λg hg=>by have:bb=g:=(by simpa[gz]using hg);omega⟩;exact ZM122
    have kQ:=Z eA;have DY:=Z RC;have rR:=Z (show hJ w3.heap<=bb by omega);have HX0:=Z B;clear JE qJ eh eA RC B b2 vI;go_upto_region 9 with(fail);go_loopg [34] d (λgg s34 wr=>∃j:Nat,j<=d/\gg=d-j/\s34=J j/\U w3 [] wr []/\bG fI 0 3 1 w3 wr (eB bb 0 d d) (rO d j))
    .exact⟨0,Y,rfl,rfl,kQ.o,DY.o⟩
    obtain⟨j,hj,rfl,rfl,Tv,z⟩:=hrel;by_cases aV:j<d
    .obtain⟨g,cap,AO,-,Ea,hc',hf',-⟩:=eJ.block z.1 (j7 (Ae hj));injection AO with x1 x2 x3;injection x1 with x1;injection x1 with x1;subst x1;have bj:=hc' j 0 (by rw[Ae hj];exact aV) D;rw[wZ,pK]at bj;have bf:=hf' j;have bl:=iO Ea;have uW:(j:Int)<(d:Int):=Y;have HUR:=Z Tv;have HLR:=Z z;have HJ:=Z aV;clear Tv z hc' hf' Ea x2 x3 aV hj;go_wp2;go_roundg (d-(j+1))
     .have h1:=HLR.o.DB (i:=j) (j:=0) (by rw[Ae (Nat.le_of_lt HJ.o)];exact HJ.o) D (-1) (J (-1)) (λj' uW=>by
       obtain rfl:j'=0:=Y;rw[bR rfl];rfl)
      rw[wZ,pK,aEO HJ.o]at h1;exact⟨j+1,HJ.o,rfl,eO,HUR.o.setCell (.inr rR.o) _|>.to (λ_ h=> .inl h),h1⟩
     have:=HJ.o;omega
    .have ej:j=d:=Y;subst ej;have qN:bA w3 fB eL wr (up w3 (β+7) fB):=Tv.eW (S:=eL) (β+7) (λ_ h=>dS h X);have hA4:mK fI 0 1 wr (up w3 (β+7) fB) (β+7) (eB bb 0 j j) (List.replicate j (-1)):=by
      have:=(z.jU (β+7) fB).rd;rw[aEP]at this;exact this
     have k:=Z (V.o.dg qN zE);have HMr:=Z (tC.o.dd (qN.aN (T:=eG β) pW));have HVr:=Z (NL.o.dg qN id);have HAr:=Z hA4;have HXr:=Z (Tv.cell (HX0.o) X);have HTr:=Z ((qN.bT bx LO.o).dd Et.o);generalize aXq:up w3 (β+7) fB=ρr at k HMr HVr HAr HTr;have yW:O r<=100000:=rV Wx.o.2 k.o.kF.vD;have Cp:=Z (QS _ r wr HVr.o.1 yW);clear Tv z qN hA4 aXq yW V tC NL DY kQ;go_upto_region 14 with(go_at_call 176;apply Cp.o.cF;rintro e w5 ⟨u,rfl,hO,l⟩;obtain⟨ua,uc,rfl,-⟩:=hO.len;have T4:=Z hO;have gD:=Z l;clear hO l);have tU:bA wr ρr eL w5 (up wr (β+6) ρr):=gD.o.eW (S:=eL) (β+6) (λ_ h=>dS h X);have hK5:=(T4.o.jU (β+6) ρr).rd;generalize JA:up wr (β+6) ρr=pJ at tU hK5;let⟨w6,iA⟩:=E (e8 w5 (h8 #[hY ua (O r) uc] 33));have dK:=Za iA;have nP:=Zb iA;have SM:bA w5 pJ eL w6 (up w5 (β+7) pJ):=dK.eW (S:=eL) (β+7) (λ_ h=>dS h X);rw[iA];have Mj:=tU.dd SM;have js:=Z (k.o.dg Mj zE);have Cn:=Z (HMr.o.dd (Mj.aN (T:=eG β) pW));have HK6:=Z (hK5.dg SM id);have HA6:dT (mK fI 0 1 w6 (up w5 (β+7) pJ) (β+7) (eB bb 0 j j) (xX m [] r)):=Z (by rw[ji,qC.o];exact HAr.o.dg Mj id);have Pa:=Z (Mj.cell HXr.o id);have qv:=Z ((Mj.bT bx (WC HXr.o)).dd HTr.o);generalize Lf:up w5 (β+7) pJ=rU at js Cn HK6 HA6 qv;generalize GG:hJ w5.heap=kb at nP|-;have hx6:=Pa.o;have k0:=Zc nP 0;clear tU hK5 JA iA dK nP SM Mj Lf GG k HMr HVr HAr HXr HTr Cp T4 gD;have HTN:dT (jD m (es++[]) F G):=Z (by rw[kn];exact HT.o);have Wv:dT (d8 m (λ_=>es++[]) ks F G):=Z (by rw[kn];exact HL.o);go_upto_region 15 with(go_at_call 231;refine(aL3 js.o HTN.o Wv.o HK6.o Wx.o RF.o CK.o HGG.o.1 HGG.o.2 HA6.o (by unfold eG;omega)).mono ?_;rintro e w7 ⟨OZ,m7,k7,rfl,a,p,Xu,wW,-,e1,e2,e3⟩;have hx7:=a.cell hx6 (by rw[qv.o];unfold eG;omega);have IM:=Z (Cn.o.dd a);have RE:=Z p;have Es:=Z Xu;have RH:=Z wW;have HE7:=Z (dX e1 (dX e2 e3));clear a p Xu wW e1 e2 e3);have MS:=RE.o.kF.bS;have b11:=Zc MS 11;clear MS hx6 k0;go_wp2;go_ret2;obtain⟨e1,e2,e3⟩:=HE7.o;exact⟨OZ,rfl,IM.o,L,m7,k7,_,rfl,RE.o,Es.o,RH.o,e1,e2,e3,X⟩
 .have y:m.FX r=po:=eI y;rw[y]at HF;have A:lM m.bL m.most (es.map (·.1)) r=(po,62,es.map (·.1)):=by
   unfold lM;rw[bR];intro hx;rw[gP.FW.2 hx]at y;cases y
  rw[A];clear A y W R;go_in;go_wp2_with (go_at_call 227;apply HF.o.cF;rintro e w1 ⟨rfl,l⟩;have c:=Z l;have x0:=l.cell x0 X;clear l);go_ret2;exact⟨ρa,rfl,wU.o.jH c.o,L,m,ks,es,rfl,jr.o.on c.o,HT.o,HL.o,rfl,rfl,rfl,rfl⟩
variable{lane:Nat}
theorem aGX{L:IJ}{m:gP}{es:List lY}(h:gU w ρ β L m mk uv)(n:jD m es F G)(q:(r,i)∈es)(hl:lane<m.bE)(z:Int)(l:z=((i*m.bE+lane:Nat):Int)):
  aH prog 153 #[h9 (H ⟨L.b,0,K⟩),i6 i7 z] w λe w'=>∃u,e=i5 u/\bG dR aP 65 3 w w' u r/\U w [] w' []:=by
 subst l;have x:m.slots.dC i=oj:=(n.dC i).2 ⟨r,q⟩;obtain⟨v,d⟩:∃v,m.slots.oP i=H v:=Option.isSome_iff_exists.1 (TE▸x);have hv:mK dR aP 3 w ρ (β+6) v r:=by have:=h.bX i v d;rw[n.row r i q]at this;exact this
 obtain⟨va,vc,rfl,-⟩:=hv.len;have a:m.kJ i=H (m.slots.jP i):=by rw[n.kJ,bR x]
 have aV:=n.lt q;have Q8:=h.kF.ag;have P:i<=1048576:=Y;have yW:O r<=100000:=rV (n.good r i q).2 h.kF.vD;have Cp:=Z λg (l:U w [] g [])=>QS _ r g (hv.on l).1 yW;generalize b:m.bE=c at hl|-;let⟨y,R⟩:=E (i*c+lane);have A:y/c=i:=by rw[<-R,Nat.mul_comm,Nat.mul_add_div Y,Nat.div_eq_of_lt hl];rfl
 have hq:IntKind.i64.wrap ((y:Int)/(c:Int))=(i:Int):=by rw[<-Int.natCast_ediv,A];exact TA (i:Int) Y
 have hK0:¬(c=0):=Y;have hK5:(c:Int)<=5:=by have:=h.kF.few;unfold gP.bE at b;omega
 have hy5:(y:Int)<=10485760:=by have:i*c<=1048576*5:=Nat.mul_le_mul P Y;omega
 rw[R];let⟨γ,S⟩:=E (m.slots.jP i);have f:=Nf va (O r) vc w h.slots x d;rw[S]at f a;have DZ:=Z λg (l:U w [] g [])=>(show tR 175 #[h9 (H ⟨L.sb,0,K⟩),.agg #[J i,It γ]] g λe w'=>e=i5 (i8 #[(hY va (O r) vc),J 0])/\U g [] w' [] by rw[<-S];exact Nf va (O r) vc g (h.slots.on l) x d);have p:=h.kF.bS;rw[b]at p;go_in;go_upto_region 1 with(fail);refine ek 99 (eb (Zc p 2)<|eb (Zc p 4)<|d7 (Zc p 5)) (λw1 N B Q=> ?_);have mS:=(h.on B).fx P a;unfold rI at mS;refine dw [0,4,8,9,1,5,10,2,6,11,3,7,12,13] ?_;refine Zo 14 λqL hK=> ?_;go_simp;try rw[hq]
 try go_simp
 refine j8 ?_;clear hK qL;refine Zo 15 λqL hK=> ?_;go_simp;go_at_call 175;apply(DZ.o w1 B).cF;rintro e w2 ⟨rfl,j⟩;dsimp only;obtain⟨r8,T,V⟩:=Q;have Q:=dX ((j).cell r8 X) (dX ((j).cell T X) ((j).cell V X));have C:=(B.dd j);refine j8 ?_;clear hK qL;refine dw [16,17,19,18,20] ?_;refine aY dB ?_ _;go_wp2_with (go_at_call 176;apply(Cp.o w2 C).cF;rintro e w3 ⟨u,rfl,hO,j⟩);go_ret;exact⟨_,rfl,hO.eE C.size,C.dd j⟩
variable{xs:List Int}
def SX(w:aA)(v:aF)(xs:List Int):Prop:=eJ w v 3 1 (O xs) (λi _=>i6 i7 (ep xs i 0))
theorem aHE:(prog.info? 3).map (λi=>(i.zero,i.size,i.bytes))=H (H (i6 i7 0),1,8):=by kernel_rfl
theorem SX.lt(h:SX w v xs):∀g,gz v=H g->g<hJ w.heap:=eJ.lt h
theorem SX.wN{x:Int}(h:eJ w v 3 1 (O xs+1) (wN (λi _=>i6 i7 (ep xs i 0)) (O xs) [i6 i7 x])):SX w v (xs++[x]):=by
 unfold SX;rw[F5,Xd];refine h.congr λi j c b=> ?_;unfold Go.Proofs.YtbcooplfakebmaaGreatDoor.wN;by_cases a:i=O xs
 .subst a;have:j=0:=Y;subst this;simp
 .rw[bD a];simp only[iB];rw[zbE Y]
theorem SX.aU(h:SX w v xs){x:Int}(a:xs[i]? =H x):
  ∃g cap,v=hY (H ⟨g,0,K⟩) (O xs) cap/\gz v=H g/\e7 w ⟨g,i,K⟩=H (i6 i7 x):=by
 have b:i<O xs:=by
  rcases WB i (O xs) with h|h
  .exact h
  .rw[List.getElem?_eq_none h]at a;cases a
 let⟨g,cap,hv,d,_,c,_⟩:=eJ.block h Y;refine⟨g,cap,hv,d,?_⟩;have:=c i 0 b Y;rw[wZ,pK]at this;rw[this,iB,a];rfl
def BO(l:List Nat):List Int:=l.map λx:Nat=>(x:Int)
theorem EE(l:List Nat):O (BO l)=O l:=by simp[BO]
theorem Dh(a b:List Nat):BO (a++b)=BO a++BO b:=by simp[BO]
theorem ab:iS K= -1:=rfl
theorem Z'(x:Nat):iS (H x)=x:=rfl
def aCe:aF->Nat|hY _ k _=>k|_=>0
variable{a:Act}{ops:Array Oper}{bBP:Exit->Act->aA->Prop}{cap e g sz:Nat}{P:cu}
theorem eJ.aLo{eE:Nat}{xs:List aF}(h:w.ownsRow eE e sz v n xs):eJ w v e sz n (λi j=>ep xs (i*sz+j) undef):=by
 rcases h.2 with b|⟨g,cap,cur,hv,_,d,p,c,hs,l⟩
 .exact .inl b
 .refine .inr ⟨g,cap,cur,hv,d,p,c,hs,λi j q r=> ?_⟩;have m:i*sz+j<n*sz:=by
   calc i*sz+j<i*sz+sz:=Y
    _=(i+1)*sz:=by rw[Nat.succ_mul]
    _<=n*sz:=Oh _ Y
  have a:=h.1;have:xs[i*sz+j]? =cur[i*sz+j]? :=by rw[<-l,List.getElem?_take,bR m,Array.getElem?_toList]
  rw[<-this];show xs[i*sz+j]? =H (ep xs (i*sz+j) undef);rw[iB,kX Y];rfl
theorem SX.aGf{eE:Nat}(h:w.ownsRow eE 3 1 (hY (H ⟨g,0,K⟩) 0 cap) 0 []):SX w (hY (H ⟨g,0,K⟩) 0 cap) []:=
 (eJ.aLo h).congr (λi j a=>Y)
theorem MI{F:Fence}{k:Nat}(w:aA){rest:List Oper}{o:Oper}(r:o.guard=K)(s x:Operand)(t:TypeId)(j:o.op= .call {callee:= .builtin .append,args:=#[s,x],argTypes:=#[t,t]})(e:TypeId)(i:TypeInfo)(z:aF)(size bytes:Nat)(G:P.underlying t=H (.slice e))(m:P.info? e=H i)(V:i.zero=H z)(C:i.size=size)(T:i.bytes=bytes)(p:z.cells.size=size)(v:aF)(n:Nat)(b:Nat->Nat->aF)(l:eJ w v e size n b)(hs:a.eval s=v)(news:List aF)(y:a.eval x=hY (H ⟨w,0,K⟩) 1 1)(hl:O news=size)(R:news.all Value.oneCell'=oj)(q:(n+1)*bytes<=140737488355328)(W:n+1<=bw)(h:∀v' w',eJ w' v' e size (n+1) (wN b n news)->w.grownBy w' (gz v)->(∀k,gz v'=H k->gz v=H k\/hJ w.heap<=k)->(∃g cap,v'=hY (H ⟨g,0,K⟩) (n+1) cap)->
   wpListIn F k P ops bBP rest (a.put o.dst v') w'):wpListIn F k P ops bBP (o::rest) a (e8 w (h8 news.toArray e)):=by
 refine wpListIn_plain r λqL hK=> ?_;let⟨v',w',f,A,Q,N,L⟩:=K9 (P:=P) (e8 w (h8 news.toArray e)) t o.type e i z size bytes G m V C T p v n b (l.aC λg e=>Below.heap_alloc _ _ _ (l.lt g e)) ⟨w,0,K⟩ 1 news hl
  (Gl w news e) (λu B=>Xa.1 R u B) q W
 unfold Oper.wpIn;refine⟨?_,?_⟩
 .simp[Oper.about,j,resolve,Target.leads,Sem.run_pure]
 .rw[Oper.semAt_plain F _ _ (by rw[j];intro c d;cases d)];simp[execOp,j,resolve,invoke,builtin,hs,y,f,Result.andThen];exact hK _ _ (h v' w' A (FU Q) (λk S=>(N k S).imp id (λh=>by simp at h;omega)) L)
variable{tmps:Array aF}{assign body:Code}{S S':List Nat}{gf:Nat}{Start:aA->Nat->aA->Prop}
theorem ZM4{P:Prop}(h:P:=by
  rintro g k x W ⟨hi,hl,hk⟩ hx;have aV:hJ w.heap+1<hJ W.heap:=(Array.getElem?_eq_some_iff.1 hl).1;have hy:=run_yield (P:=P) (args:=Mv x) hl GJ;rw[O8]at hy;refine⟨fn,_,assign,body,hy,roundIn_of_wpIn trivial (Lx x W _ ⟨_,run_beginRound hl (by rw[O8]),?_⟩)⟩;obtain⟨W',V7⟩:∃W',W.putObj (hJ w.heap+1) (.loop {rec .ready K with state:= .busy})=W':=⟨_,rfl⟩;have GD:W'.heap[hJ w.heap+1]? =H (.loop {rec .ready K with state:= .busy}):=by grind [World.putObj_heap_same]
  have n7:W'.heap[hJ w.heap]? =H (.deferred (H [])):=by grind [World.putObj_heap_other]
  have CY:∀o,g≠hJ w.heap+1->(W.putObj (hJ w.heap+1) o).heap[g]? =W.heap[g]? :=λo h=>World.putObj_heap_other h;rw[V7];have Un:∀(jump:Option Code) (W3:aA),(W3.heap[hJ w.heap+1]? =W'.heap[hJ w.heap+1]?/\W3.heap[hJ w.heap]? =W'.heap[hJ w.heap]?)->
    (Instr.endRound (hJ w.heap+1) jump).run P W3= .ok (j4 jump.isNone) (W3.putObj (hJ w.heap+1) (.loop (rec (if jump.isNone then .ready else .done) jump)))/\
    (W3.putObj (hJ w.heap+1) (.loop (rec (if jump.isNone then .ready else .done) jump))).heap[hJ w.heap+1]? =H (.loop (rec (if jump.isNone then .ready else .done) jump))/\
    (W3.putObj (hJ w.heap+1) (.loop (rec (if jump.isNone then .ready else .done) jump))).heap[hJ w.heap]? =H (.deferred (H [])):=λjump W3 yM=>by
   have hl3:=yM.1.dd GD;have:=run_endRound (P:=P) jump hl3;grind [World.putObj_heap_same,World.putObj_heap_other]
  refine wpIn_mono (aDg g k x W' GJ hx) ?_;rintro e a3 W3 hp;cases e with
  |normal=>
   obtain⟨yM,hg3,dq⟩:=hp;let⟨hr,dm,Cg⟩:=Un K W3 yM;have Ed:=dW g _ _ hi;exact⟨_,_,hr,.inl ⟨rfl,⟨hI _ _ _ _ dq,dm,Cg⟩,(World.putObj_heap_other Ed).dd (hg3.dd GJ)⟩⟩
  |ret=>
   obtain⟨yM,dq⟩:=hp;let⟨hr,dm,Cg⟩:=Un (H .ret) W3 yM;exact⟨_,_,hr,.inr ⟨rfl,.ret,hIx _ _ _ _ _ dq,dm,Cg⟩⟩
  |exit id=>
   obtain⟨yM,dq⟩:=hp;let⟨hr,dm,Cg⟩:=Un (H (.exit id)) W3 yM;exact⟨_,_,hr,.inr ⟨rfl,.exit id,hIx _ _ _ _ _ dq,dm,Cg⟩⟩
  |goto t=>
   obtain⟨yM,dq⟩:=hp;let⟨hr,dm,Cg⟩:=Un (H (.goto t)) W3 yM;exact⟨_,_,hr,.inr ⟨rfl,.goto t,hIx _ _ _ _ _ dq,dm,Cg⟩⟩
  |panic ch=>exact hp.elim
  |outgrown=>exact hp.elim):P:=h
theorem ZM41{P:Prop}(h:P:=by
  rintro e W2 ⟨⟨v,rfl⟩,g,(⟨hi,hl,hk⟩|⟨k,Tb,c,hi,hl,hk⟩)⟩
  .exact⟨K,_,by have:=run_endLoop (P:=P) hl (by rw[O8];simp);rw[O8]at this;exact this,Hh g _ (hI _ _ _ _ hi) ((World.putObj_heap_other Y).dd hk)⟩
  .exact⟨H c,_,by have:=run_endLoop (P:=P) hl (by rw[O8];simp);rw[O8]at this;exact this,aDA c g k _ Tb (hIx _ _ _ _ _ hi) ((World.putObj_heap_other Y).dd hk)⟩):P:=h
theorem ZM64{P:Prop}(h:P:=by
  rw[<-pj,O8];have:=World.alloc_heap_new (w.alloc (.deferred (H []))) (.loop {state:= .ready,pending:=K,fn,tmps:=a.tmps,params:=ps,assign,body,defers:=hJ w.heap});rwa[World.size_alloc]at this):P:=h
theorem U.putObj(h:U w S w' S'){l:Nat}(hl:l∈S\/hJ w.heap<=l)(o:Obj):U w S (w'.putObj l o) S':=
 ⟨h.os,h.tape,h.output,by rw[World.putObj_size];exact h.size,λk a b=>(World.putObj_heap_other (λe=>by grind)).dd (h.block k a b),h.fresh⟩
def Wh{α:Type}(P:cu)(gf:Nat)(lb:Array aF)(encs:α->Array aF)(xs:List α)(Start:aA->Nat->aA->Prop)(W:aA):Prop:=
 ∀(l:Nat) (bBL Jx:Nat->Nat->aA->Prop),(∀g W1,Start W g W1->bBL g 0 W1)->
  (∀g k x W1,bBL g k W1->xs[k]? =H x->YieldAt Fence.wide 0 P l (encs x) W1 λe W'=>
   (e=i5 (j4 oj)/\bBL g (k+1) W'/\W'.heap[g]? =W1.heap[g]?)\/(e=i5 (j4 po)/\Jx g (k+1) W'))->
  CallsIn Fence.wide 0 P gf (#[.func (.yield l) #[] #[]]++lb) W λe W'=>(∃v,e=i5 v)/\∃g,bBL g (O xs) W'\/∃k,k<=O xs/\Jx g k W'
def aCg(l bBN:Nat)(g:Nat)(W:aA)(bBK:aA->Prop)(Ix:Code->aA->Prop):Exit->Act->aA->Prop
 | .normal,_,W'=>(W'.heap[l]? =W.heap[l]?/\W'.heap[bBN]? =W.heap[bBN]?)/\W'.heap[g]? =W.heap[g]?/\bBK W'
 | .ret,_,W'=>(W'.heap[l]? =W.heap[l]?/\W'.heap[bBN]? =W.heap[bBN]?)/\Ix .ret W'
 | .exit id,_,W'=>(W'.heap[l]? =W.heap[l]?/\W'.heap[bBN]? =W.heap[bBN]?)/\Ix (.exit id) W'
 | .goto t,_,W'=>(W'.heap[l]? =W.heap[l]?/\W'.heap[bBN]? =W.heap[bBN]?)/\Ix (.goto t) W'
 | .panic _,_,_=>False
 | .outgrown,_,_=>False
def pQ(w:aA)(fn:FuncId)(tmps:Array aF)(ps:Array Tmp)(assign body:Code):aA:=
 (w.alloc (.deferred (H []))).alloc (.loop {state:= .ready,pending:=K,fn,tmps,params:=ps,assign,body,defers:=hJ w.heap})
theorem vA{fn:FuncId}{ps:Array Tmp}:U w [] (pQ w fn tmps ps assign body) []:=
 ((U.refl w []).alloc _).alloc _
theorem IE{fn:FuncId}{ps:Array Tmp}:hJ (pQ w fn tmps ps assign body).heap=hJ w.heap+2:=by simp[pQ]
theorem uf{α:Type}{g:Operand}{ps:Array Tmp}{lb:Array aF}(l:a.eval g= .func (.func gf) #[] lb)(eg:∀args w,(callFunc gf args).run P w= .ok (.enter gf args) w){Mv:α->Array aF}{xs:List α}(n:∀x,(Mv x).size=ps.size)(hit:∀fn,Wh P gf lb Mv xs Start (pQ w fn a.tmps ps assign body))(r:∀fn g W1,Start (pQ w fn a.tmps ps assign body) g W1->W1.heap[hJ w.heap+1]? =(pQ w fn a.tmps ps assign body).heap[hJ w.heap+1]?/\W1.heap[hJ w.heap]? =(pQ w fn a.tmps ps assign body).heap[hJ w.heap]?)(b:Nat->Nat->aA->Prop)(Ix:Code->Nat->Nat->aA->Prop)(dW:∀g k W,b g k W->g≠hJ w.heap+1)(hI:∀g k W o,b g k W->b g k (W.putObj (hJ w.heap+1) o))(hIx:∀c g k W o,Ix c g k W->Ix c g k (W.putObj (hJ w.heap+1) o))(q:∀fn g W1,Start (pQ w fn a.tmps ps assign body) g W1->b g 0 W1)(a₁:α->Act)(Lx:∀(x:α) (W:aA) (qL:Act->aA->Prop),qL (a₁ x) W->
   assign.wpIn (Fence.wide.inRound (hJ w.heap+1)) 0 P (Exit.then qL (λ_ _ _=>False)) {tmps:=(ps.zip (Mv x)).foldl (λt (p,v)=>t.setIfInBounds p v) a.tmps,defers:=[]} W)(aDg:∀(g k:Nat) (x:α) (W:aA),b g k W->xs[k]? =H x->
   body.wpIn (Fence.wide.inRound (hJ w.heap+1)) 0 P (aCg (hJ w.heap+1) w.heap.size g W (b g (k+1)) (λc=>Ix c g (k+1))) (a₁ x) W)(Hh:∀g W,b g (O xs) W->W.heap[hJ w.heap]? =H (.deferred (H []))->bBP .normal {a with defers:={target:= .collected w.heap.size,args:=#[]}::a.defers} W)(aDA:∀c g k W,k<=O xs->Ix c g k W->W.heap[hJ w.heap]? =H (.deferred (H []))->c.wpIn Fence.wide 0 P bBP {a with defers:={target:= .collected w.heap.size,args:=#[]}::a.defers} W):
  (Code.rangeFunc g ps assign body).wpIn Fence.wide 0 P bBP a w:=by
 refine wpIn_rangeFunc ?_;intro fn _;have i:Fence.wide.round=K:=rfl;rw[i];obtain⟨rec,O8⟩:∃rec:LoopState->Option Code->Loop,rec=λst m=>{state:=st,pending:=m,fn,tmps:=a.tmps,params:=ps,assign,body,defers:=hJ w.heap}:=⟨_,rfl⟩;let⟨W1,pj⟩:=E (pQ w fn a.tmps ps assign body);have u:W1.heap[hJ w.heap+1]? =H (.loop (rec .ready K)):=ZM64;have j:W1.heap[hJ w.heap]? =H (.deferred (H [])):=by
  rw[<-pj];exact(Below.heap_alloc _ _ _ X).dd (World.alloc_heap_new w _)
 refine⟨hJ w.heap+1,[{target:= .collected w.heap.size,args:=#[]}],W1,{target:= .fn (.func gf) lb,args:=#[.func (.yield (hJ w.heap+1)) #[] #[]]},W1,gf,
  #[.func (.yield (hJ w.heap+1)) #[] #[]]++lb,W1,?_,?_,?_,?_,?_,?_⟩
 .rw[<-pj];exact run_enterLoop_outer _ _ _ _ _
 .simp only[resolve,l];simp[go_sem]
 .intro f' _;trivial
 .grind [invoke]
 .intro h;cases h
 .have d:=hit fn;rw[pj]at d;refine(d (hJ w.heap+1)
   (λg k W=>b g k W/\W.heap[hJ w.heap+1]? =H (.loop (rec .ready K))/\W.heap[hJ w.heap]? =H (.deferred (H [])))
   (λg k W=>∃c,Ix c g k W/\W.heap[hJ w.heap+1]? =H (.loop (rec .done (H c)))/\W.heap[hJ w.heap]? =H (.deferred (H []))) ?_ ?_).mono ?_
  .grind
  .exact ZM4
  .exact ZM41
variable{fp Xx:List Nat}{C L c:Nat}{W' W1 w0:aA}
section
attribute [local go_sem] Oper.semAt_some
noncomputable def told(f:Nat->List Nat)(n:Int)(L:Nat):List Nat:=open Classical in if qX n L then[]else f n.toNat
theorem aB5(b:Nat)(n:Int)(w:aA):aH prog 152 #[h9 (H ⟨b,0,K⟩),i6 i7 n] w λe w'=>
  e=i5 (.func (.func 173) #[] #[h9 (H ⟨w,0,K⟩),h9 (H ⟨hJ w.heap+1,0,K⟩)])/\
  w'=e8 (e8 w (h8 #[h9 (H ⟨b,0,K⟩)] 206)) (h8 #[i6 i7 n] 3):=by
 go_in;go_wp2;go_ret;exact⟨rfl,rfl⟩
def aUH(l:Nat)(bBL Jx:Nat->Nat->aA->Prop)(g k c:Nat)(W:aA):Prop:=
 YieldAt Fence.wide 0 prog l #[i6 i7 c] W λe W'=>(e=i5 (j4 oj)/\bBL g (k+1) W'/\W'.heap[g]? =W.heap[g]?)\/(e=i5 (j4 po)/\Jx g (k+1) W')
def aO6(f:Nat->List Nat)(n:Int)(L:Nat)(bBL Jx:Nat->Nat->aA->Prop)(e:cg)(W':aA):Prop:=
 (∃v,e=i5 v)/\∃g,bBL g (O (told f n L)) W'\/∃k,k<=O (told f n L)/\Jx g k W'
theorem N'{k:Nat}(h:gz (hY (H ⟨g,0,K⟩) n c)=H k):g=k:=by grind [gz]
def aAZ(f:Nat->List Nat)(W1:aA)(n:Nat)(v c:aF)(wr:aA):Prop:=
 ∃A B,f n=A++B/\c=i6 i7 (iS B.head?)/\SX wr v (BO A)/\U W1 [] wr []/\(∃g cap,v=hY (H ⟨g,0,K⟩) (O A) cap/\hJ W1.heap<=g)
theorem aCj{f:Nat->List Nat}(l G B1:Nat)(n:Int)(W:aA)(a Jx:Nat->Nat->aA->Prop)(hC:mT W b C L f fp)(kB:W.heap[G]? =H (h8 #[h9 (H ⟨b,0,K⟩)] 206 (0,0)))(eQ:W.heap[B1]? =H (h8 #[i6 i7 n] 3 (0,0)))(Ll:G∉fp)(VW:B1∉fp)(h0:∀g W1 yz,mT W1 b C L f yz->U W fp W1 yz->hJ W.heap<=g->g∉yz->(0<(told f n L).length->g<hJ W1.heap)->a g 0 W1)(hR:∀g k c W1,a g k W1->(told f n L)[k]? =H c->aUH l a Jx g k c W1):
  CallsIn Fence.wide 0 prog 173 #[.func (.yield l) #[] #[],h9 (H ⟨G,0,K⟩),h9 (H ⟨B1,0,K⟩)] W (aO6 f n L a Jx):=by
 have c0:e7 W ⟨G,0,K⟩=H (h9 (H ⟨b,0,K⟩)):=cell_of_one kB;have c1:e7 W ⟨B1,0,K⟩=H (i6 i7 n):=cell_of_one eQ;by_cases P:qX n L
 .have q:told f n L=[]:=if_pos P;have S:=Z q;have j:=h0 W.heap.size W fp hC (U.refl _ _) (Nat.le_refl _) (λhm=>by have:=hC.lt _ hm;omega) (λh=>by grind);obtain⟨m,na,ne,va,ve,V,y,rfl,rfl,rfl⟩:=hC;clear q;refine callsIn_of_wp func173 rfl trivial ?_ rfl;simp only[ntmps173,List.size_toArray,List.length_cons,List.length_nil,Nat.reduceAdd,Nat.reduceSub,Array.replicate_succ,Array.replicate_zero,List.push_toArray,List.append_toArray,List.nil_append,List.cons_append];gi_wp2_with (refine⟨trivial,rfl,?_⟩;gi_at_call 174;refine(callsIn_wide.2 (S3 n W V P)).mono ?_;rintro e w' ⟨rfl,rfl⟩)
  refine bodyPost_ret (results_none rfl _ _ _) rfl ?_;exact⟨⟨_,rfl⟩,_,.inl (by rw[S.o];exact j)⟩
 .obtain⟨n,rfl,aV⟩:=qX.no P;have q:told f n L=f n:=if_neg P;have S:=Z q;have HR:=Z hR;have H0:=Z h0;clear P q hR h0;obtain⟨m,na,ne,va,ve,V,y,rfl,rfl,rfl⟩:=hC;obtain⟨i0,hi,z,F,R⟩:=info_parts aHE;have hlen:=y.length n;have hcc:=V.hc;refine callsIn_of_wp func173 rfl trivial ?_ rfl;simp only[ntmps173,List.size_toArray,List.length_cons,List.length_nil,Nat.reduceAdd,Nat.reduceSub,Array.replicate_succ,Array.replicate_zero,List.push_toArray,List.append_toArray,List.nil_append,List.cons_append];have b2:i0.bytes*(f n).length<=281474976710656:=by rw[R];omega
  have b3:(f n).length<=bw:=by grind [bw]
  gi_wp2_with (first
   |(gi_at_make;(refine wpListIn_make_own _ rfl _ _ 43 rfl W1.heap.size 3 i0 (i6 i7 0) 1 underlying43 hi z F i7 i7 _ (f n).length (by rfl) (by rfl) rfl b2 b3 (Nat.le_refl _) ?_;intro W2 zT w;have e0:e7 W2 ⟨g,n*3,K⟩=_:=w.cell Ca (by simp)))
   |(refine⟨trivial,rfl,?_⟩;gi_at_call 174;refine(callsIn_wide.2 (Q0 n W V aV)).mono ?_;rintro e W1 ⟨J7,UX,g,rfl,Sx,r,qL,s⟩;have p:=qL.xS r Sx;rw[y.Ah n]at p;obtain⟨Ca,uV,sY⟩:=p;have d1:=s.cell c1 VW;have HG:=Z r;clear r))
  clear b2 b3;have bH:U W1 [] W2 []:=(U.refl W1 []).grown w (λk e=>by cases e);have hI2:=SX.aGf zT;clear Ca uV sY e0 w zT;gi_loopw [6,7,27] (λv c _ wr=>aAZ f W1 n v c wr) (λv _ _ _=>(f n).length+1-aCe v)
  case atStart=>exact⟨[],f n,rfl,rfl,hI2,bH,_,_,rfl,Nat.le_refl _⟩
  case round=>
   obtain⟨A,B,u,rfl,hI,N,g3,EP,rfl,hg3⟩:=hrel;have d:=qL.eF N (λ_ _ h=>by cases h);have He:A.length+B.length=(f n).length:=by rw[u];simp
   cases B with
   |nil=>
    simp only[List.head?_nil,ab];rw[List.append_nil]at u;subst u;have hCr:mT wr b m.cells m.bQ f (fL b va UX):=⟨m,_,_,_,_,d,y,rfl,rfl,rfl⟩;have Tv:U W (fL b va ve) wr (fL b va UX):=s.dd ((N.aN (T:=fL b va UX) (λ_ h=>by cases h)).to (λ_ h=> .inl h));have j:=H0.o g3 wr _ hCr Tv (by have:=s.size;omega) (λhm=>by have:=qL.lt g3 hm;omega) (λ_=>hI.lt g3 rfl);have HJ:=Z j;clear j;obtain⟨wo,rfl⟩:∃wo:aA,wo=wr:=⟨_,rfl⟩;gi_wp2
    gi_loopw [9,44] (λ_ i wr=>∃k:Nat,k<=(f n).length/\i=i6 i7 k/\a g3 k wr/\wr.heap[g3]? =wo.heap[g3]?) (λ_ i _=>(f n).length-(intOf i).toNat)
    case atStart=>exact⟨0,Nat.zero_le _,rfl,HJ.o,rfl⟩
    case round=>
     obtain⟨k,hk,rfl,j,vT⟩:=hrel;have HK:=Z vT;have o:=Z j;clear vT j;by_cases Tb:k<(f n).length
     .obtain⟨x,p⟩:∃x,(f n)[k]? =H x:=⟨_,List.getElem?_eq_getElem Tb⟩;have hI3:SX wr _ _:=hI.aC (λg' e=>by rw[<-N' e];exact HK.o);obtain⟨g4,d4,hg4,_,hc4⟩:=hI3.aU (i:=k) (x:=(x:Int)) (by simp[BO,p]);injection hg4 with e1 e2 e3;injection e1 with e1;injection e1 with e1;subst e1;obtain⟨fn,tmps,assign,body,hy,aNS⟩:=HR.o g3 k x wr o.o (by rw[S.o];exact p);have HX:=Z p;clear p e2 e3;gi_wp2
      refine⟨rfl,aNS.mono ?_⟩;rintro e W4 (⟨rfl,hJ4,Cg⟩|⟨rfl,aNn⟩)
      .gi_wp2
       go_roundw
       case rel=>exact⟨k+1,by omega,by go_num,hJ4,Cg.dd HK.o⟩
       grind [intOf]
      .gi_wp2
       refine bodyPost_ret (results_none rfl _ _ _) rfl ?_;exact⟨⟨_,rfl⟩,g3,.inr ⟨k+1,by rw[S.o];omega,aNn⟩⟩
     .gi_wp2
      refine bodyPost_end (results_none rfl _ _ _) rfl ?_;exact⟨⟨_,rfl⟩,g3,.inl (by rw[S.o,show(f n).length=k from by omega];exact o.o)⟩
   |cons x B=>
    simp only[List.head?_cons,Z'];have jB:x∈f n:=by rw[u];simp
    have Q:=d.lA (y.uS jB);obtain⟨ga,a8S,nN,yb⟩:=d.LT Q;obtain⟨hy0,hy1,hy2⟩:=B3 (d.lE yb Q) (y.ML n A x B u);have M9:=d.c1;rw[nN]at M9;have mZ:((BO A).length+1)*8<=140737488355328:=by grind [EE]
    have pP:(BO A).length+1<=bw:=by grind [bw]
    have HF:=Z u;have Co:=Z He;clear u He nN;have pq:G≠g3:=λe=>by have:=lt_of_block kB;have:=s.size;omega
    have hbg:b≠g3:=λe=>by have:=lt_of_block qL.bS;omega
    have hag:ga≠g3:=λe=>by have:=qL.tabA.lt ga yb;omega
    clear yb;gi_wp2_with (gi_at_builtin;refine MI wr rfl _ _ 43 rfl 3 i0 (i6 i7 0) 1 8 underlying43 hi z F R rfl _ (BO A).length _ hI (by rfl) [i6 i7 x] (by rfl) rfl rfl mZ pP ?_;rintro v' w2 q hg hk ⟨g',cap',rfl⟩;have hd2:=hg.cell (N.cell (s.cell c0 Ll) (λh=>by cases h)) (λe=>by injection e with e;exact pq e);have RA:=hg.cell M9 (λe=>by injection e with e;exact hbg e);have hy3:=hg.cell hy2 (λe=>by injection e with e;exact hag e))
    go_roundw
    case rel=>
     refine⟨A++[x],B,by rw[HF.o];simp,rfl,?_,N.grown hg (λk e=> .inr (by grind [N'])),g',cap',by rw[EE,List.length_append,List.length_singleton],?_⟩
     .rw[Dh];exact SX.wN q
     .rcases hk g' rfl with h'|h'
      .grind [N']
      .have:=N.size;omega
    case measure=>
     have:=Co.o;grind [aCe,EE]
def B8(b C L:Nat)(f:Nat->List Nat)(fp:List Nat)(n:Int)(W:aA)(g:Nat)(W1:aA):Prop:=
 ∃fp1,mT W1 b C L f fp1/\U W fp W1 fp1/\hJ W.heap<=g/\g∉fp1/\(0<O (told f n L)->g<hJ W1.heap)
theorem rj{f:Nat->List Nat}(a B1:Nat)(n:Int)(W:aA)(u:mT W b C L f fp)(e:W.heap[a]? =H (h8 #[h9 (H ⟨b,0,K⟩)] 206 (0,0)))(v:W.heap[B1]? =H (h8 #[i6 i7 n] 3 (0,0)))(B:a∉fp)(r:B1∉fp):
  Wh prog 173 #[h9 (H ⟨a,0,K⟩),h9 (H ⟨B1,0,K⟩)] (λc:Nat=>#[i6 i7 c]) (told f n L) (B8 b C L f fp n) W:=
 λl d i j A=>aCj l a B1 n W d i u e v B r (λg W1 q z p y x w=>j g W1 ⟨q,z,p,y,x,w⟩) (λg k c W1 F m=>A g k c W1 F m)
def EX(w0:aA)(g N:Nat)(W:aA)(fp:List Nat):Prop:=
 (hJ w0.heap+1∉fp/\hJ w0.heap∉fp)/\hJ w0.heap+2<=hJ W.heap/\hJ w0.heap+2<=g/\g∉fp/\(0<N->g<hJ W.heap)
theorem EX.eF{W:aA}{N:Nat}(h:EX w0 g N W fp)(a:U W fp W' Xx)(i:0<N):
  ((W'.heap[hJ w0.heap+1]? =W.heap[hJ w0.heap+1]?/\W'.heap[hJ w0.heap]? =W.heap[hJ w0.heap]?)/\W'.heap[g]? =W.heap[g]?)/\EX w0 g N W' Xx:=by
 obtain⟨⟨c,d⟩,m,j,b,l⟩:=h;have e:=l i;have:=a.size;exact⟨⟨⟨a.block _ Y c,a.block _ Y d⟩,a.block _ e b⟩,⟨a.XU Y c,a.XU Y d⟩,Y,j,a.XU e b,λ_=>Y⟩
theorem EX.putObj{W:aA}{N:Nat}(h:EX w0 g N W fp)(l:Nat)(o:Obj):EX w0 g N (W.putObj l o) fp:=by
 obtain⟨c,e,b,a,d⟩:=h;exact⟨c,by simp_all,b,a,by simp_all⟩
theorem EX.ne{W:aA}{N:Nat}(h:EX w0 g N W fp):g≠hJ w0.heap+1:=nA h.2.2.1
theorem B8.jL{f:Nat->List Nat}{n:Int}{W:aA}(h:B8 b C L f fp n W g W1)(hs:hJ W.heap=hJ w0.heap+2)(d:∀k,k∈fp->k<hJ w0.heap):
  ∃a,mT W1 b C L f a/\U W fp W1 a/\EX w0 g (O (told f n L)) W1 a:=by
 obtain⟨a,j,c,l,i,e⟩:=h;have:=c.size;refine⟨a,j,c,⟨c.XU Y (λh=>by have:=d _ h;omega),c.XU Y (λh=>by have:=d _ h;omega)⟩,Y,Y,i,e⟩
theorem B8.aC{f:Nat->List Nat}{n:Int}{W:aA}(h:B8 b C L f fp n W g W1)(hs:hJ W.heap=hJ w0.heap+2)(a:∀k,k∈fp->k<hJ w0.heap):
  W1.heap[hJ w0.heap+1]? =W.heap[hJ w0.heap+1]?/\W1.heap[hJ w0.heap]? =W.heap[hJ w0.heap]? :=by
 obtain⟨d,e,c,_⟩:=h;exact⟨c.block _ Y (λh=>by have:=a _ h;omega),c.block _ Y (λh=>by have:=a _ h;omega)⟩
end
variable{qL:Act->aA->Prop}{id:Nat}
section
section
variable{P:cu}{ops:Array Oper}{bBP:Exit->Act->aA->Prop}{md:Region.Mode}{S:aA->Prop}{L l:Nat}
theorem Kb{o:Oper}(hd:∀c,o.op≠ .defer c)(h:o.wp P a w qL bBP):o.wpIn (Fence.wide.inRound l) 0 P a w qL bBP:=by
 refine⟨λ_ _=>trivial,?_⟩;rw[Oper.semAt_eq _ _ _ hd];unfold Oper.wp at h;generalize (execOp a.eval o).run P w=r at*;cases r with
 |ok x w'=>
  cases x<;>simp only[Oper.upon,Oper.uponIn]at h|-
  case enter=>exact⟨λhs=>(by cases hs),callsIn_wide.2 h⟩
  case row=>exact⟨λhs=>(by cases hs),λc cs _=>let ⟨v,w',r,s⟩:=h c cs;⟨v,w',r,stepsIn_wide.2 s⟩⟩
  all_goals exact h
 |halt x w'=>cases x<;>simp only[Oper.upon,Oper.uponIn]at h|-<;>exact h
theorem A8(hd:∀(j:Nat) (o:Oper),ops[j]? =H o->∀c,o.op≠ .defer c)(d:¬LetsOut bBP):∀(fuel:Nat) (listed:Array Bool) (a:Act) (w:aA),iF P md ops bBP S L fuel listed a w->wpAnyIn (Fence.wide.inRound l) 0 P md ops bBP fuel listed a w
 |0,_,_,_,h=>h
 |fuel+1,listed,a,w,h=>⟨h.1,λi n=>by
  have b:=h.2 i n;unfold wpOp at b;unfold wpOpIn;split
  .rename_i p;rw[p]at b;exact A8 hd d fuel _ _ _ b.2
  .rename_i o g;rw[g]at b;simp only at b;split
   .rename_i e;rw[bR e]at b;rcases b with b|b
    .exact Kb (hd i o g) (Oper.wp_mono (λa' w' m=>A8 hd d fuel _ a' w' m.2) b)
    .exact dS b.2 d
   .rename_i e;rw[bD e]at b;exact⟨λ_ _=>trivial,A8 hd d fuel _ _ _ b.2⟩⟩
def Kh(ops:Array Oper):Bool:=ops.all λo=>match o.op with| .defer _=>po|_=>oj
theorem Kg(h:Kh ops=oj):∀(j:Nat) (o:Oper),ops[j]? =H o->∀c,o.op≠ .defer c:=λj o e c d=>by
 unfold Kh at h;rw[Array.all_eq_true]at h;let⟨a,b⟩:=Array.getElem?_eq_some_iff.1 e;have:=h j a;rw[b,d]at this;cases this
theorem Ct(L:Nat)(S:aA->Prop)(b:P.follows .mixedOrders=oj)(hd:Kh ops=oj)(c:¬LetsOut bBP)(d:S w.drew)(h:S w.drew->iF P .any ops bBP S L ops.size (Array.replicate ops.size po) a w.drew):(Code.region id ops oj).wpIn (Fence.wide.inRound l) 0 P bBP a w:=
 wpIn_region_any b (A8 (Kg hd) c _ _ _ _ (h d))
end
end
variable{Ox:List lY}{K':List Nat}{dN:aW}{w1 w2:aA}
section
attribute [local go_sem] Oper.semAt_some
theorem zi:jM prog 70 33 1 24:= .PU (z:=cH) underlying70 dB rfl
structure Wg(w:aA)(ρ:aW)(β t:Nat)(L:IJ)(m:gP)(bV:List Row)(oc bx:Nat)(w3:aA)(N g k:Nat)(W:aA)(f7:aW)(ov:aF)(bX:List aF):Prop where
 eW:bA w ρ (eG β) W f7
 st:gU W f7 β L m po (hY K 0 0)
 och:W.heap[oc]? =H (h8 #[ov] 70 (0,0))
 bxh:W.heap[bx]? =H (h8 #[h9 (H ⟨L.b,0,K⟩)] 126 (0,0))
 ocn:hJ w.heap<=oc
 aQy:f7 oc=β+7
 aC9:f7 (hJ w3.heap+1)=β+7/\f7 w3.heap.size=β+7
 cY:oF ID undef 33 1 W f7 (β+7) ov bX
 Ri:∀b,gz ov=H b->hJ w.heap<=b
 aLT:O bX=k
 bV:∀i,i<k->mK dR aP 3 W f7 t (ep bX i undef) (ep bV i [])
 bes:EX w3 g N W (oc::ov.ownBlock.toList)
 aOR:bx<hJ w3.heap/\oc<hJ w3.heap/\bx≠oc
section
variable{w:aA}{ρ:aW}{β t:Nat}{L:IJ}{m:gP}{bV:List Row}{oc bx:Nat}{w3:aA}{N g k:Nat}{W W':aA}{f7:aW}{ov:aF}{bX:List aF}
theorem Wg.putObj(h:Wg w ρ β t L m bV oc bx w3 N g k W f7 ov bX)(v:∀c,c<20->t≠β+c)(l:Nat)(hl:l=hJ w3.heap+1\/l=hJ w3.heap)(C:hJ w.heap<=hJ w3.heap)(o:Obj):Wg w ρ β t L m bV oc bx w3 N g k (W.putObj l o) f7 ov bX:=by
 have a:U W [l] (W.putObj l o) [l]:=(U.refl W [l]).putObj (.inl (by simp)) o;have z:f7 l=β+7:=by rcases hl with rfl|rfl;exact h.aC9.1;exact h.aC9.2
 have j:bA W f7 (·=β+7) (W.putObj l o) f7:=a.p9 (λk d=> .inl (by rw[show k=l by simpa using d];exact z));have n:l∉oc::ov.ownBlock.toList:=by rcases hl with rfl|rfl;exact h.bes.1.1;exact h.bes.1.2
 have r:l≠oc:=λe=>n (by rw[e];simp);have B:=h.aOR;have x:bA w ρ (eG β) (W.putObj l o) f7:=by
  refine⟨h.eW.os,h.eW.tape,h.eW.output,by rw[World.putObj_size];exact h.eW.size,λk d A=> ?_,h.eW.bT⟩;rw[World.putObj_heap_other (by omega)];exact h.eW.block k d A
 exact⟨x,h.st.aJe j (λc _ u e=>u (by omega)),a.aC h.och (by simpa using λe=>r e.symm),a.aC h.bxh (by simp;omega),h.ocn,h.aQy,h.aC9,h.cY.eF a (λb y q=>n (by rw[show l=b from(by simpa using q:b=l).symm];simp[y])),h.Ri,h.aLT,λi p=>(h.bV i p).dg j (λe=>v 7 (by decide) e),h.bes.putObj l o,h.aOR⟩
end
theorem bA.aZ{w:aA}{ρ:aW}{S:Nat->Prop}{qL:List Nat}(h:bA w ρ S w1 dN)(a:U w1 qL w2 K')(hK:∀b,b∈qL->hJ w.heap<=b)(t:Nat):bA w ρ S w2 (up w1 t dN):=
 ⟨a.os.dd h.os,a.tape.dd h.tape,a.output.dd h.output,jN h.size a.size,λk c e=>(a.block k (wM c h.size) (λd=>dS (hK k d) Y)).dd (h.block k c e),λk c=>(eN (wM c h.size)).dd (h.bT k c)⟩
def aEk(w:aA)(ρ:aW)(β t:Nat)(L:IJ)(m:gP)(bV:List Row)(e:cg)(w':aA):Prop:=
 ∃bN v,e=i5 v/\bA w ρ (eG β) w' bN/\gU w' bN β L m po (hY K 0 0)/\iN w' bN (β+7) t v bV
theorem Qm{w:aA}{ρ:aW}{β t:Nat}{L:IJ}{m:gP}{es:List lY}(h:gU w ρ β L m po (hY K 0 0))(hT:jD m es F G)(n:Int)(oq:told m.mO n (m.most*m.bE+1)=Ox.map (dZ m lane))(hl:lane<m.bE)(KX:∀e∈Ox,e∈es)(hlen:O Ox<=65536)(ht:∀c,c<20->t≠β+c):
  aH prog 118 #[h9 (H ⟨L.b,0,K⟩),i6 i7 n] w (aEk w ρ β t L m (Ox.map (·.1))):=by
 obtain⟨wa,dE⟩:=E (e8 w (h8 #[h9 (H ⟨L.b,0,K⟩)] 126));have cR:=Za dE;have kG:wa.heap[hJ w.heap]? =H (h8 #[h9 (H ⟨L.b,0,K⟩)] 126 (0,0)):=by grind [heap_alloc_new]
 have hsa:hJ wa.heap=hJ w.heap+1:=by rw[<-dE];simp
 obtain⟨wb,pE⟩:=E (e8 wa (h8 #[hY K 0 0] 70));have m8:=Za pE;have VZ:wb.heap[hJ wa.heap]? =H (h8 #[hY K 0 0] 70 (0,0)):=by grind [heap_alloc_new]
 obtain⟨bx,lR⟩:=E (hJ w.heap);obtain⟨oc,hoc⟩:=E (hJ wa.heap);have hU:=cR.dd m8;have kB:=m8.aC kG (by simp);have V:=h.on hU;have z:=V.kF.bS;have b10:=Zc z 10;rw[lR]at kB;rw[hoc]at VZ;have x0:=Zc kB 0;have y0:=Zc VZ 0;have hsb:hJ wb.heap=oc+1:=by rw[<-pE];simp[hoc]
 have xj:oc=bx+1:=by omega
 obtain⟨fp,hC0,hfp⟩:=h.mO;have OA:=hC0.lt;have H0:=Z h;have HC0:=Z hC0;have HFP:=Z hfp;have v:=Z OA;have HT:=Z hT;have HU:=Z hU;have Ex:=Z kB;have HOC:=Z VZ;have Nr:=Z oq;have A5:=Z ht;have a1H:=Z KX;have Wv:=Z hl;have OQ:=Z (And.intro hsb (And.intro xj (And.intro lR hlen)));refine(callsIn_wide (n:=0)).1 ?_;refine callsIn_of_wp_marks func118 rfl trivial ?_ rfl;simp only[ntmps118,List.size_toArray,List.length_cons,List.length_nil,Nat.reduceAdd,Nat.reduceSub,Array.replicate_succ,Array.replicate_zero,List.push_toArray,List.append_toArray,List.nil_append,List.cons_append];clear h hT oq hl KX hlen ht cR kG hsa m8 VZ hU kB V z hsb xj hC0 hfp OA;gi_wp2_with fail
 refine⟨trivial,rfl,?_⟩;refine(callsIn_wide.2 (aB5 L.ob n wb)).mono ?_;rintro e w3 ⟨rfl,iQ⟩;have cU:U wb [] w3 []:=by rw[iQ];exact((U.refl wb []).alloc _).alloc _
 have kB:w3.heap[hJ wb.heap]? =H (h8 #[h9 (H ⟨L.ob,0,K⟩)] 206 (0,0)):=by grind [kV]
 have eQ:w3.heap[hJ wb.heap+1]? =H (h8 #[i6 i7 n] 3 (0,0)):=by grind [kU]
 have aRX:hJ w3.heap=hJ wb.heap+2:=by rw[iQ];simp
 have UR:=Z kB;have jG:=Z eQ;have gZ:=Z (HU.o.dd cU);have a11:=Z (cU.aC HOC.o (by simp));have a2P:=Z (cU.aC Ex.o (by simp));have OP:=Z aRX;have HC3:=Z (HC0.o.eF gZ.o (λ_ _ h=>by cases h));clear x0 y0 b10 iQ cU kB eQ aRX;gi_wp2_with fail
 have HFW:dT (∀x,x∈fp->x<hJ w3.heap):=Z λx hx=>by
  obtain⟨n1,n2,n3,n4⟩:=OQ.o;have n5:=OP.o;have:=v.o x hx;omega
 refine uf rfl (enters_of func173 (by kernel_rfl) rfl) (λ_=>rfl)
  (λfn=>rj wb.heap.size (hJ wb.heap+1) n _ (HC3.o.eF vA (λ_ _ h=>by cases h)) (vA.aC UR.o (λh=>by cases h)) (vA.aC jG.o (λh=>by cases h)) (λh=>by have:=v.o _ h;have:=OQ.o;omega) (λh=>by have:=v.o _ h;have:=OQ.o;omega))
  (λfn g W1 V=>V.aC IE HFW.o)
  (λg k W=>∃f7 ov bX,Wg w ρ β t L m (Ox.map (·.1)) oc bx w3 (O (told m.mO n (m.most*m.bE+1))) g k W f7 ov bX) (λ_ _ _ _=>False)
  (λg k W ⟨_,_,_,hB⟩=>hB.bes.ne) ?stab (λ_ _ _ _ _ h=>h) ?start ?a1 ?assign ?body ?done (λ_ _ _ _ _ h=>h.elim)
 case stab=>
  rintro g k W o ⟨f7,ov,bX,q⟩;exact⟨_,_,_,q.putObj A5.o _ (.inl rfl) (by have:=OQ.o;have:=OP.o;omega) o⟩
 case start=>
  suffices gH:∀(We:aA) (g:Nat) (W1:aA),U w3 [] We []->hJ We.heap=hJ w3.heap+2->B8 L.ob (m.most*m.bE) (m.most*m.bE+1) m.mO fp n We g W1->∃f7 ov bX,Wg w ρ β t L m (Ox.map (·.1)) oc bx w3 (O (told m.mO n (m.most*m.bE+1))) g 0 W1 f7 ov bX from λfn g W1 V=>gH _ g W1 vA IE V
  intro We g W1 Tw SF V;obtain⟨n1,n2,n3,n4⟩:=OQ.o;have n5:=OP.o;have hfw:=HFW.o;obtain⟨yz,Mo,cM,hB⟩:=V.jL SF hfw;have fg:=gZ.o.dd Tw;have hM0:bA w ρ (λ_=>False) We (up w.heap.size (β+7) ρ):=fg.eW (S:=λ_=>False) (β+7) (λ_ h=>absurd h (by simp));have hSe:=H0.o.dg hM0 (λ_ _ h=>h);have DN:=Ar (HC0.o.eF fg (λ_ _ h=>by cases h)) (t:=β+5) (ρ:=up w.heap.size (β+7) ρ) (λk y=>by rw[eN (v.o k y)];exact HFP.o k y) Mo cM;have ZQ:=hSe.XA DN.1 DN.2;refine⟨_,hY K 0 0,[],(hM0.aN (T:=eG β) (λ_ h=>h.elim)).dd (DN.1.xJ (by decide)),ZQ,?_,?_,by omega,?_,⟨?_,?_⟩,oF.nil _ _ _,(λb z=>by cases z),rfl,(λi hi=>by omega),?_,⟨by omega,by omega,by omega⟩⟩
  .exact cM.aC (Tw.aC a11.o (by simp)) (λA=>by have:=v.o _ A;omega)
  .exact cM.aC (Tw.aC a2P.o (by simp)) (λA=>by have:=v.o _ A;omega)
  .grind [eN,cJ]
  .grind [eN,cJ]
  .grind [eN,cJ]
  .obtain⟨b1,b2,b3,b4,b5⟩:=hB;refine⟨⟨?_,?_⟩,b2,b3,?_,b5⟩<;>simp[gz]<;>omega
 case assign=>
  intro x W qL hK;gi_wp2
  exact hK
 case body=>
  rintro g k c W ⟨f7,ov,bX,q⟩ hx;have MQ:0<O (told m.mO n (m.most*m.bE+1)):=by grind
  rw[Nr.o,List.getElem?_map,Option.map_eq_some_iff]at hx;obtain⟨⟨r,i⟩,he,ye⟩:=hx;have A:=a1H.o _ (List.mem_of_getElem? he);have Tb:k<O Ox:=(List.getElem?_eq_some_iff.1 he).1;have hrk:ep (Ox.map (·.1)) k []=r:=by grind
  obtain⟨d,p,rfl,-⟩:=q.cY.len;have Q5:=q.aLT;have hc:=q.och;have z:=q.bxh;have y0:=Zc hc 0;have x0:=Zc z 0;have l:=Z q;have HM:=Z A;have a1V:=Z MQ;have HRK:=Z hrk;have qC:=Z (show O bX<65536 by have:=OQ.o;omega);have HCE:=Z (show(c:Int)=((i*m.bE+lane:Nat):Int)from congrArg Int.ofNat ye.symm);have Im:=Z Q5;clear q A MQ hrk hc z he ye Tb Q5;gi_wp2_with fail
  refine Ct 6 (λw'=>e7 w' ⟨oc,0,K⟩=H (hY d (O bX) p)/\e7 w' ⟨bx,0,K⟩=H (h9 (H ⟨L.b,0,K⟩))) (by kernel_rfl) (by kernel_rfl) (by rintro⟨a,w,hf⟩;exact hf) ⟨y0,x0⟩ (λQ=> ?_);clear y0 x0;obtain⟨wd,eY⟩:=E (W.drew);have qS:U W [] wd []:=eY▸(U.refl W []).drew;rw[eY]at Q|-;have MF:=Z qS;have HSd:=Z (l.o.st.on qS);clear eY qS;refine dw [0,1,2] ?_;refine Zo 3 λqL hK=> ?_;go_simp;go_at_call 153;refine(aGX (lane:=lane) HSd.o HT.o HM.o Wv.o _ HCE.o).mono ?_;rintro e w4 ⟨u,rfl,hO,eA⟩;obtain⟨ua,uc,rfl,-⟩:=hO.len;dsimp only;obtain⟨r8,R⟩:=Q;have Q:=And.intro ((eA).cell r8 (by simp)) ((eA).cell R (by simp));clear r8 R;have hHr:=Q;have aSu:=MF.o.dd eA;have f:bA W f7 (λ_=>False) w4 (up wd.heap.size t f7):=(MF.o.fK).dd (eA.eW (S:=λ_=>False) t (λ_ h=>absurd h (by simp)));have hK4:=(hO.jU t f7).rd;have Mb:=l.o.st.dg f (λ_ _ h=>h);have hW4:=l.o.cY.dg f (λh=>h);have Ns:=Z (f.aC l.o.och (λh=>h));have HX4:=Z (f.aC l.o.bxh (λh=>h));have aUb:=Z (λi (hi:i<k)=>(l.o.bV i hi).dg f (λh=>h));have aUw:=Z (l.o.eW.dd (f.aN (T:=eG β) (λ_ h=>h.elim)));have N:=Z (And.intro ((f.bT oc (lt_of_block l.o.och)).dd l.o.aQy) (And.intro ((f.bT _ (by have:=l.o.bes.2.1;omega)).dd l.o.aC9.1) ((f.bT _ (by have:=l.o.bes.2.1;omega)).dd l.o.aC9.2)));have aU0:=Z aSu;obtain⟨CO,MP⟩:=E (up wd.heap.size t f7);rw[MP]at hK4 Mb hW4 aUb aUw N;have HK4:=Z hK4;have VK:=Z Mb;have B:=Z hW4;clear eA aSu f hK4 Mb hW4 MP hO;refine Zk hK Q ?_;clear hK qL;refine Zo 4 λqL hK=> ?_;go_simp;have oK:U w4 [] (e8 w4 (h8 #[hY ua (O r) uc] 33)) []:=(U.refl w4 []).alloc _;obtain⟨r8,R⟩:=Q;have Q:=And.intro ((oK).cell r8 (by simp)) ((oK).cell R (by simp));clear r8 R;refine Zk hK Q ?_;clear hK qL;refine Zo 5 λqL hK=> ?_;obtain⟨g6,c6,w6,dP,lL,-,IA,-⟩:=i9 (ty:=70) (news:=[hY ua (O r) uc]) (T:=33) zi (by omega) (B.o.cY w4) (P7 w4) (Nat.le_refl _) (Nat.zero_le _) (hY ua (O r) uc:aF) rfl (dH rfl) (λj hj=>rfl) (by have:=qC.o;omega) (by have:=qC.o;unfold bw;omega);refine dJ _ _ rfl (by rfl) (by rfl) dP ?_;have Q:=hHr;have fS:oc∉(hY d (O bX) p).ownBlock.toList:=λA=>B.o.ne Ns.o (by decide) (by simpa using A);have Hc:bx∉(hY d (O bX) p).ownBlock.toList:=λA=>B.o.ne HX4.o (by decide) (by simpa using A);obtain⟨r8,R⟩:=Q;have Q:=And.intro ((IA).cell r8 (fS)) ((IA).cell R (Hc));clear r8 R;have P:=IA.aC Ns.o fS;have Eh:=IA.aC HX4.o Hc;have bf:=aM P;have bl:=iO (lt_of_block P);have RF:=Z fS;have HO6:=Z P;have Pa:=Z Eh;have uL:=Z (lL.QX B.o IA);have C:=Z IA;clear dP lL IA oK hHr fS Hc P Eh;refine Zk hK Q ?_;clear hK qL;refine Zo 6 λqL hK=> ?_;go_simp;refine Zl hK ?_;clear hK qL;clear Q bf bl;obtain⟨w7,xM⟩:=E (ey w6 ⟨oc,0,K⟩ (hY (H ⟨g6,0,K⟩) (O bX+1) c6));have wQ:U w6 [oc] w7 [oc]:=xM▸(U.refl w6 [oc]).setCell (a:=⟨oc,0,K⟩) (.inl (by simp)) _;have hO7:w7.heap[oc]? =H (h8 #[hY (H ⟨g6,0,K⟩) (O bX+1) c6] 70 (0,0)):=by rw[<-xM,aE _ HO6.o];rfl
  rw[xM];have aZS:=l.o.aOR;have hW:=l.o.bes.2.1;have Hj:U W (oc::(hY d (O bX) p).ownBlock.toList) w7 (oc::(hY (H ⟨g6,0,K⟩) (O bX+1) c6).ownBlock.toList):=by
   have u1:U W (oc::(hY d (O bX) p).ownBlock.toList) w4 (oc::(hY d (O bX) p).ownBlock.toList):=(aU0.o.aN (λ_ h=>by cases h)).to (λ_ h=> .inl h);have u2:U w4 (oc::(hY d (O bX) p).ownBlock.toList) w6 (oc::[g6]):=(C.o.aN (λk y=>List.mem_cons_of_mem _ y)).to (λk y=>by
    rcases List.mem_cons.1 y with rfl|y
    .grind
    .exact(C.o.fresh k y).imp (List.mem_cons_of_mem _) id)
   exact(u1.dd u2).dd ((wQ.aN (T:=oc::[g6]) (λk y=>by simp at y;simp[y])).to (λk y=> .inl (by grind [gz])))
  obtain⟨⟨⟨h1,h2⟩,h3⟩,h4⟩:=l.o.bes.eF Hj a1V.o;have aJy:∀b,b∈(hY d (O bX) p).ownBlock.toList->hJ w.heap<=b:=λb z=>l.o.Ri b (by simpa using z);have aIB:bA w4 CO (·=β+7) w6 (up w4.heap.size (β+7) CO):=B.o.eW (v':=hY (H ⟨g6,0,K⟩) (O bX+1) c6) C.o rfl;have ho4:oc<hJ w4.heap:=lt_of_block Ns.o;have aYH:up w4.heap.size (β+7) CO oc=β+7:=(eN ho4).dd N.o.1;have yp:bA w6 (up w4.heap.size (β+7) CO) (·=β+7) w7 (up w4.heap.size (β+7) CO):=wQ.p9 (λk y=> .inl (by grind));have aNd:=aIB.dd yp;have hs4:hJ w3.heap+2<=hJ w4.heap:=by have:=aU0.o.size;omega
  refine⟨⟨h1,h2⟩,h3,up w4.heap.size (β+7) CO,_,bX++[hY ua (O r) uc],?_,VK.o.aJe aNd (λc _ h7 e=>h7 (by omega)),hO7,wQ.aC Pa.o (by simp;omega),l.o.ocn,aYH,⟨?_,?_⟩,?_,?_,by rw[List.length_append,Im.o];rfl,?_,h4,aZS⟩
  .rw[<-xM];exact(aUw.o.aZ C.o aJy (β+7)).setCell (a:=⟨oc,0,K⟩) (.inr l.o.ocn) _
  .rw[eN (by omega)];exact N.o.2.1
  .rw[eN (by omega)];exact N.o.2.2
  .refine uL.o.eF wQ (λb z A=>uL.o.ne HO6.o (by decide) ?_);rw[z,show b=oc by simpa using A]
  .intro b z;rcases C.o.fresh b (by grind [gz])with h'|h'
   .exact aJy b h'
   omega
  .intro j hj;rw[kC,Im.o];by_cases e:j=k
   .subst e;rw[if_pos rfl,HRK.o];exact HK4.o.dg aNd (λe=>A5.o 7 (by decide) e)
   .rw[if_neg e];exact(aUb.o j (by omega)).dg aNd (λe=>A5.o 7 (by decide) e)
 case done=>
  rintro g W ⟨f7,ov,bX,q⟩ hK;obtain⟨d,p,rfl,-⟩:=q.cY.len;have pT:=q.putObj A5.o w3.heap.size (.inr rfl) (by have:=OQ.o;have:=OP.o;omega) (.deferred K);have hc:=q.och;have y0:=Zc hc 0;have l:=Z q;have HK:=Z hK;have DX:=Z pT;clear q hK pT hc;gi_wp2_with fail
  refine⟨by simp,.inl ⟨_,_,rfl,run_takeDeferred HK.o,?_⟩⟩;refine⟨_,results_tmp rfl _ _ _,?_⟩;refine⟨f7,_,rfl,DX.o.eW,DX.o.st,bX,?_,DX.o.cY.rd,λi hi=>DX.o.bV i ?_⟩
  .rw[DX.o.aLT,Nr.o];simp
  .rw[Nr.o];simpa using hi
end
variable{gH:Row}{kv:aF}
def aEl(w:aA)(ρ:aW)(β b t wd most:Nat)(gs:List (List Nat))(bV:List Row)(F G:Nat)(out:List Row)(e:cg)(w':aA):Prop:=
 ∃bN v,e=i5 v/\bA w ρ (eG β) w' bN/\JH w' bN β b wd most gs bV F G/\iN w' bN (β+7) t v out
theorem aGV{t:Nat}(h:JH w ρ β b wd most gs bV F G)(n:∀c,c<20->t≠β+c):
  aH prog 84 #[h9 (H ⟨b,0,K⟩)] w (aEl w ρ β b t wd most gs bV F G bV):=by
 obtain⟨L,m,ks,es,rfl,a,d,g,rfl,rfl,rfl,rfl⟩:=h;have i:told m.mO 0 (m.most*m.bE+1)=es.map (dZ m 0):=by
  unfold told;rw[bD (by unfold qX;omega)];exact g.ord0
 have u:=d.JF;have x:=a.kF.ag;have q:=Z g;go_in;go_wp2_with (go_at_call 118;apply ((Qm a d 0 i (by unfold gP.bE;omega) (λ_ h=>h) Y n)).cF;rintro e w1 ⟨dN,v,rfl,l,a,j⟩;have r:=Z a);go_ret;exact⟨dN,_,rfl,l,⟨L,m,ks,es,rfl,r,d,q,rfl,rfl,rfl,rfl⟩,j⟩
theorem sk{k:Nat}{L:IJ}{m:gP}(h:Xy w ρ β L m mk uv)(c:k<O m.gs):
  aH prog 247 #[h9 (H ⟨L.b,0,K⟩),i6 i7 k] w λe w'=>e=i5 (j4 po)/\w=w':=by
 have g:=h.few;have d:=Zc h.bS 3;generalize p:O m.gs=n at c d;have l:(k:Int)<(n:Int):=Y;have i:¬((k:Int)<0):=Y;have j:¬((n:Int)<=(k:Int)):=Y;go_in;go_wp2;go_ret;exact⟨rfl,rfl⟩
theorem CA(p:Row->Bool):∀es:List lY,(es.filter λe=>p e.1).map (·.1)=(es.map (·.1)).filter p
 |[]=>rfl
 |e::es=>by
  rw[List.filter_cons,UU,List.filter_cons];split
  .rw[UU,CA p es]
  .exact CA p es
theorem aBl{t k:Nat}(h:JH w ρ β b wd most gs bV F G)(i:k<O gs)(hv:eX dR aP 3 w kv gH)(P:AP gH)(V:∀c,c<20->t≠β+c):
  aH prog 232 #[h9 (H ⟨b,0,K⟩),i6 i7 k,kv] w λe w'=>∃e',e=(match e' with|i5 v=>i5 (i8 #[v,i6 i7 0])|x=>x)/\aEl w ρ β b t wd most gs bV F G (bV.filter λr=>decide (dG r (ep gs k [])=gH)) e' w':=by
 obtain⟨L,m,ks,es,rfl,a,A,g,rfl,rfl,rfl,rfl⟩:=h;have Q8:=a.kF.ag;have FL:=A.JF;have R:=a.kF.wK;have qK:=a.kF.few;have o:told m.mO (m.cD k gH) (m.most*m.bE+1)=(es.filter λe=>decide (cE m k e.1=gH)).map (dZ m (k+1)):=by
  unfold gP.cD;split
  .rename_i q;have z:dI gH:=⟨q.2,λx q=>(P.2 x q).2⟩;by_cases B:gH∈ks k
   .let⟨n,h1,h2,h3⟩:=g.grp1 k gH i B;have aV:=wM (kW h2) g.wf.len;rw[g.most]at aV;rw[h1];unfold told;rw[bD (by simp only[NQ];unfold qX;omega)];simp only[NQ];rw[show((n:Int)+1).toNat=n+1 from by omega,h3]
   .rw[g.aHC R i z B];unfold told;rw[bR (by simp only[Option.getD_none];unfold qX;omega)];have:(es.filter λe=>decide (cE m k e.1=gH))=[]:=zdE.2 λe p j=>B ((g.ksE k gH i).2 ⟨e,p,by simpa using j⟩);rw[this];rfl
  .rename_i q;unfold told;rw[bR (by unfold qX;omega)];have:(es.filter λe=>decide (cE m k e.1=gH))=[]:=zdE.2 λe p j=>by
    have j:cE m k e.1=gH:=eI j;have z:=A.good e.1 e.2 p;have Q:=lT R z.1 z.2 i;rw[j]at Q;exact q ⟨Q.2,Q.1.1⟩
   rw[this];rfl
 have d:O (es.filter λe=>decide (cE m k e.1=gH))<=65536:=jN (zdG _ _) Y;have u:=CA (λr=>decide (cE m k r=gH)) es;have l:=Z (Zg k a i hv P);let⟨N,hN⟩:=E (m.cD k gH);rw[hN]at o l;have Nr:=Z o;have W:=Z A;have HL:=Z g;have A5:=Z V;have qL:=Z d;have f:=Z u;have S:=Z (show k+1<m.bE by unfold gP.bE;omega);have C:=Z (sk a.kF i);obtain⟨va,vc,rfl,-⟩:=hv.len;clear a A g Q8 FL R qK o d u V hv P i hN;go_in;go_wp2_with (first|(go_at_call 247;apply C.o.cL;rintro w1 rfl)|(go_at_call 248;apply l.o.cF;rintro e w2 ⟨fB,rfl,y,a⟩;have zZ:=Z y;have rT:=Z a;clear y a)|(go_at_call 118;apply(Qm rT.o W.o N Nr.o S.o (λe p=>(T8.1 p).1) qL.o A5.o).cF;rintro e w3 ⟨kM,v,rfl,y,a,hR⟩;have tC:=Z (zZ.o.dd y);have CJ:=Z a;have T:=Z hR;clear y a hR));go_ret2;refine⟨i5 _,rfl,kM,_,rfl,tC.o,⟨L,m,ks,es,rfl,CJ.o,W.o,HL.o,rfl,rfl,rfl,rfl⟩,?_⟩;rw[f.o]at T;exact T.o
variable{wX:List aF}{bN:aW}{x4 x5 x6 x7 y10 y8 y9:aF}
section
theorem aTu:jM prog 204 203 1 8:= .PU (z:=h9 K) underlying204 dB rfl
def LB(vD most:Nat)(gs:List (List Nat)):gP where
 bL:=vD
 most:=most
 gs:=gs
 slots:=⟨most,1073741824,[],[],0⟩
 bQ:=⟨most*(O gs+1),1073741824,[],[],0⟩
 kJ:=λ_=>K
 rc:=0
 lrefs:=λ_=>K
 lc:=0
 wher:=λ_=>K
 wc:=0
 grp:=λ_ _=>K
 gc:=λ_=>0
 mO:=λ_=>[]
 row:=λ_=>[]
theorem Fe(most F G:Nat):OU (⟨most,1073741824,[],[],0⟩:mU aF) F G:=by
 refine⟨RN _,List.nodup_nil,λi=> ?_,rfl,λi _=> ?_,λi a=> ?_⟩
 .simp
 .simp[mU.jP]
 .simp[mU.dC]at a
theorem aEV(vD most:Nat)(gs:List (List Nat))(F G:Nat):jD (LB vD most gs) [] F G where
 wf:=Fe _ _ _
 most:=rfl
 gens:=rfl
 aI:=rfl
 JF:=RN _
 dC:=λi=>by simp[LB,mU.dC]
 row:=λ_ _ h=>by cases h
 cZ:=List.nodup_nil
 good:=λ_ _ h=>by cases h
 kJ:=λi=>by simp[LB,mU.dC]
 rc:=rfl
 wher1:=λ_ _ h=>by cases h
 wher0:=λ_ _=>rfl
 wc:=rfl
theorem aEW(vD most:Nat)(gs:List (List Nat))(F G:Nat):d8 (LB vD most gs) (λ_=>[]) (λ_=>[]) F G where
 wf:=Fe _ _ _
 most:=rfl
 gens:=rfl
 ord0:=rfl
 grp1:=λ_ _ _ h=>by cases h
 ksE:=λ_ _ _=>X
 cZ:=λ_=>List.nodup_nil
 grp0:=λ_ _ _ _=>rfl
 gc:=λ_ _=>rfl
 inj:=λ_ _ _ _ _ _ _ h _=>by cases h
 cY:=λn h=>by simp[LB,mU.dC]at h
 aI:=RN _
 IF:=λ_ _=>rfl
 lrefs:=λn=>by simp[LB,mU.dC]
 lc:=rfl
 goodE:=λ_ _ _ h=>by cases h
 nodupE:=λ_ _=>List.nodup_nil
 few:=λ_ _=>RN _
structure VH(w:aA)(ρ:aW)(β b:Nat)(kF:Array aF)(wx:aA)(f7:aW):Prop where
 eF:U w [b] wx [b]
 zQ:∀k,k<hJ w.heap->f7 k=ρ k
 bS:wx.heap[b]? =H (h8 kF 209 (0,0))
 bT:f7 b=β
section
variable{w wx wy:aA}{ρ f7:aW}{β b:Nat}{kF:Array aF}
theorem VH.new(h:VH w ρ β b kF wx f7)(a:U wx [] wy [])(t:Nat):VH w ρ β b kF wy (up wx t f7)/\bA wx f7 eL wy (up wx t f7):=
 ⟨⟨h.eF.dd ((a.aN (λ_ h=>by cases h)).to (λ_ h=> .inl h)),λk c=>(eN (wM c h.eF.size)).dd (h.zQ k c),a.aC h.bS X,(eN (cV h.bS)).dd h.bT⟩,a.eW (S:=eL) t (λ_ h=>dS h X)⟩
theorem VH.set(h:VH w ρ β b kF wx f7)(i:Nat)(v:aF):VH w ρ β b (kF.setIfInBounds i v) (ey wx ⟨b,i,K⟩ v) f7/\bA wx f7 (·=β) (ey wx ⟨b,i,K⟩ v) f7/\U wx [b] (ey wx ⟨b,i,K⟩ v) [b]:=
 ⟨⟨h.eF.setCell (a:=Ad b i) (.inl X) v,h.zQ,aE _ h.bS,h.bT⟩,(bA.refl wx f7 _).setCell (a:=Ad b i) (.inl h.bT) v,pX wx b i v⟩
end
abbrev QB(vD most n:Nat)(ga:Option cj)(qO:Nat)(x4 x5 x6 x7 x8 x9 Bw:aF)(mk:Bool)(uv:aF):Array aF:=
 #[i6 i7 vD,i6 i7 most,i6 i7 (n+1:Nat),hY ga n qO,x4,x5,x6,x7,x8,x9,Bw,j4 mk,uv]
def aAJ(w:aA)(ρ:aW)(t M:Nat):Prop:=fW w 3 M (λ_=>K) 0/\ρ M=t
theorem aAJ.dg{w:aA}{ρ:aW}{t M:Nat}{S:Nat->Prop}(h:aAJ w ρ t M)(a:bA w ρ S w' bN)(b:¬S t):aAJ w' bN t M:=⟨h.1.dg a (h.2▸b),(a.bT _ h.1.lt).dd h.2⟩
def aUM(w:aA)(ρ:aW)(β b vD most:Nat)(gs:List (List Nat))(mk:Bool)(uv:aF)(e:cg)(w':aA):Prop:=
 ∃bN L,e=i5 (i8 #[])/\L.b=b/\U w [b] w' [b]/\(∀k,k<hJ w.heap->bN k=ρ k)/\gU w' bN β L (LB vD most gs) mk uv
theorem TT(w:aA):(Instr.makeMap 202 K).run prog w= .ok (.map (H w.heap.size)) (w.alloc (.map #[] 0)):=rfl
structure VI(w:aA)(ρ:aW)(β b vD most n:Nat)(ga:Option cj)(qO sb rm wb:Nat)(x8 x9 Bw:aF)(mk:Bool)(uv:aF)(j:Nat)(ha:Option cj)(iW:Nat)(VB:List Nat)(wx:aA)(f7:aW):Prop where
 p:VH w ρ β b (QB vD most n ga qO (h9 (H ⟨sb,0,K⟩)) (.map (H rm)) (h9 (H ⟨wb,0,K⟩)) (hY ha j iW) x8 x9 Bw mk uv) wx f7
 sl:A7 wx f7 (β+1) sb ⟨most,1073741824,[],[],0⟩
 rm:aAJ wx f7 (β+2) rm
 wh:Ix wx f7 (β+8) wb most (λ_=>K) 0
 cY:oF Uq 0 203 1 wx f7 β (hY ha j iW) VB
 len:O VB=j
 Ri:∀g,gz (hY ha j iW)=H g->hJ w.heap<=g
 ix:∀i,i<j->Ix wx f7 (β+10+2*i) (ep VB i 0) most (λ_=>K) 0
section
variable{w wx wy:aA}{ρ f7:aW}{β b vD most n qO sb rm wb j iW:Nat}{ga ha:Option cj}{x8 x9 Bw uv:aF}{mk:Bool}{VB:List Nat}
theorem VI.new(h:VI w ρ β b vD most n ga qO sb rm wb x8 x9 Bw mk uv j ha iW VB wx f7)(a:U wx [] wy [])(t:Nat):VI w ρ β b vD most n ga qO sb rm wb x8 x9 Bw mk uv j ha iW VB wy (up wx t f7):=by
 let⟨p,m⟩:=h.p.new a t;exact⟨p,h.sl.dg m id,h.rm.dg m id,h.wh.dg m id id,h.cY.dg m id,h.len,h.Ri,λi c=>(h.ix i c).dg m id id⟩
theorem VI.on(h:VI w ρ β b vD most n ga qO sb rm wb x8 x9 Bw mk uv j ha iW VB wx f7)(a:U wx [] wy []):VI w ρ β b vD most n ga qO sb rm wb x8 x9 Bw mk uv j ha iW VB wy f7:=by
 have m:bA wx f7 eL wy f7:=a.fK;exact⟨⟨h.p.eF.dd ((a.aN (λ_ h=>by cases h)).to (λ_ h=> .inl h)),h.p.zQ,a.aC h.p.bS X,h.p.bT⟩,h.sl.dg m id,h.rm.dg m id,h.wh.dg m id id,h.cY.dg m id,h.len,h.Ri,λi c=>(h.ix i c).dg m id id⟩
theorem VI.set(h:VI w ρ β b vD most n ga qO sb rm wb x8 x9 Bw mk uv j ha iW VB wx f7)(i:Nat)(v:aF)(e:(QB vD most n ga qO (h9 (H ⟨sb,0,K⟩)) (.map (H rm)) (h9 (H ⟨wb,0,K⟩)) (hY ha j iW) x8 x9 Bw mk uv).setIfInBounds i v=QB vD most n ga qO (h9 (H ⟨sb,0,K⟩)) (.map (H rm)) (h9 (H ⟨wb,0,K⟩)) (hY ha j iW) y8 y9 y10 mk uv):
  VI w ρ β b vD most n ga qO sb rm wb y8 y9 y10 mk uv j ha iW VB (ey wx ⟨b,i,K⟩ v) f7/\bA wx f7 (·=β) (ey wx ⟨b,i,K⟩ v) f7:=by
 let⟨p,m,u⟩:=h.p.set i v;rw[e]at p;exact⟨⟨p,h.sl.dg m (by show¬_=_;omega),h.rm.dg m (by show¬_=_;omega),h.wh.dg m (by show¬_=_;omega) (by show¬_=_;omega),h.cY.eF u (λg d c=>h.cY.ne h.p.bS D (by rw[d,show g=b by simpa using c])),h.len,h.Ri,λi a=>(h.ix i a).dg m (by show¬_=_;omega) (by show¬_=_;omega)⟩,m⟩
end
theorem aQo{w:aA}{ρ:aW}{β b vD most qO:Nat}{ga:Option cj}{x8 x9 Bw uv:aF}{mk:Bool}(hb:w.heap[b]? =H (h8 (QB vD most (O gs) ga qO x4 x5 x6 x7 x8 x9 Bw mk uv) 209 (0,0)))(Sn:ρ b=β)(Ed:O wX=O gs)(gR:mK ID undef 1 w ρ β (hY ga (O gs) qO) wX)(gRn:∀g,Value.mN (hY ga (O gs) qO)=H g->g≠b)(gE:∀k,k<O gs->mK fN 0 1 w ρ β (ep wX k undef) (ep gs k []))(gEn:∀k,k<O gs->∀g,Value.mN (ep wX k undef)=H g->g≠b)(aCq:vD<=30)(Q8:1<=most/\most<=65536)(qK:O gs<=4)(U5:∀k,k<O gs->O (ep gs k [])<=30/\∀c∈ep gs k [],c<vD):
  aH prog 99 #[h9 (H ⟨b,0,K⟩)] w (aUM w ρ β b vD most gs mk uv):=by
 have P0:VH w ρ β b (QB vD most (O gs) ga qO x4 x5 x6 x7 x8 x9 Bw mk uv) w ρ:=⟨U.refl _ _,λ_ _=>rfl,hb,Sn⟩;let⟨n,hn⟩:=E (O gs);have HGL:=Z Ed;have Wx:=Z gR;have a1w:=Z gRn;have HGE:=Z gE;have kj:=Z gEn;have a1N:=Z (dX aCq (dX Q8 (dX qK U5)));have HN:=Z hn;rw[hn]at P0 qK;have HP0:=Z P0;have h0:=P0.bS;have F:=Zc h0 1;have qW:(1:Int)<=(most:Int):=Y;have M7:(most:Int)<=65536:=Y;have hn4:(n:Int)<=4:=Y;clear hb Sn Ed gR gRn gE gEn aCq Q8 qK U5 hn P0 h0;go_in;go_upto_region 1 with(go_at_call 136;apply(aEd most 1073741824 (β+1) w ρ ⟨Y,Y,D,D⟩).cF;rintro e w1 ⟨sb,rfl,m,r⟩;have oN:=Z m;have qz:=Z r;have a:=(HP0.o.new m (β+1)).1.bS;have q:=Zc a 4;have y:=aM a;have u:=iO (cV a);clear m r a);clear F q y u;let⟨p1,m1⟩:=HP0.o.new oN.o (β+1);let⟨dN,nM⟩:=E (up w.heap.size (β+1) ρ);have hA1:=qz.o;rw[nM]at p1 hA1;obtain⟨q2,m2,-⟩:=p1.set 4 (h9 (H ⟨sb,0,K⟩));let⟨w2,pS⟩:=E (ey w1 ⟨b,4,K⟩ (h9 (H ⟨sb,0,K⟩)));rw[pS]at q2 m2;rw[pS];have qx:dT (VH w ρ β b (QB vD most n ga qO (h9 (H ⟨sb,0,K⟩)) x5 x6 x7 x8 x9 Bw mk uv) w2 dN):=Z q2;have aU5:=Z (hA1.dg m2 (by show¬_=_;omega));clear p1 m1 nM hA1 q2 m2 pS HP0 qz oN;let⟨w3,iQ⟩:=E (w2.alloc (.map #[] 0));let⟨rm,V⟩:=E (hJ w2.heap);have cU:=Za iQ;let⟨p3,m3⟩:=qx.o.new cU (β+2);let⟨kM,lO⟩:=E (up w2.heap.size (β+2) dN);have qR:aAJ w3 kM (β+2) rm:=⟨by rw[<-iQ,<-V];exact fW.wO _ _,by rw[<-lO,V];exact cJ (fV _)⟩;have UB:=aU5.o.dg m3 id;rw[lO]at p3 UB;obtain⟨q4,m4,-⟩:=p3.set 5 (.map (H rm));have a:=p3.bS;have q:=Zc a 5;have y:=aM a;have u:=iO (cV a);have L:=TT w2;rw[iQ,V]at L;let⟨w4,qJ⟩:=E (ey w3 ⟨b,5,K⟩ (.map (H rm)));rw[qJ]at q4 m4;have jx:dT (VH w ρ β b (QB vD most n ga qO (h9 (H ⟨sb,0,K⟩)) (.map (H rm)) x6 x7 x8 x9 Bw mk uv) w4 kM):=Z q4;have aU4:=Z (UB.dg m4 (by show¬_=_;omega));have aUa:=Z (qR.dg m4 (by show¬_=_;omega));clear cU p3 m3 lO qR UB q4 m4 a iQ V qx aU5;go_upto_region 2 with(fail);try rw[qJ]
 clear qJ L q y u;have a:=jx.o.bS;have F:=Zc a 1;clear a;go_upto_region 3 with(go_at_call 137;apply(aJg most (β+8) w4 kM ⟨Y,Y⟩).cF;rintro e w5 ⟨wb,rfl,m,r⟩;have gD:=Z m;have G:=Z r;have a:=(jx.o.new m (β+8)).1.bS;have q:=Zc a 6;have y:=aM a;have u:=iO (cV a);clear m r a);clear F q y u;let⟨p5,m5⟩:=jx.o.new gD.o (β+8);let⟨pJ,JA⟩:=E (up w4.heap.size (β+8) kM);have ZW:=G.o;have Hl:=aU4.o.dg m5 id;have tB:=aUa.o.dg m5 id;rw[JA]at p5 ZW Hl tB;obtain⟨q6,m6,-⟩:=p5.set 6 (h9 (H ⟨wb,0,K⟩));let⟨w6,iA⟩:=E (ey w5 ⟨b,6,K⟩ (h9 (H ⟨wb,0,K⟩)));rw[iA]at q6 m6;rw[iA];have hP6:VH w ρ β b (QB vD most n ga qO (h9 (H ⟨sb,0,K⟩)) (.map (H rm)) (h9 (H ⟨wb,0,K⟩)) x7 x8 x9 Bw mk uv) w6 pJ:=q6;have V8:=Hl.dg m6 (by show¬_=_;omega);have kO:=tB.dg m6 (by show¬_=_;omega);have Eh:=ZW.dg m6 (by show¬_=_;omega) (by show¬_=_;omega);obtain⟨q7,m7,-⟩:=hP6.set 7 cH;have a:=hP6.bS;have q:=Zc a 7;have y:=aM a;have u:=iO (cV a);let⟨w7,xM⟩:=E (ey w6 ⟨b,7,K⟩ cH);rw[xM]at q7 m7;have HG7:dT (VI w ρ β b vD most n ga qO sb rm wb x8 x9 Bw mk uv 0 K 0 [] w7 pJ):=Z ⟨q7,V8.dg m7 (by show¬_=_;omega),kO.dg m7 (by show¬_=_;omega),Eh.dg m7 (by show¬_=_;omega) (by show¬_=_;omega),oF.nil _ _ _,rfl,(λg B=>by cases B),λi hi=>dS hi (Yk i)⟩;clear p5 m5 JA ZW Hl tB q6 m6 hP6 V8 kO Eh q7 m7 a iA jx aU4 aUa gD G;go_upto_region 4 with(fail);try rw[xM]
 clear xM q y u;have a:=HG7.o.p.bS;have b3:=Zc a 3;clear a;go_upto_region 5 with(fail);clear b3;go_loopg [38] n (λgg s38 wr=>∃(j iW:Nat) (ha:Option cj) (VB:List Nat) (f7:aW),j<=n/\gg=n-j/\s38= .int i7 j/\VI w ρ β b vD most n ga qO sb rm wb x8 x9 Bw mk uv j ha iW VB wr f7)
 .exact⟨0,0,K,[],pJ,Y,rfl,rfl,HG7.o⟩
 obtain⟨j,iW,ha,VB,f7,hj,rfl,rfl,hG⟩:=hrel;by_cases aV:j<n
 .have uW:(j:Int)<(n:Int):=Y;have HG:=Z hG;have HJ:=Z aV;have a:=hG.p.bS;have F:=Zc a 1;have hj4:j+1<=1000:=Y;have HJ4:=Z hj4;clear hG aV hj a hj4;go_upto_region 7 with(go_at_call 137;apply(aJg most (β+10+2*j) wr f7 ⟨Y,Y⟩).cF;rintro e w5 ⟨ib,rfl,m,r⟩;have gD:=Z m;have G:=Z r;clear m r);have hG5:=HG.o.new gD.o (β+10+2*j);let⟨rU,Lf⟩:=E (up wr.heap.size (β+10+2*j) f7);have ZW:=G.o;rw[Lf]at hG5 ZW;have d:=Z hG5;have qp:=Z ZW;have a:=hG5.p.bS;have q:=Zc a 7;clear F Lf ZW hG5 a G gD HG;go_upto_region 8 with(at_builtin;refine cK aTu rfl _ _ rfl (d.o.cY.cY w5) (P7 w5) Yr [h9 (H ⟨ib,0,K⟩)] ib Yr rfl (dH rfl) rfl (rV HJ4.o d.o.len) (by have:=HJ4.o;have:=d.o.len;unfold bw;omega) ?_;rintro g6 c6 w6 lL dK vU wV;rw[d.o.len]at lL|-;have fS:b∉(hY ha j iW).ownBlock.toList:=(λhm=>d.o.cY.ne d.o.p.bS D (eI hm));have nP:=vU.aC d.o.p.bS fS;have q:=Zc nP 7;have y:=aM nP;have u:=iO (cV nP);have uL:=Z lL;have Ww:=Z vU;have RF:=Z fS;have zO:=Z nP;clear lL dK vU wV fS nP);clear q y u;have SM:bA w5 rU (·=β) w6 (up w5.heap.size β rU):=d.o.cY.eW (v':=hY (H ⟨g6,0,K⟩) (j+1) c6) Ww.o rfl;have hO6:=uL.o.QX d.o.cY Ww.o;have hp6:VH w ρ β b (QB vD most n ga qO (h9 (H ⟨sb,0,K⟩)) (.map (H rm)) (h9 (H ⟨wb,0,K⟩)) (hY ha j iW) x8 x9 Bw mk uv) w6 (up w5.heap.size β rU):=by
   refine⟨?_,λk a=>(eN (wM a d.o.p.eF.size)).dd (d.o.p.zQ k a),zO.o,(eN (cV d.o.p.bS)).dd d.o.p.bT⟩;exact⟨Ww.o.os.dd d.o.p.eF.os,Ww.o.tape.dd d.o.p.eF.tape,Ww.o.output.dd d.o.p.eF.output,jN d.o.p.eF.size Ww.o.size,λk a hn=>(Ww.o.block k (wM a d.o.p.eF.size) (λhm=>by have:=d.o.Ri k (eI hm);omega)).dd (d.o.p.eF.block k a hn),d.o.p.eF.fresh⟩
  let⟨p7,m7,u7⟩:=hp6.set 7 (hY (H ⟨g6,0,K⟩) (j+1) c6);have Mj:=SM.dd m7;have hG7:VI w ρ β b vD most n ga qO sb rm wb x8 x9 Bw mk uv (j+1) (H ⟨g6,0,K⟩) c6 (VB++[ib]) (ey w6 ⟨b,7,K⟩ (hY (H ⟨g6,0,K⟩) (j+1) c6)) (up w5.heap.size β rU):=by
   refine⟨p7,d.o.sl.dg Mj (by show¬_=_;omega),d.o.rm.dg Mj (by show¬_=_;omega),d.o.wh.dg Mj (by show¬_=_;omega) (by show¬_=_;omega),?_,by rw[F5,d.o.len];rfl,λg B=> ?_,λi hi=> ?_⟩
   .exact hO6.eF u7 (λg B hm=>hO6.ne hp6.bS D (by rw[B,show g=b by simpa using hm]))
   .rcases Ww.o.fresh g (by simpa[gz,eq_comm]using B)with h'|h'
    .exact d.o.Ri g (eI h')
    .exact jN d.o.p.eF.size h'
   .rw[kC,d.o.len];by_cases e:i=j
    .subst e;rw[bR rfl];exact qp.o.dg Mj (by show¬_=_;omega) (by show¬_=_;omega)
    .rw[bD e];exact(d.o.ix i Y).dg Mj (by show¬_=_;omega) (by show¬_=_;omega)
  have HG7:=Z hG7;clear SM hO6 hp6 p7 m7 u7 Mj hG7;go_wp2;go_roundg (n-(j+1))
  .exact⟨j+1,c6,_,_,_,HJ.o,rfl,eO,HG7.o⟩
  have:=HJ.o;omega
 .obtain rfl:j=n:=Y;have HG:=Z hG;have a:=hG.p.bS;have F:=Zc a 1;have b2:=Zc a 2;let⟨C,hC⟩:=E (most*(j+1));have HC:=Z hC;have hC5:most*(j+1)<=65536*5:=Nat.mul_le_mul Y Y;have Mo:1*1<=most*(j+1):=Nat.mul_le_mul Y Y;have hC0:(most:Int)*((j+1:Nat):Int)=(C:Int):=by rw[<-hC];simp
  have hCw:IntKind.i64.wrap ((most:Int)*((j+1:Nat):Int))=(C:Int):=by rw[hC0];exact TA _ Y
  let⟨ln,W⟩:=E (j+1);have Wv:=Z W;rw[W]at hCw;have o:e7 wr ⟨b,2,K⟩=H (.int i7 (ln:Nat)):=by rw[<-W];exact b2
  have hCb:(C:Int)<=327680:=Y;have hCa:(1:Int)<=(C:Int):=Y;have aT3:IntKind.i64.wrap ((C:Int)+1)=(C:Int)+1:=TA _ Y;have HCW:=Z (dX hCw aT3);clear hG a hj aV hC hC5 Mo hC0 W b2 hCw aT3;go_upto_region 9 with(fail);refine ek 99 (eb F<|d7 o) (λwd eY qS Q=> ?_);clear F o;have MF:=Z qS;clear eY qS;refine dw [0,1,5,2,6,3,7,4,8,9] ?_;refine Zo 10 λqL hK=> ?_;go_simp;try rw[HCW.o.1]
  try go_simp
  go_at_call 138;apply(aEe C 1073741824 (β+3) wd f7 ⟨Y,Y,D,D⟩).cF;rintro e w8 ⟨lb,rfl,m,r⟩;dsimp only;have P:=(HG.o.on MF.o).new m (β+3);let⟨D6,MO⟩:=E (up wd.heap.size (β+3) f7);rw[MO]at P r;let⟨hG9,m9⟩:=P.set (y8:=h9 (H ⟨lb,0,K⟩)) (y9:=x9) (y10:=Bw) 8 (h9 (H ⟨lb,0,K⟩)) rfl;have UC:=r.dg m9 (by show¬_=_;omega);let⟨w9,Gv⟩:=E (ey w8 ⟨b,8,K⟩ (h9 (H ⟨lb,0,K⟩)));rw[Gv]at hG9 m9 UC;replace Q:=m.Of Q;have a:=P.p.bS;have q:=Zc a 8;have y:=aM a;have u:=iO (cV a);have HG9:=Z hG9;have HL9:=Z UC;have HW9:=Z Gv;clear m r P MO hG9 m9 UC a Gv HG MF;refine Zk hK Q<|I 11 ?_;refine dw [12,13,14,15] ?_;refine Zo 16 λqL hK=> ?_;go_simp;rw[HW9.o];have a:=HG9.o.p.bS;have Q:=dX (aL a (j:=1) rfl:e7 w9 ⟨b,1,K⟩=H (.int i7 most)) (show e7 w9 ⟨b,2,K⟩=H (.int i7 (ln:Nat)) by rw[<-Wv.o];exact aL a (j:=2) rfl);clear q y u a;refine j8 ?_;clear hK qL;refine aY dB ?_ _;clear Q;let⟨E1,BY⟩:=E (w9.alloc (.map #[] 0));let⟨By,N⟩:=E (hJ w9.heap);have lP:=Za BY;have T:=HG9.o.new lP (β+4);have V9:bA w9 D6 eL E1 (up w9.heap.size (β+4) D6):=lP.eW (S:=eL) (β+4) (λ_ h=>dS h X);let⟨JX,Gr⟩:=E (up w9.heap.size (β+4) D6);have FP:aAJ E1 JX (β+4) By:=⟨by rw[<-BY,<-N];exact fW.wO _ _,by rw[<-Gr,N];exact cJ (fV _)⟩;have yq:=HL9.o.dg V9 id;rw[Gr]at T yq;let⟨aNr,f⟩:=T.set (y8:=h9 (H ⟨lb,0,K⟩)) (y9:= .map (H By)) (y10:=Bw) 9 (.map (H By)) rfl;have a:=T.p.bS;have q:=Zc a 9;have y:=aM a;have u:=iO (cV a);have L:=TT w9;rw[BY,N]at L;let⟨kw,Dw⟩:=E (ey E1 ⟨b,9,K⟩ (.map (H By)));rw[Dw]at aNr f;have aPM:=Z aNr;have aVC:=Z (yq.dg f (by show¬_=_;omega));have jv:=Z (FP.dg f (by show¬_=_;omega));clear lP V9 T Gr FP yq aNr f a BY N HG9 HL9 HW9;go_upto_region 11 with(fail);try rw[Dw]
  clear Dw L q y u;have a:=aPM.o.p.bS;have F:=Zc a 1;have o:e7 kw ⟨b,2,K⟩=H (.int i7 (ln:Nat)):=by rw[<-Wv.o];exact aL a (j:=2) rfl
  clear a;refine ek 99 (eb F<|d7 o) (λwe YQ Tw Q=> ?_);clear F o;have HUe:=Z Tw;clear YQ Tw;refine dw [0,1,5,10,14,2,6,11,15,3,7,12,16,4,8,13,17,9,18,19] ?_;refine Zo 20 λqL hK=> ?_;go_simp;try rw[HCW.o.1]
  try rw[HCW.o.2]
  try go_simp
  go_at_call 139;apply(show tR 139 #[.int i7 (C:Int),.int i7 ((C:Int)+1)] we _ from aI1 C (C+1) (β+5) we JX ⟨Y,Y,Y,Y⟩).cF;rintro e w12 ⟨ob,rfl,m,r⟩;dsimp only;have R:=(aPM.o.on HUe.o).new m (β+5);have CZ:bA kw JX eL w12 (up we.heap.size (β+5) JX):=(HUe.o.fK).dd (m.eW (S:=eL) (β+5) (λ_ h=>dS h X));have aNl:=aVC.o.dg CZ id;have aNW:=jv.o.dg CZ id;let⟨Iv,aJi⟩:=E (up we.heap.size (β+5) JX);rw[aJi]at R r aNl aNW;let⟨aNq,zG⟩:=R.set (y8:=h9 (H ⟨lb,0,K⟩)) (y9:= .map (H By)) (y10:=h9 (H ⟨ob,0,K⟩)) 10 (h9 (H ⟨ob,0,K⟩)) rfl;have aN1:=r.dg zG (by show¬_=_;omega);have Ug:=aNl.dg zG (by show¬_=_;omega);have aNV:=aNW.dg zG (by show¬_=_;omega);let⟨w13,aMS⟩:=E (ey w12 ⟨b,10,K⟩ (h9 (H ⟨ob,0,K⟩)));rw[aMS]at aNq aN1 Ug aNV;replace Q:=m.Of Q;have a:=R.p.bS;have q:=Zc a 10;have y:=aM a;have u:=iO (cV a);have A:=Z aNq;have a14:=Z aN1;have aPI:=Z Ug;have aUe:=Z aNV;have a0t:=Z aMS;clear m r R CZ aNl aNW aJi aNq zG aN1 Ug aNV a aMS aPM aVC jv HUe;refine Zk hK Q<|I 21 ?_;refine dw [22,23,24,25] ?_;refine Zo 26 λqL hK=> ?_;go_simp;rw[a0t.o];have a:=A.o.p.bS;have Q:=dX (aL a (j:=1) rfl:e7 w13 ⟨b,1,K⟩=H (.int i7 most)) (show e7 w13 ⟨b,2,K⟩=H (.int i7 (ln:Nat)) by rw[<-Wv.o];exact aL a (j:=2) rfl);clear q y u a;refine j8 ?_;clear hK qL;refine aY dB ?_ _;clear Q;go_wp2;refine mD (v:=i8 #[]) (by simp[results,go_sem]) rfl ?_;have hu:=A.o.p.eF;have xN:∀{v:aF} {k:Nat},(∀g,Value.mN v=H g->g<hJ w.heap)->Value.mN v=H k->Iv k=ρ k:=λhv a=>A.o.p.zQ _ (hv _ a);obtain⟨s1,s2,s3,s4⟩:=a1N.o;have fS:∀l,pM (λ_=>K) l=K:=λl=>by
   by_cases hx:∃i:Nat,l= .int i7 (i:Int)
   .obtain⟨i,rfl⟩:=hx;exact nE rfl
   .exact yU λi e=>hx ⟨i,e⟩
  have z:=HN.o;refine⟨Iv,⟨b,ga,qO,wX,ha,iW,VB,sb,rm,wb,lb,By,ob⟩,rfl,rfl,hu,A.o.p.zQ,⟨⟨?_,A.o.p.bT,HGL.o,A.o.len.dd z.symm,?_,?_,?_,s1,s2,s3,s4⟩,A.o.sl,A.o.rm.1.congr (λl=>fS l) rfl,A.o.rm.2,?_,aUe.o.1.congr (λl=>fS l) rfl,aUe.o.2,?_,?_,A.o.wh,?_⟩⟩
  .have:=A.o.p.bS;rw[<-z]at this;exact this
  .exact⟨Rd.eF Wx.o.1 hu (λg B=>by simpa using a1w.o g B),λh0 k a=>(xN (λg B=>Rd.bS Wx.o.1 h0 B) a).dd (Wx.o.2 h0 k a)⟩
  .exact λk a=>⟨Rd.eF (HGE.o k a).1 hu (λg B=>by simpa using kj.o k a g B),λh0 x hx=>(xN (λg B=>Rd.bS (HGE.o k a).1 h0 B) hx).dd ((HGE.o k a).2 h0 x hx)⟩
  .have:=A.o.cY.rd;rw[<-z]at this;exact this
  .have:=aPI.o;rw[<-HC.o,<-z]at this;exact this
  .have:=a14.o;rw[<-HC.o,<-z]at this;exact this
  .exact λi v hv=>by simp[LB,mU.oP]at hv
  .exact λk a=>A.o.ix k (by rw[<-z];exact a)
end
theorem aGd(y j:Nat):(fN y j).oneCell'=oj:=rfl
theorem aGc(y:dU)(j:Nat):(xR y j).oneCell'=oj:=rfl
theorem aCN(y:jF)(j:Nat):(jF.cell y j).oneCell'=oj:=by unfold jF.cell;split<;>(try split)<;>(try split)<;>rfl
theorem MB(v:aF)(l:List Nat)(w:aA)(h:eX fN 0 1 w v l)(hl:O l<=100000):
  aH prog 59 #[v] w λe w'=>∃u,e=i5 u/\bG fN 0 3 1 w w' u l/\U w [] w' []:=by
 have A:∀(w:aA) (a:Option cj) (n c n' c':Nat),(binOp .eql 43 (hY a n c) (hY K n' c')).run prog w= .ok (j4 a.isNone) w:=λw a n c n' c'=>Lib.run_eql_slice_nil w _ _ a n c n' c' underlying43;obtain⟨a,cap,rfl,-⟩:=h.len;cases a with
 |none=>
  exact ZM75
 |some ad=>
  go_in;go_upto_region 3 with(fail);let⟨w1,d⟩:=E (e8 w (h8 #[] 3));have b:=(d▸(U.refl w []).alloc (h8 #[] 3):U w [] w1 []);have p:dT (bG fN 0 3 1 w w1 (hY (H ⟨w,0,K⟩) 0 0) []):=Z (FE (d▸lK w _) (fV _));go_wp2_with (at_builtin;refine iY WE.ok D rfl _ _ rfl p b (fV _) b.size (h.on b) (λy z j B=>aGd y j) Yr Yr (by simp;omega) (by unfold bw;simp;omega) ?_;rintro g5 r w5 m i x;have q:=Z m);go_ret;exact⟨_,rfl,by simpa using q.o,i⟩
theorem zs(v:aF)(l:List dU)(w:aA)(h:eX xR bO 1 w v l)(hl:O l<=100000):
  aH prog 28 #[v] w λe w'=>∃u,e=i5 u/\bG xR bO 9 1 w w' u l/\U w [] w' []:=by
 have A:∀(w:aA) (a:Option cj) (n c n' c':Nat),(binOp .eql 22 (hY a n c) (hY K n' c')).run prog w= .ok (j4 a.isNone) w:=λw a n c n' c'=>Lib.run_eql_slice_nil w _ _ a n c n' c' underlying22;obtain⟨a,cap,rfl,-⟩:=h.len;cases a with
 |none=>
  exact ZM75
 |some ad=>
  go_in;go_upto_region 3 with(fail);let⟨w1,d⟩:=E (e8 w (h8 #[] 9));have b:=(d▸(U.refl w []).alloc (h8 #[] 9):U w [] w1 []);have p:dT (bG xR bO 9 1 w w1 (hY (H ⟨w,0,K⟩) 0 0) []):=Z (FE (d▸lK w _) (fV _));go_wp2_with (at_builtin;refine iY aLL.ok D rfl _ _ rfl p b (fV _) b.size (h.on b) (λy z j B=>aGc y j) Yr Yr (by simp;omega) (by unfold bw;simp;omega) ?_;rintro g5 r w5 m i x;have q:=Z m);go_ret;exact⟨_,rfl,by simpa using q.o,i⟩
theorem ij(v:aF)(l:List jF)(w:aA)(h:eX jF.cell qc 4 w v l)(hl:O l<=100000):
  aH prog 29 #[v] w λe w'=>∃u,e=i5 u/\bG jF.cell qc 67 4 w w' u l/\U w [] w' []:=by
 have A:∀(w:aA) (a:Option cj) (n c n' c':Nat),(binOp .eql 50 (hY a n c) (hY K n' c')).run prog w= .ok (j4 a.isNone) w:=λw a n c n' c'=>Lib.run_eql_slice_nil w _ _ a n c n' c' underlying50;obtain⟨a,cap,rfl,-⟩:=h.len;cases a with
 |none=>
  exact ZM75
 |some ad=>
  go_in;go_upto_region 3 with(fail);let⟨w1,d⟩:=E (e8 w (h8 #[] 67));have b:=(d▸(U.refl w []).alloc (h8 #[] 67):U w [] w1 []);have p:dT (bG jF.cell qc 67 4 w w1 (hY (H ⟨w,0,K⟩) 0 0) []):=Z (FE (d▸lK w _) (fV _));go_wp2_with (at_builtin;refine iY Pp.ok D rfl _ _ rfl p b (fV _) b.size (h.on b) (λy z j B=>aCN y j) Yr Yr (by simp;omega) (by unfold bw;simp;omega) ?_;rintro g5 r w5 m i x;have q:=Z m);go_ret;exact⟨_,rfl,by simpa using q.o,i⟩
variable{fE:List Nat}
theorem aQi:wI prog 80 43 1 24 #[hY K 0 0]:= .PU (z:=cH) underlying80 dB rfl rfl
def aP3(w:aA)(gv:aF)(gs:List (List Nat)):Prop:=∃wX:List aF,O wX=O gs/\eX ID undef 1 w gv wX/\∀k,k<O gs->eX fN 0 1 w (ep wX k undef) (ep gs k [])
def KE(fE:List Nat)(w:Nat):Prop:=fE.Pairwise (·<·)/\∀c∈fE,c<w
theorem KE.len{w:Nat}(h:KE fE w):O fE<=w:=by
 have hd:fE.Nodup:=h.1.imp λh=>Nat.ne_of_lt h;have:=Ky (l:=fE) (m:=List.range w) hd λx a=>yD.2 (h.2 x a);simpa using this
def Lb(fE:List Nat):Nat->Int
 |0=> -1
 |i+1=>(ep fE i 0:Nat)
theorem KE.next{w:Nat}(h:KE fE w)(a:i<O fE):Lb fE i<(fE.getD i 0:Int)/\fE.getD i 0<w:=by
 have b:fE.getD i 0∈fE:=by rw[iB,kX a];exact kt a
 refine⟨?_,h.2 _ b⟩;cases i with
 |zero=>show(-1:Int)<_;omega
 |succ i=>
  have:=List.pairwise_iff_getElem.1 h.1 i (i+1) Y a Y;show((fE.getD i 0:Nat):Int)<_;rw[iB,kX Y,iB,kX a];simp only[NQ];omega
structure aEm(w:aA)(b vD most n:Nat)(gs:List (List Nat))(j:Nat)(ga:Option cj)(qO:Nat)(wX:List aF)(wx:aA):Prop where
 eF:U w [] wx []
 bn:hJ w.heap<=b
 bS:wx.heap[b]? =H (h8 #[i6 i7 vD,i6 i7 most,i6 i7 ((n:Int)+1),hY ga j qO,h9 K,.map K,h9 K,hY K 0 0,h9 K,.map K,h9 K,j4 po,hY K 0 0] 209 (0,0))
 cY:bG ID undef 43 1 w wx (hY ga j qO) wX
 len:O wX=j
 j5:∀k,k<j->bG fN 0 3 1 w wx (ep wX k undef) (ep gs k [])
theorem Jj(β vD most:Nat)(p:aF)(gs:List (List Nat))(h:aP3 w p gs)(aCq:vD<=30)(Q8:1<=most/\most<=65536)(qK:O gs<=4)(hr:∀k,k<O gs->KE (ep gs k []) vD):
  aH prog 60 #[i6 i7 vD,i6 i7 most,p] w λe w'=>∃b bN,e=i5 (i8 #[h9 (H ⟨b,0,K⟩),i6 i7 0])/\U w [] w' []/\(∀k,k<hJ w.heap->bN k=ρ k)/\JH w' bN β b vD most gs [] 0 0:=by
 obtain⟨wX,Ed,vU,wV⟩:=h;obtain⟨aa,ac,rfl,-⟩:=vU.len;rw[Ed];let⟨n,hn⟩:=E (O gs);have HGL:=Z Ed;have Wx:=Z vU;have HGE:=Z wV;have HR:=Z hr;have HN:=Z hn;have HM:=Z Q8;rw[hn]at qK|-;have h1:¬((30:Int)<(vD:Int)):=Y;have h2:¬((most:Int)<1):=Y;have h3:¬((65536:Int)<(most:Int)):=Y;have h4:¬((4:Int)<(n:Int)):=Y;have h5:(n:Int)<=4:=Y;have h6:(0:Int)<=(vD:Int):=Y;have h7:decide ((vD:Int)<0)=po:=X;clear Ed vU wV hr hn Q8 qK;go_in;go_upto_region 8 with(fail);clear h1 h2 h3 h4 h6 h7;let⟨b,hb⟩:=E (hJ w.heap);let⟨wa,dE⟩:=E (e8 w (h8 #[J vD,J most,J ((n:Int)+1),cH,h9 K,.map K,h9 K,cH,h9 K,.map K,h9 K,j4 po,cH] 209));have HMa:dT (aEm w b vD most n gs 0 K 0 [] wa):=Z ⟨Za dE,Y,by rw[<-dE,<-hb];exact lK w _,bG.nil _ _,rfl,λk l=>dS l (Yk k)⟩;rw[dE,hb];clear dE hb;go_upto_region 9 with(fail);go_loopg [41] n (λgg s41 wr=>∃(j qO:Nat) (ga:Option cj) (p:List aF),j<=n/\gg=n-j/\s41=J j/\aEm w b vD most n gs j ga qO p wr)
 .exact⟨0,0,K,[],Y,rfl,rfl,HMa.o⟩
 obtain⟨j,qO,ga,p,hj,rfl,rfl,d⟩:=hrel;by_cases aV:j<n
 .have A:j<O gs:=by rw[HN.o];exact aV
  obtain⟨go,oo,co,hvo,-,hco⟩:=eX.aU (Wx.o.on d.eF) (i:=j) (by rw[HGL.o];exact A);have d0:=hco 0 D;simp only[wZ,pK,ID]at d0;have hE:=(HGE.o j A).on d.eF;obtain⟨ea,ec,C,-⟩:=hE.len;rw[C]at d0 hE;injection hvo with x1 x2 x3;subst x1;clear x2 x3 hco;let⟨fE,U5⟩:=E (ep gs j []);have B:=HR.o j A;rw[U5]at d0 hE C B;have a:=Z d;have HJ:=Z aV;have HE:=Z hE;have HRS:=Z B;have HEV:=Z C;have HCO:=Z U5;have uW:(j:Int)<(n:Int):=Y;have hlen:O fE<=30:=nA B.len;let⟨m,hm⟩:=E (O fE);have G:=Z hm;rw[hm]at d0 HE hlen;clear d aV hE B C U5 A hj hm;go_upto_region 13 with(fail);obtain⟨R,hwo⟩:∃R:aA,R=wr:=⟨_,rfl⟩;subst hwo;go_loopg [11,47] m (λgg s11 s47 wi=>∃i:Nat,i<=m/\gg=m-i/\s11=J (Lb fE i)/\s47=J i/\R=wi)
  .exact⟨0,Y,rfl,rfl,rfl,rfl⟩
  obtain⟨i,hi,rfl,rfl,rfl,rfl⟩:=hrel;by_cases YX:i<m
  .obtain⟨ge,oe,ce,hve,-,ye⟩:=eX.aU HE.o (i:=i) (by rw[G.o];exact YX);have e0:=ye 0 D;simp only[wZ,pK,fN]at e0;injection hve with x1 x2 x3;subst x1;clear x2 x3 ye;let⟨n1,n2⟩:=HRS.o.next (i:=i) (by rw[G.o];exact YX);have Om:Lb fE (i+1)=(fE.getD i 0:Int):=rfl;let⟨c,hc⟩:=E (ep fE i 0);let⟨la,N⟩:=E (Lb fE i);rw[hc]at e0 n1 n2 Om;rw[N]at n1;rw[N];have g1:¬((c:Int)<=la):=Y;have g2:¬((vD:Int)<=(c:Int)):=Y;have g3:decide ((c:Int)<=la)=po:=jO g1;have AZ:(i:Int)<(m:Int):=Y;have HI:=Z YX;have nV:=Z Om;clear n1 n2 Om hc N YX hi;go_wp2;go_roundg (m-(i+1))
   .exact⟨i+1,HI.o,rfl,by rw[nV.o],eO,rfl⟩
   have:=HI.o;omega
  .obtain rfl:i=m:=Y;clear hi YX;have l:=a.o.bS;have b3:=Zc l 3;clear l;go_upto_region 19 with(fail);refine ek 11 (d7 b3) (λwd eY qS Q=> ?_);clear b3;have MF:=Z qS;clear eY qS;refine dw [0,1,5,2,3,4] ?_;refine Zo 6 λqL hK=> ?_;go_simp;go_at_call 59;refine(MB _ fE wd (HE.o.on MF.o) (j7 G.o)).mono ?_;rintro e w4 ⟨u,rfl,hO,eA⟩;obtain⟨ua,uc,rfl,-⟩:=hO.len;dsimp only;have Q:=eA.cell Q X;have P:=Q;have f:=Z (MF.o.dd eA);have Ns:=Z (hO.eE (wb:=w) (rV MF.o.size a.o.eF.size));clear eA hO;refine j8 ?_;clear hK qL;refine Zo 7 λqL hK=> ?_;go_simp;have oK:U w4 [] (e8 w4 (h8 #[hY ua (O fE) uc] 43)) []:=(U.refl w4 []).alloc _;have Q:=oK.cell Q X;refine j8 ?_;clear hK qL;refine Zo 8 λqL hK=> ?_;let⟨g6,c6,w6,dP,lL,dK,IA,hg6⟩:=i9 (ty:=80) (news:=[hY ua (O fE) uc]) (T:=43) aQi.ok Y (a.o.cY.on f.o) (a.o.eF.dd f.o) (fV _) (jN a.o.eF.size f.o.size) (hY ua (O fE) uc:aF) rfl (dH rfl) (λj hj=>rfl) (nA a.o.len) (by have:=a.o.len;unfold bw;omega);refine dJ _ _ rfl Yr Yr dP ?_;have D1:=f.o.aC a.o.bS X;have QE:=a.o.cY.on f.o;have fS:b∉(hY ga j qO).ownBlock.toList:=QE.ne D1 D;have Q:=IA.cell P fS;have o:=IA.aC D1 fS;have ci:=Zc o 3;have fi:=aM o;have li:=iO (cV o);have V8:∀S',U w6 [b] S' [b]->True:=λ_ _=>trivial;let⟨w7,xM⟩:=E (ey w6 (Ad b 3) (eB g6 0 (O p+1) c6));have wQ:U w6 [b] w7 [b]:=xM▸pX w6 b 3 _;have EM:w7.heap[b]? =H (h8 #[J vD,J most,J ((n:Int)+1),eB g6 0 (O p+1) c6,h9 K,.map K,h9 K,cH,h9 K,.map K,h9 K,j4 po,cH] 209 (0,0)):=by rw[<-xM,aE _ o];rfl
   have W:∀k,k<j+1->bG fN 0 3 1 w w7 (ep (p++([hY ua (O fE) uc]:List aF)) k undef) (ep gs k []):=λk l=>by
    have h4:bG fN 0 3 1 w w4 (ep (p++([hY ua (O fE) uc]:List aF)) k undef) (ep gs k []):=by
     rw[kC,a.o.len];by_cases e:k=j
     .rw[bR e,e,HCO.o];exact Ns.o
     .rw[bD e];exact(a.o.j5 k Y).on f.o
    exact(h4.jL QE D IA).set o D wQ
   have wW:=lL.set o D wQ;have hUU:U w [] w7 []:=((a.o.eF.dd f.o).aZ IA (λx V=>a.o.cY.2 x (eI V))).aZ wQ (λx V=>by rw[show x=b by simpa using V];exact a.o.bn);have F1:aEm w b vD most n gs (j+1) (H (Ad g6 0)) c6 (p++[hY ua (O fE) uc]) w7:=by
    rw[a.o.len]at EM wW;exact⟨hUU,a.o.bn,EM,wW,by rw[F5,a.o.len];rfl,W⟩
   have IM:=Z F1;have HW7:=Z xM;clear dP lL dK IA hg6 D1 QE fS o V8 wQ EM W wW hUU F1 xM oK P;refine j8 ?_;clear hK qL;refine Zo 9 λqL hK=> ?_;go_simp;refine j8 ?_;clear hK qL;refine I 10 ?_;refine Zo 11 λqL hK=> ?_;go_simp;rw[HW7.o];refine MH ?_;clear hK qL;clear Q ci fi li;go_wp2;go_roundg (n-(j+1))
   .exact⟨j+1,c6,_,_,HJ.o,rfl,eO,IM.o⟩
   have:=HJ.o;omega
 .obtain rfl:j=n:=Y;have r:=d.bS;rw[show((j:Int)+1)=((j+1:Nat):Int)from by omega]at r;have q:=HN.o;have Lv:=d.bn;have h0:∀{v:aF} {g:Nat},gz v=H g->hJ w.heap<=g->up w.heap.size β ρ g=β:=λ_ h=>cJ h;have dr:=(d.cY.jU β ρ).rd;have S:∀k,k<O gs->mK fN 0 1 wr (up w.heap.size β ρ) β (ep p k undef) (ep gs k []):=λk l=>((d.j5 k Y).jU β ρ).rd;have zT:∀g,gz (hY ga j qO)=H g->g≠b:=λg F e=>d.cY.ne d.bS D (by rw[<-e];simpa using F);rw[<-q]at r dr;have Sy:=aQo (uv:=cH) (mk:=po) r (cJ Lv) (d.len.dd q.symm) dr (λg F=>zT g (by
   rcases d.cY.1 with⟨hv,_⟩|⟨x,y,z,hv,_⟩
   .rw[q,hv]at F;cases F
   .rw[q,hv]at F;rw[hv];simpa[gz,Value.mN]using F)) S (λk l g F e=>by
   have h1:=d.j5 k Y;exact h1.ne d.bS D (by rw[<-e];simpa using eJ.cY h1.1 F)) aCq HM.o Y (λk l=>⟨jN (HR.o k l).len aCq,(HR.o k l).2⟩)
  have HLY:=Z Sy;have a:=Z d;clear r Lv h0 dr S zT Sy d hj aV q;go_wp2_with (go_at_call 99;apply HLY.o.cF;rintro e w9 ⟨US,L,rfl,hLb,sO,ht9,hS9⟩;have HLB:=Z hLb;have GI:=Z sO;have Pc:=Z ht9;have HS9:=Z hS9;clear hLb sO ht9 hS9);go_ret2;refine⟨b,US,rfl,a.o.eF.aZ GI.o (λx V=>by rw[show x=b by simpa using V];exact a.o.bn),λk l=>(Pc.o k (wM l a.o.eF.size)).dd (eN l),L,_,λ_=>[],[],HLB.o,HS9.o,aEV vD most gs 0 0,aEW vD most gs 0 0,rfl,rfl,rfl,rfl⟩
section
section
variable{P:DS}{add:Bool}
theorem nX(T:iX)(n:gK)(h:j≠i):E5 T i n j=T j:=bD h
theorem kZ(T:iX)(i:Nat)(n:gK):E5 T i n i=n:=bR rfl
theorem Hr(w:kH){aU:Nat}(sd:Bool)(r:Row)(h:i≠aU):(fU P add w aU sd r).1.T i=w.T i:=by
 unfold fU;split<;>grind [nX]
theorem xQ{aU:Nat}(sd:Bool)(h:i≠aU):∀(l:List Row) (w:kH) (next:List Row),(jK P add aU sd l w next).1.T i=w.T i
 |[],_,_=>rfl
 |r::l,w,next=>by
  unfold jK;rw[xQ sd h l];exact Hr w sd r h
theorem rH(h:∀j,P.cW j≠H i):∀(f aU:Nat) (l:List Row) (w:kH),(gF P add f aU l w).T i=w.T i
 |0,_,_,_=>rfl
 |f+1,aU,l,w=>by
  unfold gF;split
  .rfl
  .rename_i up a;split
   .rfl
   .rw[rH h f];exact xQ _ (λe=>h aU (by rw[a,e])) _ _ _
def ME(add:Bool)(n:gK)(r:Row):Prop:=if add=oj then r∈n.aI else r∉n.aI
theorem aE0{w:kH}(c:(P.spec i).aG=1)(b:(w.T i).aI.Nodup)(h:(fU P add w i po r).2.2.2≠31):ME add ((fU P add w i po r).1.T i) r:=by
 unfold ME;cases add with
 |true=>
  by_cases a:r∈(w.T i).aI
  .grind [fU,jA,KJ]
  .by_cases d:O (w.T i).aI=(P.spec i).most<;>simp_all [dS,fU,jA,KJ,kZ]
 |false=>
  by_cases a:r∈(w.T i).aI
  .simp[fU,jA,sU,c,a,kZ,b.mem_erase_iff]
  grind [fU,jA,sU]
theorem zV{hit:Nat->Bool}{rowOf:Nat->Option Row}(G:∀i j,(P.spec i).aG=1->P.cW j≠H i):∀(l:List Nat) (w:kH) (done:List Nat),l.Nodup->(∀i∈l,(P.spec i).aG=1)->(∀i∈l,(w.T i).aI.Nodup)->(cG P add hit rowOf l w done).2.2=po->
  (∀i∈l,hit i=oj->∀r,rowOf i=H r->ME add ((cG P add hit rowOf l w done).1.T i) r)/\∀i,i∉l->(P.spec i).aG=1->(cG P add hit rowOf l w done).1.T i=w.T i
 |[],w,done,_,_,_,_=>⟨X,λ_ _ _=>rfl⟩
 |i::l,w,done,hd,hk,hn,he=>by
  rw[Fa]at hd;have ih:=λw done=>zV (hit:=hit) (rowOf:=rowOf) G l w done hd.2 (λj a=>hk j (by simp[a]));have B:=hk i X;unfold cG at he|-;by_cases A:hit i=oj
  .simp only[A,Bool.not_true,UV,zF]at he|-;cases z:rowOf i with
   |none=>
    simp only[z]at he|-;let⟨x,q⟩:=ih {w with aQ:=w.aQ+1} done (λj a=>hn j (by simp[a])) he;refine⟨λj a b r c=> ?_,λj a m=>q j (λp=>a (by simp[p])) m⟩;rcases AU.1 a with rfl|a
    .rw[z]at c;cases c
    .exact x j a b r c
   |some r=>
    simp only[z]at he|-;let⟨d,F⟩:=E (fU P add {w with aQ:=w.aQ+1} i po r);have u:=aE0 (P:=P) (add:=add) (w:={w with aQ:=w.aQ+1}) (r:=r) B (hn i X);have g:∀j,j≠i->d.1.T j=w.T j:=λj a=>by rw[<-F];exact Hr _ _ _ a
    simp only[F]at he u|-;by_cases x:d.2.2.2=191\/d.2.2.2=192
    .rw[bR x]at he|-;let⟨q,y⟩:=ih d.1 done (λj a=>by rw[g j (λe=>hd.1 (e▸a))];exact hn j (by simp[a])) he;refine⟨λj a b r' c=> ?_,λj a m=>(y j (λp=>a (by simp[p])) m).dd (g j (λe=>a (by simp[e])))⟩;rcases AU.1 a with rfl|a
     .rw[z]at c;injection c with c;subst c;rw[y j hd.1 B];exact u Y
     .exact q j a b r' c
    .rw[bD x]at he|-;by_cases C:d.2.2.2=31
     .rw[bR C]at he;cases he
     .rw[bD C]at he|-;have v:∀j,(P.spec j).aG=1->(gF P add P.n i d.2.1 d.1).T j=d.1.T j:=λj a=>rH (λk=>G j k a) _ _ _ _;let⟨q,y⟩:=ih (gF P add P.n i d.2.1 d.1) (done++[i]) (λj a=>by rw[v j (hk j (by simp[a])),g j (λe=>hd.1 (e▸a))];exact hn j (by simp[a])) he;refine⟨λj a b r' c=> ?_,λj a m=>(y j (λp=>a (by simp[p])) m).dd ((v j m).dd (g j (λe=>a (by simp[e]))))⟩;rcases AU.1 a with rfl|a
      .rw[z]at c;injection c with c;subst c;rw[y j hd.1 B,v j B];exact u C
      .exact q j a b r' c
  .have A:hit i=po:=eI A;simp only[A,Bool.not_false,uN]at he|-;let⟨x,q⟩:=ih _ _ (λj a=>hn j (by simp[a])) he;refine⟨λj a b r c=> ?_,λj a m=>q j (λp=>a (by simp[p])) m⟩;rcases AU.1 a with rfl|a
   .rw[A]at b;cases b
   .exact x j a b r c
end
end
section
structure yA(s:mC)(n:gK):Prop where
 cZ:n.aI.Nodup
 MJ:s.aG=2->∀r,r∈n.aI↔0<n.cnt r
 V3:s.aG=3->n.eV.Nodup/\n.sd.Nodup/\∀r,r∈n.aI↔r∈n.eV/\dG r s.bK∈n.sd
 z2:s.aG≠2->n.cnt=λ_=>0
 z3:s.aG≠3->n.eV=[]/\n.sd=[]
def dD(s:mC)(n:gK)(sd:Bool)(l:List Row):Prop:=
 if s.aG=2 then∀r,n.cnt r=O (l.filter λx=>decide (dG x s.dg=r)) else if sd=oj then n.sd=l else n.eV=l
theorem M4{l m:List Row}(a:l.Nodup)(b:∀x,x∈l->x∈m):O l<=O m:=by
 induction l generalizing m with
 |nil=>exact RN _
 |cons x l ih=>
  rw[Fa]at a;have g:=b x X;have d:=ih (m:=m.erase x) a.2 λy c=>(List.mem_erase_of_ne (λe=>by grind)).2 (b y (by simp[c]));grind
theorem tZ{l:List Row}{r:Row}(a:r∉l)(b:O l<most):rJ most l r=l++[r]:=by
 unfold rJ;rw[bD a,bD Y]
theorem mg:∀{xs l:List Row},xs.Nodup->(∀x,x∈xs->x∉l)->O l+O xs<=most->xs.foldl (rJ most) l=l++xs
 |[],l,_,_,_=>X
 |x::xs,l,h1,h2,h3=>by
  rw[Fa]at h1;rw[T9]at h3;rw[List.foldl_cons,tZ (h2 x X) Y,mg h1.2 ?_ ?_]
  .simp
  .intro y b a;rcases EY.1 a with a|a
   .exact h2 y (by simp[b]) a
   .have:y=x:=eI a;subst this;exact h1.1 b
  .simp;omega
theorem vX:∀{xs l:List Row},l.Nodup->(xs.foldl List.erase l).Nodup
 |[],_,h=>h
 |x::xs,l,h=>by rw[List.foldl_cons];exact vX (h.erase x)
theorem BQ:∀{xs l:List Row},l.Nodup->∀r,r∈xs.foldl List.erase l↔r∈l/\r∉xs
 |[],l,_,r=>X
 |x::xs,l,h,r=>by
  rw[List.foldl_cons,BQ (h.erase x),h.mem_erase_iff];simp only[AU,not_or];constructor
  .rintro⟨⟨b,c⟩,a⟩;exact⟨c,b,a⟩
  .rintro⟨c,b,a⟩;exact⟨⟨b,c⟩,a⟩
theorem OG(xs a:List Row)(l:List Row):(xs++a).foldl List.erase l=a.foldl List.erase (xs.foldl List.erase l):=kr
section
variable{s:mC}{n:gK}{sd:Bool}{l:List Row}{r:Row}
theorem yA.few(h:yA s n)(a:s.aG=2\/s.aG=3)(b:dD s n po l):O n.aI<=O l:=by
 unfold dD at b;rcases a with a|a
 .rw[bR a]at b;have:=M4 (m:=l.map λx=>dG x s.dg) h.cZ λx c=>by
   have d:=(h.MJ a x).1 c;simp_all
  simpa using this
 .rw[bD Y]at b;simp only[UV,zF]at b;rw[<-b];exact M4 h.cZ λx c=>((h.V3 a).2.2 x).1 c|>.1
theorem aGe(h:yA s n)(c:s.aG=2/\sd=po\/s.aG=3)(u:s.most=65536)(w:dD s n sd l)(hl:l.Nodup)(z:r∉l)(Q:O l<65536)(hs:sd=oj->O n.eV<=65536):
  ∃n' m,KJ s n sd r= .ok (n',m)/\yA s n'/\dD s n' sd (l++[r])/\n'.aI=n.aI++m.kK/\(sd=oj->n'.eV=n.eV)/\(sd=po->n'.sd=n.sd):=by
 rcases c with⟨c,rfl⟩|c
 .have G:=h.few (.inl c) w;have d:=w;unfold dD at d;rw[bR c]at d;have S:n.cnt (dG r s.dg)<=O l:=by grind
  have R:∀x,(O ((l++[r]).filter λqL=>decide (dG qL s.dg=x)))=n.cnt x+if dG r s.dg=x then 1 else 0:=λx=>by grind
  unfold KJ;rw[if_neg Y,if_pos c,if_neg Y];by_cases F:n.cnt (dG r s.dg)=0
  .have i:dG r s.dg∉n.aI:=λu=>by have:=(h.MJ c _).1 u;omega
   rw[bR F,bD Y];refine⟨_,_,rfl,⟨?_,λ_ x=> ?_,λf=>Y,λg=>dS c g,h.z3⟩,?_,?_,X,X⟩
   .show(rJ s.most n.aI (dG r s.dg)).Nodup;rw[tZ i Y,Iy];exact⟨h.cZ,X,λa ha b p e=>by grind⟩
   .show x∈rJ s.most n.aI (dG r s.dg)↔0<fP n.cnt (dG r s.dg) 1 x;rw[tZ i Y,List.mem_append,h.MJ c x];grind [fP]
   .grind [dD,fP]
   grind [tZ]
  .rw[bD F];refine⟨_,_,rfl,⟨h.cZ,λ_ x=> ?_,λf=>Y,λg=>dS c g,h.z3⟩,?_,X,X,X⟩
   .show x∈n.aI↔0<fP n.cnt (dG r s.dg) (n.cnt (dG r s.dg)+1) x;rw[h.MJ c x];grind [fP]
   grind [dD,fP]
 .let⟨A,q,N⟩:=h.V3 c;have d:=w;unfold dD at d;rw[bD Y]at d;unfold KJ;rw[bD Y,bD Y];cases sd with
  |true=>
   simp only[uN]at d|-;subst d;rw[bD z,bD Y];have i:∀x,x∈n.eV.filter (λx=>decide (dG x s.bK=r))->x∉n.aI:=λx k u=>by
    grind
   have j:(n.eV.filter (λx=>decide (dG x s.bK=r))).Nodup:=A.filter _;have P:O n.aI+O (n.eV.filter (λx=>decide (dG x s.bK=r)))<=s.most:=by
    have L:(n.aI++n.eV.filter (λx=>decide (dG x s.bK=r))).Nodup:=by
     rw[List.nodup_append];exact⟨h.cZ,j,λa ha b p e=>i b p (e▸ha)⟩
    have y:=M4 (m:=n.eV) L λx k=>by
     grind
    grind
   have C:=mg j i P;refine⟨_,_,rfl,⟨?_,λy=>Y,λ_=>⟨A,?_,λx=> ?_⟩,h.z2,λg=>dS c g⟩,?_,C,X,X⟩
   .show(List.foldl (rJ s.most) n.aI _).Nodup;rw[C,List.nodup_append];exact⟨h.cZ,j,λa ha b p e=>i b p (e▸ha)⟩
   .grind
   .grind
   grind [dD]
  |false=>
   simp only[UV,zF]at d|-;subst d;have G:=h.few (.inr c) w;have i:r∉n.aI:=λu=>z ((N r).1 u).1;rw[bD z,bD Y];have v:(n.eV++[r]).Nodup:=by
    grind
   by_cases B:dG r s.bK∈n.sd
   .rw[if_pos B];refine⟨_,_,rfl,⟨?_,λy=>Y,λ_=>⟨v,q,λx=> ?_⟩,h.z2,λg=>dS c g⟩,?_,tZ i Y,X,X⟩
    .show(rJ s.most n.aI r).Nodup;rw[tZ i Y,Iy];exact⟨h.cZ,X,λa ha b p e=>by grind⟩
    .grind [tZ]
    grind [dD]
   .rw[bD B];refine⟨_,_,rfl,⟨h.cZ,λy=>Y,λ_=>⟨v,q,λx=> ?_⟩,h.z2,λg=>dS c g⟩,?_,X,X,X⟩
    .grind
    grind [dD]
theorem aCR(h:yA s n)(a:s.aG=2/\sd=po\/s.aG=3)(p:dD s n sd l)(hl:l.Nodup)(q:r∈l):
  ∃n' m,sU s n sd r= .ok (n',m)/\yA s n'/\dD s n' sd (l.erase r)/\n'.aI=m.kK.foldl List.erase n.aI/\m.kK.Nodup/\(∀x,x∈m.kK->x∈n.aI)/\(sd=oj->n'.eV=n.eV)/\(sd=po->n'.sd=n.sd):=by
 rcases a with⟨a,rfl⟩|a
 .have b:=p;unfold dD at b;rw[bR a]at b;have C:∀x,(O ((l.erase r).filter λy=>decide (dG y s.dg=x)))+(if dG r s.dg=x then 1 else 0)=n.cnt x:=λx=>by grind
  have A:0<n.cnt (dG r s.dg):=by grind
  have w:dG r s.dg∈n.aI:=(h.MJ a _).2 A;unfold sU;rw[if_neg Y,if_pos a,if_neg Y];by_cases u:n.cnt (dG r s.dg)=1
  .rw[bR u];refine⟨_,_,rfl,⟨h.cZ.erase _,λ_ x=> ?_,λz=>Y,λc=>dS a c,h.z3⟩,?_,rfl,X,by simpa using w,X,X⟩
   .show x∈n.aI.erase (dG r s.dg)↔0<fP n.cnt (dG r s.dg) 0 x;rw[h.cZ.mem_erase_iff,h.MJ a x];grind [fP]
   grind [dD,fP]
  .rw[bD u];refine⟨_,_,rfl,⟨h.cZ,λ_ x=> ?_,λz=>Y,λc=>dS a c,h.z3⟩,?_,rfl,X,X,X,X⟩
   .show x∈n.aI↔0<fP n.cnt (dG r s.dg) (n.cnt (dG r s.dg)-1) x;rw[h.MJ a x];grind [fP]
   grind [dD,fP]
 .let⟨e,d,v⟩:=h.V3 a;have b:=p;unfold dD at b;rw[bD Y]at b;unfold sU;rw[bD Y,bD Y];cases sd with
  |true=>
   simp only[uN]at b|-;subst b;rw[bR q];have i:(n.eV.filter (λx=>decide (dG x s.bK=r))).Nodup:=e.filter _;refine⟨_,_,rfl,⟨vX h.cZ,λj=>Y,λ_=>⟨e,d.erase _,λx=> ?_⟩,h.z2,λc=>dS a c⟩,?_,rfl,i,λx B=> ?_,X,X⟩
   .show x∈List.foldl List.erase n.aI _↔x∈n.eV/\dG x s.bK∈n.sd.erase r;rw[BQ h.cZ,v,T8,d.mem_erase_iff];grind
   .grind [dD]
   grind
  |false=>
   simp only[Bool.false_eq_true,if_false]at b|-;subst b;rw[bR q];by_cases g:r∈n.aI
   .rw[bR g];refine⟨_,_,rfl,⟨h.cZ.erase _,λj=>Y,λ_=>⟨e.erase _,d,λx=> ?_⟩,h.z2,λc=>dS a c⟩,?_,rfl,X,by simpa using g,X,X⟩
    .show x∈n.aI.erase r↔x∈n.eV.erase r/\dG x s.bK∈n.sd;rw[h.cZ.mem_erase_iff,e.mem_erase_iff,v,and_assoc]
    grind [dD]
   .rw[bD g];refine⟨_,_,rfl,⟨h.cZ,λj=>Y,λ_=>⟨e.erase _,d,λx=> ?_⟩,h.z2,λc=>dS a c⟩,?_,rfl,X,X,X,X⟩
    .grind
    grind [dD]
end
end
variable{sd:Bool}{n':gK}
section
theorem ZM47{P:Prop}(h:P:=by
  by_cases e:v=up
  .subst e;cases hsd:P.isSide aU with
   |false=>
    rw[hsd]at g2;have:=g1.few (by rcases hk with⟨h,_⟩|h<;>simp[h]) g2;omega
   |true=>
    have h3:(P.spec v).aG=3:=by grind
    have:=g1.few (l:=(w.T (sc v)).aI) (.inr h3) (by grind [dD]);have:=hS (sc v) Y;omega
  .rw[ho v e];exact hS v hv):P:=h
theorem ZM70{P:Prop}(h:P:=by
  by_cases e:v=up
  .subst e;rw[g6];have h1:=M4 (m:=(w.T v).aI) (vX (xs:=new) (hA v hv).cZ) λx hx=>((BQ (hA v hv).cZ x).1 hx).1;have:=hS v hv;omega
  .rw[ho v e];exact hS v hv):P:=h
theorem ZM99{P:Prop}(h:P:=by
  rw[ho u hu];by_cases e:v=up
  .subst e;by_cases e2:u=aU
   .grind
   .exact qs.mj FH hp e2 g3 g4 (hE u v FH e2)
  grind):P:=h
theorem ZM150{P:Prop}(h:P:=by
  by_cases e:v=up
  .subst e;exact g1
  .rw[ho v e];exact hA v hv):P:=h
structure wH(P:DS)(sc IS:Nat->Nat):Prop where
 up:∀u v,P.cW u=H v->u<v/\v<P.n
 aG:∀u v,P.cW u=H v->(P.spec v).aG=2/\P.isSide u=po\/(P.spec v).aG=3
 aKe:∀u v,P.cW u=H v->u=if P.isSide u=oj then IS v else sc v
 eV:∀v,v<P.n->(P.spec v).aG≠1->P.cW (sc v)=H v/\P.isSide (sc v)=po
 sd:∀v,v<P.n->(P.spec v).aG=3->P.cW (IS v)=H v/\P.isSide (IS v)=oj
 most:∀v,v<P.n->(P.spec v).aG≠1->(P.spec v).most=65536
def CN(P:DS)(T:iX):Prop:=∀v,v<P.n->yA (P.spec v) (T v)
def uM(P:DS)(T:iX)(B:Nat):Prop:=∀v,v<P.n->O (T v).aI<=B
def aF3(P:DS)(T:iX):Prop:=∀u v,P.cW u=H v->dD (P.spec v) (T v) (P.isSide u) (T u).aI
section
variable{P:DS}{sc IS:Nat->Nat}
theorem gm{w:kH}{up:Nat}{m:SV}(h:KJ (P.spec up) (w.T up) sd r= .ok (n',m)):(fU P oj w up sd r).1.T=E5 w.T up n'/\(fU P oj w up sd r).2.1=m.kK/\(fU P oj w up sd r).2.2.2=0:=by
 grind [fU,jA]
theorem My{w:kH}{up:Nat}{m:SV}(h:sU (P.spec up) (w.T up) sd r= .ok (n',m)):(fU P po w up sd r).1.T=E5 w.T up n'/\(fU P po w up sd r).2.1=m.kK/\(fU P po w up sd r).2.2.2=0:=by
 grind [fU,jA]
theorem Mp{up:Nat}(q:(P.spec up).aG=2/\sd=po\/(P.spec up).aG=3)(i:(P.spec up).most=65536):∀(fl:List Row) (w:kH) (next l:List Row),yA (P.spec up) (w.T up)->dD (P.spec up) (w.T up) sd l->(l++fl).Nodup->O (l++fl)<=65536->(sd=oj->O (w.T up).eV<=65536)->
  yA (P.spec up) ((jK P oj up sd fl w next).1.T up)/\dD (P.spec up) ((jK P oj up sd fl w next).1.T up) sd (l++fl)/\(sd=oj->((jK P oj up sd fl w next).1.T up).eV=(w.T up).eV)/\(sd=po->((jK P oj up sd fl w next).1.T up).sd=(w.T up).sd)/\
  ∃new,(jK P oj up sd fl w next).2=next++new/\((jK P oj up sd fl w next).1.T up).aI=(w.T up).aI++new
 |[],w,next,l,hN,hE,_,_,_=>by
  rw[kn];exact⟨hN,hE,λ_=>rfl,λ_=>rfl,[],by simp[jK],by simp[jK]⟩
 |r::fl,w,next,l,hN,hE,hd,hl,hs=>by
  have c:=hd;rw[Iy]at c;have a:=hl;rw[F5,T9]at a;let⟨n',m,C,e2,F,A,p,x⟩:=aGe (r:=r) hN q i hE c.1 (λh=>c.2.2 r h r X rfl) Y hs;let⟨n,v,B⟩:=gm (w:=w) C;have e:(l++[r])++fl=l++r::fl:=X;unfold jK;generalize z:fU P oj w up sd r=d at n v B;simp only[z];have b:d.1.T up=n':=n▸kZ _ _ _;let⟨y,g2,g3,j,new,g5,u⟩:=Mp q i fl {d.1 with aQ:=d.1.aQ+1+if sd=oj then d.2.2.1 else 0} (next++d.2.1) (l++[r]) (by show yA _ (d.1.T up);rw[b];exact e2) (by show dD _ (d.1.T up) _ _;rw[b];exact F) (e▸hd) (e▸hl) (λh=>by show(d.1.T up).eV.length<=65536;rw[b,p h];exact hs h);rw[e]at g2;rw[b]at g3 j u;refine⟨y,g2,λh=>(g3 h).dd (p h),λh=>(j h).dd (x h),m.kK++new,?_,?_⟩
  .rw[g5,v,zcV]
  .rw[u,A,zcV]
theorem ZY{up:Nat}(v:(P.spec up).aG=2/\sd=po\/(P.spec up).aG=3):∀(fl:List Row) (w:kH) (next l:List Row),yA (P.spec up) (w.T up)->dD (P.spec up) (w.T up) sd l->l.Nodup->fl.Nodup->(∀x,x∈fl->x∈l)->
  yA (P.spec up) ((jK P po up sd fl w next).1.T up)/\dD (P.spec up) ((jK P po up sd fl w next).1.T up) sd (fl.foldl List.erase l)/\(sd=oj->((jK P po up sd fl w next).1.T up).eV=(w.T up).eV)/\(sd=po->((jK P po up sd fl w next).1.T up).sd=(w.T up).sd)/\
  ∃new,(jK P po up sd fl w next).2=next++new/\((jK P po up sd fl w next).1.T up).aI=new.foldl List.erase (w.T up).aI/\new.Nodup/\∀x,x∈new->x∈(w.T up).aI
 |[],w,next,l,hN,hE,_,_,_=>by
  exact⟨hN,hE,λ_=>rfl,λ_=>rfl,[],by simp[jK],by simp[jK],List.nodup_nil,X⟩
 |r::fl,w,next,l,hN,hE,hd,hf,hs=>by
  rw[Fa]at hf;let⟨n',m,L,e2,Q,G,A,g,N,B⟩:=aCR (r:=r) hN v hE hd (hs r X);let⟨q,y,qL⟩:=My (w:=w) L;unfold jK;generalize F:fU P po w up sd r=d at q y qL;simp only[F];have n:d.1.T up=n':=q▸kZ _ _ _;let⟨C,g2,g3,p,new,g5,j,f,i⟩:=ZY v fl {d.1 with aQ:=d.1.aQ+1+if sd=oj then d.2.2.1 else 0} (next++d.2.1) (l.erase r) (by show yA _ (d.1.T up);rw[n];exact e2) (by show dD _ (d.1.T up) _ _;rw[n];exact Q) (hd.erase r) hf.2
   (λx c=>(hd.mem_erase_iff).2 ⟨λe=>hf.1 (e▸c),hs x (by simp[c])⟩)
  rw[n]at g3 p j i;rw[G]at j i;have u:=λx c=>(BQ hN.cZ x).1 (i x c);refine⟨C,g2,λh=>(g3 h).dd (N h),λh=>(p h).dd (B h),m.kK++new,?_,?_,?_,?_⟩
  .rw[g5,y,zcV]
  .rw[j,OG]
  .rw[Iy];exact⟨A,f,λa ha b z e=>(u b z).2 (e▸ha)⟩
  .intro x c;rcases EY.1 c with c|c
   .exact g x c
   .exact(u x c).1
theorem wH.mj(f:wH P sc IS){u v aU:Nat}{n:gK}(a:P.cW u=H v)(ha:P.cW aU=H v)(d:u≠aU)(e:P.isSide aU=oj->n'.eV=n.eV)(g:P.isSide aU=po->n'.sd=n.sd){l:List Row}(b:dD (P.spec v) n (P.isSide u) l):dD (P.spec v) n' (P.isSide u) l:=by
 have c1:=f.aKe u v a;have c2:=f.aKe aU v ha;have c:=f.aG u v a;have k2:=f.aG aU v ha;grind [dD]
theorem mf(qs:wH P sc IS){B:Nat}(F:B<=65536):∀(f aU:Nat) (fl:List Row) (w:kH) (l:List Row),P.n<=aU+f->aU<P.n->CN P w.T->(∀u v,P.cW u=H v->u≠aU->dD (P.spec v) (w.T v) (P.isSide u) (w.T u).aI)->
  (∀v,P.cW aU=H v->dD (P.spec v) (w.T v) (P.isSide aU) l)->(w.T aU).aI=l++fl->uM P w.T B->
  CN P (gF P oj f aU fl w).T/\aF3 P (gF P oj f aU fl w).T/\uM P (gF P oj f aU fl w).T B/\∀v,∃new,((gF P oj f aU fl w).T v).aI=(w.T v).aI++new
 |0,aU,fl,w,l,hf,hat,_,_,_,_,_=>Y
 |f+1,aU,fl,w,l,hf,hat,hA,hE,hEa,hl,hS=>by
  unfold gF;cases hp:P.cW aU with
  |none=>
   refine⟨hA,λu v FH=> ?_,hS,λv=>⟨[],X⟩⟩;grind
  |some up=>
   simp only;by_cases d:fl=[]
   .rw[bR d];refine⟨hA,λu v FH=> ?_,hS,λv=>⟨[],X⟩⟩;grind
   .rw[if_neg d];let⟨Q,a⟩:=qs.up aU up hp;have hk:=qs.aG aU up hp;have j:(P.spec up).aG≠1:=by rcases hk with⟨h,_⟩|h<;>omega
    have c:=(hA aU hat).cZ;have C:=hS aU hat;rw[hl]at c C;let⟨G,k⟩:=qs.eV up a j;have p:P.isSide aU=oj->sc up≠aU:=λh e=>by grind
    have q:=(qs.up _ _ G).1;have r:P.isSide aU=oj->(w.T up).eV=(w.T (sc up)).aI:=λh=>by
     grind [dD]
    let⟨g1,g2,g3,g4,new,g5,i⟩:=Mp hk (qs.most up a j) fl w [] l (hA up a) (hEa up hp) c Y (λh=>by rw[r h];have:=hS (sc up) Y;omega);have ho:∀v,v≠up->(jK P oj up (P.isSide aU) fl w []).1.T v=w.T v:=λv hv=>xQ _ hv _ _ _;let⟨g,b⟩:=E (jK P oj up (P.isSide aU) fl w []);rw[b]at g1 g2 g3 g4 g5 i ho;rw[Bv]at g5;rw[b];have N:uM P g.1.T B:=λv hv=>by
     exact ZM47
    have A:CN P g.1.T:=by
     intro v hv;exact ZM150
    have x:∀u v,P.cW u=H v->u≠up->dD (P.spec v) (g.1.T v) (P.isSide u) (g.1.T u).aI:=by
     intro u v FH hu;exact ZM99
    have y:∀v,P.cW up=H v->dD (P.spec v) (g.1.T v) (P.isSide up) (w.T up).aI:=by
     intro v hv;have:=qs.up up v hv;grind
    let⟨m,qL,z,L⟩:=mf qs F f up g.2 g.1 (w.T up).aI Y a A x y (by rw[i,g5]) N;refine⟨m,qL,z,λv=> ?_⟩;let⟨n2,R⟩:=L v;grind
theorem Qy(qs:wH P sc IS){B:Nat}:∀(f aU:Nat) (fl:List Row) (w:kH) (l:List Row),P.n<=aU+f->aU<P.n->CN P w.T->(∀u v,P.cW u=H v->u≠aU->dD (P.spec v) (w.T v) (P.isSide u) (w.T u).aI)->
  (∀v,P.cW aU=H v->dD (P.spec v) (w.T v) (P.isSide aU) l)->(w.T aU).aI=fl.foldl List.erase l->l.Nodup->fl.Nodup->(∀x,x∈fl->x∈l)->uM P w.T B->
  CN P (gF P po f aU fl w).T/\aF3 P (gF P po f aU fl w).T/\uM P (gF P po f aU fl w).T B/\∀v,∃xs:List Row,((gF P po f aU fl w).T v).aI=xs.foldl List.erase (w.T v).aI
 |0,aU,fl,w,l,hf,hat,_,_,_,_,_,_,_,_=>Y
 |f+1,aU,fl,w,l,hf,hat,hA,hE,hEa,hl,hd1,hd2,hsub,hS=>by
  unfold gF;cases hp:P.cW aU with
  |none=>
   refine⟨hA,λu v FH=> ?_,hS,λv=>⟨[],rfl⟩⟩;grind
  |some up=>
   simp only;by_cases c:fl=[]
   .rw[bR c];refine⟨hA,λu v FH=> ?_,hS,λv=>⟨[],rfl⟩⟩;grind
   .rw[if_neg c];let⟨qL,a⟩:=qs.up aU up hp;let⟨g1,g2,g3,g4,new,g5,g6,i,d⟩:=ZY (qs.aG aU up hp) fl w [] l (hA up a) (hEa up hp) hd1 hd2 hsub;have ho:∀v,v≠up->(jK P po up (P.isSide aU) fl w []).1.T v=w.T v:=λv hv=>xQ _ hv _ _ _;let⟨g,b⟩:=E (jK P po up (P.isSide aU) fl w []);rw[b]at g1 g2 g3 g4 g5 g6 ho;rw[Bv]at g5;rw[b];have A:uM P g.1.T B:=λv hv=>by
     exact ZM70
    have C:CN P g.1.T:=by
     intro v hv;exact ZM150
    have F:∀u v,P.cW u=H v->u≠up->dD (P.spec v) (g.1.T v) (P.isSide u) (g.1.T u).aI:=by
     intro u v FH hu;exact ZM99
    have r:∀v,P.cW up=H v->dD (P.spec v) (g.1.T v) (P.isSide up) (w.T up).aI:=by
     intro v hv;have:=qs.up up v hv;grind
    let⟨j,z,p,y⟩:=Qy qs f up g.2 g.1 (w.T up).aI Y a C F r (by rw[g6,g5]) (hA up a).cZ (g5▸i) (g5▸d) A;refine⟨j,z,p,λv=> ?_⟩;let⟨n2,G⟩:=y v;grind
end
end
section
theorem ZM96{P:Prop}(h:P:=by
  by_cases e:v=i
  .subst e;rw[hT];exact⟨hN.cZ.erase r,λh'=>Y,λh'=>Y,hN.z2,hN.z3⟩
  .rw[hO v e];exact h.all v hv):P:=h
theorem ZM106{P:Prop}(h:P:=by
  by_cases e:v=i
  .subst e;rw[hT];exact⟨uC,λh'=>Y,λh'=>Y,hN.z2,hN.z3⟩
  .rw[hO v e];exact h.all v hv):P:=h
theorem ZM142{P:Prop}(h:P:=by
  have:v≠i:=λe=>qs.leaf hk u (e▸FH);rw[hO v this,hO u hu];exact h.aJ u v FH):P:=h
theorem ZM151{P:Prop}(h:P:=by
  rw[hO v (λe=>qs.leaf hk i (e▸hv))];exact h.aJ i v hv):P:=h
structure zJ(P:DS)(T:iX):Prop where
 all:CN P T
 aJ:aF3 P T
 dM:uM P T 512
section
variable{P:DS}{sc IS:Nat->Nat}
theorem wH.leaf(c:wH P sc IS)(b:(P.spec i).aG=1):∀j,P.cW j≠H i:=λj h=>by rcases c.aG j i h with⟨a,_⟩|a<;>omega
theorem wH.o(b:wH P sc IS)(a:P.n<=i):∀j,P.cW j≠H i:=λj h=>by have:=(b.up j i h).2;omega
theorem nw(qs:wH P sc IS){w:kH}(h:zJ P w.T)(l:i<P.n)(hk:(P.spec i).aG=1)(y:(P.spec i).most=512):
  (fU P oj w i po r=(w,[],0,191)/\r∈(w.T i).aI)\/(fU P oj w i po r=(w,[],0,31)/\r∉(w.T i).aI/\O (w.T i).aI=512)\/
  ((fU P oj w i po r).2.2.2=0/\r∉(w.T i).aI/\O (w.T i).aI<512/\zJ P (gF P oj P.n i (fU P oj w i po r).2.1 (fU P oj w i po r).1).T/\((gF P oj P.n i (fU P oj w i po r).2.1 (fU P oj w i po r).1).T i).aI=(w.T i).aI++[r]/\
   (∀j,j≠i->(P.spec j).aG=1->(gF P oj P.n i (fU P oj w i po r).2.1 (fU P oj w i po r).1).T j=w.T j)/\(∀j,P.n<=j->(gF P oj P.n i (fU P oj w i po r).2.1 (fU P oj w i po r).1).T j=w.T j)/\
   ∀v,∃new,((gF P oj P.n i (fU P oj w i po r).2.1 (fU P oj w i po r).1).T v).aI=(w.T v).aI++new):=by
 have hN:=h.all i l;have V:=h.dM i l;by_cases m:r∈(w.T i).aI
 .grind [fU,jA,KJ]
 .by_cases G:O (w.T i).aI=512
  .grind [fU,jA,KJ]
  .refine .inr (.inr ?_);have c:KJ (P.spec i) (w.T i) po r= .ok ({w.T i with aI:=(w.T i).aI++[r]},⟨[r],[r]⟩):=by unfold KJ;rw[bR hk,bD m,bD (y▸G)]
   let⟨L,p,q⟩:=gm (w:=w) c;generalize hd:fU P oj w i po r=d at L p q|-;have hT:d.1.T i={w.T i with aI:=(w.T i).aI++[r]}:=by simp_all [kZ]
   have hO:∀v,v≠i->d.1.T v=w.T v:=λv hv=>by simp_all [nX]
   have uC:((w.T i).aI++[r]).Nodup:=by
    rw[Iy];exact⟨hN.cZ,X,λa ha b S e=>by grind⟩
   have F:CN P d.1.T:=by
    intro v hv;exact ZM106
   have R:∀u v,P.cW u=H v->u≠i->dD (P.spec v) (d.1.T v) (P.isSide u) (d.1.T u).aI:=by
    intro u v FH hu;exact ZM142
   have A:∀v,P.cW i=H v->dD (P.spec v) (d.1.T v) (P.isSide i) (w.T i).aI:=by
    intro v hv;exact ZM151
   have Q:(d.1.T i).aI=(w.T i).aI++d.2.1:=by
    rw[hT,p]
   have z:uM P d.1.T 512:=by
    intro v hv;by_cases e:v=i
    .grind
    .rw[hO v e];exact h.dM v hv
   let⟨x,qL,C,f⟩:=mf qs (B:=512) D P.n i d.2.1 d.1 (w.T i).aI Y l F R A Q z;refine⟨q,m,Y,⟨x,qL,C⟩,?_,λj g N=> ?_,λj g=> ?_,λv=> ?_⟩
   .rw[rH (qs.leaf hk),hT]
   .rw[rH (qs.leaf N),hO j g]
   .rw[rH (qs.o g),hO j Y]
   .let⟨new,W⟩:=f v;grind
theorem Q3(qs:wH P sc IS){w:kH}(h:zJ P w.T)(g:i<P.n)(hk:(P.spec i).aG=1):
  (fU P po w i po r=(w,[],0,192)/\r∉(w.T i).aI)\/
  ((fU P po w i po r).2.2.2=0/\r∈(w.T i).aI/\zJ P (gF P po P.n i (fU P po w i po r).2.1 (fU P po w i po r).1).T/\((gF P po P.n i (fU P po w i po r).2.1 (fU P po w i po r).1).T i).aI=(w.T i).aI.erase r/\
   (∀j,j≠i->(P.spec j).aG=1->(gF P po P.n i (fU P po w i po r).2.1 (fU P po w i po r).1).T j=w.T j)/\(∀j,P.n<=j->(gF P po P.n i (fU P po w i po r).2.1 (fU P po w i po r).1).T j=w.T j)/\
   ∀v,∃xs:List Row,((gF P po P.n i (fU P po w i po r).2.1 (fU P po w i po r).1).T v).aI=xs.foldl List.erase (w.T v).aI):=by
 have hN:=h.all i g;have N:=h.dM i g;by_cases l:r∈(w.T i).aI
 .refine .inr ?_;have a:sU (P.spec i) (w.T i) po r= .ok ({w.T i with aI:=(w.T i).aI.erase r},⟨[r],[r]⟩):=by unfold sU;rw[bR hk,bR l]
  let⟨C,c,m⟩:=My (w:=w) a;generalize hd:fU P po w i po r=d at C c m|-;have hT:d.1.T i={w.T i with aI:=(w.T i).aI.erase r}:=by simp_all [kZ]
  have hO:∀v,v≠i->d.1.T v=w.T v:=λv hv=>by simp_all [nX]
  have z:CN P d.1.T:=by
   intro v hv;exact ZM96
  have L:∀u v,P.cW u=H v->u≠i->dD (P.spec v) (d.1.T v) (P.isSide u) (d.1.T u).aI:=by
   intro u v FH hu;exact ZM142
  have x:∀v,P.cW i=H v->dD (P.spec v) (d.1.T v) (P.isSide i) (w.T i).aI:=by
   intro v hv;exact ZM151
  have qL:(d.1.T i).aI=d.2.1.foldl List.erase (w.T i).aI:=by
   rw[hT,c];rfl
  have q:uM P d.1.T 512:=by
   intro v hv;by_cases e:v=i
   .grind
   .rw[hO v e];exact h.dM v hv
  let⟨p,A,y,G⟩:=Qy qs (B:=512) P.n i d.2.1 d.1 (w.T i).aI Y g z L x qL hN.cZ (by rw[c];simp) GJ q;refine⟨m,l,⟨p,A,y⟩,?_,λj b F=> ?_,λj b=> ?_,λv=> ?_⟩
  .rw[rH (qs.leaf hk),hT]
  .rw[rH (qs.leaf F),hO j b]
  .rw[rH (qs.o b),hO j Y]
  .let⟨xs,f⟩:=G v;grind
 grind [fU,jA,sU]
end
end
section
section
variable{P:DS}{sc IS:Nat->Nat}{hit:Nat->Bool}{rowOf:Nat->Option Row}
end
end
variable{l:List ES}{es:List Nat}{V:Nat}
def eU(ns:List aX)(i:Nat):aX:=ep ns i qc
structure aA0(V:Nat)(ns:List aX)(m j:Nat):Prop where
 vars:∃s,s<2^V/\(eU ns j).vars=cD s
 leaf:(eU ns j).aG=1↔j<m
 o7:j<m->(eU ns j).o7=j
 MJ:(eU ns j).aG=2->∃s t,s<2^V/\t<2^V/\(eU ns j).vars=cD s/\(eU ns (eU ns j).cB).vars=cD t/\part s t=oj/\s≠t
 V3:(eU ns j).aG=3->∃s t,s<2^V/\t<2^V/\(eU ns j).vars=cD s/\(eU ns (eU ns j).cB).vars=cD s/\(eU ns (eU ns j).bK).vars=cD t/\part t s=oj
 apart:(eU ns j).aG=3->(eU ns j).cB≠(eU ns j).bK
structure Ob(V m:Nat)(b:sM)(l:List ES):Prop where
 inj:∀e e',e∈nK l->e'∈nK l->ep b.2 e 0=ep b.2 e' 0->e=e'
 free:∀e,e∈nK l->∀j,j<O b.1->dV (eU b.1 j) (ep b.2 e 0)=po
 Jb:∀j j' i,j<O b.1->j'<O b.1->dV (eU b.1 j) i=oj->dV (eU b.1 j') i=oj->j=j'
 vars:∀x,x∈l->(eU b.1 (ep b.2 x.1 0)).vars=cD x.2
 JG:∀j,j<O b.1->aA0 V b.1 m j
 DA:m<=O b.1
 sm:∀x,x∈l->x.2<2^V
theorem lN(ns:List aX)(x:aX)(i:Nat):eU (ns++[x]) i=if i=O ns then x else eU ns i:=ZZ
theorem aA0.wN{ns:List aX}{m:Nat}(h:aA0 V ns m j)(d:lJ ns)(c:j<O ns)(x:aX):aA0 V (ns++[x]) m j:=by
 have a:eU (ns++[x]) j=eU ns j:=by rw[lN,bD (by omega)]
 obtain⟨-,b2,e⟩:=d j c;refine⟨a▸h.vars,a▸h.leaf,a▸h.o7,?_,?_,a▸h.apart⟩
 .rw[a];intro b;have:(eU ns j).cB<j:=b2 (by grind [eU]);rw[lN,bD (by omega)];exact h.MJ b
 .rw[a];intro b;have g:(eU ns j).cB<j:=b2 (by grind [eU]);have i:(eU ns j).bK<j:=e b;rw[lN,lN,bD (by omega),bD (by omega)];exact h.V3 b
theorem iM{n:aX}:dV n i=oj↔((n.aG=2\/n.aG=3)/\n.cB=i)\/(n.aG=3/\n.bK=i):=by
 grind [dV]
theorem S4(a b:Nat):part (fD a b) a=oj:=kR.2 λv hv=>by
 grind [cI]
theorem mh{a:Nat}(h:part a b=oj)(c:b<2^V):a<2^V:=by
 refine Nat.lt_pow_two_of_testBit a λi d=> ?_;grind [kR,Nat.testBit_lt_two_pow,Nat.lt_of_lt_of_le,Nat.pow_le_pow_right]
theorem aGx{a:Nat}{dg:Nat}(d:c=sP l dg (e,a))(b:c≠0):fD a c≠a:=by
 let⟨v,hv⟩:=CB b;grind [cI,sP]
theorem Ob.step{dg m M W:Nat}{b:sM}(h:Ob V m b l)(d:F2 dg b l M W)(pa:Int){k:Nat}{s:cT}(hn:next l k=H s):Ob V m (gB pa b l s) (make l s):=by
 have pO:=iK d.nd hn;obtain⟨hk,v,hi⟩:=pO.mem;have CX:∀e,e∈nK l->ep b.2 e 0<O b.1:=λe T=>d.ok.GV e (d.pm▸d.xb e T);have Z0:s.bP<O b.2:=d.pm▸d.xb _ v;let⟨t,o⟩:=pN.1 v;have vS:=FA d.nd o;have aYK:=h.sm _ o;by_cases z:s.aG=1
 ·
  have hb:gB pa b l s=(b.1++[⟨2,0,cD (fD (FB l s.bP) s.cut),ep b.2 s.bP 0,0,pa,po⟩],b.2.set s.bP (O b.1)):=by unfold gB;rw[bR z]
  obtain⟨t',Xn,hcut,NF⟩:∃t',(s.bP,t')∈l/\s.cut=sP l k (s.bP,t')/\s.cut≠0:=by
   rcases pO with⟨-,h0,t',Xn,hcut,NF⟩|⟨CQ,_⟩
   .grind
   .omega
  obtain rfl:=GR d.nd o Xn;rw[hb,vS];have G:=tJ (l:=l) z;have q:∀e,ep (b.2.set s.bP (O b.1)) e 0=if e=s.bP then O b.1 else ep b.2 e 0:=λe=>by
   grind
  refine⟨λe f n N A=> ?_,λe n j g=> ?_,λj L i g Q c1 c2=> ?_,λx a=> ?_,λj g=> ?_,by simp;have:=h.DA;omega,?_⟩
  .rw[G]at n N;dsimp only at A;rw[q,q]at A;by_cases p:e=s.bP<;>by_cases e2:f=s.bP
   .rw[p,e2]
   .grind
   .grind
   .rw[if_neg p,if_neg e2]at A;exact h.inj e f n N A
  .rw[G]at n;dsimp only at g|-;rw[q,lN];rw[F5,Xd]at g;by_cases w:j=O b.1
   .rw[bR w];by_cases r:e=s.bP
    .grind [iM]
    .rw[bD r];have:ep b.2 s.bP 0≠ep b.2 e 0:=λa=>r (h.inj _ _ v n a).symm;grind [iM]
   .rw[bD w];by_cases r:e=s.bP
    .rw[bR r];obtain⟨-,b2,b3⟩:=d.ok.below j Y;grind [iM,eU]
    .rw[bD r];exact h.free e n j Y
  .dsimp only at g Q c1 c2;rw[F5,Xd]at g Q;rw[lN]at c1 c2;by_cases p:j=O b.1<;>by_cases e2:L=O b.1
   .rw[p,e2]
   .rw[bR p]at c1;rw[bD e2]at c2;have AZ:ep b.2 s.bP 0=i:=by grind [dV]
    rw[<-AZ,h.free _ v L Y]at c2;cases c2
   .rw[bD p]at c1;rw[bR e2]at c2;have AZ:ep b.2 s.bP 0=i:=by grind [dV]
    rw[<-AZ,h.free _ v j Y]at c1;cases c1
   .rw[bD p]at c1;rw[bD e2]at c2;exact h.Jb j L i Y Y c1 c2
  .dsimp only;unfold make at a;rw[bR z]at a;obtain⟨y,F,rfl⟩:=BB.1 a;by_cases u:y.1=s.bP
   .rw[bR u];dsimp only;rw[q,bR u,lN,bR rfl];have:y.2=t:=GR d.nd (show(s.bP,y.2)∈l by rw[<-u];exact F) o;rw[this]
   .rw[bD u,q,bD u,lN,bD (by grind [pN])];exact h.vars y F
  .dsimp only at g|-;rw[F5,Xd]at g;by_cases w:j=O b.1
   .have GC:=CX s.bP v;have hv:=h.vars _ o;have T:=h.DA;have B:eU (b.1++[⟨2,0,cD (fD t s.cut),ep b.2 s.bP 0,0,pa,po⟩]) j=⟨2,0,cD (fD t s.cut),ep b.2 s.bP 0,0,pa,po⟩:=by rw[lN,bR w]
    have a7E:=mh (S4 t s.cut) aYK;refine⟨?_,?_,?_,?_,?_,?_⟩
    .grind
    .rw[B];simp;omega
    .intro h';omega
    .grind [S4,aGx,lN]
    .grind
    grind
   .exact(h.JG j Y).wN d.ok.below Y _
  .intro x a;unfold make at a;rw[if_pos z]at a;obtain⟨y,F,rfl⟩:=BB.1 a;by_cases u:y.1=s.bP
   .rw[bR u];exact mh (S4 y.2 s.cut) (h.sm y F)
   .rw[bD u];exact h.sm y F
 ·
  have hb:gB pa b l s=(b.1++[⟨3,0,cD (FB l s.eK),ep b.2 s.eK 0,ep b.2 s.bP 0,pa,po⟩],b.2.set s.eK (O b.1)):=by unfold gB;rw[bD z]
  obtain⟨S,dW,-⟩:=hi z;have Lp:s.eK<O b.2:=d.pm▸d.xb _ S;obtain⟨a',C,P,R,aRc⟩:∃a' C,(s.bP,a')∈l/\(s.eK,C)∈l/\part a' C=oj:=by
   rcases pO with⟨CQ,_⟩|⟨-,-,-,a',C,P,R,aRc⟩
   .omega
   grind
  obtain rfl:=GR d.nd o P;have aR3:=FA d.nd R;have a74:=h.sm _ R;rw[hb,aR3];have G:=qG (l:=l) z;have q:∀e,ep (b.2.set s.eK (O b.1)) e 0=if e=s.eK then O b.1 else ep b.2 e 0:=λe=>by
   grind
  have qL:∀e,e∈nK (make l s)->e∈nK l/\e≠s.bP:=λe T=>by
   grind
  refine⟨λe f n N A=> ?_,λe n j g=> ?_,λj L i g Q c1 c2=> ?_,λx a=> ?_,λj g=> ?_,by simp;have:=h.DA;omega,?_⟩
  .obtain⟨n,-⟩:=qL e n;obtain⟨N,-⟩:=qL f N;dsimp only at A;rw[q,q]at A;by_cases p:e=s.eK<;>by_cases e2:f=s.eK
   .rw[p,e2]
   .grind
   .grind
   .rw[if_neg p,if_neg e2]at A;exact h.inj e f n N A
  .let⟨n,h1'⟩:=qL e n;dsimp only at g|-;rw[q,lN];rw[F5,Xd]at g;by_cases w:j=O b.1
   .rw[bR w];by_cases r:e=s.eK
    .grind [iM]
    .rw[bD r];have n1:ep b.2 s.eK 0≠ep b.2 e 0:=λa=>r (h.inj _ _ S n a).symm;have n2:ep b.2 s.bP 0≠ep b.2 e 0:=λa=>h1' (h.inj _ _ v n a).symm;grind [iM]
   .rw[bD w];by_cases r:e=s.eK
    .rw[bR r];obtain⟨-,b2,b3⟩:=d.ok.below j Y;grind [iM,eU]
    .rw[bD r];exact h.free e n j Y
  .dsimp only at g Q c1 c2;rw[F5,Xd]at g Q;rw[lN]at c1 c2;have gH:∀y,dV (⟨3,0,cD C,ep b.2 s.eK 0,ep b.2 s.bP 0,pa,po⟩:aX) i=oj->y<O b.1->dV (eU b.1 y) i=oj->False:=λy c F c'=>by
    rw[iM]at c;dsimp only at c;rcases c with⟨_,c⟩|⟨_,c⟩
    .rw[<-c,h.free _ S y F]at c';cases c'
    .rw[<-c,h.free _ v y F]at c';cases c'
   by_cases p:j=O b.1<;>by_cases e2:L=O b.1
   .rw[p,e2]
   .grind
   .grind
   .rw[if_neg p]at c1;rw[bD e2]at c2;exact h.Jb j L i Y Y c1 c2
  .dsimp only;unfold make at a;rw[bD z]at a;obtain⟨uV,-⟩:=T8.1 a;by_cases u:x.1=s.eK
   .rw[q,bR u,lN,bR rfl];have:x.2=C:=GR d.nd (show(s.eK,x.2)∈l by grind) R;rw[this]
   .rw[q,bD u,lN,bD (by grind [pN])];exact h.vars x uV
  .dsimp only at g|-;rw[F5,Xd]at g;by_cases w:j=O b.1
   .have GC:=CX s.eK S;have a6x:=CX s.bP v;have hv:=h.vars _ R;have EZ:=h.vars _ o;have T:=h.DA;have B:eU (b.1++[⟨3,0,cD C,ep b.2 s.eK 0,ep b.2 s.bP 0,pa,po⟩]) j=⟨3,0,cD C,ep b.2 s.eK 0,ep b.2 s.bP 0,pa,po⟩:=by rw[lN,bR w]
    refine⟨?_,?_,?_,?_,?_,?_⟩
    .grind
    .rw[B];simp;omega
    .intro h';omega
    .grind
    .grind [lN]
    .rw[B];intro _;exact λa=>dW (h.inj _ _ S v a)
   .exact(h.JG j Y).wN d.ok.below Y _
  .intro x a;unfold make at a;rw[bD z]at a;exact h.sm x (T8.1 a).1
theorem C6{α:Type}(f:Nat->α)(d:α)(h:i<n):ep ((List.range n).map f) i d=f i:=by
 grind
theorem Ob.cN(pa:Int)(hs:∀s,s∈es->s<2^V):Ob V (O es) (cN pa es) (bW es):=by
 have m:∀i,i<O es->eU (Go.Proofs.YtbcooplfakebmaaGreatDoor.cN pa es).1 i=⟨1,i,cD (ep es i 0),0,0,pa,po⟩:=λi p=>C6 _ _ p;have l:∀i,i<O es->ep (Go.Proofs.YtbcooplfakebmaaGreatDoor.cN pa es).2 i 0=i:=λi p=>by
  show(List.range (O es)).getD i 0=i;grind
 have hl:O (Go.Proofs.YtbcooplfakebmaaGreatDoor.cN pa es).1=O es:=by simp[Go.Proofs.YtbcooplfakebmaaGreatDoor.cN]
 have d:∀e,e∈nK (bW es)->e<O es:=λe v=>by grind [xL]
 have r:∀j i,j<O es->dV (eU (Go.Proofs.YtbcooplfakebmaaGreatDoor.cN pa es).1 j) i=po:=λj i a=>by rw[m j a];rfl
 refine⟨λe n b g u=> ?_,λe b j a=>r _ _ (hl▸a),λj w i a y c1 _=> ?_,λx q=> ?_,λj a=> ?_,Nat.le_of_eq hl.symm,λx q=> ?_⟩
 .rwa[l e (d e b),l n (d n g)]at u
 .grind
 .let⟨b,g⟩:=oT.1 (show(x.1,x.2)∈_ from q);rw[l _ b,m _ b,g]
 .rw[hl]at a;have c:=m j a;refine⟨?_,?_,?_,?_,?_,?_⟩
  .grind [List.getElem_mem]
  .rw[c];simp[a]
  .intro _;rw[c]
  .grind
  .grind
  grind
 grind [oT,List.getElem_mem]
theorem Ob.qB{m:Nat}{b:sM}(h:Ob V m b l)(hd:(nK l).Nodup):Ob V m (b.1,l.map λx=>ep b.2 x.1 0) (qB l):=by
 have d:∀e,e∈nK (Go.Proofs.YtbcooplfakebmaaGreatDoor.qB l)->e<O l:=λe g=>by unfold Go.Proofs.YtbcooplfakebmaaGreatDoor.qB at g;rw[xL,sN]at g;simpa using g
 have i:∀e (g:e<O l),ep (l.map λx=>ep b.2 x.1 0) e 0=ep b.2 l[e].1 0:=λe g=>by
  grind
 have q:∀e (g:e<O l),l[e].1∈nK l:=λe g=>BB.2 ⟨_,kt g,rfl⟩;refine⟨λe n a c p=> ?_,λe a j u=> ?_,h.Jb,λx r=> ?_,h.JG,h.DA,λx r=> ?_⟩
 .dsimp only at p;have a:=d e a;have c:=d n c;rw[i e a,i n c]at p;have:=h.inj _ _ (q e a) (q n c) p;have v:(l.map (·.1)).Nodup:=hd;exact(List.getElem_inj (h₀:=by simpa using a) (h₁:=by simpa using c) v).1 (by simpa using this)
 .dsimp only;rw[i e (d e a)];exact h.free _ (q e (d e a)) j u
 .let⟨a,c⟩:=oT.1 (show(x.1,x.2)∈_ from r);rw[sN]at a;dsimp only;rw[i _ a,h.vars _ (kt a),c];grind
 .let⟨a,c⟩:=oT.1 (show(x.1,x.2)∈_ from r);rw[List.length_map]at a;rw[c,iB,Pm,kX a];exact h.sm _ (kt a)
theorem Ob.cX{dg m M W:Nat}(pa:Int):∀(n:Nat) (b:sM) (l:List ES) (c:sM) (k:List ES),Ob V m b l->F2 dg b l M W->cX pa dg n b l=H (c,k)->Ob V m c k
 |0,b,l,c,k,h,hM,e=>by
  unfold Go.Proofs.YtbcooplfakebmaaGreatDoor.cX at e;split at e
  .injection e with e;injection e with e1 e2;subst e1 e2;exact h
  .cases e
 |n+1,b,l,c,k,h,hM,e=>by
  unfold Go.Proofs.YtbcooplfakebmaaGreatDoor.cX at e;split at e
  .injection e with e;injection e with e1 e2;subst e1 e2;exact h
  .cases a:next l dg with
   |none=>rw[a]at e;cases e
   |some s=>rw[a]at e;exact Ob.cX pa n _ _ c k (h.step hM pa a) (hM.step pa a) e
theorem Ob.fC{dg m M W:Nat}(pa:Int):∀(n:Nat) (b:sM) (l:List ES),Ob V m b l->F2 dg b l M W->Ob V m (fC pa n b l).1 (fC pa n b l).2
 |0,b,l,h,_=>h
 |n+1,b,l,h,hM=>by
  unfold Go.Proofs.YtbcooplfakebmaaGreatDoor.fC;cases a:next l 0 with
  |none=>exact h
  |some s=>exact Ob.fC pa n _ _ (h.step hM pa a) (hM.step pa a)
variable{vB:List Nat}
section
theorem ZM80{P:Prop}(h:P:=by
  rw[List.nodup_cons]at hd;have hx:=h x X;have h4:=ih (m:=m.erase x) hd.2 λy hy=>(List.mem_erase_of_ne (λe=>by grind)).2 (h y (by simp[hy]));grind):P:=h
def iD(vs vB:List Nat):List Nat:=vs.map λv=>vB.idxOf v
def eP(p:zY)(i:Nat):mC:=
 let n:=eU p.aK i
 {aG:=n.aG,inW:=if n.aG=2 then(eU p.aK n.cB).vars.length else O n.vars,dg:=if n.aG=2 then iD n.vars (eU p.aK n.cB).vars else[],
  bK:=if n.aG=3 then iD (eU p.aK n.bK).vars n.vars else[],
  up:=if n.bU<0 then[]else iD (if(eU p.aK n.bU.toNat).aG=2 then(eU p.aK n.bU.toNat).vars else n.vars) n.vars,most:=if n.aG=1 then 512 else 65536}
def bJ(p:zY):DS:=
 {n:=O p.aK,spec:=eP p,cW:=λi=>if i<O p.aK/\0<=(eU p.aK i).bU then H (eU p.aK i).bU.toNat else K,
  isSide:=λi=>decide (0<=(eU p.aK i).bU)&&((eU p.aK (eU p.aK i).bU.toNat).aG==3&&(eU p.aK (eU p.aK i).bU.toNat).bK==i)}
structure gY(V m:Nat)(p:zY):Prop where
 below:lJ p.aK
 JG:∀j,j<O p.aK->aA0 V p.aK m j
 DA:m<=O p.aK
 aXb:∀i,i<O p.aK->(eU p.aK i).bU<0->∀j,j<O p.aK->dV (eU p.aK j) i=po
 aG6:∀i,i<O p.aK->0<=(eU p.aK i).bU->∃j,j<O p.aK/\(eU p.aK i).bU=(j:Int)/\dV (eU p.aK j) i=oj
 Jb:∀j j' i,j<O p.aK->j'<O p.aK->dV (eU p.aK j) i=oj->dV (eU p.aK j') i=oj->j=j'
theorem OD(f:Nat->Bool):∀n,((List.range n).foldl (λp j=>if f j then(j:Int)else p) (-1)<0/\∀j,j<n->f j=po)\/∃j,j<n/\(List.range n).foldl (λp j=>if f j then(j:Int)else p) (-1)=(j:Int)/\f j=oj
 |0=> .inl ⟨X,λ_ h=>dS h (Yk _)⟩
 |n+1=>by
  rw[Yl,kr,List.foldl_cons,List.foldl_nil];cases d:f n with
  |true=>grind
  |false=>
   simp only[Bool.false_eq_true,if_false];rcases OD f n with⟨a,b⟩|⟨j,a,b,c⟩
   .grind
   grind
theorem gY.of{V m:Nat}{ns:List aX}(u:lJ ns)(x:∀j,j<O ns->aA0 V ns m j)(B:∀j a i,j<O ns->a<O ns->dV (eU ns j) i=oj->dV (eU ns a) i=oj->j=a)(v:m<=O ns)(low:Nat)(tops:List Nat)(p:zY)(w:p.aK=oJ ns low tops):gY V m p:=by
 have hl:O p.aK=O ns:=by grind [DJ]
 have ha:jT ns p.aK:=by grind [C2]
 have n:∀i,(eU p.aK i).aG=(eU ns i).aG/\(eU p.aK i).o7=(eU ns i).o7/\(eU p.aK i).vars=(eU ns i).vars/\(eU p.aK i).cB=(eU ns i).cB/\(eU p.aK i).bK=(eU ns i).bK:=λi=>by
  have:=ha.aU i;grind [core,eU]
 have l:∀j i,dV (eU p.aK j) i=dV (eU ns j) i:=λj i=>by
  let⟨a1,a2,a3,a4,a5⟩:=n j;unfold dV;rw[a1,a4,a5]
 have q:∀i,i<O ns->(eU p.aK i).bU=nF ns i:=λi b=>by
  rw[w];unfold oJ;show(eU ((List.range (O ns)).map _) i).bU=_;unfold eU;rw[C6 _ _ b]
 refine⟨u.Ie ha,λj d=> ?_,by rw[hl];exact v,λi b g j d=> ?_,λi b g=> ?_,λj a i d C e c=> ?_⟩
 .rw[hl]at d;let⟨z,A,y,F,f5,f6⟩:=x j d;let⟨a1,a2,a3,a4,a5⟩:=n j;refine⟨by rw[a3];exact z,by rw[a1];exact A,by rw[a2];exact y,?_,?_,Y⟩
  .grind
  grind
 .rw[hl]at b d;rw[q i b]at g;rw[l];rcases OD (λj=>dV (eU ns j) i) (O ns) with⟨-,c⟩|⟨a,e,c,r⟩
  .exact c j d
  .have:nF ns i=(a:Int):=c;omega
 .rw[hl]at b;rw[q i b]at g|-;rcases OD (λj=>dV (eU ns j) i) (O ns) with⟨e,-⟩|⟨a,e,c,r⟩
  .have:nF ns i<0:=e;omega
  .exact⟨a,Y,c,by rw[l];exact r⟩
 grind
section
variable{V m:Nat}{p:zY}
theorem gY.aCI(h:gY V m p){u v:Nat}(a:(bJ p).cW u=H v):u<O p.aK/\v<O p.aK/\(eU p.aK u).bU=(v:Int)/\dV (eU p.aK v) u=oj:=by
 simp only[bJ]at a;split at a
 .rename_i b;injection a with a;let⟨j,d,e,c⟩:=h.aG6 u b.1 b.2;grind
 .cases a
theorem gY.aJ1(h:gY V m p){u v:Nat}(b:u<O p.aK)(hv:v<O p.aK)(a:dV (eU p.aK v) u=oj):(bJ p).cW u=H v/\(eU p.aK u).bU=(v:Int):=by
 have c:0<=(eU p.aK u).bU:=by
  rcases Int.lt_or_le (eU p.aK u).bU 0 with i|g
  .rw[h.aXb u b i v hv]at a;cases a
  .exact g
 let⟨j,e,l,d⟩:=h.aG6 u b c;obtain rfl:=h.Jb j v u e hv d a;grind [bJ]
theorem gY.PF{u v:Nat}(a:(eU p.aK u).bU=(v:Int)):(bJ p).isSide u=((eU p.aK v).aG==3&&(eU p.aK v).bK==u):=by
 grind [bJ]
theorem gY.lt(h:gY V m p){u v:Nat}(hv:v<O p.aK)(a:dV (eU p.aK v) u=oj):u<v:=by
 let⟨c,b2,b⟩:=h.below v hv;grind [iM,eU]
theorem gY.oJ(h:gY V m p):wH (bJ p) (λv=>(eU p.aK v).cB) (λv=>(eU p.aK v).bK):=by
 have j:∀v,(bJ p).spec v=eP p v:=λ_=>rfl;have g:∀v,(eP p v).aG=(eU p.aK v).aG:=λ_=>rfl;have r:∀u v,(bJ p).cW u=H v->(if(bJ p).isSide u=oj then(eU p.aK v).aG=3/\u=(eU p.aK v).bK else((eU p.aK v).aG=2\/(eU p.aK v).aG=3)/\u=(eU p.aK v).cB):=λu v a=>by
  let⟨z,d,y,i⟩:=h.aCI a;grind [gY.PF,iM]
 refine⟨λu v a=> ?_,λu v a=> ?_,λu v a=> ?_,λv hv q=> ?_,λv hv e=> ?_,λv hv q=> ?_⟩
 .let⟨z,d,y,i⟩:=h.aCI a;exact⟨h.lt d i,d⟩
 .grind
 .grind
 .rw[j,g]at q;have A:(eU p.aK v).aG=1\/(eU p.aK v).aG=2\/(eU p.aK v).aG=3:=(h.below v hv).1;have c:dV (eU p.aK v) (eU p.aK v).cB=oj:=iM.2 (.inl ⟨by omega,rfl⟩);have x:=h.lt hv c;have w:v<O p.aK:=hv;let⟨n,l⟩:=h.aJ1 (by omega) hv c;refine⟨n,?_⟩;rw[gY.PF l];rw[Bool.eq_false_iff,ne_eq];simp only[Xb,JY];rintro⟨c1,c2⟩;exact(h.JG v hv).apart c1 c2.symm
 .rw[j,g]at e;have c:dV (eU p.aK v) (eU p.aK v).bK=oj:=iM.2 (.inr ⟨e,rfl⟩);have x:=h.lt hv c;have w:v<O p.aK:=hv;let⟨n,l⟩:=h.aJ1 (by omega) hv c;grind [gY.PF]
 grind [eP]
theorem gY.cN(h:gY V m p):∀i,i<m->i<(bJ p).n/\((bJ p).spec i).aG=1/\((bJ p).spec i).most=512:=λi b=>by
 have a:=wM b h.DA;have c:=(h.JG i a).leaf.2 b;refine⟨a,c,?_⟩;show(eP p i).most=512;unfold eP;simp only;rw[bR c]
end
def yH(fE:List Nat)(w:Nat):Prop:=fE.Pairwise (·<·)/\∀c∈fE,c<w
theorem nZ(s:Nat):(cD s).Pairwise (·<·):=(List.pairwise_lt_range (n:=32)).filter _
theorem mG{s v:Nat}:v∈cD s↔v<32/\s.testBit v=oj:=by unfold cD;simp
theorem BX:∀{l:List Nat},l.Pairwise (·<·)->∀{a b:Nat},a∈l->b∈l->a<b->l.idxOf a<l.idxOf b
 |[],_,_,_,h,_,_=>by cases h
 |x::l,hp,a,b,ha,hb,hab=>by
  rw[List.pairwise_cons]at hp;rw[List.idxOf_cons,List.idxOf_cons];by_cases g:x=a
  .grind
  .have c:a∈l:=by grind
   have e2:x≠b:=λe=>by grind
   have d:b∈l:=by grind
   have:=BX hp.2 c d hab;grind
theorem yJ{vs:List Nat}(e:vs.Pairwise (·<·))(g:vB.Pairwise (·<·))(h:∀v∈vs,v∈vB):yH (iD vs vB) (O vB):=by
 constructor
 .unfold iD;rw[List.pairwise_map];exact e.imp_of_mem λ{a b} ha hb hab=>BX g (h a ha) (h b hb) hab
 .intro c d;obtain⟨v,hv,rfl⟩:=BB.1 d;grind
theorem PE{l m:List Nat}(b:l.Nodup)(d:∀x,x∈l->x∈m){y:Nat}(hy:y∈m)(a:y∉l):O l<O m:=by
 have:(y::l).Nodup:=Fa.2 ⟨a,b⟩;have c:∀{l m:List Nat},l.Nodup->(∀x,x∈l->x∈m)->O l<=O m:=λ{l}=>by
  induction l with
  |nil=>grind
  |cons x l ih=>
   intro m hd h;exact ZM80
 grind
structure ON(s:mC):Prop where
 aG:s.aG=1\/s.aG=2\/s.aG=3
 dg:if s.aG=2 then yH s.dg s.inW/\O s.dg<s.inW else s.dg=[]
 bK:if s.aG=3 then yH s.bK s.inW else s.bK=[]
 inW:s.inW<=30
 most:1<=s.most/\s.most<=65536
 up:yH s.up s.bL
theorem BS{V s:Nat}(c:V<=30)(h:s<2^V):O (cD s)<=30:=by
 have b:(cD s).Nodup:=(nZ s).imp λh=>Nat.ne_of_lt h;have a:∀{l m:List Nat},l.Nodup->(∀x,x∈l->x∈m)->O l<=O m:=λ{l}=>by
  induction l with
  |nil=>grind
  |cons x l ih=>
   intro m hd h;exact ZM80
 have:=a (m:=List.range V) b λv hv=>by
  grind [mG,Nat.testBit_lt_two_pow,Nat.lt_of_lt_of_le,Nat.pow_le_pow_right]
 grind
theorem vM(vs vB:List Nat):O (iD vs vB)=O vs:=by unfold iD;simp
theorem gY.aBq{V m:Nat}{p:zY}(f:V<=30)(h:gY V m p){v:Nat}(hv:v<O p.aK):ON (eP p v):=by
 have c:=h.JG v hv;obtain⟨R,B,w⟩:=c.vars;have r:(eP p v).aG=(eU p.aK v).aG:=rfl;have l:(eP p v).bL=O (eU p.aK v).vars:=by
  grind [mC.bL,eP,vM]
 refine⟨(h.below v hv).1,?_,?_,?_,?_,?_⟩
 .by_cases a:(eU p.aK v).aG=2
  .rw[bR (r▸a)];let⟨s,t,hs,g,d,e2,b,n⟩:=c.MJ a;have q:∀x∈cD s,x∈cD t:=λx A=>by
    grind [mG,kR]
   unfold eP;simp only;rw[bR a,bR a,d,e2];refine⟨yJ (nZ s) (nZ t) q,?_⟩;rw[vM];have e:part t s=po:=by
    cases A:part t s with
    |false=>rfl
    |true=>exact dS (Fb λi=>by
      grind [kR]) n
   let⟨y,G,N⟩:=Rn e;have z:y<32:=by
    grind [Nat.testBit_lt_two_pow,Nat.lt_of_lt_of_le,Nat.pow_le_pow_right]
   exact PE ((nZ s).imp λh=>Nat.ne_of_lt h) q (mG.2 ⟨z,G⟩) (λL=>by grind [mG])
  grind [eP]
 .by_cases u:(eU p.aK v).aG=3
  .rw[bR (r▸u)];let⟨s,t,hs,g,d,e2,Q,b⟩:=c.V3 u;grind [eP,yJ,nZ,mG,kR]
  grind [eP]
 .unfold eP;simp only;by_cases a:(eU p.aK v).aG=2
  .rw[bR a];let⟨s,t,hs,g,d,e2,b,n⟩:=c.MJ a;grind [BS]
  grind [BS]
 .unfold eP;simp only;split<;>omega
 .rw[l];unfold eP;simp only;by_cases b:(eU p.aK v).bU<0
  .rw[bR b];exact⟨List.Pairwise.nil,X⟩
  .rw[bD b];let⟨j,C,qL,P⟩:=h.aG6 v hv Y;have k:(eU p.aK v).bU.toNat=j:=Y;rw[k];by_cases a:(eU p.aK j).aG=2
   .rw[bR a];let⟨s,t,hs,g,d,e2,b,n⟩:=(h.JG j C).MJ a;grind [iM,yJ,nZ,mG,kR]
   grind [yJ,nZ]
end
variable{aI aJb:List Row}{lb rb x τ:Nat}
def jk(w:aA)(ρ:aW)(tO t:Nat)(v:aF)(m:SV):Prop:=∃fv tv,v= .agg #[fv,tv]/\iN w ρ tO t fv m.kK/\iN w ρ tO t tv m.touched
theorem jk.dg{t:Nat}{m:SV}{S:Nat->Prop}(h:jk w ρ tO t v m)(a:bA w ρ S w' bN)(b:¬S tO)(c:¬S t):jk w' bN tO t v m:=by
 obtain⟨fv,tv,e,g,d⟩:=h;exact⟨fv,tv,e,g.dg a b c,d.dg a b c⟩
theorem iN.nil(w:aA)(ρ:aW)(tO t:Nat):iN w ρ tO t (hY K 0 0) []:=⟨[],rfl,mK.nil _ _ _,λi a=>dS a (Yk i)⟩
def W9(w:aA)(ρ:aW)(τ t:Nat)(v:aF)(m:SV):Prop:=
 ∃fv tv t1 t2,v= .agg #[fv,tv]/\(t1=t\/t1=τ+97)/\(t2=t\/t2=τ+98)/\iN w ρ t1 t fv m.kK/\iN w ρ t2 t tv m.touched
theorem jk.toN{t:Nat}{m:SV}(h:jk w ρ t t v m)(τ:Nat):W9 w ρ τ t v m:=by
 obtain⟨fv,tv,e,a,b⟩:=h;exact⟨fv,tv,t,t,e,.inl rfl,.inl rfl,a,b⟩
theorem W9.dg{t:Nat}{m:SV}{S:Nat->Prop}(h:W9 w ρ τ t v m)(b:bA w ρ S w' bN)(a:¬S t)(j:¬S (τ+97))(i:¬S (τ+98)):W9 w' bN τ t v m:=by
 obtain⟨fv,tv,t1,t2,e,c,e2,g,d⟩:=h;exact⟨fv,tv,t1,t2,e,c,e2,g.dg b (by rcases c with rfl|rfl;exact a;exact j) a,d.dg b (by rcases e2 with rfl|rfl;exact a;exact i) a⟩
structure yC(w:aA)(ρ:aW)(τ lb rb:Nat)(s:mC)(aI:List Row)(F G:Nat):Prop where
 ex:∃ka kc sa sc ua uc,w.heap[lb]? =H (h8 #[i6 i7 s.aG,i6 i7 s.inW,hY ka (O s.dg) kc,hY sa (O s.bK) sc,hY ua (O s.up) uc,i6 i7 s.most,h9 (H ⟨rb,0,K⟩)] 130 (0,0))/\
  mK fN 0 1 w ρ τ (hY ka (O s.dg) kc) s.dg/\mK fN 0 1 w ρ τ (hY sa (O s.bK) sc) s.bK
 bT:ρ lb=τ
 Fm:JH w ρ (τ+20) rb s.bL s.most [s.up] aI F G
 ok:ON s
def eZ(τ x:Nat):Prop:=eG (τ+20) x\/eG (τ+40) x\/eG (τ+60) x\/x=τ+1
theorem eZ.not(h:x<τ+1\/τ+100<=x):¬eZ τ x:=by unfold eZ eG;omega
theorem yC.dg{s:mC}{S:Nat->Prop}(h:yC w ρ τ lb rb s aI F G)(a:bA w ρ S w' bN)(b:¬S τ)(j:∀c,c<20->¬S (τ+20+c)):yC w' bN τ lb rb s aI F G:=by
 obtain⟨⟨p,n,m,sc,ua,uc,d,i,hs⟩,e,g,l⟩:=h;exact⟨⟨p,n,m,sc,ua,uc,a.aC d (e▸b),i.dg a b,hs.dg a b⟩,(a.bT _ (cV d)).dd e,g.dg a j,l⟩
theorem yC.vK{s:mC}(h:yC w ρ τ lb rb s aI F G)(a:bA w ρ (eG (τ+20)) w' bN)(l:JH w' bN (τ+20) rb s.bL s.most [s.up] aJb F G):yC w' bN τ lb rb s aJb F G:=by
 obtain⟨⟨m,e,j,sc,ua,uc,c,g,hs⟩,d,n,i⟩:=h;have b:¬eG (τ+20) τ:=by unfold eG;omega
 exact⟨⟨m,e,j,sc,ua,uc,a.aC c (d▸b),g.dg a b,hs.dg a b⟩,(a.bT _ (cV c)).dd d,l,i⟩
theorem mL(t:Nat)(hv:eX dR aP 3 w v r)(hl:O r<=100000):
  aH prog 222 #[v] w λe w'=>∃g,e=i5 (hY (H ⟨g,0,K⟩) 1 1)/\U w [] w' []/\iN w' (up w t ρ) t t (hY (H ⟨g,0,K⟩) 1 1) [r]:=by
 have j:=Z (QS v r w hv hl);obtain⟨va,vc,rfl,-⟩:=hv.len;go_in;go_wp2_with (go_at_call 176;apply j.cF;rintro e w1 ⟨u,rfl,c,b⟩;obtain⟨ua,uc,rfl,-⟩:=c.len);go_ret;have a:U w1 [] (e8 w1 (h8 #[hY ua (O r) uc] 33)) []:=(U.refl w1 []).alloc _;refine⟨_,rfl,b.dd a,[hY ua (O r) uc],rfl,⟨E8 (news:=[hY ua (O r) uc]) (lK w1 _) rfl _ (dH rfl),λ_ k l=>cJ ?_⟩,λi d=> ?_⟩
 .have:hJ w1.heap=k:=by simpa[Value.mN]using l
  have:=b.size;omega
 .obtain rfl:i=0:=eI d;exact((c.jU t ρ).rd).on a
variable{bm g2 g3 kb:Nat}{w3:aA}
theorem ZM168{P:Prop}(h:P:=by
  refine mD (aT (A:=Ad bm 0) (T:=197) rfl Yr (v:=zS) (by go_simp)) rfl ?_;exact⟨dN,q2,rfl,q1⟩):P:=h
theorem ZM165{P:Prop}(h:P:=by
  exact ZM168):P:=h
theorem ZM20{P:Prop}(h:P:=by
  clear l6 k0;have zL:=Z (Np.dg HM (λh=>MG.o (.inl h)));go_wp2_with (first|(go_at_call 222;apply(mL (ρ:=up w1 t dN) t (zL.on jp).1 CL).cF;rintro e w3 ⟨g3,rfl,cU,qR⟩;have Wm:=Z cU;have DW:=Z qR;have sH:=cU.aC (jp.aC jG X) X;obtain⟨z0,z1⟩:=Z2 sH;have zf:=aM sH;have zl:=iO (cV sH);clear cU qR sH)|(go_at_call 222;apply(mL (ρ:=dN) t zL.1 CL).cF;rintro e w2 ⟨g2,rfl,bH,pT⟩;have jp:=Z bH;have DX:=Z pT;clear bH pT));let⟨m3,hMv⟩:=VS jp DX Wm DW.o;have pV:=nV.dg m3 id zE;have yo:=rQ.dd (m3.aN (T:=eZ τ) pW);have JE:=(m3.bT bm (cV jG)).dd sL.o;let⟨q1,q2,q3⟩:=pV.pA yo lC JE (eB g2 0 1 1) (eB g3 0 1 1);refine mD (aT (A:=Ad bm 0) (T:=197) rfl Yr (v:= .agg #[eB g2 0 1 1,eB g3 0 1 1]) (by go_simp)) rfl ?_;exact⟨_,q2,_,rfl,q1,hMv.dg q3 (nA A5.o) (nA A5.o)⟩):P:=h
theorem ZM31{P:Prop}(h:P:=by
  go_in;go_upto_region 2 with(go_at_call 224;apply JI.cF;rintro e w1 ⟨dN,rfl,hM,hS⟩;have HM:=Z hM;have eQ:=hM.aC tQ (by rw[mP.o];unfold eG;omega);have jG:=Z eQ;have sL:=Z ((hM.bT bm (cV tQ)).dd mP);have nV:=Z (EW.vK hM hS);have rQ:=Z ((JU.aN (T:=eZ τ) pW).dd (hM.aN (λ_ h=> .inl h)));clear hM hS eQ);have hB:=jG.o;obtain⟨z0,z1⟩:=Z2 hB;have zf:=aM hB;have zl:=iO (cV hB);clear hB l6 k0;go_wp2;let⟨q1,q2,q3⟩:=nV.pA rQ lC sL cH cH;exact ZM165):P:=h
theorem ZM126{P:Prop}(h:P:=by
  exact ZM165):P:=h
abbrev zS:aF:= .agg #[hY K 0 0,hY K 0 0]
def aEs(w:aA)(ρ:aW)(τ t lb rb:Nat)(s:mC)(F G:Nat)(aI:List Row)(x:Except Nat (List Row×SV))(e:cg)(w':aA):Prop:=
 ∃bN,bA w ρ (eZ τ) w' bN/\match x with
 | .error er=>e=i5 (i8 #[zS,i6 i7 (er:Int)])/\yC w' bN τ lb rb s aI F G
 | .ok (l',m)=>∃mv,e=i5 (i8 #[mv,i6 i7 0])/\yC w' bN τ lb rb s l' F G/\jk w' bN t t mv m
theorem VS{t:Nat}(c:U w1 [] w2 [])(d:iN w2 (up w1 t dN) t t (hY (H ⟨g2,0,K⟩) 1 1) [r])(b:U w2 [] w3 [])(e:iN w3 (up w2 t (up w1 t dN)) t t (hY (H ⟨g3,0,K⟩) 1 1) [r]):
  bA w1 dN eL w3 (up w2 t (up w1 t dN))/\jk w3 (up w2 t (up w1 t dN)) t t (.agg #[hY (H ⟨g2,0,K⟩) 1 1,hY (H ⟨g3,0,K⟩) 1 1]) ⟨[r],[r]⟩:=by
 have g:bA w1 dN eL w2 (up w1 t dN):=c.eW (S:=eL) t (λ_ h=>dS h X);have a:bA w2 (up w1 t dN) eL w3 (up w2 t (up w1 t dN)):=b.eW (S:=eL) t (λ_ h=>dS h X);exact⟨g.dd a,_,_,rfl,d.dg a id id,e⟩
theorem yC.pA{s:mC}(h:yC w1 dN τ lb rb s aI F G)(g:bA w ρ (eZ τ) w1 dN)(b:hJ w.heap<=bm)(d:dN bm=τ+99)(x y:aF):
  yC (ey (ey w1 ⟨bm,0,K⟩ x) ⟨bm,1,K⟩ y) dN τ lb rb s aI F G/\bA w ρ (eZ τ) (ey (ey w1 ⟨bm,0,K⟩ x) ⟨bm,1,K⟩ y) dN/\bA w1 dN (·=τ+99) (ey (ey w1 ⟨bm,0,K⟩ x) ⟨bm,1,K⟩ y) dN:=by
 have e:bA w1 dN (·=τ+99) (ey (ey w1 (Ad bm 0) x) (Ad bm 1) y) dN:=((bA.refl w1 dN _).setCell (a:=Ad bm 0) (.inl d) x).setCell (a:=Ad bm 1) (.inl d) y;exact⟨h.dg e (by show¬_=_;omega) (λc i=>by show¬_=_;omega),(g.setCell (a:=Ad bm 0) (.inr b) x).setCell (a:=Ad bm 1) (.inr b) y,e⟩
theorem aMJ{t tr:Nat}{s:mC}(fr:Int)(h:yC w ρ τ lb rb s aI F G)(B:w.heap[kb]? =H (h8 #[h9 (H ⟨lb,0,K⟩)] 166 (0,0)))(hv:mK dR aP 3 w ρ tr v r)(q:¬eZ τ tr)(a:dI r/\O r=s.bL)(P:F+1<=G)(f:G<=1073741824)(C:t<τ\/τ+100<=t):
  aH prog 264 #[h9 (H ⟨kb,0,K⟩),i6 i7 fr,v] w (aEs w ρ τ t lb rb s F G aI (if r∈aI then .error 191 else if O aI=s.most then .error 31 else .ok (aI++[r],⟨[r],[r]⟩))):=by
 obtain⟨⟨ka,kc,sa,sc,ua,uc,z,d,c⟩,qL,j,N⟩:=h;have Q:=j;obtain⟨va,vc,rfl,-⟩:=hv.len;let⟨wa,W⟩:=E (e8 w (h8 #[cH,cH] 197));have m:=Za W;have y:=Zb W;let⟨bm,JO⟩:=E (hJ w.heap);have g:bA w ρ eL wa (up w (τ+99) ρ):=m.eW (S:=eL) (τ+99) (λ_ h=>dS h X);have u:up w (τ+99) ρ bm=τ+99:=cJ Y;have p:=j.dg g zE;have l:=hv.dg g id;have x:yC wa (up w (τ+99) ρ) τ lb rb s aI F G:=yC.dg ⟨⟨ka,kc,sa,sc,ua,uc,z,d,c⟩,qL,j,N⟩ g id zE;generalize R:up w (τ+99) ρ=ρa at g u p l x;have L:=m.aC z X;have k:=m.aC B X;rw[JO]at y;have l6:=Zc L 6;have k0:=Zc k 0;have JU:=Z g;have mP:=Z u;have jr:=Z p;have Np:=Z l;have EW:=Z x;have tQ:=Z y;have A5:=Z C;have MG:=Z q;have HG:=Z a;have lC:=Z (show hJ w.heap<=bm by omega);have b:=NV p l (λh=>q (.inl h)) a.1.QK P f;by_cases i:r∈aI
 .rw[bR i];rw[show lM s.bL s.most aI r=(po,0,aI) by unfold lM;rw[bD (by simp[a.1.1,a.2]),bR i]]at b;have JI:=Z b;clear z d c qL j N Q hv q a P f C m y g u p l x R L k B b i;exact ZM31
 .rw[bD i];by_cases n:O aI=s.most
  .rw[bR n];rw[show lM s.bL s.most aI r=(po,31,aI) by unfold lM;rw[bD (by simp[a.1.1,a.2]),bD i,bR n]]at b;have JI:=Z b;clear z d c qL j N Q hv q a P f C m y g u p l x R L k B b i n;exact ZM31
  .rw[bD n];rw[show lM s.bL s.most aI r=(oj,0,aI++[r]) by unfold lM;rw[bD (by simp[a.1.1,a.2]),bD i,bD n]]at b;have JI:=Z b;have V:O r<=100000:=nA a.1.len;have CL:=Z V;clear z d c qL j N Q hv q a P f C m y g u p l x R L k B b i n V;go_in;go_upto_region 6 with(go_at_call 224;apply JI.cF;rintro e w1 ⟨dN,rfl,hM,hS⟩;have HM:=Z hM;have eQ:=hM.aC tQ (by rw[mP.o];unfold eG;omega);have jG:=Z eQ;have sL:=Z ((hM.bT bm (cV tQ)).dd mP);have nV:=Z (EW.vK hM hS);have rQ:=Z ((JU.aN (T:=eZ τ) pW).dd (hM.aN (λ_ h=> .inl h)));clear hM hS eQ);exact ZM20
theorem aHB{t tr:Nat}{s:mC}(fr:Int)(h:yC w ρ τ lb rb s aI F G)(N:w.heap[kb]? =H (h8 #[h9 (H ⟨lb,0,K⟩)] 166 (0,0)))(hv:mK dR aP 3 w ρ tr v r)(L:¬eZ τ tr)(b:dI r/\O r=s.bL)(D0:G<=F)(hG:G<1073741824)(P:t<τ\/τ+100<=t):
  aH prog 263 #[h9 (H ⟨kb,0,K⟩),i6 i7 fr,v] w (aEs w ρ τ t lb rb s F G aI (if r∈aI then .ok (aI.erase r,⟨[r],[r]⟩)else .error 192)):=by
 obtain⟨⟨ka,kc,sa,sc,ua,uc,qL,g,d⟩,Q,l,V⟩:=h;have hW:=l;obtain⟨va,vc,rfl,-⟩:=hv.len;let⟨wa,dE⟩:=E (e8 w (h8 #[cH,cH] 197));have p:=Za dE;have k:=Zb dE;let⟨bm,JO⟩:=E (hJ w.heap);have c:bA w ρ eL wa (up w (τ+99) ρ):=p.eW (S:=eL) (τ+99) (λ_ h=>dS h X);have y:up w (τ+99) ρ bm=τ+99:=cJ Y;have u:=l.dg c zE;have m:=hv.dg c id;have B:yC wa (up w (τ+99) ρ) τ lb rb s aI F G:=yC.dg ⟨⟨ka,kc,sa,sc,ua,uc,qL,g,d⟩,Q,l,V⟩ c id zE;generalize nL:up w (τ+99) ρ=ρa at c y u m B;have R:=p.aC qL X;have f:=p.aC N X;rw[JO]at k;have l6:=Zc R 6;have k0:=Zc f 0;have JU:=Z c;have x:=Z y;have jr:=Z u;have Np:=Z m;have EW:=Z B;have C:=Z k;have A5:=Z P;have MG:=Z L;have HG:=Z b;have lC:=Z (show hJ w.heap<=bm by omega);have j:=GQ u m.1 b.1.QK D0 hG;by_cases i:r∈aI
 .rw[bR i];rw[show kD s.bL aI r=(oj,0,aI.erase r) by unfold kD;rw[bD (by simp[b.1.1,b.2]),bR i]]at j;have W:=Z j;have yW:O r<=100000:=nA b.1.len;have CL:=Z yW;clear qL g d Q l V hW hv L b D0 hG P p k c y u m B nL R f N j i yW;go_in;go_upto_region 4 with(go_at_call 221;apply W.cF;rintro e w1 ⟨dN,rfl,a,q⟩;have HM:=Z a;have n:=a.aC C (by rw[x.o];unfold eG;omega);have jG:=Z n;have sL:=Z ((a.bT bm (cV C)).dd x);have nV:=Z (EW.vK a q);have rQ:=Z ((JU.aN (T:=eZ τ) pW).dd (a.aN (λ_ h=> .inl h)));clear a q n);exact ZM20
 .rw[bD i];rw[show kD s.bL aI r=(po,0,aI) by unfold kD;rw[bD (by simp[b.1.1,b.2]),bD i]]at j;have W:=Z j;clear qL g d Q l V hW hv L b D0 hG P p k c y u m B nL R f N j i;go_in;go_upto_region 2 with(go_at_call 221;apply W.cF;rintro e w1 ⟨dN,rfl,a,q⟩;have HM:=Z a;have n:=a.aC C (by rw[x.o];unfold eG;omega);have jG:=Z n;have sL:=Z ((a.bT bm (cV C)).dd x);have nV:=Z (EW.vK a q);have rQ:=Z ((JU.aN (T:=eZ τ) pW).dd (a.aN (λ_ h=> .inl h)));clear a q n);have z:=jG.o;obtain⟨z0,z1⟩:=Z2 z;have zf:=aM z;have zl:=iO (cV z);clear z l6 k0;go_wp2;let⟨q1,q2,q3⟩:=nV.pA rQ lC sL cH cH;exact ZM126
variable{eV:List Row}{db sb:Nat}
structure tN(w:aA)(ρ:aW)(τ kb lb rb sb db:Nat)(s:mC)(aI eV sd:List Row)(F G:Nat):Prop where
 bS:w.heap[kb]? =H (h8 #[h9 (H ⟨lb,0,K⟩),h9 (H ⟨sb,0,K⟩),h9 (H ⟨db,0,K⟩)] 128 (0,0))
 bT:ρ kb=τ
 lv:yC w ρ τ lb rb s aI F G
 eV:JH w ρ (τ+40) sb s.inW s.most [s.bK] eV F G
 sd:JH w ρ (τ+60) db (O s.bK) s.most [] sd F G
theorem tN.dg{s:mC}{sd:List Row}{S:Nat->Prop}(h:tN w ρ τ kb lb rb sb db s aI eV sd F G)(a:bA w ρ S w' bN)(e:¬S τ)(b:∀c,20<=c->c<80->¬S (τ+c)):tN w' bN τ kb lb rb sb db s aI eV sd F G:=
 ⟨a.aC h.bS (h.bT▸e),(a.bT _ (cV h.bS)).dd h.bT,
  h.lv.dg a e (λc d=>by rw[show τ+20+c=τ+(20+c) by omega];exact b _ Y Y),
  h.eV.dg a (λc d=>by rw[show τ+40+c=τ+(40+c) by omega];exact b _ Y Y),
  h.sd.dg a (λc d=>by rw[show τ+60+c=τ+(60+c) by omega];exact b _ Y Y)⟩
theorem tN.on{s:mC}{sd:List Row}(h:tN w ρ τ kb lb rb sb db s aI eV sd F G)(a:U w [] w' L'):tN w' ρ τ kb lb rb sb db s aI eV sd F G:=h.dg (S:=eL) a.fK id (λ_ _ _ h=>h)
theorem nk{s:mC}{sd:List Row}(h:tN w ρ τ kb lb rb sb db s aI eV sd F G)(hv:eX dR aP 3 w v r)(A:O r<=30)(l:∀c∈s.bK,c<O r)(b:O s.bK<=30):
  aH prog 226 #[h9 (H ⟨kb,0,K⟩),v] w λe w'=>∃u,e=i5 u/\bG dR aP 65 3 w w' u (dG r s.bK)/\U w [] w' []:=by
 obtain⟨⟨y,q,f,sc,ua,uc,m,n,a⟩,x,p,C⟩:=h.lv;have j:=h.bS;have i:=(GS v _ r s.bK w hv a.1 b l Y);obtain⟨va,vc,rfl,-⟩:=hv.len;have z:=Zc m 3;have B:=Zc j 0;go_in;go_wp2_with (go_at_call 78;apply i.cF;rintro e w1 ⟨u,rfl,d,g⟩;obtain⟨qL,oc,rfl,-⟩:=d.len);go_ret;exact⟨_,rfl,d,g⟩
section
attribute [local go_sem] Oper.semAt_some
structure aEi(w:aA)(ρ:aW)(τ t kb lb rb sb db:Nat)(s:mC)(st:List Row->Row->List Row)(aI eV sd bV:List Row)(F G bm bx:Nat)(lv:aF)(bX:List aF)(k:Nat)(W:aA)(f7:aW)(fv tv:aF)(v2:List aF):Prop where
 eW:bA w ρ (eZ τ) W f7
 mt:tN W f7 τ kb lb rb sb db s ((bV.take k).foldl st aI) eV sd F G
 bxh:W.heap[bx]? =H (h8 #[fv,tv] 197 (0,0))
 bmh:W.heap[bm]? =H (h8 #[hY K 0 0,hY K 0 0] 197 (0,0))
 bxn:hJ w.heap<=bx/\hJ w.heap<=bm
 zv:f7 bx=τ+99/\f7 bm=τ+95
 aGa:oF ID undef 33 1 W f7 (τ+97) fv (bX.take k)
 aG9:oF ID undef 33 1 W f7 (τ+98) tv v2
 aQx:∀b,gz fv=H b->hJ w.heap<=b
 aQw:∀b,gz tv=H b->hJ w.heap<=b
 Qa:O v2=k
 aB7:∀i,i<k->mK dR aP 3 W f7 t (ep v2 i undef) (ep bV i [])
 nI:mK ID undef 1 W f7 (τ+47) lv bX
 aCb:∀i,i<O bV->mK dR aP 3 W f7 t (ep bX i undef) (ep bV i [])
def Oy(τ x:Nat):Prop:=eG (τ+20) x\/x=τ+97\/x=τ+98\/x=τ+99
def aP8(g rb t τ:Nat)(s:mC)(F G:Nat)(st:List Row->Row->List Row):Prop:=
 ∀(W:aA) (f7:aW) (aI:List Row) (v:aF) (r:Row),JH W f7 (τ+20) rb s.bL s.most [s.up] aI F G->mK dR aP 3 W f7 t v r->dI r/\O r=s.bL->
  aH prog g #[h9 (H ⟨rb,0,K⟩),v] W λe w'=>∃bN x y,e=i5 (i8 #[x,y])/\bA W f7 (eG (τ+20)) w' bN/\JH w' bN (τ+20) rb s.bL s.most [s.up] (st aI r) F G
def aOW(w:aA)(ρ:aW)(τ t kb lb rb sb db:Nat)(s:mC)(st:List Row->Row->List Row)(aI eV sd bV:List Row)(F G:Nat)(e:cg)(w':aA):Prop:=
 ∃bN mv,e=i5 mv/\bA w ρ (eZ τ) w' bN/\tN w' bN τ kb lb rb sb db s (bV.foldl st aI) eV sd F G/\W9 w' bN τ t mv ⟨bV,bV⟩
theorem Ru{t:Nat}{s:mC}{st:List Row->Row->List Row}{sd:List Row}(h:tN w ρ τ kb lb rb sb db s aI eV sd F G)(eg:∀args w,(callFunc g args).run prog w= .ok (.enter g args) w)(hdo:aP8 g rb t τ s F G st)(hv:eX dR aP 3 w kv gH)(hf:AP gH)(ht:t<τ\/τ+100<=t)(hw:s.bL=s.inW)(Sv:s.most<=65536):
  aH prog 223 #[h9 (H ⟨kb,0,K⟩),kv,.func (.func g) #[h9 (H ⟨rb,0,K⟩)] #[]] w (aOW w ρ τ t kb lb rb sb db s st aI eV sd (eV.filter λx=>decide (dG x s.bK=gH)) F G):=by
 obtain⟨bV,Sr⟩:=E (eV.filter (λx=>decide (dG x s.bK=gH)));have C1:∀r∈bV,dI r/\O r=s.bL:=λr hr=>by
  rw[hw];exact h.eV.good r (List.mem_filter.1 (Sr▸hr)).1
 have hlen:O bV<=65536:=by
  have:=h.eV.JF;have h2:O bV<=O eV:=Sr▸List.length_filter_le _ _;omega
 rw[Sr];obtain⟨wa,dE⟩:=E (e8 w (h8 #[hY K 0 0,hY K 0 0] 197));have cR:=Za dE;have kG:=Zb dE;obtain⟨bm,W⟩:=E (hJ w.heap);have kP:bA w ρ (λ_=>False) wa (up w.heap.size (τ+95) ρ):=cR.eW (S:=λ_=>False) (τ+95) (λ_ h=>absurd h (by simp));have mE:up w.heap.size (τ+95) ρ bm=τ+95:=cJ (by omega);have wR:=h.dg kP (λh=>h) (λ_ _ _ h=>h);have nN:=hv.on cR;have lG:=wR.bS;obtain⟨D5,nL⟩:=E (up w.heap.size (τ+95) ρ);rw[nL]at kP mE wR;rw[W]at kG;have Wx:=Z (aBl (t:=t) (k:=0) wR.eV (by simp) nN hf (λc y=>by omega));simp only[List.getD_cons_zero,Sr]at Wx;obtain⟨k0,k1,k2⟩:=Z3 lG;have JU:=Z kP;have mP:=Z mE;have EW:=Z wR;have tQ:=Z kG;have A5:=Z ht;have HGD:=Z C1;have a1m:=Z hlen;have HDO:=Z hdo;have lC:=Z (show hJ w.heap<=bm by omega);obtain⟨kva,kvc,rfl,-⟩:=hv.len;clear h hv hf ht hw Sv Sr C1 hlen cR kG kP mE wR nN lG nL hdo;go_enter func223,ntmps223;go_upto_region 2 with(go_at_call 232;refine Wx.o.mono ?_;rintro e w1 ⟨e',he,dN,lv,rfl,hM,hS,hR⟩;simp only at he;subst he;have q:=Z hM;have HS:=Z hS;have HR:=Z hR;clear hM hS hR);have aMY:∃fB W2 bX fv tv v2,W2=e8 w1 (h8 #[hY K 0 0,hY K 0 0] 197)/\O bX=O bV/\aEi w ρ τ t kb lb rb sb db s st aI eV sd bV F G bm w1.heap.size lv bX 0 W2 fB fv tv v2/\fv=hY K 0 0/\tv=hY K 0 0:=by
  obtain⟨bX,e1,e2,e3⟩:=HR.o;obtain⟨W2,P⟩:=E (e8 w1 (h8 #[hY K 0 0,hY K 0 0] 197));have bH:=Za P;have zI:bA w1 dN (λ_=>False) W2 (up w1.heap.size (τ+99) dN):=bH.eW (S:=λ_=>False) (τ+99) (λ_ h=>absurd h (by simp));have qs:¬eG (τ+20+20) (τ+95):=by unfold eG;omega
  have aSb:=q.o.aC tQ.o (by rw[mP.o];unfold eG;omega);have aYI:=(q.o.bT bm (lt_of_block tQ.o)).dd mP.o;have hLv:=EW.o.lv.dg q.o (by unfold eG;omega) (λc y=>by unfold eG;omega);have hSd:=EW.o.sd.dg q.o (λc y=>by unfold eG;omega);have aYj:=q.o.aC EW.o.bS (by rw[EW.o.bT];unfold eG;omega);have aYh:=(q.o.bT kb (lt_of_block EW.o.bS)).dd EW.o.bT;have hMt:tN w1 dN τ kb lb rb sb db s aI eV sd F G:=⟨aYj,aYh,hLv,HS.o,hSd⟩;have hn:=lC.o;have hs1:hJ w.heap<=hJ w1.heap:=Nat.le_trans JU.o.size q.o.size;refine⟨up w1.heap.size (τ+99) dN,W2,bX,_,_,[],P.symm,e1,⟨?_,?_,?_,?_,⟨hs1,hn⟩,⟨cJ (Nat.le_refl _),?_⟩,oF.nil _ _ _,oF.nil _ _ _,λb m=>(by cases m),λb m=>(by cases m),rfl,λi hi=>(by omega),e2.dg zI (λh=>h),λi hi=>(e3 i hi).dg zI (λh=>h)⟩,rfl,rfl⟩
  .exact((JU.o.aN (T:=eZ τ) (λ_ h=>h.elim)).dd (q.o.aN (λ_ h=> .inr (.inl h)))).dd (zI.aN (λ_ h=>h.elim))
  .exact hMt.dg zI (λh=>h) (λ_ _ _ h=>h)
  .rw[<-P];exact heap_alloc_new w1 _
  .exact bH.aC aSb (by simp)
  .rw[eN (lt_of_block aSb)];exact aYI
 obtain⟨fB,W2,bX,fv,tv,v2,P,Q5,n,N,f⟩:=aMY;subst N f;obtain⟨bx,lR⟩:=E (hJ w1.heap);rw[lR]at n;have Im:=Z Q5;obtain⟨la,lc,rfl,-⟩:=n.nI.1.len;have l:=Z n;have a3a:O bX<=65536:=by rw[Q5];exact a1m.o
 clear n k0 k1 k2 q HS HR Wx Q5;try rw[lR]
 have NF:=l.o.bxh;go_wp2;clear NF;rw[<-P];go_loopg [23] (O bV) (λgg i wr=>∃(k:Nat) (f7:aW) (fv tv:aF) (v2:List aF),k<=O bV/\gg=O bV-k/\i=i6 i7 k/\aEi w ρ τ t kb lb rb sb db s st aI eV sd bV F G bm bx (hY la (O bX) lc) bX k wr f7 fv tv v2)
 case atStart=>exact⟨0,fB,_,_,_,Nat.zero_le _,rfl,rfl,l.o⟩
 case round=>
  clear l P;obtain⟨k,f7,fv,tv,v2,hk,rfl,rfl,n⟩:=hrel;by_cases aV:k<O bV
  .have JM:k<O bX:=by rw[Im.o];exact aV
   obtain⟨gx,o,cap',hv,y⟩:=n.nI.1.DR JM;injection hv with x1 x2 x3;clear x2 x3;subst x1;have oV:=n.aCb k aV;obtain⟨u,hu⟩:=E (ep bX k undef);rw[hu]at y oV;simp only[ID]at y;obtain⟨r,hr⟩:=E (ep bV k []);rw[hr]at oV;obtain⟨ua,uc,rfl,-⟩:=oV.1.len;have vU:dI r/\O r=s.bL:=HGD.o r (hr▸bM (d:=[]) aV);have HPX:=Z (HDO.o wr f7 _ _ r n.mt.lv.Fm oV vU);have bo:O (bX.take k)=k:=by rw[List.length_take];omega
   obtain⟨fa,fc,N,-⟩:=n.aGa.len;obtain⟨ta,tc,f,-⟩:=n.aG9.len;rw[bo]at N;rw[n.Qa]at f;subst N f;obtain⟨l1,Om⟩:=E (bX.take k);have nV:=Z Om;have HRL:=Z (show O r<=100000 by have:=vU.1.len;omega);have W:=n.bmh;have l:=Z n;have HR:=Z hr;have HU:=Z hu;have Bl:=Z oV;have B:=Z (Om▸bo);clear n hr hu oV vU bo Om W;go_upto_region 8 with(first
    |(go_at_fn g;refine HPX.o.mono ?_;rintro e w2 ⟨fB,x2,y2,rfl,hM,hS⟩;have gT:=hM.aC l.o.bxh (by rw[l.o.zv.1];unfold eG;omega);obtain⟨z0,z1⟩:=Z2 gT;have F3:=Z gT;have q:=Z hM;have HS:=Z hS;have P:=l.o.aGa.dg hM (by unfold eG;omega);rw[nV.o]at P;have Xz:=Z P;clear hM hS gT P)
    |(at_builtin;refine cK zi rfl _ _ rfl (Xz.o.cY w2) (P7 w2) (by rfl) [hY ua (O r) uc] (hY ua (O r) uc:aF) (by rfl) rfl (dH rfl) rfl (by rw[B.o];omega) (by rw[B.o];unfold bw;omega) ?_;rintro g5 c5 w5 nO cQ vU wV;rw[B.o]at nO|-;have fS:bx∉(hY fa k fc).ownBlock.toList:=(λqs=>Xz.o.ne F3.o (by decide) (by simpa using qs));have rS:=vU.aC F3.o fS;obtain⟨y0,y1⟩:=Z2 rS;have yf:=aM rS;have yl:=iO (lt_of_block rS);have yP:=Z rS;have oI:=Z nO;have LQ:=Z vU;clear nO cQ vU wV fS rS z0 z1))
   obtain⟨w6,iA⟩:=E (ey w5 ⟨bx,0,K⟩ (hY (H ⟨g5,0,K⟩) (k+1) c5));rw[iA];have aYR:∃rU,bA wr f7 (Oy τ) w6 rU/\bA w ρ (eZ τ) w6 rU/\JH w6 rU (τ+20) rb s.bL s.most [s.up] (st (List.foldl st aI (List.take k bV)) r) F G/\w6.heap[bx]? =H (h8 #[hY (H ⟨g5,0,K⟩) (k+1) c5,hY ta k tc] 197 (0,0))/\rU bx=τ+99/\
     oF ID undef 33 1 w6 rU (τ+97) (hY (H ⟨g5,0,K⟩) (k+1) c5) (bX.take (k+1))/\oF ID undef 33 1 w6 rU (τ+98) (hY ta k tc) v2/\mK dR aP 3 w6 rU t (hY ua (O r) uc) r/\hJ w.heap<=g5:=by
    have V4:U w5 [bx] w6 [bx]:=iA▸(U.refl w5 [bx]).setCell (a:=⟨bx,0,K⟩) (.inl (by simp)) _;have aNe:bA w2 fB (·=τ+97) w5 (up w2.heap.size (τ+97) fB):=Xz.o.eW (v':=hY (H ⟨g5,0,K⟩) (k+1) c5) LQ.o rfl;have CP:fB bx=τ+99:=(q.o.bT bx (lt_of_block l.o.bxh)).dd l.o.zv.1;have z:up w2.heap.size (τ+97) fB bx=τ+99:=(eN (lt_of_block F3.o)).dd CP;have aNb:bA w5 (up w2.heap.size (τ+97) fB) (·=τ+99) w6 (up w2.heap.size (τ+97) fB):=V4.p9 (λj hj=> .inl (by rw[show j=bx by simpa using hj];exact z));have p:bA wr f7 (Oy τ) w6 (up w2.heap.size (τ+97) fB):=((q.o.aN (T:=Oy τ) (λ_ h=> .inl h)).dd (aNe.aN (λ_ h=> .inr (.inl h)))).dd (aNb.aN (λ_ h=> .inr (.inr (.inr h))));have zT:∀b,b∈(hY fa k fc).ownBlock.toList->hJ w.heap<=b:=λb m=>l.o.aQx b (by simpa using m);have hl6:=oI.o.QX Xz.o LQ.o;rw[<-nV.o,<-HU.o,<-fG (by rw[Im.o];exact aV)]at hl6;refine⟨_,p,?_,(HS.o.dg aNe (λc y=>by omega)).dg aNb (λc y=>by omega),by rw[<-iA,aE _ yP.o];rfl,z,?_,?_,Bl.o.dg p (by have:=A5.o;unfold Oy eG;omega),?_⟩
    .rw[<-iA];exact((l.o.eW.dd (q.o.aN (λ_ h=> .inl h))).aZ LQ.o zT (τ+97)).setCell (a:=⟨bx,0,K⟩) (.inr l.o.bxn.1) _
    .exact hl6.eF V4 (λb m qs=>hl6.ne yP.o (by decide) (by rw[m,show b=bx by simpa using qs]))
    .exact((l.o.aG9.dg q.o (by unfold eG;omega)).dg aNe (by omega)).dg aNb (by omega)
    .rcases LQ.o.fresh g5 (by simp)with h'|h'
     .exact zT g5 h'
     .exact Nat.le_trans (Nat.le_trans l.o.eW.size q.o.size) h'
   obtain⟨rU,p,MA,V8,nP,z,A,ho2,hr6,hg5⟩:=aYR;have z0:=Zc nP 0;have z1:=Zc nP 1;have HMX:=Z p;have HMW:=Z MA;have js:=Z V8;have zO:=Z nP;have qv:=Z z;have HO1:=Z A;have LP:=Z ho2;have HR6:=Z hr6;have HG6:=Z hg5;clear p MA V8 nP z A ho2 hr6 hg5 iA y0 y1 yf yl yP oI LQ F3 q HS Xz HPX y;refine ee 7 (eb z1<|d7 z0) (λQ=> ?_);clear z0 z1;obtain⟨wd,eY⟩:=E (w6.drew);have qS:U w6 [] wd []:=eY▸(U.refl w6 []).drew;rw[eY]at Q|-;have MF:=Z qS;clear eY qS;refine dw [0,2,1] ?_;refine Zo 3 λqL hK=> ?_;go_simp;go_at_call 176;refine(QS _ r wd (HR6.o.on MF.o).1 HRL.o).mono ?_;rintro e w7 ⟨u,rfl,hO,fM⟩;obtain⟨na,nc,rfl,-⟩:=hO.len;dsimp only;obtain⟨r8,V⟩:=Q;have Q:=And.intro ((fM).cell r8 (by simp)) ((fM).cell V (by simp));clear r8 V;have hHr:=Q;have F1:bA w6 rU (λ_=>False) w7 (up wd.heap.size t rU):=(MF.o.fK).dd (fM.eW (S:=λ_=>False) t (λ_ h=>absurd h (by simp)));have HK7:=Z (hO.jU t rU).rd;have Oa:=Z (F1.aC zO.o (λh=>h));have C:=Z (LP.o.dg F1 (λh=>h));have IM:=Z F1;clear fM F1 hO;refine Zk hK Q ?_;clear hK qL;refine Zo 4 λqL hK=> ?_;go_simp;have oK:U w7 [] (e8 w7 (h8 #[hY na (O r) nc] 33)) []:=(U.refl w7 []).alloc _;obtain⟨r8,V⟩:=Q;have Q:=And.intro ((oK).cell r8 (by simp)) ((oK).cell V (by simp));clear r8 V;refine Zk hK Q ?_;clear hK qL;refine Zo 5 λqL hK=> ?_;have EZ:=l.o.Qa;obtain⟨g8,c8,w8,dP,CS,-,xP,-⟩:=i9 (ty:=70) (news:=[hY na (O r) nc]) (T:=33) zi (by omega) (C.o.cY w7) (P7 w7) (Nat.le_refl _) (Nat.zero_le _) (hY na (O r) nc:aF) rfl (dH rfl) (λj hj=>rfl) (by omega) (by unfold bw;omega);rw[EZ]at dP CS;clear EZ;refine dJ _ _ rfl (by rfl) (by rfl) dP ?_;have Q:=hHr;have fS:bx∉(hY ta k tc).ownBlock.toList:=λqs=>C.o.ne Oa.o (by decide) (by simpa using qs);obtain⟨r8,V⟩:=Q;have Q:=And.intro ((xP).cell r8 (fS)) ((xP).cell V (fS));clear r8 V;have Hn:=xP.aC Oa.o fS;have bf:=aM Hn;have bl:=iO (lt_of_block Hn);have HB8:=Z Hn;have OY:=Z CS;have Wp:=Z xP;clear dP CS xP oK hHr fS Hn;refine Zk hK Q ?_;clear hK qL;refine I 6 ?_;refine Zo 7 λqL hK=> ?_;go_simp;refine Zl hK ?_;clear hK qL;clear Q bf bl;obtain⟨w9,Gv⟩:=E (ey w8 ⟨bx,1,K⟩ (hY (H ⟨g8,0,K⟩) (k+1) c8));rw[Gv];have Lr:∃US v9,aEi w ρ τ t kb lb rb sb db s st aI eV sd bV F G bm bx (hY (H ⟨gx,o,K⟩) (O bX) lc) bX (k+1) w9 US (hY (H ⟨g5,0,K⟩) (k+1) c5) (hY (H ⟨g8,0,K⟩) (k+1) c8) v9:=by
    have hu9:U w8 [bx] w9 [bx]:=Gv▸(U.refl w8 [bx]).setCell (a:=⟨bx,1,K⟩) (.inl (by simp)) _;obtain⟨R,Le⟩:=E (up wd.heap.size t rU);rw[Le]at HK7 C IM;have aN9:bA w7 R (·=τ+98) w8 (up w7.heap.size (τ+98) R):=C.o.eW (v':=hY (H ⟨g8,0,K⟩) (k+1) c8) Wp.o rfl;have ht7:R bx=τ+99:=(IM.o.bT bx (lt_of_block zO.o)).dd qv.o;have ou:up w7.heap.size (τ+98) R bx=τ+99:=(eN (lt_of_block Oa.o)).dd ht7;have ZS:bA w8 (up w7.heap.size (τ+98) R) (·=τ+99) w9 (up w7.heap.size (τ+98) R):=hu9.p9 (λj hj=> .inl (by rw[show j=bx by simpa using hj];exact ou));have aTM:bA w7 R (Oy τ) w9 (up w7.heap.size (τ+98) R):=(aN9.aN (T:=Oy τ) (λ_ h=> .inr (.inr (.inl h)))).dd (ZS.aN (λ_ h=> .inr (.inr (.inr h))));have aZn:=(IM.o.aN (T:=Oy τ) (λ_ h=>h.elim)).dd aTM;have p:=HMX.o.dd aZn;have zT:∀b,b∈(hY ta k tc).ownBlock.toList->hJ w.heap<=b:=λb m=>l.o.aQw b (by simpa using m);have hl8:=OY.o.QX C.o Wp.o;have Gz:=A5.o;have aTK:=HMW.o.dd (IM.o.aN (T:=eZ τ) (λ_ h=>h.elim));have EZ:=l.o.Qa;have L:=l.o.mt;refine⟨up w7.heap.size (τ+98) R,v2++[hY na (O r) nc],?_,⟨?_,?_,?_,?_,?_⟩,?_,?_,l.o.bxn,⟨ou,?_⟩,?_,?_,?_,?_,by rw[List.length_append,EZ];rfl,?_,?_,?_⟩
    .rw[<-Gv];exact(aTK.aZ Wp.o zT (τ+98)).setCell (a:=⟨bx,1,K⟩) (.inr l.o.bxn.1) _
    .exact p.aC L.bS (by rw[L.bT];unfold Oy eG;omega)
    .exact(p.bT kb (lt_of_block L.bS)).dd L.bT
    .obtain⟨⟨ka,kc,sa,sc,ua',uc',m,CQ,cd⟩,Ea,a6f,aM6⟩:=L.lv;rw[fG (d:=[]) aV,List.foldl_append,HR.o];exact⟨⟨ka,kc,sa,sc,ua',uc',p.aC m (by rw[Ea];unfold Oy eG;omega),CQ.dg p (by unfold Oy eG;omega),cd.dg p (by unfold Oy eG;omega)⟩,(p.bT lb (lt_of_block m)).dd Ea,((js.o.dg IM.o (λ_ _ h=>h)).dg aN9 (λc y=>by omega)).dg ZS (λc y=>by omega),aM6⟩
    .exact L.eV.dg p (λc y=>by unfold Oy eG;omega)
    .exact L.sd.dg p (λc y=>by unfold Oy eG;omega)
    .rw[<-Gv,aE _ HB8.o];rfl
    .exact p.aC l.o.bmh (by rw[l.o.zv.2];unfold Oy eG;omega)
    .exact(p.bT bm (lt_of_block l.o.bmh)).dd l.o.zv.2
    .exact((HO1.o.dg IM.o (λh=>h)).dg aN9 (by omega)).dg ZS (by omega)
    .exact hl8.eF hu9 (λb m qs=>hl8.ne HB8.o (by decide) (by rw[m,show b=bx by simpa using qs]))
    .intro b m;rw[<-show g5=b by simpa[gz]using m];exact HG6.o
    .intro b m;rw[<-show g8=b by simpa[gz]using m];rcases Wp.o.fresh g8 (by simp)with h'|h'
     .exact zT g8 h'
     .exact Nat.le_trans aTK.size h'
    .intro j hj;rw[kC,EZ];by_cases e:j=k
     .subst e;rw[if_pos rfl,HR.o];exact HK7.o.dg aTM (by unfold Oy eG;omega)
     .rw[if_neg e];exact(l.o.aB7 j (by omega)).dg p (by unfold Oy eG;omega)
    .exact l.o.nI.dg p (by unfold Oy eG;omega)
    .exact λj hj=>(l.o.aCb j hj).dg p (by unfold Oy eG;omega)
   obtain⟨US,v9,Lr⟩:=Lr;have HE:=Z Lr;clear Lr Gv;go_wp2;go_roundg (O bV-(k+1))
   case rel=>exact⟨k+1,US,_,_,v9,by omega,rfl,by go_num,HE.o⟩
   case measure=>omega
  .have JM:¬k<O bX:=by rw[Im.o];exact aV
   obtain rfl:k=O bV:=by omega
   have bo:bX.take (O bV)=bX:=by rw[<-Im.o,List.take_length]
   obtain⟨fa,fc,N,-⟩:=n.aGa.len;obtain⟨ta,tc,f,-⟩:=n.aG9.len;rw[bo,Im.o]at N;rw[n.Qa]at f;subst N f;have B:=Z bo;clear bo;have m:=n.bxh;have W:=n.bmh;obtain⟨x0,x1⟩:=Z2 m;obtain⟨y0,y1⟩:=Z2 W;have yf:=aM W;have yl:=iO (lt_of_block W);have l:=Z n;clear n m W;go_wp2;obtain⟨fv,N⟩:=E (hY fa (O bV) fc);obtain⟨tv,f⟩:=E (hY ta (O bV) tc);have qs:bA wr f7 (·=τ+95) (ey (ey wr ⟨bm,0,K⟩ fv) ⟨bm,1,K⟩ tv) f7:=((bA.refl wr f7 _).setCell (a:=⟨bm,0,K⟩) (.inl l.o.zv.2) fv).setCell (a:=⟨bm,1,K⟩) (.inl l.o.zv.2) tv;have Gz:=A5.o;refine bodyPost_ret (gO (T:=197) ⟨bm,0,K⟩ rfl (by rfl) (v:= .agg #[hY fa (O bV) fc,hY ta (O bV) tc]) (by go_simp)) rfl ?_;rw[N,f];rw[N,f]at l;have L:=l.o.mt.dg qs (by omega) (λc y RA=>by omega);rw[List.take_length]at L;have A:=l.o.aGa.rd;rw[B.o]at A;refine⟨f7,_,rfl,(l.o.eW.setCell (a:=⟨bm,0,K⟩) (.inr l.o.bxn.2) _).setCell (a:=⟨bm,1,K⟩) (.inr l.o.bxn.2) _,L,?_⟩;refine W9.dg ⟨fv,tv,τ+97,τ+98,rfl,.inr rfl,.inr rfl,⟨bX,Im.o,A,l.o.aCb⟩,⟨v2,l.o.Qa,l.o.aG9.rd,l.o.aB7⟩⟩ qs (by omega) (by omega) (by omega)
end
section
theorem ZM158{P:Prop}(h:P:=by
  have hB:=jG.o;obtain⟨z0,z1⟩:=Z2 hB;have zf:=aM hB;have zl:=iO (cV hB);clear hB k0 k1 k2;go_wp2;let⟨q1,q2,q3⟩:=nV.pA rQ lC sL cH cH;exact ZM168):P:=h
theorem ZM19{P:Prop}(h:P:=by
  go_wp2_with (go_at_call 223;apply HTN.cF;rintro e w2 ⟨fB,mv,rfl,hM,hL,hV⟩;have Co:=Z hL;have zZ:=Z hM;obtain⟨fv,tv,t1,t2,rfl,e1,e2,h1,h2⟩:=hV;have U4:=h1;have VV:=h2;obtain⟨RO,c1,c2,c3⟩:=U4;obtain⟨UW,d1,d2,d3⟩:=VV;obtain⟨fa,fc,rfl,-⟩:=c2.1.len;obtain⟨ta,tc,rfl,-⟩:=d2.1.len;have Pf:=Z (show W9 w2 fB τ t _ _ from⟨_,_,t1,t2,rfl,e1,e2,h1,h2⟩);clear e1 e2 h1 h2 c1 c2 c3 d1 d2 d3;have gT:=hM.aC jG (by rw[sL.o];unfold eZ eG;omega);have Et:=Z ((hM.bT bm (cV jG)).dd sL);obtain⟨z0,z1⟩:=Z2 gT;have zf:=aM gT;have zl:=iO (cV gT);clear hM hL gT);let⟨q1,q2,q3⟩:=Co.pA (rQ.dd zZ) lC Et (hY fa (O RO) fc) (hY ta (O UW) tc);have Gz:=A5.o;refine mD (aT (A:=Ad bm 0) (T:=197) rfl Yr (v:= .agg #[hY fa (O RO) fc,hY ta (O UW) tc]) (by go_simp)) rfl ?_;exact⟨_,q2,_,rfl,q1,Pf.dg q3 Y Y Y⟩):P:=h
theorem ZM22{P:Prop}(h:P:=by
  clear k0 k1 k2 l6;go_wp2_with (first|(go_at_call 222;apply(mL (ρ:=up w4 t CO) t (NK.on jp).1 CL).cF;rintro e w6 ⟨g3,rfl,cU,qR⟩;have Wm:=Z cU;have DW:=Z qR;have sH:=cU.aC (jp.aC JW X) X;obtain⟨z0,z1⟩:=Z2 sH;have zf:=aM sH;have zl:=iO (cV sH);clear cU qR sH)|(go_at_call 222;apply(mL (ρ:=CO) t NK.1 CL).cF;rintro e w5 ⟨g2,rfl,bH,pT⟩;have jp:=Z bH;have DX:=Z pT;clear bH pT));let⟨m3,hMv⟩:=VS jp DX Wm DW.o;have pV:=DY.dg m3 id (λ_ _ _ h=>h);have yo:=VL.dd (m3.aN (T:=eZ τ) pW);have JE:=(m3.bT bm (cV JW)).dd HT4.o;have Gz:=A5.o;let⟨q1,q2,q3⟩:=pV.pA yo lC JE (eB g2 0 1 1) (eB g3 0 1 1);refine mD (aT (A:=Ad bm 0) (T:=197) rfl Yr (v:= .agg #[eB g2 0 1 1,eB g3 0 1 1]) (by go_simp)) rfl ?_;exact⟨_,q2,_,rfl,q1,(hMv.toN τ).dg q3 Y Y Y⟩):P:=h
theorem ZM29{P:Prop}(h:P:=by
  go_in;go_upto_region 5 with(go_at_call 224;apply JI.cF;rintro e w1 ⟨dN,rfl,hM,hS⟩;have eQ:=hM.aC tQ (by rw[mP.o];unfold eG;omega);have jG:=Z eQ;have sL:=Z ((hM.bT bm (cV tQ)).dd mP);have nV:=Z (EW.X9 hM hS);have rQ:=Z ((JU.aN (T:=eZ τ) pW).dd (hM.aN (λ_ h=> .inr (.inr (.inl h)))));have HM:=Z hM;clear hM hS eQ);exact ZM158):P:=h
theorem ZM30{P:Prop}(h:P:=by
  go_in;go_upto_region 5 with(go_at_call 224;apply JI.cF;rintro e w1 ⟨dN,rfl,hM,hS⟩;have eQ:=hM.aC tQ (by rw[mP.o];unfold eG;omega);have jG:=Z eQ;have sL:=Z ((hM.bT bm (cV tQ)).dd mP);have nV:=Z (EW.NW hM hS);have rQ:=Z ((JU.aN (T:=eZ τ) pW).dd (hM.aN (λ_ h=> .inr (.inl h))));have HM:=Z hM;clear hM hS eQ);exact ZM158):P:=h
theorem yH.len{l:List Nat}(h:yH l n):O l<=n:=by
 have:=Ky (l:=l) (m:=List.range n) (h.1.imp λh=>Y) (λx a=>yD.2 (h.2 x a));simpa using this
def Nn(w:aA)(ρ:aW)(τ t kb lb rb sb db:Nat)(s:mC)(F G:Nat)(aI eV sd:List Row)(x:Except Nat (List Row×List Row×List Row×SV))(e:cg)(w':aA):Prop:=
 ∃bN,bA w ρ (eZ τ) w' bN/\match x with
 | .error er=>e=i5 (i8 #[zS,i6 i7 (er:Int)])/\tN w' bN τ kb lb rb sb db s aI eV sd F G
 | .ok (l',s',d',m)=>∃mv,e=i5 (i8 #[mv,i6 i7 0])/\tN w' bN τ kb lb rb sb db s l' s' d' F G/\W9 w' bN τ t mv m
section
variable{w w':aA}{ρ bN:aW}{τ kb lb rb sb db F G:Nat}{s:mC}{aI eV sd l':List Row}
theorem tN.NW(h:tN w ρ τ kb lb rb sb db s aI eV sd F G)(a:bA w ρ (eG (τ+40)) w' bN)(d:JH w' bN (τ+40) sb s.inW s.most [s.bK] l' F G):tN w' bN τ kb lb rb sb db s aI l' sd F G:=
 ⟨a.aC h.bS (by rw[h.bT];unfold eG;omega),(a.bT kb (cV h.bS)).dd h.bT,h.lv.dg a (by unfold eG;omega) (λc b=>by unfold eG;omega),d,h.sd.dg a (λc b=>by unfold eG;omega)⟩
theorem tN.X9(h:tN w ρ τ kb lb rb sb db s aI eV sd F G)(a:bA w ρ (eG (τ+60)) w' bN)(d:JH w' bN (τ+60) db (O s.bK) s.most [] l' F G):tN w' bN τ kb lb rb sb db s aI eV l' F G:=
 ⟨a.aC h.bS (by rw[h.bT];unfold eG;omega),(a.bT kb (cV h.bS)).dd h.bT,h.lv.dg a (by unfold eG;omega) (λc b=>by unfold eG;omega),h.eV.dg a (λc b=>by unfold eG;omega),d⟩
theorem tN.K4(h:tN w ρ τ kb lb rb sb db s aI eV sd F G)(a:bA w ρ (eG (τ+20)) w' bN)(d:JH w' bN (τ+20) rb s.bL s.most [s.up] l' F G):tN w' bN τ kb lb rb sb db s l' eV sd F G:=
 ⟨a.aC h.bS (by rw[h.bT];unfold eG;omega),(a.bT kb (cV h.bS)).dd h.bT,h.lv.vK a d,h.eV.dg a (λc b=>by unfold eG;omega),h.sd.dg a (λc b=>by unfold eG;omega)⟩
end
theorem tN.pA{w:aA}{ρ:aW}{τ kb lb rb sb db:Nat}{s:mC}{aI eV sd:List Row}{F G:Nat}(h:tN w1 dN τ kb lb rb sb db s aI eV sd F G)(g:bA w ρ (eZ τ) w1 dN)(b:hJ w.heap<=bm)(d:dN bm=τ+99)(x y:aF):
  tN (ey (ey w1 ⟨bm,0,K⟩ x) ⟨bm,1,K⟩ y) dN τ kb lb rb sb db s aI eV sd F G/\bA w ρ (eZ τ) (ey (ey w1 ⟨bm,0,K⟩ x) ⟨bm,1,K⟩ y) dN/\bA w1 dN (·=τ+99) (ey (ey w1 ⟨bm,0,K⟩ x) ⟨bm,1,K⟩ y) dN:=by
 have e:bA w1 dN (·=τ+99) (ey (ey w1 (Ad bm 0) x) (Ad bm 1) y) dN:=((bA.refl w1 dN _).setCell (a:=Ad bm 0) (.inl d) x).setCell (a:=Ad bm 1) (.inl d) y;exact⟨h.dg e (by show¬_=_;omega) (λc j i=>by show¬_=_;omega),(g.setCell (a:=Ad bm 0) (.inr b) x).setCell (a:=Ad bm 1) (.inr b) y,e⟩
def aCQ(s:mC)(aI eV sd:List Row)(r:Row):Except Nat (List Row×List Row×List Row×SV):=
 if r∈eV then .error 191 else if O eV=s.most then .error 31
 else if dG r s.bK∈sd then .ok (rJ s.most aI r,eV++[r],sd,⟨[r],[r]⟩)else .ok (aI,eV++[r],sd,⟨[],[r]⟩)
def aLn(s:mC)(aI eV sd:List Row)(r:Row):Except Nat (List Row×List Row×List Row×SV):=
 if r∈sd then .error 191 else if O sd=s.most then .error 31
 else .ok ((eV.filter λx=>decide (dG x s.bK=r)).foldl (rJ s.most) aI,eV,sd++[r],⟨eV.filter λx=>decide (dG x s.bK=r),eV.filter λx=>decide (dG x s.bK=r)⟩)
def Y'(s:mC)(aI eV sd:List Row)(r:Row):Except Nat (List Row×List Row×List Row×SV):=
 if r∈eV then if r∈aI then .ok (aI.erase r,eV.erase r,sd,⟨[r],[r]⟩)else .ok (aI,eV.erase r,sd,⟨[],[r]⟩)else .error 192
def aCS(s:mC)(aI eV sd:List Row)(r:Row):Except Nat (List Row×List Row×List Row×SV):=
 if r∈sd then .ok ((eV.filter λx=>decide (dG x s.bK=r)).foldl List.erase aI,eV,sd.erase r,⟨eV.filter λx=>decide (dG x s.bK=r),eV.filter λx=>decide (dG x s.bK=r)⟩)else .error 192
theorem Fx{l:List Row}(h:O r=wd/\iC r=oj):(lM wd most l r).2.2=rJ most l r:=by
 unfold lM rJ;rw[bD (by simp[h])];split;rfl;split<;>rfl
theorem Uu{l:List Row}(h:O r=wd/\iC r=oj):(kD wd l r).2.2=l.erase r:=by
 unfold kD;rw[bD (by simp[h])];split
 .rfl
 .rename_i a;exact(List.erase_of_not_mem a).symm
theorem aTw{rb t τ F G:Nat}{s:mC}(j:t<τ\/τ+100<=t)(d:F+1<=G)(i:G<=1073741824):aP8 224 rb t τ s F G (rJ s.most):=by
 intro W f7 aI v r g hv a;refine(NV g hv (by unfold eG;omega) a.1.QK d i).mono ?_;rintro e w' ⟨bN,rfl,c,b⟩;rw[Fx ⟨a.2,a.1.1⟩]at b;exact⟨bN,_,_,rfl,c,b⟩
theorem aOJ{rb t τ F G:Nat}{s:mC}(g:G<=F)(i:G<1073741824):aP8 221 rb t τ s F G List.erase:=by
 intro W f7 aI v r d hv a;apply(GQ d hv.1 a.1.QK g i).cF;rintro e w' ⟨bN,rfl,c,b⟩;rw[Uu ⟨a.2,a.1.1⟩]at b;exact⟨bN,_,_,rfl,c,b⟩
theorem aGn{w:aA}{ρ:aW}{τ t tr kb lb rb sb db F G:Nat}{s:mC}{aI eV sd:List Row}(h:tN w ρ τ kb lb rb sb db s aI eV sd F G)(yM:s.aG=3)(hv:mK dR aP 3 w ρ tr v r)(V:¬eZ τ tr)(d:dI r/\O r=s.inW)(pH:F+1<=G)(hG:G<=1073741824)(ht:t<τ\/τ+100<=t):
  aH prog 218 #[h9 (H ⟨kb,0,K⟩),i6 i7 1,v] w (Nn w ρ τ t kb lb rb sb db s F G aI eV sd (aCQ s aI eV sd r)):=by
 have kN:=h.lv.ok;obtain⟨va,vc,rfl,-⟩:=hv.len;let⟨wa,dE⟩:=E (e8 w (h8 #[cH,cH] 197));have cR:=Za dE;have kG:=Zb dE;let⟨bm,JO⟩:=E (hJ w.heap);have p:bA w ρ eL wa (up w (τ+99) ρ):=cR.eW (S:=eL) (τ+99) (λ_ h=>dS h X);have mE:up w (τ+99) ρ bm=τ+99:=cJ Y;have C:=h.dg p id (λ_ _ _ h=>h);have P:=hv.dg p id;generalize nL:up w (τ+99) ρ=ρa at p mE P C;rw[JO]at kG;have b:=C.bS;obtain⟨k0,k1,k2⟩:=Z3 b;have BA:=Z kN;have JU:=Z p;have mP:=Z mE;have Np:=Z P;have EW:=Z C;have tQ:=Z kG;have A5:=Z ht;have f:=Z V;have g:=Z d;have lC:=Z (show hJ w.heap<=bm by omega);have l:=NV C.eV P (λh=>V (.inr (.inl h))) d.1.QK pH hG;unfold aCQ;by_cases n:r∈eV
 .rw[bR n];rw[show lM s.inW s.most eV r=(po,0,eV) by unfold lM;rw[bD (by simp[d.1.1,d.2]),bR n]]at l;have JI:=Z l;clear h kN hv V d ht cR kG p mE P C b nL l;clear n;exact ZM30
 .rw[bD n];by_cases R:O eV=s.most
  .rw[bR R];rw[show lM s.inW s.most eV r=(po,31,eV) by unfold lM;rw[bD (by simp[d.1.1,d.2]),bD n,bR R]]at l;have JI:=Z l;clear h kN hv V d ht cR kG p mE P C b nL l;clear n R;exact ZM30
  .rw[bD R];rw[show lM s.inW s.most eV r=(oj,0,eV++[r]) by unfold lM;rw[bD (by simp[d.1.1,d.2]),bD n,bD R]]at l;have JI:=Z l;have Sp:=kN.bK;rw[bR yM]at Sp;have a:=Z Sp;have yW:O r<=100000:=nA d.1.len;have CL:=Z yW;have RI:=Z (dX pH hG);have HK3:=Z yM;clear h kN hv V d ht cR kG p mE P C b nL l;clear n R Sp yW pH hG yM;by_cases N:dG r s.bK∈sd
   .rw[bR N];have HP:=Z N;clear N;go_in;go_upto_region 10 with(go_at_call 224;apply JI.cF;rintro e w1 ⟨dN,rfl,hM,hS⟩;have eQ:=hM.aC tQ (by rw[mP.o];unfold eG;omega);have jG:=Z eQ;have sL:=Z ((hM.bT bm (cV tQ)).dd mP);have nV:=Z (EW.NW hM hS);have rQ:=Z ((JU.aN (T:=eZ τ) pW).dd (hM.aN (λ_ h=> .inr (.inl h))));have HM:=Z hM;clear hM hS eQ);have b:=nV.bS;obtain⟨k0,k1,k2⟩:=Z3 b;have zL:=Z (Np.dg HM (λh=>f.o (.inr (.inl h))));refine ek 99 (eb k2<|d7 k1) (λwd k qS Q=> ?_);clear k0 k1 k2 b;have q:=Z qS;clear k qS;refine dw [0,4,5,1,2,3] ?_;refine Zo 6 λqL hK=> ?_;go_simp;go_at_call 226;refine(nk (nV.on q) (zL.on q).1 g.1.len (λc L=>by rw[g.o.2];exact a.2 c L) (jN a.len BA.inW)).mono ?_;rintro e w2 ⟨u,rfl,y,x⟩;obtain⟨ka,kc,rfl,-⟩:=y.len;dsimp only;replace Q:=x.Of Q;have HO:=Z y;have B:=Z (q.dd x);clear x y;refine j8 ?_;clear hK qL;refine Zo 7 λqL hK=> ?_;go_simp;go_at_call 225;refine(aBk (nV.on B).sd HO.rd (g.1.dG (jN a.len BA.inW) (λc L=>by rw[g.o.2];exact a.2 c L)).QK).mono ?_;rintro e w3 ⟨kM,rfl,z,UB⟩;dsimp only;have i:=Z ((nV.on B).X9 z UB);have m:=Z ((B.fK (ρ:=dN) (S:=eG (τ+60))).dd z);have Q:=dX (aL i.bS (j:=2) rfl:e7 w3 (Ad kb 2)=H (Pt db)) (aL i.bS (j:=1) rfl:e7 w3 (Ad kb 1)=H (Pt sb));clear z UB;refine j8 ?_;clear hK qL;refine I 8 ?_;refine aY dB ?_ _;clear Q;have kg:=Z (rQ.dd (m.aN (T:=eZ τ) (λ_ h=> .inr (.inr (.inl h)))));have MW:=Z (m.aC jG (by rw[sL.o];unfold eG;omega));have SZ:=Z ((m.bT bm (cV jG)).dd sL);have NL:=Z (zL.dg m (λh=>f.o (.inr (.inr (.inl h)))));rw[kI HP.o];have hw:s.bL=s.inW:=by unfold mC.bL;rw[bD (by rw[HK3.o];decide)]
    have CX:=NV i.lv.Fm NL (λh=>f.o (.inl h)) g.1.QK RI.1 RI.2;unfold Wd at CX;rw[Fx ⟨hw▸g.2,g.1.1⟩]at CX;have Iq:=Z CX;clear CX hw k0 k1 k2;obtain⟨⟨ya,yc,ysa,ysc,yua,yuc,uD,-,-⟩,-,-,-⟩:=i.lv;have b:=i.bS;obtain⟨k0,k1,k2⟩:=Z3 b;have l6:=Zc uD 6;clear uD b;go_upto_region 13 with(go_at_call 224;apply Iq.cF;rintro e w4 ⟨CO,rfl,hM,hS⟩;have DY:=Z (i.K4 hM hS);have JW:=Z (hM.aC MW (by rw[SZ.o];unfold eG;omega));have HT4:=Z ((hM.bT bm (cV MW)).dd SZ);have VL:=Z (kg.dd (hM.aN (λ_ h=> .inl h)));have NK:=Z (NL.dg hM (λh=>f.o (.inl h)));clear hM hS);exact ZM22
   .rw[bD N];have HP:=Z N;clear N;go_in;go_upto_region 10 with(go_at_call 224;apply JI.cF;rintro e w1 ⟨dN,rfl,hM,hS⟩;have eQ:=hM.aC tQ (by rw[mP.o];unfold eG;omega);have jG:=Z eQ;have sL:=Z ((hM.bT bm (cV tQ)).dd mP);have nV:=Z (EW.NW hM hS);have rQ:=Z ((JU.aN (T:=eZ τ) pW).dd (hM.aN (λ_ h=> .inr (.inl h))));have HM:=Z hM;clear hM hS eQ);have b:=nV.bS;obtain⟨k0,k1,k2⟩:=Z3 b;have zL:=Z (Np.dg HM (λh=>f.o (.inr (.inl h))));refine ek 99 (eb k2<|d7 k1) (λwd k qS Q=> ?_);clear k0 k1 k2 b;have q:=Z qS;clear k qS;refine dw [0,4,5,1,2,3] ?_;refine Zo 6 λqL hK=> ?_;go_simp;go_at_call 226;refine(nk (nV.on q) (zL.on q).1 g.1.len (λc L=>by rw[g.o.2];exact a.2 c L) (jN a.len BA.inW)).mono ?_;rintro e w2 ⟨u,rfl,y,x⟩;obtain⟨ka,kc,rfl,-⟩:=y.len;dsimp only;replace Q:=x.Of Q;have HO:=Z y;have B:=Z (q.dd x);clear x y;refine j8 ?_;clear hK qL;refine Zo 7 λqL hK=> ?_;go_simp;go_at_call 225;refine(aBk (nV.on B).sd HO.rd (g.1.dG (jN a.len BA.inW) (λc L=>by rw[g.o.2];exact a.2 c L)).QK).mono ?_;rintro e w3 ⟨kM,rfl,z,UB⟩;dsimp only;have i:=Z ((nV.on B).X9 z UB);have m:=Z ((B.fK (ρ:=dN) (S:=eG (τ+60))).dd z);have Q:=dX (aL i.bS (j:=2) rfl:e7 w3 (Ad kb 2)=H (Pt db)) (aL i.bS (j:=1) rfl:e7 w3 (Ad kb 1)=H (Pt sb));clear z UB;refine j8 ?_;clear hK qL;refine I 8 ?_;refine aY dB ?_ _;clear Q;have kg:=Z (rQ.dd (m.aN (T:=eZ τ) (λ_ h=> .inr (.inr (.inl h)))));have MW:=Z (m.aC jG (by rw[sL.o];unfold eG;omega));have SZ:=Z ((m.bT bm (cV jG)).dd sL);have NL:=Z (zL.dg m (λh=>f.o (.inr (.inr (.inl h)))));rw[jO HP.o];clear k0 k1 k2;go_wp2_with (go_at_call 222;apply(mL (ρ:=kM) t NL.1 CL).cF;rintro e w4 ⟨g4,rfl,eA,W⟩;have Wm:=Z eA;have HR4:=Z W;have D1:=eA.aC MW X;obtain⟨z0,z1⟩:=Z2 D1;have zf:=aM D1;have zl:=iO (cV D1);clear eA W D1);have m4:bA w3 kM eL w4 (up w3 t kM):=Wm.eW (S:=eL) t (λ_ h=>dS h X);let⟨q1,q2,q3⟩:=(i.dg m4 id (λ_ _ _ h=>h)).pA (kg.dd (m4.aN (T:=eZ τ) pW)) lC ((m4.bT bm (cV MW)).dd SZ) cH (eB g4 0 1 1);have Gz:=A5.o;refine mD (aT (A:=Ad bm 0) (T:=197) rfl Yr (v:= .agg #[cH,eB g4 0 1 1]) (by go_simp)) rfl ?_;exact⟨_,q2,_,rfl,q1,W9.dg ⟨_,_,t,t,rfl,.inl rfl,.inl rfl,iN.nil _ _ _ _,HR4⟩ q3 Y Y Y⟩
theorem aGo{w:aA}{ρ:aW}{τ t tr kb lb rb sb db F G:Nat}{s:mC}{aI eV sd:List Row}(h:tN w ρ τ kb lb rb sb db s aI eV sd F G)(k:s.aG=3)(hv:mK dR aP 3 w ρ tr v r)(m:¬eZ τ tr)(a:dI r/\O r=O s.bK)(C:F+1<=G)(B:G<=1073741824)(n:t<τ\/τ+100<=t):
  aH prog 218 #[h9 (H ⟨kb,0,K⟩),i6 i7 2,v] w (Nn w ρ τ t kb lb rb sb db s F G aI eV sd (aLn s aI eV sd r)):=by
 have u:=h.lv.ok;obtain⟨va,vc,rfl,-⟩:=hv.len;let⟨wa,qL⟩:=E (e8 w (h8 #[cH,cH] 197));have x:=Za qL;have q:=Zb qL;let⟨bm,JO⟩:=E (hJ w.heap);have d:bA w ρ eL wa (up w (τ+99) ρ):=x.eW (S:=eL) (τ+99) (λ_ h=>dS h X);have p:up w (τ+99) ρ bm=τ+99:=cJ Y;have i:=h.dg d id (λ_ _ _ h=>h);have j:=hv.dg d id;generalize z:up w (τ+99) ρ=ρa at d p j i;rw[JO]at q;have g:=i.bS;obtain⟨k0,k1,k2⟩:=Z3 g;have BA:=Z u;have JU:=Z d;have mP:=Z p;have Np:=Z j;have EW:=Z i;have tQ:=Z q;have A5:=Z n;have f:=Z m;have P:=Z a;have lC:=Z (show hJ w.heap<=bm by omega);have b:=NV i.sd j (λh=>m (.inr (.inr (.inl h)))) a.1.QK C B;unfold aLn;by_cases c:r∈sd
 .rw[bR c];rw[show lM (O s.bK) s.most sd r=(po,0,sd) by unfold lM;rw[bD (by simp[a.1.1,a.2]),bR c]]at b;have JI:=Z b;clear h u hv m a n x q d p j i g z b;clear c;exact ZM29
 .rw[bD c];by_cases l:O sd=s.most
  .rw[bR l];rw[show lM (O s.bK) s.most sd r=(po,31,sd) by unfold lM;rw[bD (by simp[a.1.1,a.2]),bD c,bR l]]at b;have JI:=Z b;clear h u hv m a n x q d p j i g z b;clear c l;exact ZM29
  .rw[bD l];rw[show lM (O s.bK) s.most sd r=(oj,0,sd++[r]) by unfold lM;rw[bD (by simp[a.1.1,a.2]),bD c,bD l]]at b;have JI:=Z b;have y:=Z (aTw (rb:=rb) (t:=t) (s:=s) n C B);have V:=Z (show s.bL=s.inW by unfold mC.bL;rw[bD (by rw[k];decide)]);clear h u hv m a n x q d p j i g z b;clear c l C B k;go_in;go_upto_region 14 with(go_at_call 224;apply JI.cF;rintro e w1 ⟨dN,rfl,hM,hS⟩;have eQ:=hM.aC tQ (by rw[mP.o];unfold eG;omega);have jG:=Z eQ;have sL:=Z ((hM.bT bm (cV tQ)).dd mP);have nV:=Z (EW.X9 hM hS);have rQ:=Z ((JU.aN (T:=eZ τ) pW).dd (hM.aN (λ_ h=> .inr (.inr (.inl h)))));have HM:=Z hM;clear hM hS eQ);have R:=Z (Np.dg HM (λh=>f.o (.inr (.inr (.inl h)))));obtain⟨⟨ya,yc,N,Q,W,yuc,L,-,-⟩,-,-,-⟩:=nV.lv;have g:=nV.bS;clear k0 k1 k2;obtain⟨k0,k1,k2⟩:=Z3 g;have l6:=Zc L 6;clear L g;have HTN:=Z (Ru (t:=t) nV (enters_of func224 dB rfl) y R.1 P.1.QK A5 V BA.most.2);exact ZM19
end
theorem ZM58{P:Prop}(h:P:=by
  exact ZM158):P:=h
theorem aC8{t tr:Nat}{s:mC}{sd:List Row}(h:tN w ρ τ kb lb rb sb db s aI eV sd F G)(B:s.aG=3)(hv:mK dR aP 3 w ρ tr v r)(z:¬eZ τ tr)(a:dI r/\O r=O s.bK)(x:G<=F)(y:G<1073741824)(C:t<τ\/τ+100<=t):
  aH prog 217 #[h9 (H ⟨kb,0,K⟩),i6 i7 2,v] w (Nn w ρ τ t kb lb rb sb db s F G aI eV sd (aCS s aI eV sd r)):=by
 have qL:=h.lv.ok;obtain⟨va,vc,rfl,-⟩:=hv.len;let⟨wa,R⟩:=E (e8 w (h8 #[cH,cH] 197));have L:=Za R;have u:=Zb R;let⟨bm,JO⟩:=E (hJ w.heap);have b:bA w ρ eL wa (up w (τ+99) ρ):=L.eW (S:=eL) (τ+99) (λ_ h=>dS h X);have p:up w (τ+99) ρ bm=τ+99:=cJ Y;have i:=h.dg b id (λ_ _ _ h=>h);have j:=hv.dg b id;generalize V:up w (τ+99) ρ=ρa at b p j i;rw[JO]at u;have d:=i.bS;obtain⟨k0,k1,k2⟩:=Z3 d;have BA:=Z qL;have f:=Z b;have n:=Z p;have Np:=Z j;have P:=Z i;have q:=Z u;have A5:=Z C;have MG:=Z z;have HG:=Z a;have lC:=Z (show hJ w.heap<=bm by omega);have g:=GQ i.sd j.1 a.1.QK x y;unfold aCS;by_cases c:r∈sd
 .rw[bR c];rw[show kD (O s.bK) sd r=(oj,0,sd.erase r) by unfold kD;rw[bD (by simp[a.1.1,a.2]),bR c]]at g;have N:=Z g;have k:=Z (aOJ (rb:=rb) (t:=t) (τ:=τ) (s:=s) x y);have HW:=Z (show s.bL=s.inW by unfold mC.bL;rw[bD (by rw[B];decide)]);clear h qL hv z a C L u b p j i d V g;clear c x y B;go_in;go_upto_region 12 with(go_at_call 221;apply N.cF;rintro e w1 ⟨dN,rfl,hM,m⟩;have l:=hM.aC q (by rw[n.o];unfold eG;omega);have jG:=Z l;have sL:=Z ((hM.bT bm (cV q)).dd n);have nV:=Z (P.X9 hM m);have rQ:=Z ((f.aN (T:=eZ τ) pW).dd (hM.aN (λ_ h=> .inr (.inr (.inl h)))));have Q:=Z hM;clear hM m l);have zL:=Z (Np.dg Q (λh=>MG.o (.inr (.inr (.inl h)))));obtain⟨⟨ya,yc,ysa,ysc,yua,yuc,W,-,-⟩,-,-,-⟩:=nV.lv;have d:=nV.bS;clear k0 k1 k2;obtain⟨k0,k1,k2⟩:=Z3 d;have l6:=Zc W 6;clear W d;have HTN:=Z (Ru (t:=t) nV (enters_of func221 dB rfl) k zL.1 HG.1.QK A5 HW BA.most.2);exact ZM19
 .rw[bD c];rw[show kD (O s.bK) sd r=(po,0,sd) by unfold kD;rw[bD (by simp[a.1.1,a.2]),bD c]]at g;have N:=Z g;clear h qL hv z a C L u b p j i d V g;clear c x y B;go_in;go_upto_region 5 with(go_at_call 221;apply N.cF;rintro e w1 ⟨dN,rfl,hM,m⟩;have l:=hM.aC q (by rw[n.o];unfold eG;omega);have jG:=Z l;have sL:=Z ((hM.bT bm (cV q)).dd n);have nV:=Z (P.X9 hM m);have rQ:=Z ((f.aN (T:=eZ τ) pW).dd (hM.aN (λ_ h=> .inr (.inr (.inl h)))));have Q:=Z hM;clear hM m l);exact ZM58
theorem aC7{t tr:Nat}{s:mC}{sd:List Row}(h:tN w ρ τ kb lb rb sb db s aI eV sd F G)(P:s.aG=3)(hv:mK dR aP 3 w ρ tr v r)(f:¬eZ τ tr)(b:dI r/\O r=s.inW)(qL:G<=F)(N:G<1073741824)(R:t<τ\/τ+100<=t):
  aH prog 217 #[h9 (H ⟨kb,0,K⟩),i6 i7 1,v] w (Nn w ρ τ t kb lb rb sb db s F G aI eV sd (Y' s aI eV sd r)):=by
 have W:=h.lv.ok;obtain⟨va,vc,rfl,-⟩:=hv.len;let⟨wa,dE⟩:=E (e8 w (h8 #[cH,cH] 197));have cR:=Za dE;have k:=Zb dE;let⟨bm,JO⟩:=E (hJ w.heap);have j:bA w ρ eL wa (up w (τ+99) ρ):=cR.eW (S:=eL) (τ+99) (λ_ h=>dS h X);have B:up w (τ+99) ρ bm=τ+99:=cJ Y;have p:=h.dg j id (λ_ _ _ h=>h);have y:=hv.dg j id;generalize nL:up w (τ+99) ρ=ρa at j B y p;rw[JO]at k;have d:=p.bS;obtain⟨k0,k1,k2⟩:=Z3 d;have BA:=Z W;have JU:=Z j;have x:=Z B;have Np:=Z y;have EW:=Z p;have z:=Z k;have A5:=Z R;have Q:=Z f;have HG:=Z b;have lC:=Z (show hJ w.heap<=bm by omega);have m:=GQ p.eV y.1 b.1.QK qL N;unfold Y';by_cases l:r∈eV
 .rw[bR l];rw[show kD s.inW eV r=(oj,0,eV.erase r) by unfold kD;rw[bD (by simp[b.1.1,b.2]),bR l]]at m;have JI:=Z m;have V:s.bL=s.inW:=by unfold mC.bL;rw[bD (by rw[P];decide)]
  have yW:O r<=100000:=nA b.1.len;have CL:=Z yW;have g:=Z (dX qL N);by_cases u:r∈aI
  .rw[bR u];have q:=Z (show kD s.bL aI r=(oj,0,aI.erase r) by unfold kD;rw[bD (by rw[V];simp[b.1.1,b.2]),bR u]);clear h W hv f b R cR k j B y p d nL m;clear l qL N P u V yW;go_in;go_upto_region 8 with(go_at_call 221;apply JI.cF;rintro e w1 ⟨dN,rfl,a,c⟩;have i:=a.aC z (by rw[x.o];unfold eG;omega);have jG:=Z i;have sL:=Z ((a.bT bm (cV z)).dd x);have nV:=Z (EW.NW a c);have rQ:=Z ((JU.aN (T:=eZ τ) pW).dd (a.aN (λ_ h=> .inr (.inl h))));have HM:=Z a;clear a c i);have C:=Z (Np.dg HM (λh=>Q.o (.inr (.inl h))));have n:=GQ nV.lv.Fm C.1 HG.1.QK g.1 g.2;rw[q.o]at n;have Iq:=Z n;clear n k0 k1 k2;obtain⟨⟨ya,yc,ysa,ysc,yua,yuc,L,-,-⟩,-,-,-⟩:=nV.lv;have d:=nV.bS;obtain⟨k0,k1,k2⟩:=Z3 d;have l6:=Zc L 6;clear L d;go_upto_region 10 with(go_at_call 221;apply Iq.cF;rintro e w4 ⟨CO,rfl,a,c⟩;have DY:=Z (nV.K4 a c);have JW:=Z (a.aC jG (by rw[sL.o];unfold eG;omega));have HT4:=Z ((a.bT bm (cV jG)).dd sL);have VL:=Z (rQ.dd (a.aN (λ_ h=> .inl h)));have NK:=Z (C.dg a (λh=>Q.o (.inl h)));clear a c);exact ZM22
  .rw[bD u];have q:=Z (show kD s.bL aI r=(po,0,aI) by unfold kD;rw[bD (by rw[V];simp[b.1.1,b.2]),bD u]);clear h W hv f b R cR k j B y p d nL m;clear l qL N P u V yW;go_in;go_upto_region 8 with(go_at_call 221;apply JI.cF;rintro e w1 ⟨dN,rfl,a,c⟩;have i:=a.aC z (by rw[x.o];unfold eG;omega);have jG:=Z i;have sL:=Z ((a.bT bm (cV z)).dd x);have nV:=Z (EW.NW a c);have rQ:=Z ((JU.aN (T:=eZ τ) pW).dd (a.aN (λ_ h=> .inr (.inl h))));have HM:=Z a;clear a c i);have C:=Z (Np.dg HM (λh=>Q.o (.inr (.inl h))));have n:=GQ nV.lv.Fm C.1 HG.1.QK g.1 g.2;rw[q.o]at n;have Iq:=Z n;clear n k0 k1 k2;obtain⟨⟨ya,yc,ysa,ysc,yua,yuc,L,-,-⟩,-,-,-⟩:=nV.lv;have d:=nV.bS;obtain⟨k0,k1,k2⟩:=Z3 d;have l6:=Zc L 6;clear L d;go_upto_region 11 with(go_at_call 221;apply Iq.cF;rintro e w4 ⟨CO,rfl,a,c⟩;have DY:=Z (nV.K4 a c);have JW:=Z (a.aC jG (by rw[sL.o];unfold eG;omega));have HT4:=Z ((a.bT bm (cV jG)).dd sL);have VL:=Z (rQ.dd (a.aN (λ_ h=> .inl h)));have NK:=Z (C.dg a (λh=>Q.o (.inl h)));clear a c);clear k0 k1 k2 l6;go_wp2_with (go_at_call 222;apply(mL (ρ:=CO) t NK.1 CL).cF;rintro e w5 ⟨g5,rfl,cQ,tB⟩;have Wm:=Z cQ;have sS:=Z tB;have rS:=cQ.aC JW X;obtain⟨z0,z1⟩:=Z2 rS;have zf:=aM rS;have zl:=iO (cV rS);clear cQ tB rS);have m4:bA w4 CO eL w5 (up w4 t CO):=Wm.eW (S:=eL) t (λ_ h=>dS h X);let⟨q1,q2,q3⟩:=(DY.dg m4 id (λ_ _ _ h=>h)).pA (VL.dd (m4.aN (T:=eZ τ) pW)) lC ((m4.bT bm (cV JW)).dd HT4) cH (eB g5 0 1 1);have Gz:=A5.o;refine mD (aT (A:=Ad bm 0) (T:=197) rfl Yr (v:= .agg #[cH,eB g5 0 1 1]) (by go_simp)) rfl ?_;exact⟨_,q2,_,rfl,q1,W9.dg ⟨_,_,t,t,rfl,.inl rfl,.inl rfl,iN.nil _ _ _ _,sS⟩ q3 Y Y Y⟩
 .rw[bD l];rw[show kD s.inW eV r=(po,0,eV) by unfold kD;rw[bD (by simp[b.1.1,b.2]),bD l]]at m;have JI:=Z m;clear h W hv f b R cR k j B y p d nL m;clear l qL N P;go_in;go_upto_region 5 with(go_at_call 221;apply JI.cF;rintro e w1 ⟨dN,rfl,a,c⟩;have i:=a.aC z (by rw[x.o];unfold eG;omega);have jG:=Z i;have sL:=Z ((a.bT bm (cV z)).dd x);have nV:=Z (EW.NW a c);have rQ:=Z ((JU.aN (T:=eZ τ) pW).dd (a.aN (λ_ h=> .inr (.inl h))));have HM:=Z a;clear a c i);exact ZM58
variable{cm:Nat}
def uA(r:Row):ByteArray:=strOfNums ((bI r).map Int.ofNat)
def EJ(r:Row):Lit:= .string (uA r).data.toList
theorem KT(r:Row):(uA r).data.toList=(bI r).map UInt8.ofNat:=by
 unfold uA strOfNums;rw[List.map_map];exact List.map_congr_left λx _=>rfl
theorem YI{s:Row}(b:dI r)(hs:dI s)(h:EJ r=EJ s):r=s:=by
 unfold EJ at h;injection h with h;rw[KT,KT]at h;refine nG b hs ?_;have a:=wJ (List.map UInt8.toNat) h;rw[List.map_map,List.map_map]at a;have e:∀l:List Nat,(∀x∈l,x<256)->l.map (UInt8.toNat∘UInt8.ofNat)=l:=λl hl=>by
  have d:l.map (UInt8.toNat∘UInt8.ofNat)=l.map id:=List.map_congr_left λx c=>by
   have:=hl x c;simp only[Function.comp_apply,id];rw[UInt8.toNat_ofNat'];omega
  rw[d,List.map_id]
 rw[e _ (O1 r),e _ (O1 s)]at a;exact a
theorem S6(a:dI r):keyOf prog 9 (j3 (uA r))=H (EJ r):=by
 have hs:(uA r).size<=bw:=by
  have b:(uA r).size=O (bI r):=by
   show(uA r).data.size=_;rw[<-Array.length_toList,KT,sN]
  have:=a.mi;rw[b];unfold bw;omega
 rw[keyOf_string underlying9];simp[mapKey,underlying9,hs,EJ]
theorem zm(h:bG zA 0 5 1 w0 w v (bI r)):(convert 372 9 v).run prog w= .ok (j3 (uA r)) w:=by
 rcases h.1 with⟨rfl,a⟩|⟨g,cap,cur,rfl,-⟩
 .have a:=List.eq_nil_of_length_eq_zero a;have d:uA r=ByteArray.empty:=by unfold uA;rw[a];rfl
  rw[d];exact run_convert_bytes_nil w 372 5 underlying372 underlying5 _ _ 9 underlying9
 .refine run_convert_bytes_arg w 372 5 underlying372 underlying5 g 0 _ cap ((bI r).map Int.ofNat) X (λi b=> ?_) 9 underlying9;let⟨g2,o2,c2,e2,c⟩:=h.rd.DR b;injection e2 with e1 _ _;injection e1 with e1;injection e1 with e1 e3 _;rw[e1,e3,c];simp only[zA];rw[iB,iB,Pm,kX b];rfl
def zD(m:Lit->Option aF)(cnt:Row->Nat):Prop:=∀r,dI r->m (EJ r)=if cnt r=0 then K else H (i6 i7 (cnt r:Int))
structure LG(w:aA)(ρ:aW)(τ kb lb rb cm:Nat)(s:mC)(aI:List Row)(cnt:Row->Nat)(F G:Nat):Prop where
 bS:w.heap[kb]? =H (h8 #[h9 (H ⟨lb,0,K⟩),.map (H cm),.map K] 170 (0,0))
 bT:ρ kb=τ
 lv:yC w ρ τ lb rb s aI F G
 QP:∃m,fW w 9 cm m (O aI)/\zD m cnt
 QN:ρ cm=τ+1
 ok:∀r,r∈aI↔0<cnt r
 few:∀r,cnt r<=65536
theorem LG.dg{s:mC}{cnt:Row->Nat}{S:Nat->Prop}(h:LG w ρ τ kb lb rb cm s aI cnt F G)(a:bA w ρ S w' bN)(b:¬S τ)(g:¬S (τ+1))(i:∀c,c<20->¬S (τ+20+c)):LG w' bN τ kb lb rb cm s aI cnt F G:=by
 obtain⟨m,d,e⟩:=h.QP;exact⟨a.aC h.bS (h.bT▸b),(a.bT _ (cV h.bS)).dd h.bT,h.lv.dg a b i,⟨m,d.dg a (h.QN▸g),e⟩,(a.bT _ d.lt).dd h.QN,h.ok,h.few⟩
theorem ky{s:mC}{cnt:Row->Nat}(h:LG w ρ τ kb lb rb cm s aI cnt F G)(hv:eX dR aP 3 w v r)(n:dI r)(q:∀c∈s.dg,c<O r)(l:O s.dg<=30):
  aH prog 271 #[h9 (H ⟨kb,0,K⟩),v] w λe w'=>∃u,e=i5 (i8 #[u,j3 (uA (dG r s.dg))])/\bG dR aP 65 3 w w' u (dG r s.dg)/\U w [] w' []:=by
 obtain⟨⟨N,qL,S,sc,ua,uc,B,i,C⟩,L,k,R⟩:=h.lv;have y:=h.bS;have x:=(GS v _ r s.dg w hv i.1 l q (nA n.len));have b:=(n.dG l q);obtain⟨va,vc,rfl,-⟩:=hv.len;have P:=Zc B 2;have f:=Zc y 0;go_in;go_upto_region 3 with(first
  |(go_at_call 78;apply x.cF;rintro e w1 ⟨u,rfl,a,d⟩;obtain⟨T,oc,rfl,-⟩:=a.len;have p:=Z a;have z:=Z d)
  |(go_at_call 250;apply(lz _ _ w1 p.rd b).cF;rintro e w2 ⟨u,rfl,a,d⟩;obtain⟨pa,pc,rfl,-⟩:=a.len;have A:=Z a;have j:=Z d))
 have g:=zm (A.on ((U.refl w2 []).drew));refine aO 99 (λw'=>(convert 372 9 (hY pa (O (bI (dG r s.dg))) pc)).run prog w'= .ok (j3 (uA (dG r s.dg))) w') dB g (λQ=> ?_);refine dw [0,3,1,2,4] ?_;refine aY dB ?_ _;have m:=(U.refl w2 []).drew;go_wp2;go_ret2;exact⟨_,rfl,p.on (j.dd m),(z.dd j).dd m⟩
variable{m':Lit->Option aF}{aIX:Row->Nat}
theorem ZM28{P:Prop}(h:P:=by
  obtain⟨x0,x1⟩:=Z2 hX4;obtain⟨z0,z1⟩:=Z2 D1;have zf:=aM D1;have zl:=iO (cV D1);have DY:=Z RC;have VO:=Z Ln;clear hX4 D1 ZC RC aDV Ln xr hc4 Dy qK SH hlm hcu;go_wp2;have Hk:=(VO.o.bT bm (cV MW.o)).dd SZ.o;have Ci:=kg.o.dd (VO.o.aN (T:=eZ τ) (λ_ h=> .inr (.inr (.inr h))));have Gz:=A5.o;let⟨q1,q2,q3⟩:=DY.o.pA Ci lC.o Hk cH (eB g2 0 1 1);refine mD (aT (A:=Ad bm 0) (T:=197) rfl Yr (v:= .agg #[cH,eB g2 0 1 1]) (by go_simp)) rfl ?_;refine⟨_,q2,_,rfl,q1,W9.dg ⟨_,_,t,t,rfl,.inl rfl,.inl rfl,iN.nil _ _ _ _,DW.o.dg VO.o Y Y⟩ q3 Y Y Y⟩):P:=h
def aEh(w:aA)(ρ:aW)(τ t kb lb rb cm:Nat)(s:mC)(F G:Nat)(aI:List Row)(cnt:Row->Nat)(x:Except Nat (List Row×(Row->Nat)×SV))(e:cg)(w':aA):Prop:=
 ∃bN,bA w ρ (eZ τ) w' bN/\match x with
 | .error er=>e=i5 (i8 #[zS,i6 i7 (er:Int)])/\LG w' bN τ kb lb rb cm s aI cnt F G
 | .ok (l',c',m)=>∃mv,e=i5 (i8 #[mv,i6 i7 0])/\LG w' bN τ kb lb rb cm s l' c' F G/\W9 w' bN τ t mv m
def X'(s:mC)(aI:List Row)(cnt:Row->Nat)(cY:Row):Except Nat (List Row×(Row->Nat)×SV):=
 if cnt cY=65536 then .error 31
 else if cnt cY=0 then if O aI=s.most then .error 31 else .ok (aI++[cY],fP cnt cY 1,⟨[cY],[cY]⟩)
 else .ok (aI,fP cnt cY (cnt cY+1),⟨[],[cY]⟩)
def Kc(aI:List Row)(cnt:Row->Nat)(cY:Row):Except Nat (List Row×(Row->Nat)×SV):=
 if cnt cY=0 then .error 192
 else if cnt cY=1 then .ok (aI.erase cY,fP cnt cY 0,⟨[cY],[cY]⟩)
 else .ok (aI,fP cnt cY (cnt cY-1),⟨[],[cY]⟩)
theorem zD.put{m:Lit->Option aF}{cnt:Row->Nat}{cY:Row}(h:zD m cnt)(b:dI cY)(c:n≠0):zD (Rq m (EJ cY) (i6 i7 (n:Int))) (fP cnt cY n):=by
 intro r a;unfold Rq fP;by_cases e:r=cY
 .subst e;simp[c]
 .rw[bD (λh=>e (YI a b h)),bD e];exact h r a
theorem zD.del{m:Lit->Option aF}{cnt:Row->Nat}{cY:Row}(h:zD m cnt)(b:dI cY):zD (vj m (EJ cY)) (fP cnt cY 0):=by
 intro r a;unfold vj fP;by_cases e:r=cY
 .subst e;simp
 .rw[bD (λh=>e (YI a b h)),bD e];exact h r a
theorem zD.t6{m:Lit->Option aF}{cnt:Row->Nat}{cY:Row}(h:zD m cnt)(a:dI cY):(m (EJ cY)).getD (i6 i7 0)=i6 i7 (cnt cY:Int):=by
 rw[h cY a];split
 .rename_i e;rw[e];rfl
 .rfl
theorem zD.some{m:Lit->Option aF}{cnt:Row->Nat}{cY:Row}(h:zD m cnt)(a:dI cY):(m (EJ cY)).isSome=decide (cnt cY≠0):=by
 rw[h cY a];split
 .rename_i e;simp[e]
 .rename_i e;simp[e]
theorem vZ{m:Lit->Option aF}{cnt:Row->Nat}{cY:Row}(b:fW w 9 cm m n)(h:zD m cnt)(a:dI cY):
  (Instr.lookup 168 (.map (H cm)) (j3 (uA cY)) po).run prog w= .ok (i6 i7 (cnt cY:Int)) w:=by
 have:=b.t6 (string_keyed underlying9) underlying168 (z:=J 0) Yr (S6 a);rw[h.t6 a]at this;exact this
theorem ii{m:Lit->Option aF}{cnt:Row->Nat}{cY:Row}{k:Nat}(i:fW w 9 cm m n)(h:zD m cnt)(a:dI cY)(c:n<bw)(d:k≠0):
  ∃w' m',(Instr.mapUpdate 168 (.map (H cm)) (j3 (uA cY)) (i6 i7 (k:Int))).run prog w= .ok () w'/\fW w' 9 cm m' (if cnt cY=0 then n+1 else n)/\zD m' (fP cnt cY k)/\U w [cm] w' [cm]:=by
 let⟨w',j,b,g⟩:=i.put (string_keyed underlying9) underlying168 c (S6 a) trivial (It k);refine⟨w',_,j,?_,h.put a d,g⟩;rw[h.some a]at b;by_cases e:cnt cY=0
 .rw[bR e];simpa[e]using b
 .rw[bD e];simpa[e]using b
theorem aON{m:Lit->Option aF}{cnt:Row->Nat}{cY:Row}(e:fW w 9 cm m n)(h:zD m cnt)(a:dI cY)(c:cnt cY≠0)(ty:TypeId):
  ∃w' m',(Builtin.delete_ #[168,9] ty #[.map (H cm),j3 (uA cY)]).run prog w= .ok (i8 #[]) w'/\fW w' 9 cm m' (n-1)/\zD m' (fP cnt cY 0)/\U w [cm] w' [cm]:=by
 let⟨w',g,b,d⟩:=e.del (string_keyed underlying9) underlying168 (S6 a) ty;refine⟨w',_,g,?_,h.del a,d⟩;rw[h.some a]at b;simpa[c]using b
theorem LG.pA{s:mC}{cnt:Row->Nat}(h:LG w1 dN τ kb lb rb cm s aI cnt F G)(g:bA w ρ (eZ τ) w1 dN)(b:hJ w.heap<=bm)(d:dN bm=τ+99)(x y:aF):
  LG (ey (ey w1 ⟨bm,0,K⟩ x) ⟨bm,1,K⟩ y) dN τ kb lb rb cm s aI cnt F G/\bA w ρ (eZ τ) (ey (ey w1 ⟨bm,0,K⟩ x) ⟨bm,1,K⟩ y) dN/\bA w1 dN (·=τ+99) (ey (ey w1 ⟨bm,0,K⟩ x) ⟨bm,1,K⟩ y) dN:=by
 have e:bA w1 dN (·=τ+99) (ey (ey w1 (Ad bm 0) x) (Ad bm 1) y) dN:=((bA.refl w1 dN _).setCell (a:=Ad bm 0) (.inl d) x).setCell (a:=Ad bm 1) (.inl d) y;exact⟨h.dg e (by show¬_=_;omega) (by show¬_=_;omega) (λc i=>by show¬_=_;omega),(g.setCell (a:=Ad bm 0) (.inr b) x).setCell (a:=Ad bm 1) (.inr b) y,e⟩
def TmW(τ x:Nat):Prop:=eG (τ+20) x\/x=τ+1\/x=τ+99
theorem LG.K4{s:mC}{l':List Row}{cnt:Row->Nat}(h:LG w ρ τ kb lb rb cm s aI cnt F G)(a:bA w ρ (TmW τ) w' bN)(n:JH w' bN (τ+20) rb s.bL s.most [s.up] l' F G)(j:fW w' 9 cm m' (O l'))(u:zD m' aIX)(v:∀r,r∈l'↔0<aIX r)(i:∀r,aIX r<=65536):LG w' bN τ kb lb rb cm s l' aIX F G:=by
 obtain⟨⟨p,l,x,sc,ua,uc,e,q,hs⟩,g,y,d⟩:=h.lv;have b:¬TmW τ τ:=by unfold TmW eG;omega
 refine⟨a.aC h.bS (h.bT▸b),(a.bT kb (cV h.bS)).dd h.bT,⟨⟨p,l,x,sc,ua,uc,a.aC e (g▸b),q.dg a b,hs.dg a b⟩,(a.bT _ (cV e)).dd g,n,d⟩,⟨m',j,u⟩,?_,v,i⟩;obtain⟨m,c,-⟩:=h.QP;exact(a.bT _ c.lt).dd h.QN
theorem aLY{t:Nat}{s:mC}{cnt:Row->Nat}(fr:Int)(h:LG w ρ τ kb lb rb cm s aI cnt F G)(n7:s.aG=2)(hv:eX dR aP 3 w v r)(hg:dI r/\O r=s.inW)(pH:F+1<=G)(hG:G<=1073741824)(ht:t<τ\/τ+100<=t):
  aH prog 268 #[h9 (H ⟨kb,0,K⟩),i6 i7 fr,v] w (aEh w ρ τ t kb lb rb cm s F G aI cnt (X' s aI cnt (dG r s.dg))):=by
 have kN:=h.lv.ok;obtain⟨va,vc,rfl,-⟩:=hv.len;let⟨cY,zT⟩:=E (dG r s.dg);have vT:=kN.dg;rw[bR n7]at vT;have Ec:O s.dg<=30:=jN vT.1.len kN.inW;have I7:dI cY:=zT▸hg.1.dG Ec (λc p=>by rw[hg.2];exact vT.1.2 c p);have hlo:O cY=s.bL:=by rw[<-zT,uT];unfold mC.bL;rw[bR n7]
 let⟨wa,dE⟩:=E (e8 w (h8 #[cH,cH] 197));have cR:=Za dE;have kG:=Zb dE;let⟨bm,JO⟩:=E (hJ w.heap);have kP:bA w ρ eL wa (up w (τ+99) ρ):=cR.eW (S:=eL) (τ+99) (λ_ h=>dS h X);have mE:up w (τ+99) ρ bm=τ+99:=cJ Y;have wR:=h.dg kP id id zE;have nN:=hv.on cR;let⟨z,nL⟩:=E (up w (τ+99) ρ);rw[nL]at kP mE wR;rw[JO]at kG;have hOW:=ky wR nN hg.1 (λc p=>by rw[hg.2];exact vT.1.2 c p) Ec;rw[zT]at hOW|-;have MV:=Z hOW;have BA:=Z kN;have JU:=Z kP;have mP:=Z mE;have EW:=Z wR;have tQ:=Z kG;have A5:=Z ht;have W:=Z I7;have qy:=Z hlo;have CL:=Z (show O cY<=100000 by have:=I7.len;omega);have lC:=Z (show hJ w.heap<=bm by omega);clear h kN hv hg ht cR kG kP mE nN wR nL hOW I7 hlo zT vT Ec;unfold X';have RI:=Z (dX pH hG);clear pH hG;by_cases OA:cnt cY=65536
 .rw[bR OA];go_in;go_upto_region 2 with(go_at_call 271;apply MV.o.cF;rintro e w1 ⟨u,rfl,f,hU⟩;obtain⟨oa,oc,rfl,-⟩:=f.len;have i:bA wa z eL w1 (up wa (τ+98) z):=hU.eW (S:=eL) (τ+98) (λ_ h=>dS h X);have C:=(f.jU (τ+98) z).rd;have o:=EW.o.dg i id id zE;have eQ:=i.aC tQ.o id;have L:=(i.bT bm (cV tQ.o)).dd mP.o;have N:=(JU.o.dd i).aN (T:=eZ τ) pW;let⟨dN,nM⟩:=E (up wa (τ+98) z);rw[nM]at i C o L N;have zL:=Z C;have n:=Z o;have y:=Z eQ;have sL:=Z L;have rQ:=Z N;clear i C o eQ L N nM f hU);obtain⟨m,hm,p⟩:=n.o.QP;have q:=vZ hm p W.o;have d:=n.o.bS;have B:=Zc d 1;have hB:=y.o;obtain⟨z0,z1⟩:=Z2 hB;have zf:=aM hB;have zl:=iO (cV hB);rw[OA]at q;clear hB d hm p;go_wp2;let⟨q1,q2,q3⟩:=n.o.pA rQ.o lC.o sL.o cH cH;exact ZM126
 .rw[bD OA];have HFL:=Z OA;have hfi:¬(cnt cY:Int)=65536:=Y;clear OA;by_cases hz:cnt cY=0
  .rw[bR hz];have HZ:=Z hz;have CK:=Z (show cY∉aI from λhm=>by have:=(EW.o.ok cY).1 hm;omega);by_cases hn:O aI=s.most
   .rw[bR hn];have HPS:=Z (show lM s.bL s.most aI cY=(po,31,aI) by unfold lM;rw[bD (by simp[W.o.1,qy.o]),bD CK.o,bR hn]);clear hn hz;go_in;go_upto_region 2 with(go_at_call 271;apply MV.o.cF;rintro e w1 ⟨u,rfl,f,hU⟩;obtain⟨oa,oc,rfl,-⟩:=f.len;have i:bA wa z eL w1 (up wa (τ+98) z):=hU.eW (S:=eL) (τ+98) (λ_ h=>dS h X);have C:=(f.jU (τ+98) z).rd;have o:=EW.o.dg i id id zE;have eQ:=i.aC tQ.o id;have L:=(i.bT bm (cV tQ.o)).dd mP.o;have N:=(JU.o.dd i).aN (T:=eZ τ) pW;let⟨dN,nM⟩:=E (up wa (τ+98) z);rw[nM]at i C o L N;have zL:=Z C;have n:=Z o;have y:=Z eQ;have sL:=Z L;have rQ:=Z N;clear i C o eQ L N nM f hU);obtain⟨m,hm,p⟩:=n.o.QP;have q:=vZ hm p W.o;have d:=n.o.bS;have B:=Zc d 1;clear d hm p;go_upto_region 5 with(go_at_call 222;apply(mL (ρ:=dN) t zL.o.1 CL.o).cF;rintro e w2 ⟨g2,rfl,bH,pT⟩;have eM:=Z bH;have DX:=Z pT;clear bH pT);clear q B;let⟨w3,P⟩:=E (e8 w2 (h8 #[cH,eB g2 0 1 1] 197));let⟨bx,R⟩:=E (hJ w2.heap);rw[P,R];have KV:=Za P;have Q:bA w1 dN eL w2 (up w1 t dN):=eM.o.eW (S:=eL) t (λ_ h=>dS h X);have Y3:bA w2 (up w1 t dN) eL w3 (up w2 (τ+99) (up w1 t dN)):=KV.eW (S:=eL) (τ+99) (λ_ h=>dS h X);have j:=Q.dd Y3;have OB:=Ze P R;have ZI:up w2 (τ+99) (up w1 t dN) bx=τ+99:=cJ Y;have qR:=DX.o.dg Y3 id id;have Tu:hJ w.heap<=bx:=R▸jN rQ.o.size Q.size;have Ub:bx≠bm:=rV (cV y.o) Q.size;let⟨kM,lO⟩:=E (up w2 (τ+99) (up w1 t dN));rw[lO]at j ZI qR;have V:=n.o.dg j id id zE;have MW:=Z (j.aC y.o id);have SZ:=Z ((j.bT bm (cV y.o)).dd sL.o);have kg:=Z (rQ.o.dd (j.aN (T:=eZ τ) pW));have NL:=Z (zL.o.dg j id);have LO:=Z OB;have Oz:=Z ZI;have DW:=Z qR;have HXN:=Z Tu;have tP:=Z Ub;obtain⟨m3,M6,U8⟩:=V.QP;have q:=vZ M6 U8 W.o;have d:=V.bS;have B:=Zc d 1;have g:=Z V;have tC:=Z M6;have HC3:=Z U8;clear P R KV Q Y3 j OB ZI qR Tu Ub lO V M6 U8 d y sL rQ zL n;rw[HZ.o]at q;obtain⟨⟨ya,yc,ysa,ysc,yua,yuc,uD,-,-⟩,-,-,-⟩:=g.o.lv;have d:=g.o.bS;clear B;obtain⟨k0,B⟩:=Z2 d;have l6:=Zc uD 6;clear uD d;have qL:=NV g.o.lv.Fm NL.o (by unfold eG;omega) W.o.QK RI.o.1 RI.o.2;rw[HPS.o]at qL;have JI:=Z qL;clear qL;go_upto_region 7 with(go_at_call 224;apply JI.o.cF;rintro e w4 ⟨CO,rfl,hM,hS⟩;have HX4:=Z (hM.aC LO.o (by rw[Oz.o];unfold eG;omega));have JW:=Z (hM.aC MW.o (by rw[SZ.o];unfold eG;omega));have VK:=Z hS;have JV:=Z hM;clear hM hS);have hB:=JW.o;obtain⟨z0,z1⟩:=Z2 hB;have zf:=aM hB;have zl:=iO (cV hB);clear hB k0 B l6 q;go_wp2;have RC:=g.o.K4 (JV.o.aN (λ_ h=> .inl h)) VK.o (tC.o.dg JV.o (by rw[g.o.QN];unfold eG;omega)) HC3.o g.o.ok g.o.few;let⟨q1,q2,q3⟩:=RC.pA (kg.o.dd (JV.o.aN (λ_ h=> .inl h))) lC.o ((JV.o.bT bm (cV MW.o)).dd SZ.o) cH cH;refine mD (aT (A:=Ad bm 0) (T:=197) rfl Yr (v:=zS) (by go_simp)) rfl ?_;exact⟨CO,q2,rfl,q1⟩
   .rw[bD hn];have HPS:=Z (show lM s.bL s.most aI cY=(oj,0,aI++[cY]) by unfold lM;rw[bD (by simp[W.o.1,qy.o]),bD CK.o,bD hn]);have hlm:O aI<bw:=by have:=EW.o.lv.Fm.JF;have:=BA.o.most.2;unfold bw;omega
    have HLM:=Z hlm;clear hn hz hlm;go_in;go_upto_region 2 with(go_at_call 271;apply MV.o.cF;rintro e w1 ⟨u,rfl,f,hU⟩;obtain⟨oa,oc,rfl,-⟩:=f.len;have i:bA wa z eL w1 (up wa (τ+98) z):=hU.eW (S:=eL) (τ+98) (λ_ h=>dS h X);have C:=(f.jU (τ+98) z).rd;have o:=EW.o.dg i id id zE;have eQ:=i.aC tQ.o id;have L:=(i.bT bm (cV tQ.o)).dd mP.o;have N:=(JU.o.dd i).aN (T:=eZ τ) pW;let⟨dN,nM⟩:=E (up wa (τ+98) z);rw[nM]at i C o L N;have zL:=Z C;have n:=Z o;have y:=Z eQ;have sL:=Z L;have rQ:=Z N;clear i C o eQ L N nM f hU);obtain⟨m,hm,p⟩:=n.o.QP;have q:=vZ hm p W.o;have d:=n.o.bS;have B:=Zc d 1;clear d hm p;go_upto_region 5 with(go_at_call 222;apply(mL (ρ:=dN) t zL.o.1 CL.o).cF;rintro e w2 ⟨g2,rfl,bH,pT⟩;have eM:=Z bH;have DX:=Z pT;clear bH pT);clear q B;let⟨w3,P⟩:=E (e8 w2 (h8 #[cH,eB g2 0 1 1] 197));let⟨bx,R⟩:=E (hJ w2.heap);rw[P,R];have KV:=Za P;have Q:bA w1 dN eL w2 (up w1 t dN):=eM.o.eW (S:=eL) t (λ_ h=>dS h X);have Y3:bA w2 (up w1 t dN) eL w3 (up w2 (τ+99) (up w1 t dN)):=KV.eW (S:=eL) (τ+99) (λ_ h=>dS h X);have j:=Q.dd Y3;have OB:=Ze P R;have ZI:up w2 (τ+99) (up w1 t dN) bx=τ+99:=cJ Y;have qR:=DX.o.dg Y3 id id;have Tu:hJ w.heap<=bx:=R▸jN rQ.o.size Q.size;have Ub:bx≠bm:=rV (cV y.o) Q.size;let⟨kM,lO⟩:=E (up w2 (τ+99) (up w1 t dN));rw[lO]at j ZI qR;have V:=n.o.dg j id id zE;have MW:=Z (j.aC y.o id);have SZ:=Z ((j.bT bm (cV y.o)).dd sL.o);have kg:=Z (rQ.o.dd (j.aN (T:=eZ τ) pW));have NL:=Z (zL.o.dg j id);have LO:=Z OB;have Oz:=Z ZI;have DW:=Z qR;have HXN:=Z Tu;have tP:=Z Ub;obtain⟨m3,M6,U8⟩:=V.QP;have q:=vZ M6 U8 W.o;have d:=V.bS;have B:=Zc d 1;have g:=Z V;have tC:=Z M6;have HC3:=Z U8;clear P R KV Q Y3 j OB ZI qR Tu Ub lO V M6 U8 d y sL rQ zL n;rw[HZ.o]at q;obtain⟨⟨ya,yc,ysa,ysc,yua,yuc,uD,-,-⟩,-,-,-⟩:=g.o.lv;have d:=g.o.bS;clear B;obtain⟨k0,B⟩:=Z2 d;have l6:=Zc uD 6;clear uD d;have qL:=NV g.o.lv.Fm NL.o (by unfold eG;omega) W.o.QK RI.o.1 RI.o.2;rw[HPS.o]at qL;have JI:=Z qL;clear qL;go_upto_region 9 with(go_at_call 224;apply JI.o.cF;rintro e w4 ⟨CO,rfl,hM,hS⟩;have HX4:=Z (hM.aC LO.o (by rw[Oz.o];unfold eG;omega));have JW:=Z (hM.aC MW.o (by rw[SZ.o];unfold eG;omega));have VK:=Z hS;have JV:=Z hM;clear hM hS);clear k0 B l6 q;have NK:=Z (NL.o.dg JV.o (by unfold eG;omega));go_upto_region 10 with(go_at_call 222;apply(mL (ρ:=CO) t NK.o.1 CL.o).cF;rintro e w5 ⟨g5,rfl,cQ,tB⟩;have gD:=Z cQ;have sS:=Z tB;have Hi:=cQ.aC HX4.o X;obtain⟨x0,x1⟩:=Z2 Hi;have xf:=aM Hi;have xl:=iO (cV Hi);have qp:=Z Hi;clear cQ tB Hi);clear x0 x1 xf xl;let⟨w6,iA⟩:=E (ey w5 (Ad bx 0) (eB g5 0 1 1));rw[iA];have l:bA w4 CO eL w5 (up w4 t CO):=gD.o.eW (S:=eL) t (λ_ h=>dS h X);have Xh:up w4 t CO bx=τ+99:=(l.bT bx (cV HX4.o)).dd ((JV.o.bT bx (cV LO.o)).dd Oz.o);have Xg:bA w5 (up w4 t CO) (·=τ+99) w6 (up w4 t CO):=iA▸(bA.refl w5 _ _).setCell (a:=Ad bx 0) (.inl Xh) _;have Eh:w6.heap[bx]? =H (h8 #[eB g5 0 1 1,eB g2 0 1 1] 197 (0,0)):=by rw[<-iA,aE _ qp.o];rfl
    have nP:w6.heap[bm]? =H (h8 #[cH,cH] 197 (0,0)):=by rw[<-iA,Iw _ _ _ _ (λe=>tP.o e.symm)];exact l.aC JW.o id
    let⟨rU,Lf⟩:=E (up w4 t CO);have tB:=sS.o;rw[Lf]at l Xg tB Xh;have m36:bA w3 kM (TmW τ) w6 rU:=((JV.o.aN (T:=TmW τ) (λ_ h=> .inl h)).dd (l.aN pW)).dd (Xg.aN (λ_ h=> .inr (.inr h)));have Mh:bA w ρ (eZ τ) w6 rU:=by
     rw[<-iA];exact((kg.o.dd (JV.o.aN (λ_ h=> .inl h))).dd (l.aN pW)).setCell (a:=Ad bx 0) (.inr HXN.o) _
    have hm6:=((tC.o.dg JV.o (by rw[g.o.QN];unfold eG;omega)).dg l id).dg Xg (by rw[l.bT cm ((tC.o.dg JV.o (by rw[g.o.QN];unfold eG;omega)).lt),JV.o.bT cm tC.o.lt,g.o.QN];omega);have q:=vZ hm6 HC3.o W.o;rw[HZ.o]at q;rw[show((0:Nat):Int)=0 from rfl]at q;let⟨w7,m7,iP,hm7,hc7,Xl⟩:=ii (k:=1) hm6 HC3.o W.o HLM.o Y;rw[show((1:Nat):Int)=1 from rfl]at iP;rw[bR HZ.o]at hm7;have aSY:rU cm=τ+1:=(m36.bT cm tC.o.lt).dd g.o.QN;have m67:bA w6 rU (·=τ+1) w7 rU:=Xl.p9 (λk hk=> .inl ((show k=cm by simpa using hk)▸aSY));have ZC:∀(b:Nat) (cs:Array aF),w6.heap[b]? =H (h8 cs 197 (0,0))->w7.heap[b]? =H (h8 cs 197 (0,0)):=λb cs hb=>Xl.aC hb (by simpa using(hm6.ne hb).symm);have hX7:=ZC _ _ Eh;have EM:=ZC _ _ nP;have d:=g.o.bS;have aRw:=m36.aC d (by rw[g.o.bT];unfold TmW eG;omega);have B:=Zc aRw 1;have SH:=g.o.ok;have qK:=g.o.few;have wW:=g.o.K4 (m36.dd (m67.aN (λ_ h=> .inr (.inl h)))) (((VK.o.dg l zE).dg Xg (λc p=>Y)).dg m67 (λc p=>Y)) (show fW w7 _ cm m7 (O (aI++[cY])) by simpa using hm7) hc7 (λx=>by
     unfold fP;by_cases e:x=cY
     .subst e;simp
     .rw[bD e,<-SH x];simp[e]) (λx=>by
     unfold fP;by_cases e:x=cY
     .rw[bR e];omega
     .rw[bD e];exact qK x)
    have Xj:IntKind.i64.wrap ((0:Int)+1)=1:=by rfl
    obtain⟨x0,x1⟩:=Z2 hX7;obtain⟨z0,z1⟩:=Z2 EM;have zf:=aM EM;have zl:=iO (cV EM);have RH:=Z wW;have aFN:=Z m67;have Bn:=Z Xg;have a1h:=Z l;have HN7:=Z (Mh.dd (m67.aN (T:=eZ τ) (λ_ h=> .inr (.inr (.inr h)))));have Es:=Z ((m67.bT bm (cV nP)).dd ((m36.bT bm (cV MW.o)).dd SZ.o));have HRX:=Z tB;clear m36 Mh hm6 hm7 hc7 Xl aSY m67 Xg l ZC hX7 EM Eh nP d aRw SH qK wW Xh tB iA;go_wp2;have Gz:=A5.o;let⟨q1,q2,q3⟩:=RH.o.pA HN7.o lC.o Es.o (eB g5 0 1 1) (eB g2 0 1 1);refine mD (aT (A:=Ad bm 0) (T:=197) rfl Yr (v:= .agg #[eB g5 0 1 1,eB g2 0 1 1]) (by go_simp)) rfl ?_;exact⟨_,q2,_,rfl,q1,W9.dg ⟨_,_,t,t,rfl,.inl rfl,.inl rfl,(HRX.o.dg Bn.o Y Y).dg aFN.o Y Y,(((DW.o.dg JV.o (by unfold eG;omega) (by unfold eG;omega)).dg a1h.o id id).dg Bn.o Y Y).dg aFN.o Y Y⟩ q3 Y Y Y⟩
  .rw[bD hz];have hzi:¬(cnt cY:Int)=0:=Y;have HZ:=Z hz;clear hz;go_in;go_upto_region 2 with(go_at_call 271;apply MV.o.cF;rintro e w1 ⟨u,rfl,f,hU⟩;obtain⟨oa,oc,rfl,-⟩:=f.len;have i:bA wa z eL w1 (up wa (τ+98) z):=hU.eW (S:=eL) (τ+98) (λ_ h=>dS h X);have C:=(f.jU (τ+98) z).rd;have o:=EW.o.dg i id id zE;have eQ:=i.aC tQ.o id;have L:=(i.bT bm (cV tQ.o)).dd mP.o;have N:=(JU.o.dd i).aN (T:=eZ τ) pW;let⟨dN,nM⟩:=E (up wa (τ+98) z);rw[nM]at i C o L N;have zL:=Z C;have n:=Z o;have y:=Z eQ;have sL:=Z L;have rQ:=Z N;clear i C o eQ L N nM f hU);obtain⟨m,hm,p⟩:=n.o.QP;have q:=vZ hm p W.o;have d:=n.o.bS;have B:=Zc d 1;clear d hm p;go_upto_region 5 with(go_at_call 222;apply(mL (ρ:=dN) t zL.o.1 CL.o).cF;rintro e w2 ⟨g2,rfl,bH,pT⟩;have eM:=Z bH;have DX:=Z pT;clear bH pT);clear q B;let⟨w3,P⟩:=E (e8 w2 (h8 #[cH,eB g2 0 1 1] 197));let⟨bx,R⟩:=E (hJ w2.heap);rw[P,R];have KV:=Za P;have Q:bA w1 dN eL w2 (up w1 t dN):=eM.o.eW (S:=eL) t (λ_ h=>dS h X);have Y3:bA w2 (up w1 t dN) eL w3 (up w2 (τ+99) (up w1 t dN)):=KV.eW (S:=eL) (τ+99) (λ_ h=>dS h X);have j:=Q.dd Y3;have OB:=Ze P R;have ZI:up w2 (τ+99) (up w1 t dN) bx=τ+99:=cJ Y;have qR:=DX.o.dg Y3 id id;have Tu:hJ w.heap<=bx:=R▸jN rQ.o.size Q.size;have Ub:bx≠bm:=rV (cV y.o) Q.size;let⟨kM,lO⟩:=E (up w2 (τ+99) (up w1 t dN));rw[lO]at j ZI qR;have V:=n.o.dg j id id zE;have MW:=Z (j.aC y.o id);have SZ:=Z ((j.bT bm (cV y.o)).dd sL.o);have kg:=Z (rQ.o.dd (j.aN (T:=eZ τ) pW));have NL:=Z (zL.o.dg j id);have LO:=Z OB;have Oz:=Z ZI;have DW:=Z qR;have HXN:=Z Tu;have tP:=Z Ub;obtain⟨m3,M6,U8⟩:=V.QP;have q:=vZ M6 U8 W.o;have d:=V.bS;have B:=Zc d 1;have g:=Z V;have tC:=Z M6;have HC3:=Z U8;clear P R KV Q Y3 j OB ZI qR Tu Ub lO V M6 U8 d y sL rQ zL n;have hlm:O aI<bw:=by have:=g.o.lv.Fm.JF;have:=BA.o.most.2;unfold bw;omega
   let⟨w4,m4,iP,xr,hc4,Dy⟩:=ii (k:=cnt cY+1) tC.o HC3.o W.o hlm Y;rw[show(((cnt cY+1:Nat)):Int)=(cnt cY:Int)+1 by omega]at iP;rw[bD HZ.o]at xr;have ZC:∀(b:Nat) (cs:Array aF),w3.heap[b]? =H (h8 cs 197 (0,0))->w4.heap[b]? =H (h8 cs 197 (0,0)):=λb cs hb=>Dy.aC hb (by simpa using(tC.o.ne hb).symm);have hX4:=ZC _ _ LO.o;have D1:=ZC _ _ MW.o;have Ln:bA w3 kM (·=τ+1) w4 kM:=Dy.p9 (λk hk=> .inl ((show k=cm by simpa using hk)▸g.o.QN));have aDV:=Ln.aN (T:=TmW τ) (λ_ h=> .inr (.inl h));have qK:=g.o.few;have SH:=g.o.ok;have RC:=g.o.K4 aDV (g.o.lv.Fm.dg Ln (λc p=>Y)) xr hc4 (λx=>by
    unfold fP;by_cases e:x=cY
    .subst e;rw[bR rfl,SH];have:=HZ.o;omega
    .rw[bD e];exact SH x) (λx=>by
    unfold fP;by_cases e:x=cY
    .subst e;rw[bR rfl];have:=HFL.o;have:=qK x;omega
    .rw[bD e];exact qK x)
   have hcu:(cnt cY:Int)<=65536:=nA (qK cY);have Xj:IntKind.i64.wrap ((cnt cY:Int)+1)=(cnt cY:Int)+1:=TA _ Y;exact ZM28
theorem aGQ{t:Nat}{s:mC}{cnt:Row->Nat}(fr:Int)(h:LG w ρ τ kb lb rb cm s aI cnt F G)(n7:s.aG=2)(hv:eX dR aP 3 w v r)(hg:dI r/\O r=s.inW)(D0:G<=F)(hG:G<1073741824)(ht:t<τ\/τ+100<=t):
  aH prog 267 #[h9 (H ⟨kb,0,K⟩),i6 i7 fr,v] w (aEh w ρ τ t kb lb rb cm s F G aI cnt (Kc aI cnt (dG r s.dg))):=by
 have kN:=h.lv.ok;obtain⟨va,vc,rfl,-⟩:=hv.len;let⟨cY,zT⟩:=E (dG r s.dg);have vT:=kN.dg;rw[bR n7]at vT;have Ec:O s.dg<=30:=jN vT.1.len kN.inW;have I7:dI cY:=zT▸hg.1.dG Ec (λc hc=>by rw[hg.2];exact vT.1.2 c hc);have hlo:O cY=s.bL:=by rw[<-zT,uT];unfold mC.bL;rw[bR n7]
 let⟨wa,dE⟩:=E (e8 w (h8 #[cH,cH] 197));have cR:=Za dE;have kG:=Zb dE;let⟨bm,JO⟩:=E (hJ w.heap);have kP:bA w ρ eL wa (up w (τ+99) ρ):=cR.eW (S:=eL) (τ+99) (λ_ h=>dS h X);have mE:up w (τ+99) ρ bm=τ+99:=cJ Y;have wR:=h.dg kP (λh=>h) (λh=>h) (λ_ _ h=>h);have nN:=hv.on cR;let⟨y,nL⟩:=E (up w (τ+99) ρ);rw[nL]at kP mE wR;rw[JO]at kG;have hOW:=ky wR nN hg.1 (λc hc=>by rw[hg.2];exact vT.1.2 c hc) Ec;rw[zT]at hOW|-;have MV:=Z hOW;have BA:=Z kN;have JU:=Z kP;have mP:=Z mE;have EW:=Z wR;have tQ:=Z kG;have A5:=Z ht;have HG:=Z I7;have qy:=Z hlo;have CL:=Z (show O cY<=100000 by have:=I7.len;omega);have lC:=Z (show hJ w.heap<=bm by omega);clear h kN hv hg ht cR kG kP mE nN wR nL hOW I7 hlo zT vT Ec;unfold Kc;have HGF:=Z (dX D0 hG);clear D0 hG;by_cases hz:cnt cY=0
 .rw[bR hz];have HZ:=Z hz;clear hz;go_in;go_upto_region 3 with(first|(go_at_call 271;apply MV.o.cF;rintro e w1 ⟨u,rfl,L,hU⟩;obtain⟨oa,oc,rfl,-⟩:=L.len;have g:bA wa y eL w1 (up wa (τ+98) y):=hU.eW (S:=eL) (τ+98) (λ_ h=>dS h X);have B:=(L.jU (τ+98) y).rd;have C:=EW.o.dg g (λh=>h) (λh=>h) (λ_ _ h=>h);have eQ:=g.aC tQ.o (λh=>h);have o:=(g.bT bm (cV tQ.o)).dd mP.o;have qL:=(JU.o.dd g).aN (T:=eZ τ) (λ_ h=>h.elim);let⟨dN,nM⟩:=E (up wa (τ+98) y);rw[nM]at g B C o qL;have N:=Z B;have nV:=Z C;have m:=Z eQ;have sL:=Z o;have R:=Z qL;clear g B C eQ o qL nM L hU)|(go_at_call 222;apply(mL (ρ:=dN) t N.o.1 CL.o).cF;rintro e w2 ⟨g2,rfl,bH,pT⟩;have eM:=Z bH;have DX:=Z pT;clear bH pT));let⟨w3,l⟩:=E (e8 w2 (h8 #[cH,eB g2 0 1 1] 197));let⟨bx,p⟩:=E (hJ w2.heap);rw[l,p];have KV:=Za l;have n:bA w1 dN eL w2 (up w1 t dN):=eM.o.eW (S:=eL) t (λ_ h=>dS h X);have f:bA w2 (up w1 t dN) eL w3 (up w2 (τ+99) (up w1 t dN)):=KV.eW (S:=eL) (τ+99) (λ_ h=>dS h X);have d:=n.dd f;have OB:=Ze l p;have P:up w2 (τ+99) (up w1 t dN) bx=τ+99:=cJ Y;have qR:=DX.o.dg f (λh=>h) (λh=>h);have Tu:hJ w.heap<=bx:=p▸jN R.o.size n.size;have Ub:bx≠bm:=rV (cV m.o) n.size;let⟨kM,lO⟩:=E (up w2 (τ+99) (up w1 t dN));rw[lO]at d P qR;have q:=nV.o.dg d (λh=>h) (λh=>h) (λ_ _ h=>h);have MW:=Z (d.aC m.o (λh=>h));have SZ:=Z ((d.bT bm (cV m.o)).dd sL.o);have kg:=Z (R.o.dd (d.aN (T:=eZ τ) (λ_ h=>h.elim)));have NL:=Z (N.o.dg d (λh=>h));have LO:=Z OB;have Oz:=Z P;have DW:=Z qR;have HXN:=Z Tu;have tP:=Z Ub;obtain⟨m3,V,Q⟩:=q.QP;have lX:=vZ V Q HG.o;have z:=q.bS;have k1:=Zc z 1;have i:=Z q;have tC:=Z V;have HC3:=Z Q;clear l p KV n f d OB P qR Tu Ub lO q V Q z m sL R N nV;rw[HZ.o]at lX;have hB:=MW.o;obtain⟨z0,z1⟩:=Z2 hB;have zf:=aM hB;have zl:=iO (cV hB);clear hB;go_wp2;let⟨q1,q2,q3⟩:=i.o.pA kg.o lC.o SZ.o cH cH;refine mD (aT (A:=Ad bm 0) (T:=197) rfl Yr (v:=zS) (by go_simp)) rfl ?_;exact⟨kM,q2,rfl,q1⟩
 .rw[bD hz];have HZ:=Z hz;have hzi:¬(cnt cY:Int)=0:=Y;clear hz;by_cases h1:cnt cY=1
  .rw[bR h1];have H1:=Z h1;have HML:=Z (show cY∈aI from(EW.o.ok cY).2 Y);clear h1 hzi;go_in;go_upto_region 3 with(first|(go_at_call 271;apply MV.o.cF;rintro e w1 ⟨u,rfl,L,hU⟩;obtain⟨oa,oc,rfl,-⟩:=L.len;have g:bA wa y eL w1 (up wa (τ+98) y):=hU.eW (S:=eL) (τ+98) (λ_ h=>dS h X);have B:=(L.jU (τ+98) y).rd;have C:=EW.o.dg g (λh=>h) (λh=>h) (λ_ _ h=>h);have eQ:=g.aC tQ.o (λh=>h);have o:=(g.bT bm (cV tQ.o)).dd mP.o;have qL:=(JU.o.dd g).aN (T:=eZ τ) (λ_ h=>h.elim);let⟨dN,nM⟩:=E (up wa (τ+98) y);rw[nM]at g B C o qL;have N:=Z B;have nV:=Z C;have m:=Z eQ;have sL:=Z o;have R:=Z qL;clear g B C eQ o qL nM L hU)|(go_at_call 222;apply(mL (ρ:=dN) t N.o.1 CL.o).cF;rintro e w2 ⟨g2,rfl,bH,pT⟩;have eM:=Z bH;have DX:=Z pT;clear bH pT));let⟨w3,l⟩:=E (e8 w2 (h8 #[cH,eB g2 0 1 1] 197));let⟨bx,p⟩:=E (hJ w2.heap);rw[l,p];have KV:=Za l;have n:bA w1 dN eL w2 (up w1 t dN):=eM.o.eW (S:=eL) t (λ_ h=>dS h X);have f:bA w2 (up w1 t dN) eL w3 (up w2 (τ+99) (up w1 t dN)):=KV.eW (S:=eL) (τ+99) (λ_ h=>dS h X);have d:=n.dd f;have OB:=Ze l p;have P:up w2 (τ+99) (up w1 t dN) bx=τ+99:=cJ Y;have qR:=DX.o.dg f (λh=>h) (λh=>h);have Tu:hJ w.heap<=bx:=p▸jN R.o.size n.size;have Ub:bx≠bm:=rV (cV m.o) n.size;let⟨kM,lO⟩:=E (up w2 (τ+99) (up w1 t dN));rw[lO]at d P qR;have q:=nV.o.dg d (λh=>h) (λh=>h) (λ_ _ h=>h);have MW:=Z (d.aC m.o (λh=>h));have SZ:=Z ((d.bT bm (cV m.o)).dd sL.o);have kg:=Z (R.o.dd (d.aN (T:=eZ τ) (λ_ h=>h.elim)));have NL:=Z (N.o.dg d (λh=>h));have LO:=Z OB;have Oz:=Z P;have DW:=Z qR;have HXN:=Z Tu;have tP:=Z Ub;obtain⟨m3,V,Q⟩:=q.QP;have lX:=vZ V Q HG.o;have z:=q.bS;have k1:=Zc z 1;have i:=Z q;have tC:=Z V;have HC3:=Z Q;clear l p KV n f d OB P qR Tu Ub lO q V Q z m sL R N nV;rw[H1.o]at lX;rw[show((1:Nat):Int)=1 from rfl]at lX;let⟨w4,m4,aZL,xr,hc4,Dy⟩:=aON tC.o HC3.o HG.o HZ.o 0;have j:bA w3 kM (·=τ+1) w4 kM:=Dy.p9 (λk hk=> .inl ((show k=cm by simpa using hk)▸i.o.QN));have HX4:=Z (j.aC LO.o (j7 Oz.o));have JW:=Z (j.aC MW.o (j7 SZ.o));have z:=i.o.bS;have aRx:=j.aC z (j7 i.o.bT);obtain⟨⟨ya,yc,ysa,ysc,yua,yuc,uD,-,-⟩,aV,-,-⟩:=i.o.lv;have aRv:=j.aC uD (j7 aV);have hpt:=GQ (i.o.lv.Fm.dg j (λc hc=>Y)) (NL.o.dg j Y).1 HG.o.QK HGF.o.1 HGF.o.2;rw[show kD s.bL aI cY=(oj,0,aI.erase cY) by unfold kD;rw[bD (by simp[HG.o.1,qy.o]),bR HML.o]]at hpt;have JI:=Z hpt;have NK:=Z (NL.o.dg j Y);have VO:=Z j;have JV:=Z xr;have HC4:=Z hc4;clear j z uD aV hpt xr hc4 Dy;go_upto_region 9 with(fail);clear k1 aZL lX;obtain⟨k0,k1⟩:=Z2 aRx;have l6:=Zc aRv 6;clear aRx aRv;go_upto_region 10 with(go_at_call 221;apply JI.o.cF;rintro e w5 ⟨pJ,rfl,hM,hS⟩;have qp:=Z (hM.aC HX4.o (by rw[Oz.o];unfold eG;omega));have yP:=Z (hM.aC JW.o (by rw[SZ.o];unfold eG;omega));have Pe:=Z hS;have G7:=Z hM;clear hM hS);clear k0 k1 l6;have Wi:=Z (NK.o.dg G7.o (by unfold eG;omega));go_upto_region 11 with(go_at_call 222;apply(mL (ρ:=pJ) t Wi.o.1 CL.o).cF;rintro e w6 ⟨g6,rfl,dK,kO⟩;have lI:=Z dK;have HR6:=Z kO;have Eh:=dK.aC qp.o X;obtain⟨x0,x1⟩:=Z2 Eh;have xf:=aM Eh;have xl:=iO (cV Eh);have Pa:=Z Eh;clear dK kO Eh);clear x0 x1 xf xl;let⟨w7,xM⟩:=E (ey w6 (Ad bx 0) (eB g6 0 1 1));rw[xM];have Xg:bA w5 pJ eL w6 (up w5 t pJ):=lI.o.eW (S:=eL) t (λ_ h=>dS h X);have Xh:up w5 t pJ bx=τ+99:=(Xg.bT bx (cV qp.o)).dd ((G7.o.bT bx (cV HX4.o)).dd ((VO.o.bT bx (cV LO.o)).dd Oz.o));have W:bA w6 (up w5 t pJ) (·=τ+99) w7 (up w5 t pJ):=xM▸(bA.refl w6 _ _).setCell (a:=Ad bx 0) (.inl Xh) _;have hX7:w7.heap[bx]? =H (h8 #[eB g6 0 1 1,eB g2 0 1 1] 197 (0,0)):=by rw[<-xM,aE _ Pa.o];rfl
   have EM:w7.heap[bm]? =H (h8 #[cH,cH] 197 (0,0)):=by rw[<-xM,Iw _ _ _ _ (λe=>tP.o e.symm)];exact Xg.aC yP.o (λh=>h)
   have m47:bA w4 kM (TmW τ) w7 (up w5 t pJ):=((G7.o.aN (T:=TmW τ) (λ_ h=> .inl h)).dd (Xg.aN (λ_ h=>h.elim))).dd (W.aN (λ_ h=> .inr (.inr h)));have m37:=(VO.o.aN (T:=TmW τ) (λ_ h=> .inr (.inl h))).dd m47;have hN7:bA w ρ (eZ τ) w7 (up w5 t pJ):=by
    rw[<-xM];exact(((kg.o.dd (VO.o.aN (λ_ h=> .inr (.inr (.inr h))))).dd (G7.o.aN (λ_ h=> .inl h))).dd (Xg.aN (λ_ h=>h.elim))).setCell (a:=Ad bx 0) (.inr HXN.o) _
   have aNC:kM cm=τ+1:=i.o.QN;have hm5:=JV.o.dg G7.o (by rw[aNC];unfold eG;omega);have aSZ:pJ cm=τ+1:=(G7.o.bT cm JV.o.lt).dd aNC;have hm7:=(hm5.dg Xg (λh=>h)).dg W (by rw[Xg.bT cm hm5.lt,aSZ];omega);have SH:=i.o.ok;have qK:=i.o.few;have uC:=i.o.lv.Fm.cZ;have wW:=i.o.K4 m37 ((Pe.o.dg Xg (λ_ _ h=>h)).dg W (λc hc=>Y)) (show fW w7 _ cm m4 (O (aI.erase cY)) by rw[List.length_erase_of_mem HML.o];exact hm7) HC4.o (λx=>by
    unfold fP;rw[uC.mem_erase_iff];by_cases e:x=cY
    .subst e;simp
    .rw[bD e,SH x];simp[e]) (λx=>by
    unfold fP;by_cases e:x=cY
    .rw[bR e];omega
    .rw[bD e];exact qK x)
   obtain⟨x0,x1⟩:=Z2 hX7;obtain⟨z0,z1⟩:=Z2 EM;have zf:=aM EM;have zl:=iO (cV EM);have RH:=Z wW;have aFN:=Z W;have Bn:=Z Xg;have HN7:=Z hN7;have Es:=Z ((m37.bT bm (cV MW.o)).dd SZ.o);clear m37 hN7 m47 aNC aSZ hm5 hm7 W Xg hX7 EM SH qK wW Xh xM uC;go_wp2;have Gz:=A5.o;let⟨q1,q2,q3⟩:=RH.o.pA HN7.o lC.o Es.o (eB g6 0 1 1) (eB g2 0 1 1);refine mD (aT (A:=Ad bm 0) (T:=197) rfl Yr (v:= .agg #[eB g6 0 1 1,eB g2 0 1 1]) (by go_simp)) rfl ?_;exact⟨_,q2,_,rfl,q1,W9.dg ⟨_,_,t,t,rfl,.inl rfl,.inl rfl,HR6.o.dg aFN.o Y Y,(((DW.o.dg VO.o Y Y).dg G7.o (by unfold eG;omega) (by unfold eG;omega)).dg Bn.o (λh=>h) (λh=>h)).dg aFN.o Y Y⟩ q3 Y Y Y⟩
  .rw[bD h1];have H1:=Z h1;have h1i:¬(cnt cY:Int)=1:=Y;clear h1;go_in;go_upto_region 3 with(first|(go_at_call 271;apply MV.o.cF;rintro e w1 ⟨u,rfl,L,hU⟩;obtain⟨oa,oc,rfl,-⟩:=L.len;have g:bA wa y eL w1 (up wa (τ+98) y):=hU.eW (S:=eL) (τ+98) (λ_ h=>dS h X);have B:=(L.jU (τ+98) y).rd;have C:=EW.o.dg g (λh=>h) (λh=>h) (λ_ _ h=>h);have eQ:=g.aC tQ.o (λh=>h);have o:=(g.bT bm (cV tQ.o)).dd mP.o;have qL:=(JU.o.dd g).aN (T:=eZ τ) (λ_ h=>h.elim);let⟨dN,nM⟩:=E (up wa (τ+98) y);rw[nM]at g B C o qL;have N:=Z B;have nV:=Z C;have m:=Z eQ;have sL:=Z o;have R:=Z qL;clear g B C eQ o qL nM L hU)|(go_at_call 222;apply(mL (ρ:=dN) t N.o.1 CL.o).cF;rintro e w2 ⟨g2,rfl,bH,pT⟩;have eM:=Z bH;have DX:=Z pT;clear bH pT));let⟨w3,l⟩:=E (e8 w2 (h8 #[cH,eB g2 0 1 1] 197));let⟨bx,p⟩:=E (hJ w2.heap);rw[l,p];have KV:=Za l;have n:bA w1 dN eL w2 (up w1 t dN):=eM.o.eW (S:=eL) t (λ_ h=>dS h X);have f:bA w2 (up w1 t dN) eL w3 (up w2 (τ+99) (up w1 t dN)):=KV.eW (S:=eL) (τ+99) (λ_ h=>dS h X);have d:=n.dd f;have OB:=Ze l p;have P:up w2 (τ+99) (up w1 t dN) bx=τ+99:=cJ Y;have qR:=DX.o.dg f (λh=>h) (λh=>h);have Tu:hJ w.heap<=bx:=p▸jN R.o.size n.size;have Ub:bx≠bm:=rV (cV m.o) n.size;let⟨kM,lO⟩:=E (up w2 (τ+99) (up w1 t dN));rw[lO]at d P qR;have q:=nV.o.dg d (λh=>h) (λh=>h) (λ_ _ h=>h);have MW:=Z (d.aC m.o (λh=>h));have SZ:=Z ((d.bT bm (cV m.o)).dd sL.o);have kg:=Z (R.o.dd (d.aN (T:=eZ τ) (λ_ h=>h.elim)));have NL:=Z (N.o.dg d (λh=>h));have LO:=Z OB;have Oz:=Z P;have DW:=Z qR;have HXN:=Z Tu;have tP:=Z Ub;obtain⟨m3,V,Q⟩:=q.QP;have lX:=vZ V Q HG.o;have z:=q.bS;have k1:=Zc z 1;have i:=Z q;have tC:=Z V;have HC3:=Z Q;clear l p KV n f d OB P qR Tu Ub lO q V Q z m sL R N nV;have hlm:O aI<bw:=by have:=i.o.lv.Fm.JF;have:=BA.o.most.2;unfold bw;omega
   let⟨w4,m4,iP,xr,hc4,Dy⟩:=ii (k:=cnt cY-1) tC.o HC3.o HG.o hlm (rV H1.o HZ.o);rw[show(((cnt cY-1:Nat)):Int)=(cnt cY:Int)-1 by have:=HZ.o;omega]at iP;rw[bD HZ.o]at xr;have ZC:∀(b:Nat) (cs:Array aF),w3.heap[b]? =H (h8 cs 197 (0,0))->w4.heap[b]? =H (h8 cs 197 (0,0)):=λb cs hb=>Dy.aC hb (by simpa using(tC.o.ne hb).symm);have hX4:=ZC _ _ LO.o;have D1:=ZC _ _ MW.o;have Ln:bA w3 kM (·=τ+1) w4 kM:=Dy.p9 (λk hk=> .inl ((show k=cm by simpa using hk)▸i.o.QN));have aDV:=Ln.aN (T:=TmW τ) (λ_ h=> .inr (.inl h));have qK:=i.o.few;have SH:=i.o.ok;have RC:=i.o.K4 aDV (i.o.lv.Fm.dg Ln (λc hc=>Y)) xr hc4 (λx=>by
    unfold fP;by_cases e:x=cY
    .subst e;rw[bR rfl,SH];have:=H1.o;have:=HZ.o;omega
    .rw[bD e];exact SH x) (λx=>by
    unfold fP;by_cases e:x=cY
    .subst e;rw[bR rfl];have:=qK x;omega
    .rw[bD e];exact qK x)
   have hcu:(cnt cY:Int)<=65536:=nA (qK cY);have Xj:IntKind.i64.wrap ((cnt cY:Int)-1)=(cnt cY:Int)-1:=TA _ Y;exact ZM28
variable{iv:aF}
theorem ZM101{P:Prop}(h:P:=by
  go_enter func114,ntmps114;go_wp2_with (go_at_call 77;apply hvd.cL;intro w1 hU);go_ret;exact⟨rfl,hU⟩):P:=h
def xY(w:aA)(ρ:aW)(τ lb rb:Nat)(s:mC)(n:gK)(F G:Nat)(iv:aF):Prop:=
 (s.aG=1/\∃kb,iv= .iface 164 (h9 (H ⟨kb,0,K⟩))/\w.heap[kb]? =H (h8 #[h9 (H ⟨lb,0,K⟩)] 166 (0,0))/\ρ kb=τ/\yC w ρ τ lb rb s n.aI F G)\/
 (s.aG=2/\∃kb cm,iv= .iface 167 (h9 (H ⟨kb,0,K⟩))/\LG w ρ τ kb lb rb cm s n.aI n.cnt F G)\/
 (s.aG=3/\∃kb sb db,iv= .iface 125 (h9 (H ⟨kb,0,K⟩))/\tN w ρ τ kb lb rb sb db s n.aI n.eV n.sd F G)
def o8(w:aA)(ρ:aW)(τ b:Nat)(s:mC)(n:gK)(F G:Nat):Prop:=
 ∃lb rb iv,w.heap[b]? =H (h8 #[h9 (H ⟨lb,0,K⟩),iv] 123 (0,0))/\ρ b=τ/\xY w ρ τ lb rb s n F G iv
theorem xY.lv{s:mC}{n:gK}(h:xY w ρ τ lb rb s n F G iv):yC w ρ τ lb rb s n.aI F G:=by
 rcases h with⟨-,kb,-,-,-,h⟩|⟨-,kb,cm,-,h⟩|⟨-,kb,sb,db,-,h⟩
 .exact h
 .exact h.lv
 .exact h.lv
theorem xY.dg{s:mC}{n:gK}{S:Nat->Prop}(h:xY w ρ τ lb rb s n F G iv)(d:bA w ρ S w' bN)(g:∀c,c<80->¬S (τ+c)):xY w' bN τ lb rb s n F G iv:=by
 have a:¬S τ:=g 0 Y;have l:∀c,c<20->¬S (τ+20+c):=λc j=>by rw[Nat.add_assoc];exact g _ Y
 rcases h with⟨b,kb,e,i,m,h⟩|⟨b,kb,cm,e,h⟩|⟨b,kb,sb,db,e,h⟩
 .exact .inl ⟨b,kb,e,d.aC i (m▸a),(d.bT kb (cV i)).dd m,h.dg d a l⟩
 .exact .inr (.inl ⟨b,kb,cm,e,h.dg d a (g 1 Y) l⟩)
 .exact .inr (.inr ⟨b,kb,sb,db,e,h.dg d a (λc _ j=>g c j)⟩)
theorem o8.dg{s:mC}{n:gK}{S:Nat->Prop}(h:o8 w ρ τ b s n F G)(a:bA w ρ S w' bN)(g:∀c,c<80->¬S (τ+c)):o8 w' bN τ b s n F G:=by
 obtain⟨lb,rb,iv,d,e,h⟩:=h;exact⟨lb,rb,iv,a.aC d (e▸g 0 Y),(a.bT b (cV d)).dd e,h.dg a g⟩
def C7(sd:Bool):Int:=if sd then 2 else 1
def pR(s:mC)(sd:Bool)(r:Row):Prop:=dI r/\O r=(if sd then O s.bK else s.inW)/\(sd=oj->s.aG=3)
theorem Gi{s:mC}{n:gK}(sd:Bool)(h:o8 w ρ τ b s n F G)(hv:eX dR aP 3 w v r)(d:pR s sd r):
  tR 114 #[h9 (H ⟨b,0,K⟩),i6 i7 (C7 sd),v] w λe w'=>e=i5 (i6 i7 0)/\U w [] w' []:=by
 obtain⟨lb,rb,iv,c,x,l⟩:=h;obtain⟨⟨f,C,L,sc,ua,uc,m,p,j⟩,y,u,B⟩:=l.lv;obtain⟨a,hl,i⟩:=d;have hvd:=KA v r w hv a.QK;rw[a.1]at hvd;obtain⟨va,vc,rfl,-⟩:=hv.len;obtain⟨q,N,qL,z⟩:=Z4 m;have A:=Zc c 0;cases sd with
 |false=>
  rw[hl]at hvd|-;show tR _ #[_,J 1,_] _ _;exact ZM101
 |true=>
  rw[hl]at hvd|-;rw[i rfl]at q;show tR _ #[_,J 2,_] _ _;exact ZM101
section
theorem ZM166{P:Prop}(h:P:=by
  obtain⟨rfl,hL⟩:=hx;exact⟨rfl,.inr (.inr ⟨hk,kb,sb,db,rfl,hL⟩)⟩):P:=h
theorem ZM110{P:Prop}(h:P:=by
  rw[bR hp]at hx|-;obtain⟨mv,rfl,hL,hV⟩:=hx;exact⟨mv,rfl,.inr (.inr ⟨hk,kb,sb,db,rfl,hL⟩),hV⟩):P:=h
theorem ZM111{P:Prop}(h:P:=by
  rw[bD hp]at hx|-;obtain⟨mv,rfl,hL,hV⟩:=hx;exact⟨mv,rfl,.inr (.inr ⟨hk,kb,sb,db,rfl,hL⟩),hV⟩):P:=h
theorem ZM130{P:Prop}(h:P:=by
  rw[bR hm]at hx|-;exact ZM166):P:=h
theorem ZM131{P:Prop}(h:P:=by
  rw[bR hn]at hx|-;exact ZM166):P:=h
theorem ZM132{P:Prop}(h:P:=by
  rw[bD hm]at hx|-;exact ZM166):P:=h
def aAG(w:aA)(ρ:aW)(τ t lb rb:Nat)(s:mC)(n:gK)(F G:Nat)(iv:aF)(x:Except Nat (gK×SV))(e:cg)(w':aA):Prop:=
 ∃bN,bA w ρ (eZ τ) w' bN/\match x with
 | .error er=>e=i5 (i8 #[zS,i6 i7 (er:Int)])/\xY w' bN τ lb rb s n F G iv
 | .ok (n',m)=>∃mv,e=i5 (i8 #[mv,i6 i7 0])/\xY w' bN τ lb rb s n' F G iv/\W9 w' bN τ t mv m
section
variable{w:aA}{ρ:aW}{τ t tr lb rb kb F G:Nat}{s:mC}{n:gK}{v:aF}{r:Row}
theorem aCh(fr:Int)(c:s.aG=1)(d:w.heap[kb]? =H (h8 #[h9 (H ⟨lb,0,K⟩)] 166 (0,0)))(q:ρ kb=τ)(h:yC w ρ τ lb rb s n.aI F G)(hv:mK dR aP 3 w ρ tr v r)(u:¬eZ τ tr)(p:pR s po r)(C:F+1<=G)(A:G<=1073741824)(x:t<τ\/τ+100<=t):
  tR 264 #[h9 (H ⟨kb,0,K⟩),i6 i7 fr,v] w (aAG w ρ τ t lb rb s n F G (.iface 164 (h9 (H ⟨kb,0,K⟩))) (KJ s n po r)):=by
 have z:s.bL=s.inW:=by unfold mC.bL;rw[bD (by rw[c];decide)]
 apply(aMJ fr h d hv u ⟨p.1,z▸p.2.1⟩ C A x).cF;rintro e w' ⟨bN,j,a⟩;have B:¬eZ τ τ:=eZ.not (by omega);have i:=j.aC d (q▸B);have g:=(j.bT kb (cV d)).dd q;refine⟨bN,j,?_⟩;unfold KJ;rw[bR c];by_cases l:r∈n.aI
 .rw[bR l]at a|-;obtain⟨rfl,b⟩:=a;exact⟨rfl,.inl ⟨c,kb,rfl,i,g,b⟩⟩
 .rw[bD l]at a|-;by_cases m:O n.aI=s.most
  .rw[bR m]at a|-;obtain⟨rfl,b⟩:=a;exact⟨rfl,.inl ⟨c,kb,rfl,i,g,b⟩⟩
  .rw[bD m]at a|-;obtain⟨f,rfl,b,y⟩:=a;exact⟨f,rfl,.inl ⟨c,kb,rfl,i,g,b⟩,y.toN τ⟩
theorem aBc(fr:Int)(c:s.aG=2)(h:LG w ρ τ kb lb rb cm s n.aI n.cnt F G)(hv:mK dR aP 3 w ρ tr v r)(m:pR s po r)(z:F+1<=G)(x:G<=1073741824)(u:t<τ\/τ+100<=t):
  tR 268 #[h9 (H ⟨kb,0,K⟩),i6 i7 fr,v] w (aAG w ρ τ t lb rb s n F G (.iface 167 (h9 (H ⟨kb,0,K⟩))) (KJ s n po r)):=by
 apply(aLY fr h c hv.1 ⟨m.1,m.2.1⟩ z x u).cF;rintro e w' ⟨bN,y,a⟩;have B:=h.ok (dG r s.dg);refine⟨bN,y,?_⟩;unfold KJ;rw[bD Y,bR c];unfold X' at a;by_cases l:n.cnt (dG r s.dg)=65536
 .rw[bR l]at a|-;obtain⟨rfl,b⟩:=a;exact⟨rfl,.inr (.inl ⟨c,kb,cm,rfl,b⟩)⟩
 .rw[bD l]at a|-;by_cases p:n.cnt (dG r s.dg)=0
  .rw[bR p]at a|-;have g:dG r s.dg∉n.aI:=λA=>by grind
   by_cases d:O n.aI=s.most
   .rw[if_pos d]at a;rw[bR ⟨g,d⟩];obtain⟨rfl,b⟩:=a;exact⟨rfl,.inr (.inl ⟨c,kb,cm,rfl,b⟩)⟩
   .rw[bD d]at a;rw[bD (λh=>d h.2)];obtain⟨j,rfl,b,i⟩:=a;have q:rJ s.most n.aI (dG r s.dg)=n.aI++[dG r s.dg]:=by unfold rJ;rw[bD g,bD d]
    rw[q];exact⟨j,rfl,.inr (.inl ⟨c,kb,cm,rfl,b⟩),i⟩
  .rw[bD p]at a|-;obtain⟨j,rfl,b,i⟩:=a;exact⟨j,rfl,.inr (.inl ⟨c,kb,cm,rfl,b⟩),i⟩
theorem aC6(sd:Bool)(hk:s.aG=3)(h:tN w ρ τ kb lb rb sb db s n.aI n.eV n.sd F G)(hv:mK dR aP 3 w ρ tr v r)(d:¬eZ τ tr)(a:pR s sd r)(i:F+1<=G)(c:G<=1073741824)(g:t<τ\/τ+100<=t):
  tR 218 #[h9 (H ⟨kb,0,K⟩),i6 i7 (C7 sd),v] w (aAG w ρ τ t lb rb s n F G (.iface 125 (h9 (H ⟨kb,0,K⟩))) (KJ s n sd r)):=by
 cases sd with
 |false=>
  apply(aGn h hk hv d ⟨a.1,a.2.1⟩ i c g).cF;rintro e w' ⟨bN,b,hx⟩;refine⟨bN,b,?_⟩;unfold KJ;rw[bD Y,bD Y,bD D];unfold aCQ at hx;by_cases hm:r∈n.eV
  .exact ZM130
  .rw[bD hm]at hx|-;by_cases hn:O n.eV=s.most
   .exact ZM131
   .rw[bD hn]at hx|-;by_cases hp:dG r s.bK∈n.sd
    .exact ZM110
    .exact ZM111
 |true=>
  apply(aGo h hk hv d ⟨a.1,a.2.1⟩ i c g).cF;rintro e w' ⟨bN,b,hx⟩;refine⟨bN,b,?_⟩;unfold KJ;rw[bD Y,bD Y,bR rfl];unfold aLn at hx;by_cases hm:r∈n.sd
  .exact ZM130
  .rw[bD hm]at hx|-;by_cases hn:O n.sd=s.most
   .exact ZM131
   .rw[bD hn]at hx|-;obtain⟨mv,rfl,hL,hV⟩:=hx;exact⟨mv,rfl,.inr (.inr ⟨hk,kb,sb,db,rfl,hL⟩),hV⟩
theorem ws(fr:Int)(b:s.aG=1)(c:w.heap[kb]? =H (h8 #[h9 (H ⟨lb,0,K⟩)] 166 (0,0)))(p:ρ kb=τ)(h:yC w ρ τ lb rb s n.aI F G)(hv:mK dR aP 3 w ρ tr v r)(q:¬eZ τ tr)(m:pR s po r)(z:G<=F)(A:G<1073741824)(u:t<τ\/τ+100<=t):
  tR 263 #[h9 (H ⟨kb,0,K⟩),i6 i7 fr,v] w (aAG w ρ τ t lb rb s n F G (.iface 164 (h9 (H ⟨kb,0,K⟩))) (sU s n po r)):=by
 have y:s.bL=s.inW:=by unfold mC.bL;rw[bD (by rw[b];decide)]
 apply(aHB fr h c hv q ⟨m.1,y▸m.2.1⟩ z A u).cF;rintro e w' ⟨bN,g,a⟩;have B:¬eZ τ τ:=eZ.not (by omega);have l:=g.aC c (p▸B);have i:=(g.bT kb (cV c)).dd p;refine⟨bN,g,?_⟩;unfold sU;rw[bR b];by_cases j:r∈n.aI
 .rw[bR j]at a|-;obtain⟨C,rfl,d,x⟩:=a;exact⟨C,rfl,.inl ⟨b,kb,rfl,l,i,d⟩,x.toN τ⟩
 .rw[bD j]at a|-;obtain⟨rfl,d⟩:=a;exact⟨rfl,.inl ⟨b,kb,rfl,l,i,d⟩⟩
theorem rq(fr:Int)(c:s.aG=2)(h:LG w ρ τ kb lb rb cm s n.aI n.cnt F G)(hv:mK dR aP 3 w ρ tr v r)(i:pR s po r)(m:G<=F)(p:G<1073741824)(u:t<τ\/τ+100<=t):
  tR 267 #[h9 (H ⟨kb,0,K⟩),i6 i7 fr,v] w (aAG w ρ τ t lb rb s n F G (.iface 167 (h9 (H ⟨kb,0,K⟩))) (sU s n po r)):=by
 apply(aGQ fr h c hv.1 ⟨i.1,i.2.1⟩ m p u).cF;rintro e w' ⟨bN,q,a⟩;have x:=h.ok (dG r s.dg);refine⟨bN,q,?_⟩;unfold sU;rw[bD Y,bR c];unfold Kc at a;by_cases l:n.cnt (dG r s.dg)=0
 .rw[bR l]at a|-;obtain⟨rfl,b⟩:=a;exact⟨rfl,.inr (.inl ⟨c,kb,cm,rfl,b⟩)⟩
 .rw[bD l]at a|-;by_cases j:n.cnt (dG r s.dg)=1
  .rw[bR j]at a|-;obtain⟨d,rfl,b,g⟩:=a;exact⟨d,rfl,.inr (.inl ⟨c,kb,cm,rfl,b⟩),g⟩
  .rw[bD j]at a|-;obtain⟨d,rfl,b,g⟩:=a;exact⟨d,rfl,.inr (.inl ⟨c,kb,cm,rfl,b⟩),g⟩
theorem vi(sd:Bool)(hk:s.aG=3)(h:tN w ρ τ kb lb rb sb db s n.aI n.eV n.sd F G)(hv:mK dR aP 3 w ρ tr v r)(d:¬eZ τ tr)(a:pR s sd r)(c:G<=F)(g:G<1073741824)(i:t<τ\/τ+100<=t):
  tR 217 #[h9 (H ⟨kb,0,K⟩),i6 i7 (C7 sd),v] w (aAG w ρ τ t lb rb s n F G (.iface 125 (h9 (H ⟨kb,0,K⟩))) (sU s n sd r)):=by
 cases sd with
 |false=>
  apply(aC7 h hk hv d ⟨a.1,a.2.1⟩ c g i).cF;rintro e w' ⟨bN,b,hx⟩;refine⟨bN,b,?_⟩;unfold sU;rw[bD Y,bD Y,bD D];unfold Y' at hx;by_cases hm:r∈n.eV
  .rw[bR hm]at hx|-;by_cases hp:r∈n.aI
   .exact ZM110
   .exact ZM111
  .exact ZM132
 |true=>
  apply(aC8 h hk hv d ⟨a.1,a.2.1⟩ c g i).cF;rintro e w' ⟨bN,b,hx⟩;refine⟨bN,b,?_⟩;unfold sU;rw[bD Y,bD Y,bR rfl];unfold aCS at hx;by_cases hm:r∈n.sd
  .rw[bR hm]at hx|-;obtain⟨mv,rfl,hL,hV⟩:=hx;exact⟨mv,rfl,.inr (.inr ⟨hk,kb,sb,db,rfl,hL⟩),hV⟩
  .exact ZM132
end
end
theorem ZM13{P:Prop}(h:P:=by
  obtain⟨X0,ZK⟩:∃x,x=hY fa (O RO) fc:=⟨_,rfl⟩;obtain⟨X1,ZJ⟩:∃x,x=hY ta (O UW) tc:=⟨_,rfl⟩;have pG:bA w ρ (eZ τ) w1 D5:=(kP.aN (T:=eZ τ) pW).dd (cM.fK (S:=eZ τ));have MA:=pG.dd hM;have CP:fB bm=τ+99:=(hM.bT bm (cV (cM.aC kG X))).dd mE;have pP:=hM.aC (cM.aC rR.1 X) (by rw[rR.2];unfold eZ eG;omega);have BZ:=(hM.bT b (cV (cM.aC rR.1 X))).dd rR.2;have hq:=λ(x y:aF)=>(show bA w2 fB (·=τ+99) (ey (ey w2 (Ad bm 0) x) (Ad bm 1) y) fB from((bA.refl w2 fB _).setCell (a:=Ad bm 0) (.inl CP) x).setCell (a:=Ad bm 1) (.inl CP) y);have hN:=o8.dg ⟨lb,rb,_,pP,BZ,HL.o⟩ (hq X0 X1) (λc hc=>Y);have sZ:bA w ρ (eZ τ) (ey (ey w2 (Ad bm 0) X0) (Ad bm 1) X1) fB:=(MA.setCell (a:=Ad bm 0) (.inr lC) _).setCell (a:=Ad bm 1) (.inr lC) _;have Gz:=ht;have ow:=Pf.dg (hq X0 X1) Y Y Y;subst ZK ZJ;refine mD (aT (A:=Ad bm 0) (T:=197) rfl Yr (v:= .agg #[hY fa (O RO) fc,hY ta (O UW) tc]) (by go_simp)) rfl ?_;exact⟨fB,sZ,_,rfl,hN,ow⟩):P:=h
theorem ZM18{P:Prop}(h:P:=by
  obtain⟨X0,ZK⟩:∃x,x=cH:=⟨_,rfl⟩;obtain⟨X1,ZJ⟩:∃x,x=cH:=⟨_,rfl⟩;have pG:bA w ρ (eZ τ) w1 D5:=(kP.aN (T:=eZ τ) pW).dd (cM.fK (S:=eZ τ));have MA:=pG.dd hM;have CP:fB bm=τ+99:=(hM.bT bm (cV (cM.aC kG X))).dd mE;have pP:=hM.aC (cM.aC rR.1 X) (by rw[rR.2];unfold eZ eG;omega);have BZ:=(hM.bT b (cV (cM.aC rR.1 X))).dd rR.2;have hq:=λ(x y:aF)=>(show bA w2 fB (·=τ+99) (ey (ey w2 (Ad bm 0) x) (Ad bm 1) y) fB from((bA.refl w2 fB _).setCell (a:=Ad bm 0) (.inl CP) x).setCell (a:=Ad bm 1) (.inl CP) y);have hN:=o8.dg ⟨lb,rb,_,pP,BZ,HL.o⟩ (hq X0 X1) (λc hc=>Y);have sZ:bA w ρ (eZ τ) (ey (ey w2 (Ad bm 0) X0) (Ad bm 1) X1) fB:=(MA.setCell (a:=Ad bm 0) (.inr lC) _).setCell (a:=Ad bm 1) (.inr lC) _;subst ZK ZJ;refine mD (aT (A:=Ad bm 0) (T:=197) rfl Yr (v:=zS) (by go_simp)) rfl ?_;exact⟨fB,sZ,rfl,hN⟩):P:=h
theorem ZM152{P:Prop}(h:P:=by
  cases sd with
  |false=>rfl
  |true=>exact dS (hr.2.2 rfl) Y):P:=h
def aEn(w:aA)(ρ:aW)(τ t b:Nat)(s:mC)(n:gK)(F G:Nat)(x:Except Nat (gK×SV))(e:cg)(w':aA):Prop:=
 ∃bN,bA w ρ (eZ τ) w' bN/\match x with
 | .error er=>e=i5 (i8 #[zS,i6 i7 (er:Int)])/\o8 w' bN τ b s n F G
 | .ok (n',m)=>∃mv,e=i5 (i8 #[mv,i6 i7 0])/\o8 w' bN τ b s n' F G/\W9 w' bN τ t mv m
theorem aCU{t tr:Nat}{s:mC}{n:gK}(sd:Bool)(h:o8 w ρ τ b s n F G)(hv:mK dR aP 3 w ρ tr v r)(oY:¬eZ τ tr)(hr:pR s sd r)(V:F+1<=G)(R:G<=1073741824)(ht:t<τ\/τ+100<=t):
  aH prog 80 #[h9 (H ⟨b,0,K⟩),i6 i7 (C7 sd),v] w (aEn w ρ τ t b s n F G (KJ s n sd r)):=by
 obtain⟨lb,rb,iv,P,KW,hW⟩:=h;let⟨wa,dE⟩:=E (e8 w (h8 #[cH,cH] 197));have cR:=Za dE;have kG:=Zb dE;let⟨bm,JO⟩:=E (hJ w.heap);have kP:bA w ρ eL wa (up w.heap.size (τ+99) ρ):=cR.eW (S:=eL) (τ+99) (λ_ h=>dS h X);have mE:up w.heap.size (τ+99) ρ bm=τ+99:=cJ Y;have qL:=hv.dg kP id;have u:o8 wa (up w.heap.size (τ+99) ρ) τ b s n F G:=o8.dg ⟨lb,rb,iv,P,KW,hW⟩ kP zE;have W:=kP.aC P id;have f:=(kP.bT b (cV P)).dd KW;have hWa:=hW.dg kP zE;let⟨D5,nL⟩:=E (up w.heap.size (τ+99) ρ);rw[nL]at kP mE qL u f hWa;rw[JO]at kG;have Q:=Gi sd u qL.1 hr;have lC:=(show hJ w.heap<=bm by omega);rcases hWa with⟨L,kb,rfl,GG,oZ,g⟩|⟨L,kb,cm,rfl,g⟩|⟨L,kb,sb,db,rfl,g⟩
 .obtain rfl:sd=po:=ZM152;have i:=(λwz (C:U wa [] wz [])=>aCh (n:=n) (r:=r) (t:=t) (C7 po) L (C.aC GG X) oZ (g.dg (S:=eL) C.fK id zE) (qL.dg (S:=eL) C.fK id) oY hr V R ht);clear GG oZ;obtain⟨va,vc,rfl,-⟩:=hv.len;have rR:=(dX W f);clear P KW hW cR qL u W f nL g hv oY hr V R L;cases l:KJ s n po r with
  |error er=>
   rw[l]at i;clear l;go_in;go_upto_region 2 with(go_at_call 114;apply Q.cL;intro w1 cM);have j:=cM.aC rR.1 X;obtain⟨k0,k1⟩:=Z2 j;have z:=(i w1 cM);clear j i;go_wp2_with (go_at_call 264;apply z.cF;rintro e w2 ⟨fB,hM,rfl,g⟩;have d:=hM.aC (cM.aC kG X) (by rw[mE];unfold eZ eG;omega);obtain⟨z0,z1⟩:=Z2 d;have zf:=aM d;have zl:=iO (cV d);have HL:=Z g;clear g d);exact ZM18
  |ok p=>
   obtain⟨n',m⟩:=p;rw[l]at i;clear l;go_in;go_upto_region 2 with(go_at_call 114;apply Q.cL;intro w1 cM);have j:=cM.aC rR.1 X;obtain⟨k0,k1⟩:=Z2 j;have z:=(i w1 cM);clear j i;go_wp2_with (go_at_call 264;apply z.cF;rintro e w2 ⟨fB,hM,mv,rfl,g,hV⟩;obtain⟨fv,tv,t1,t2,rfl,N,e2,q,B⟩:=hV;have U4:=q;have VV:=B;obtain⟨RO,c1,c2,c3⟩:=U4;obtain⟨UW,d1,k,d3⟩:=VV;obtain⟨fa,fc,rfl,-⟩:=c2.1.len;obtain⟨ta,tc,rfl,-⟩:=k.1.len;have Pf:=(show W9 w2 fB τ t _ _ from⟨_,_,t1,t2,rfl,N,e2,q,B⟩);clear N e2 q B c1 c2 c3 d1 k d3;have d:=hM.aC (cM.aC kG X) (by rw[mE];unfold eZ eG;omega);obtain⟨z0,z1⟩:=Z2 d;have zf:=aM d;have zl:=iO (cV d);have HL:=Z g;clear g d);exact ZM13
 .obtain rfl:sd=po:=ZM152;have i:=(λwz (C:U wa [] wz [])=>aBc (n:=n) (r:=r) (t:=t) (C7 po) L (g.dg (S:=eL) C.fK id id zE) (qL.dg (S:=eL) C.fK id) hr V R ht);obtain⟨va,vc,rfl,-⟩:=hv.len;have rR:=(dX W f);clear P KW hW cR qL u W f nL g hv oY hr V R L;cases l:KJ s n po r with
  |error er=>
   rw[l]at i;clear l;go_in;go_upto_region 2 with(go_at_call 114;apply Q.cL;intro w1 cM);have j:=cM.aC rR.1 X;obtain⟨k0,k1⟩:=Z2 j;have z:=(i w1 cM);clear j i;go_wp2_with (go_at_call 268;apply z.cF;rintro e w2 ⟨fB,hM,rfl,g⟩;have d:=hM.aC (cM.aC kG X) (by rw[mE];unfold eZ eG;omega);obtain⟨z0,z1⟩:=Z2 d;have zf:=aM d;have zl:=iO (cV d);have HL:=Z g;clear g d);exact ZM18
  |ok p=>
   obtain⟨n',m⟩:=p;rw[l]at i;clear l;go_in;go_upto_region 2 with(go_at_call 114;apply Q.cL;intro w1 cM);have j:=cM.aC rR.1 X;obtain⟨k0,k1⟩:=Z2 j;have z:=(i w1 cM);clear j i;go_wp2_with (go_at_call 268;apply z.cF;rintro e w2 ⟨fB,hM,mv,rfl,g,hV⟩;obtain⟨fv,tv,t1,t2,rfl,N,e2,q,B⟩:=hV;have U4:=q;have VV:=B;obtain⟨RO,c1,c2,c3⟩:=U4;obtain⟨UW,d1,k,d3⟩:=VV;obtain⟨fa,fc,rfl,-⟩:=c2.1.len;obtain⟨ta,tc,rfl,-⟩:=k.1.len;have Pf:=(show W9 w2 fB τ t _ _ from⟨_,_,t1,t2,rfl,N,e2,q,B⟩);clear N e2 q B c1 c2 c3 d1 k d3;have d:=hM.aC (cM.aC kG X) (by rw[mE];unfold eZ eG;omega);obtain⟨z0,z1⟩:=Z2 d;have zf:=aM d;have zl:=iO (cV d);have HL:=Z g;clear g d);exact ZM13
 .have i:=(λwz (C:U wa [] wz [])=>aC6 (n:=n) (r:=r) (t:=t) sd L (g.dg (S:=eL) C.fK id (λ_ _ _ h=>h)) (qL.dg (S:=eL) C.fK id) oY hr V R ht);obtain⟨va,vc,rfl,-⟩:=hv.len;have rR:=(dX W f);clear P KW hW cR qL u W f nL g hv oY hr V R L;cases l:KJ s n sd r with
  |error er=>
   rw[l]at i;clear l;go_in;go_upto_region 2 with(go_at_call 114;apply Q.cL;intro w1 cM);have j:=cM.aC rR.1 X;obtain⟨k0,k1⟩:=Z2 j;have z:=(i w1 cM);clear j i;go_wp2_with (go_at_call 218;apply z.cF;rintro e w2 ⟨fB,hM,rfl,g⟩;have d:=hM.aC (cM.aC kG X) (by rw[mE];unfold eZ eG;omega);obtain⟨z0,z1⟩:=Z2 d;have zf:=aM d;have zl:=iO (cV d);have HL:=Z g;clear g d);exact ZM18
  |ok p=>
   obtain⟨n',m⟩:=p;rw[l]at i;clear l;go_in;go_upto_region 2 with(go_at_call 114;apply Q.cL;intro w1 cM);have j:=cM.aC rR.1 X;obtain⟨k0,k1⟩:=Z2 j;have z:=(i w1 cM);clear j i;go_wp2_with (go_at_call 218;apply z.cF;rintro e w2 ⟨fB,hM,mv,rfl,g,hV⟩;obtain⟨fv,tv,t1,t2,rfl,N,e2,q,B⟩:=hV;have U4:=q;have VV:=B;obtain⟨RO,c1,c2,c3⟩:=U4;obtain⟨UW,d1,k,d3⟩:=VV;obtain⟨fa,fc,rfl,-⟩:=c2.1.len;obtain⟨ta,tc,rfl,-⟩:=k.1.len;have Pf:=(show W9 w2 fB τ t _ _ from⟨_,_,t1,t2,rfl,N,e2,q,B⟩);clear N e2 q B c1 c2 c3 d1 k d3;have d:=hM.aC (cM.aC kG X) (by rw[mE];unfold eZ eG;omega);obtain⟨z0,z1⟩:=Z2 d;have zf:=aM d;have zl:=iO (cV d);have HL:=Z g;clear g d);exact ZM13
theorem mq{t tr:Nat}{s:mC}{n:gK}(sd:Bool)(h:o8 w ρ τ b s n F G)(hv:mK dR aP 3 w ρ tr v r)(oY:¬eZ τ tr)(hr:pR s sd r)(V:G<=F)(R:G<1073741824)(ht:t<τ\/τ+100<=t):
  aH prog 79 #[h9 (H ⟨b,0,K⟩),i6 i7 (C7 sd),v] w (aEn w ρ τ t b s n F G (sU s n sd r)):=by
 obtain⟨lb,rb,iv,P,KW,hW⟩:=h;let⟨wa,dE⟩:=E (e8 w (h8 #[cH,cH] 197));have cR:=Za dE;have kG:=Zb dE;let⟨bm,JO⟩:=E (hJ w.heap);have kP:bA w ρ eL wa (up w.heap.size (τ+99) ρ):=cR.eW (S:=eL) (τ+99) (λ_ h=>dS h X);have mE:up w.heap.size (τ+99) ρ bm=τ+99:=cJ Y;have qL:=hv.dg kP id;have u:o8 wa (up w.heap.size (τ+99) ρ) τ b s n F G:=o8.dg ⟨lb,rb,iv,P,KW,hW⟩ kP zE;have W:=kP.aC P id;have f:=(kP.bT b (cV P)).dd KW;have hWa:=hW.dg kP zE;let⟨D5,nL⟩:=E (up w.heap.size (τ+99) ρ);rw[nL]at kP mE qL u f hWa;rw[JO]at kG;have Q:=Gi sd u qL.1 hr;have lC:=(show hJ w.heap<=bm by omega);rcases hWa with⟨L,kb,rfl,GG,oZ,g⟩|⟨L,kb,cm,rfl,g⟩|⟨L,kb,sb,db,rfl,g⟩
 .obtain rfl:sd=po:=ZM152;have i:=(λwz (C:U wa [] wz [])=>ws (n:=n) (r:=r) (t:=t) (C7 po) L (C.aC GG X) oZ (g.dg (S:=eL) C.fK id zE) (qL.dg (S:=eL) C.fK id) oY hr V R ht);clear GG oZ;obtain⟨va,vc,rfl,-⟩:=hv.len;have rR:=(dX W f);clear P KW hW cR qL u W f nL g hv oY hr V R L;cases l:sU s n po r with
  |error er=>
   rw[l]at i;clear l;go_in;go_upto_region 2 with(go_at_call 114;apply Q.cL;intro w1 cM);have j:=cM.aC rR.1 X;obtain⟨k0,k1⟩:=Z2 j;have z:=(i w1 cM);clear j i;go_wp2_with (go_at_call 263;apply z.cF;rintro e w2 ⟨fB,hM,rfl,g⟩;have d:=hM.aC (cM.aC kG X) (by rw[mE];unfold eZ eG;omega);obtain⟨z0,z1⟩:=Z2 d;have zf:=aM d;have zl:=iO (cV d);have HL:=Z g;clear g d);exact ZM18
  |ok p=>
   obtain⟨n',m⟩:=p;rw[l]at i;clear l;go_in;go_upto_region 2 with(go_at_call 114;apply Q.cL;intro w1 cM);have j:=cM.aC rR.1 X;obtain⟨k0,k1⟩:=Z2 j;have z:=(i w1 cM);clear j i;go_wp2_with (go_at_call 263;apply z.cF;rintro e w2 ⟨fB,hM,mv,rfl,g,hV⟩;obtain⟨fv,tv,t1,t2,rfl,N,e2,q,B⟩:=hV;have U4:=q;have VV:=B;obtain⟨RO,c1,c2,c3⟩:=U4;obtain⟨UW,d1,k,d3⟩:=VV;obtain⟨fa,fc,rfl,-⟩:=c2.1.len;obtain⟨ta,tc,rfl,-⟩:=k.1.len;have Pf:=(show W9 w2 fB τ t _ _ from⟨_,_,t1,t2,rfl,N,e2,q,B⟩);clear N e2 q B c1 c2 c3 d1 k d3;have d:=hM.aC (cM.aC kG X) (by rw[mE];unfold eZ eG;omega);obtain⟨z0,z1⟩:=Z2 d;have zf:=aM d;have zl:=iO (cV d);have HL:=Z g;clear g d);exact ZM13
 .obtain rfl:sd=po:=ZM152;have i:=(λwz (C:U wa [] wz [])=>rq (n:=n) (r:=r) (t:=t) (C7 po) L (g.dg (S:=eL) C.fK id id zE) (qL.dg (S:=eL) C.fK id) hr V R ht);obtain⟨va,vc,rfl,-⟩:=hv.len;have rR:=(dX W f);clear P KW hW cR qL u W f nL g hv oY hr V R L;cases l:sU s n po r with
  |error er=>
   rw[l]at i;clear l;go_in;go_upto_region 2 with(go_at_call 114;apply Q.cL;intro w1 cM);have j:=cM.aC rR.1 X;obtain⟨k0,k1⟩:=Z2 j;have z:=(i w1 cM);clear j i;go_wp2_with (go_at_call 267;apply z.cF;rintro e w2 ⟨fB,hM,rfl,g⟩;have d:=hM.aC (cM.aC kG X) (by rw[mE];unfold eZ eG;omega);obtain⟨z0,z1⟩:=Z2 d;have zf:=aM d;have zl:=iO (cV d);have HL:=Z g;clear g d);exact ZM18
  |ok p=>
   obtain⟨n',m⟩:=p;rw[l]at i;clear l;go_in;go_upto_region 2 with(go_at_call 114;apply Q.cL;intro w1 cM);have j:=cM.aC rR.1 X;obtain⟨k0,k1⟩:=Z2 j;have z:=(i w1 cM);clear j i;go_wp2_with (go_at_call 267;apply z.cF;rintro e w2 ⟨fB,hM,mv,rfl,g,hV⟩;obtain⟨fv,tv,t1,t2,rfl,N,e2,q,B⟩:=hV;have U4:=q;have VV:=B;obtain⟨RO,c1,c2,c3⟩:=U4;obtain⟨UW,d1,k,d3⟩:=VV;obtain⟨fa,fc,rfl,-⟩:=c2.1.len;obtain⟨ta,tc,rfl,-⟩:=k.1.len;have Pf:=(show W9 w2 fB τ t _ _ from⟨_,_,t1,t2,rfl,N,e2,q,B⟩);clear N e2 q B c1 c2 c3 d1 k d3;have d:=hM.aC (cM.aC kG X) (by rw[mE];unfold eZ eG;omega);obtain⟨z0,z1⟩:=Z2 d;have zf:=aM d;have zl:=iO (cV d);have HL:=Z g;clear g d);exact ZM13
 .have i:=(λwz (C:U wa [] wz [])=>vi (n:=n) (r:=r) (t:=t) sd L (g.dg (S:=eL) C.fK id (λ_ _ _ h=>h)) (qL.dg (S:=eL) C.fK id) oY hr V R ht);obtain⟨va,vc,rfl,-⟩:=hv.len;have rR:=(dX W f);clear P KW hW cR qL u W f nL g hv oY hr V R L;cases l:sU s n sd r with
  |error er=>
   rw[l]at i;clear l;go_in;go_upto_region 2 with(go_at_call 114;apply Q.cL;intro w1 cM);have j:=cM.aC rR.1 X;obtain⟨k0,k1⟩:=Z2 j;have z:=(i w1 cM);clear j i;go_wp2_with (go_at_call 217;apply z.cF;rintro e w2 ⟨fB,hM,rfl,g⟩;have d:=hM.aC (cM.aC kG X) (by rw[mE];unfold eZ eG;omega);obtain⟨z0,z1⟩:=Z2 d;have zf:=aM d;have zl:=iO (cV d);have HL:=Z g;clear g d);exact ZM18
  |ok p=>
   obtain⟨n',m⟩:=p;rw[l]at i;clear l;go_in;go_upto_region 2 with(go_at_call 114;apply Q.cL;intro w1 cM);have j:=cM.aC rR.1 X;obtain⟨k0,k1⟩:=Z2 j;have z:=(i w1 cM);clear j i;go_wp2_with (go_at_call 217;apply z.cF;rintro e w2 ⟨fB,hM,mv,rfl,g,hV⟩;obtain⟨fv,tv,t1,t2,rfl,N,e2,q,B⟩:=hV;have U4:=q;have VV:=B;obtain⟨RO,c1,c2,c3⟩:=U4;obtain⟨UW,d1,k,d3⟩:=VV;obtain⟨fa,fc,rfl,-⟩:=c2.1.len;obtain⟨ta,tc,rfl,-⟩:=k.1.len;have Pf:=(show W9 w2 fB τ t _ _ from⟨_,_,t1,t2,rfl,N,e2,q,B⟩);clear N e2 q B c1 c2 c3 d1 k d3;have d:=hM.aC (cM.aC kG X) (by rw[mE];unfold eZ eG;omega);obtain⟨z0,z1⟩:=Z2 d;have zf:=aM d;have zl:=iO (cV d);have HL:=Z g;clear g d);exact ZM13
section
theorem ZM133{P:Prop}(h:P:=by
  go_in;go_wp2_with (go_at_call 45;apply HR.cL;rintro w1 rfl);go_ret;exact⟨rfl,U.refl _ _⟩):P:=h
section
variable{w w':aA}{ρ bN:aW}{τ t lb rb b F G:Nat}{s:mC}{n:gK}{iv:aF}
theorem xY.t6(h:xY w ρ τ lb rb s n F G iv)(a:bA w ρ (eG (τ+20)) w' bN)(c:JH w' bN (τ+20) rb s.bL s.most [s.up] n.aI F G):xY w' bN τ lb rb s n F G iv:=by
 have i:¬eG (τ+20) τ:=by unfold eG;omega
 rcases h with⟨b,kb,e,d,g,h⟩|⟨b,kb,cm,e,h⟩|⟨b,kb,sb,db,e,h⟩
 .exact .inl ⟨b,kb,e,a.aC d (g▸i),(a.bT kb (cV d)).dd g,h.vK a c⟩
 .obtain⟨m,l,j⟩:=h.QP;exact .inr (.inl ⟨b,kb,cm,e,h.K4 (a.aN (λ_ h=> .inl h)) c (l.dg a (by rw[h.QN];unfold eG;omega)) j h.ok h.few⟩)
 .exact .inr (.inr ⟨b,kb,sb,db,e,h.K4 a c⟩)
def aO2(w:aA)(ρ:aW)(τ lb rb:Nat)(s:mC)(n:gK)(F G:Nat)(iv:aF)(R:aA->aW->aF->Prop)(e:cg)(w':aA):Prop:=
 ∃bN v,e=i5 v/\bA w ρ (eG (τ+20)) w' bN/\xY w' bN τ lb rb s n F G iv/\R w' bN v
theorem aMG(h:xY w ρ τ lb rb s n F G iv)(u:t<τ\/τ+100<=t):
  aH prog 43 #[h9 (H ⟨lb,0,K⟩)] w (aO2 w ρ τ lb rb s n F G iv λw' bN v=>iN w' bN (τ+27) t v n.aI):=by
 obtain⟨⟨x,p,r,sc,ua,uc,g,-,-⟩,-,d,-⟩:=h.lv;have b:=Z h;have l6:=Zc g 6;go_in;go_wp2_with (go_at_call 84;apply ((aGV (t:=t) d (λc q=>Y))).cF;rintro e w1 ⟨dN,v,rfl,a,i,m⟩;have l:=Z i);go_ret;exact⟨dN,_,rfl,a,b.t6 a l,m⟩
theorem ae(h:o8 w ρ τ b s n F G):
  aH prog 23 #[h9 (H ⟨b,0,K⟩)] w λe w'=>e=i5 (i6 i7 (oM s n:Int))/\U w [] w' []:=by
 obtain⟨lb,rb,iv,a,v,j⟩:=h;obtain⟨⟨y,x,u,sc,ua,uc,p,-,-⟩,-,m,-⟩:=j.lv;have HR:=(Jk m);have l6:=Zc p 6;rcases j with⟨c,kb,rfl,-⟩|⟨c,kb,cm,rfl,-⟩|⟨c,kb,sb,db,rfl,d⟩
 .have hs:oM s n=O n.aI:=by unfold oM;rw[bD Y]
  rw[hs];obtain⟨g,i⟩:=Z2 a;have ta:∀w,(Instr.typeAssert (.iface 164 (Pt kb)) 121 125 oj).run prog w= .ok (i8 #[h9 K,j4 po]) w:=λ_=>by kernel_rfl
  exact ZM133
 .have hs:oM s n=O n.aI:=by unfold oM;rw[bD Y]
  rw[hs];obtain⟨g,i⟩:=Z2 a;have ta:∀w,(Instr.typeAssert (.iface 167 (Pt kb)) 121 125 oj).run prog w= .ok (i8 #[h9 K,j4 po]) w:=λ_=>by kernel_rfl
  exact ZM133
 .have hs:oM s n=O n.eV:=by unfold oM;rw[bR c]
  rw[hs];obtain⟨g,i⟩:=Z2 a;have ta:∀w,(Instr.typeAssert (.iface 125 (Pt kb)) 121 125 oj).run prog w= .ok (i8 #[Pt kb,j4 oj]) w:=λ_=>by kernel_rfl
  obtain⟨r,m1⟩:=Z2 d.bS;go_in;go_wp2_with (go_at_call 45;apply ((Jk d.eV)).cL;rintro w1 rfl);go_ret;exact⟨rfl,U.refl _ _⟩
end
end
end Go.Proofs.YtbcooplfakebmaaGreatDoor
