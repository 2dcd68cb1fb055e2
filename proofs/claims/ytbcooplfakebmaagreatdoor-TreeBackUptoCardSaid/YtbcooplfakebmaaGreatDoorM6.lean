/- Part of the proof that the tied card of a law of the tree holds; no condition is added. -/
import Derived.Test.YtbcooplfakebmaaGreatDoorM5
namespace Go.Proofs.YtbcooplfakebmaaGreatDoor
set_option maxHeartbeats 4000000
set_option maxRecDepth 100000
set_option linter.all false
open Go.RowKit Go.Maps Go.Proofs.Tryz Tryz
open _root_.Array renaming size→hJ
open _root_.Bool renaming false→po,true→oj
open _root_.Go.Ending renaming returned→i5
open _root_.Go.IntKind renaming i64→i7,u8→lr
open _root_.Go.Obj renaming cells→h8
open _root_.Go.Value renaming bool→j4,int→i6,ownBlock→gz,pointer→h9,slice→hY,string→j3,tuple→i8
open _root_.Go.World renaming alloc→e8,cell?→e7,setCell→ey
open _root_.Inhabited renaming default→qc
open _root_.List renaming getD→ep,length→O
open _root_.Option renaming none→K,some→H
open Go renaming World→aA,Value→aF,Calls→aH,TypeId→ap,maxLen→bw,Ending→cg,Program→cu
variable{add:Bool}{fl:List Row}{F G b i st tO ub x β:Nat}{q:bB}{ρ:aW}{fv:aF}{W:kH}{w:aA}
theorem ZM123{P:Prop}(h:P:=by
  go_wp2;refine mD (v:=i8 #[]) (by simp[results,go_sem]) rfl ?_;exact⟨dN,rfl,D4,HE.o▸sL.o⟩):P:=h
theorem fF.K3{M cells ls:Nat}(h:fF w ρ β b ub M q cells st ls add W F G)(s':Nat):fF (ey w ⟨ub,7,K⟩ (i6 i7 (s':Int))) ρ β b ub M q cells st ls add {W with aQ:=s'} F G:=by
 have e:U w [ub] (ey w (Ad ub 7) (It s')) [ub]:=(U.refl w [ub]).setCell (.inl X) _;have a:bA w ρ (·=β+2) (ey w (Ad ub 7) (It s')) ρ:=e.p9 (λk d=> .inl ((show k=ub by simpa using d)▸h.ub.bT));exact⟨h.bd.dg a Y Y (λi c _ _=>by unfold nH;omega),h.ub.K3,h.V0.dg a Y Y (λi _=>Y),h.ok⟩
theorem wD.XY{M:Nat}{aQ cnt:Nat}(h:wD w ρ β b ub M q add aQ cnt)(s':Nat):bA w ρ (·=β+2) (ey w ⟨ub,7,K⟩ (i6 i7 (s':Int))) ρ:=
 (pX w ub 7 _).p9 (L':=[ub]) (λk a=> .inl ((show k=ub by simpa using a)▸h.bT))
theorem wD.node{M:Nat}{aQ cnt:Nat}(h:wD w ρ β b ub M q add aQ cnt)(x:i<O (aB q).2.aK):
  ∃g o cap va a vc,e7 w ⟨ub,3,K⟩=H (hY (H ⟨g,o,K⟩) (O (aB q).2.aK) cap)/\g<hJ w.heap/\e7 w ⟨g,o+i*7,K⟩=H (i6 i7 ((eU (aB q).2.aK i).aG:Int))/\e7 w ⟨g,o+i*7+1,K⟩=H (i6 i7 ((eU (aB q).2.aK i).o7:Int))/\
   e7 w ⟨g,o+i*7+2,K⟩=H (hY va a vc)/\e7 w ⟨g,o+i*7+3,K⟩=H (i6 i7 ((eU (aB q).2.aK i).cB:Int))/\e7 w ⟨g,o+i*7+4,K⟩=H (i6 i7 ((eU (aB q).2.aK i).bK:Int))/\
   e7 w ⟨g,o+i*7+5,K⟩=H (i6 i7 (eU (aB q).2.aK i).bU)/\e7 w ⟨g,o+i*7+6,K⟩=H (j4 (eU (aB q).2.aK i).lW):=by
 obtain⟨u0,u1,u2,u4,ns,c,r,n,hv,-⟩:=h.ex;have hl:O ns=O (aB q).2.aK:=by rw[<-n,sN]
 let⟨g,o,cap,m,u,c0,c1,c2,c3,p,j,l⟩:=eX.at7 r.1 (i:=i) Y;have v:(ep ns i qc).1=eU (aB q).2.aK i:=by
  rw[<-n];unfold eU;rw[iB,iB,Pm,kX Y];rfl
 let⟨va,a,vc,e⟩:=hv _ (bM (d:=qc) (show i<O ns by omega));rw[v]at c0 c1 c3 p j l;rw[e]at c2;unfold kY at c;rw[hl]at m;exact⟨g,o,cap,va,a,vc,m▸aL c rfl,u,c0,c1,c2,c3,p,j,l⟩
def InW(β up x:Nat):Prop:=DoW β up x\/x=β+100+up
theorem InW.cl{up:Nat}(a:up<42)(h:InW β up x):zP β x:=h.elim (DoW.cl a) (λe=>by unfold zP;omega)
theorem FlT.XU{t aU up:Nat}(h:FlT β t)(b:∀up,aU<up->up<42->t≠β+100+up)(ha:aU<up)(a:up<42):¬InW β up t:=λc=>c.elim (h.aRA a) (b up ha a)
theorem aLu{up:Nat}:¬InW β up (β+3):=λh=>h.elim (PR Y Y Y Y) Y
def aJO(w:aA)(ρ:aW)(β b ub M:Nat)(q:bB)(cells st ls:Nat)(add:Bool)(F G:Nat)(R:kH)(e:cg)(w':aA):Prop:=
 ∃bN,e=i5 (i8 #[])/\bA w ρ (zP β) w' bN/\fF w' bN β b ub M q cells st ls add R F G
theorem tt{P:DS}{f aU:Nat}(h:P.cW aU=K):gF P add f aU fl W=W:=by
 cases f with
 |zero=>rfl
 |succ f=>unfold gF;rw[h]
theorem tq{P:DS}{f aU up:Nat}(h:P.cW aU=H up)(a:fl≠[]):gF P add (f+1) aU fl W=gF P add f up (jK P add up (P.isSide aU) fl W []).2 (jK P add up (P.isSide aU) fl W []).1:=by
 rw[gF,h];simp only;rw[bD a]
theorem Hu{M cells ls aU:Nat}(h:fF w ρ β b ub M q cells st ls add W F G)(pF:aU<O (aB q).2.aK)(OA:iN w ρ tO (β+3) fv fl)(htO:FlT β tO)(htU:∀up,aU<up->up<42->tO≠β+100+up)(C1:EV (aB q).2 aU fl)(pH:if add=oj then F+1<=G else G<=F)(hG:G<1073741824)(hs:(gF (bJ (aB q).2) add (O (aB q).2.aK) aU fl W).aQ<=549755813888)(hc:(gF (bJ (aB q).2) add (O (aB q).2.aK) aU fl W).count (O (aB q).2.aK)<=1099511627776):
  aH prog 41 #[h9 (H ⟨ub,0,K⟩),i6 i7 (aU:Int),fv] w (aJO w ρ β b ub M q cells st ls add F G (gF (bJ (aB q).2) add (O (aB q).2.aK) aU fl W)):=by
 generalize hR:gF (bJ (aB q).2) add (O (aB q).2.aK) aU fl W=R at hs hc|-;let⟨N,hN⟩:=E (O (aB q).2.aK);have a7l:N<=42:=by rw[<-hN];exact h.ok.few
 obtain⟨g,o,cap,va,vn,vc,k3,hg,-,-,-,-,-,k5,-⟩:=h.ub.node pF;rw[hN]at k3 hR pF hc;obtain⟨fa,fc,rfl,hfm⟩:=OA.len;have aHr:(aU:Int)<(N:Int):=Y;have HH:=Z h;have Nr:=(dX htO htU);have y:=Z hN;have RI:=(dX pH hG);have HS:=Z (dX hs hc);have L:=Z h.ok.wf;have HWD:=Z h.ok.wide;clear h htO htU hN pH hG hs hc;go_in;go_upto_region 1 with(fail);clear k3 k5;go_loopg [1,2,6] N (λgg s1 s2 s6 wr=>∃(f0 DR:Nat) (l:List Row) (W1:kH) (dN:aW) (t1:Nat) (fa1:Option Addr) (fc1:Nat),gg=f0/\s1= It DR/\s2=hY fa1 (O l) fc1/\s6=J (eU (aB q).2.aK DR).bU/\DR<N/\N<=DR+f0/\
  gF (bJ (aB q).2) add f0 DR l W1=R/\EV (aB q).2 DR l/\FlT β t1/\(∀up,DR<up->up<42->t1≠β+100+up)/\iN wr dN t1 (β+3) (hY fa1 (O l) fc1) l/\bA w ρ (zP β) wr dN/\fF wr dN β b ub M q cells st ls add W1 F G)
 .exact⟨N,aU,fl,W,ρ,tO,fa,fc,rfl,rfl,rfl,rfl,Y,Y,hR,C1,Nr.1,Nr.2,OA,bA.refl _ _ _,HH⟩
 obtain⟨f0,DR,l,W1,dN,t1,fa1,fc1,hgf,rfl,rfl,rfl,Q,hgg,p,aYw,k,qs,T,pG,V⟩:=hrel;cases hp:(bJ (aB q).2).cW DR with
 |none=>
  have aDQ:=aX9 (by rw[y.o];exact Q) hp;rw[tt hp]at p;generalize hpz:(eU (aB q).2.aK DR).bU=pz at aDQ|-;have a30:decide (0<=pz)=po:=jO Y;have D4:=Z pG;have sL:=Z V;have HE:=Z p;clear p T pG V hpz k qs;exact ZM123
 |some up=>
  obtain⟨-,Su⟩:=aXa hp;let⟨hu1,Cb⟩:=L.oJ.up _ _ hp;have Cb:up<N:=by rw[<-y.o];exact Cb
  rw[Su];by_cases hz:l=[]
  .subst hz;rw[KD]at p;have D4:=Z pG;have sL:=Z V;have HE:=Z p;clear p T pG V Su k qs;exact ZM123
  .obtain⟨f,rfl⟩:∃f,f0=f+1:=⟨f0-1,Y⟩;rw[tq hp hz]at p;let⟨sd,hsd⟩:=E ((bJ (aB q).2).isSide DR);have z:=gY.PF Su;rw[hsd]at z p;generalize D0:jK (bJ (aB q).2) add up sd l W1 []=GF at p;have hfn:=List.length_pos_iff.2 hz;have a7U:(0:Int)<(O l:Int):=Y;let⟨g,o,cap,va,vn,vc,k3,hg,c0,c1,c2,c3,c4,c5,c6⟩:=V.ub.node (i:=up) (by rw[y.o];exact Cb);obtain⟨g',o',cap',-,-,-,k3',-,-,-,-,-,-,q5,-⟩:=V.ub.node (i:=DR) (by rw[y.o];exact Q);rw[y.o]at k3;have a6a:(up:Int)<(N:Int):=Y;have a69:(0:Int)<=(up:Int):=Y;generalize hpn:eU (aB q).2.aK up=pn at c0 c1 c3 c4 c5 c6 z;let⟨wb,pE⟩:=E (e8 wr (h8 #[J (pn.aG:Int),J (pn.o7:Int),hY va vn vc,J (pn.cB:Int),J (pn.bK:Int),J pn.bU,j4 pn.lW] 92));have m8:=Za pE;have VZ:=Zb pE;have e0:=Zc VZ 0;have e4:=Zc VZ 4;have D4:=Z (pG.jH m8);have sL:=Z (V.on m8);have aVN:=(T.dg (S:=eL) m8.fK id id);have HR1:=Z p;have HU:=(dX hu1 Cb);have HFT:=(dX k qs);have DZ:=(dX Q hgg);clear p T pG V Su m8 VZ hz hu1 Cb k qs k3' q5 Q hgg hpn;go_upto_region 5 with(fail);try rw[pE]
   clear k3 c0 c1 c2 c3 c4 c5 c6 hg;go_cut [56]from 24 to 98 (λs56 wx=>s56=j4 sd/\wx=wb)
   case first=>
    by_cases yM:pn.aG=3
    .have f1:((pn.aG:Int)==3)=oj:=by rw[show((3:Int))=((3:Nat):Int)from rfl,dA];exact kI yM
     by_cases SF:pn.bK=DR
     .have f2:((pn.bK:Int)==(DR:Int))=oj:=by rw[dA];exact kI SF
      have HX:=(show sd=oj by rw[z];simp[yM,SF]);clear yM SF z;go_wp2;go_meet;exact⟨by rw[HX],rfl⟩
     .have f2:((pn.bK:Int)==(DR:Int))=po:=by rw[dA];exact jO SF
      have HX:=(show sd=po by rw[z];simp[SF]);clear yM SF z;go_wp2;go_meet;exact⟨by rw[HX],rfl⟩
    .have f1:((pn.aG:Int)==3)=po:=by rw[show((3:Int))=((3:Nat):Int)from rfl,dA];exact jO yM
     have HX:=(show sd=po by rw[z];simp[yM]);clear yM z;go_wp2;go_meet;exact⟨by rw[HX],rfl⟩
   case rest=>
    obtain⟨rfl,rfl⟩:=hcut;clear e0 e4 z;go_upto_if 56 with(fail);go_cut [7]from 24 to 98 (λs7 wx=>s7=J (C7 sd)/\wx=wc)
    case first=>
     cases sd with
     |true=>go_wp2;go_meet;exact⟨rfl,rfl⟩
     |false=>go_wp2;go_meet;exact⟨rfl,rfl⟩
    case rest=>
     obtain⟨rfl,rfl⟩:=hcut;have hb:=uY (P:=bJ (aB q).2) (add:=add) HU.2 sd l W1 [];rw[D0]at hb;have hrb:=uO (add:=add) (n:=N) (λu v FH=>by rw[<-y.o];exact(L.oJ.up u v FH).2) f up GF.2 GF.1;rw[HR1.o]at hrb;have lC:=(show GF.1.aQ<=549755813888/\GF.1.count N<=1099511627776/\O GF.2<=549755813888 by
      obtain⟨s1,s2⟩:=HS.o;have b3:=hb.2.2.1;simp only[List.length_nil]at b3;omega)
     clear hb hrb;obtain⟨-,-,-,aZC⟩:=aVN.len;unfold bw at aZC;go_upto_region 9 with(fail);go_loopg [9,59] (O l) (λgg s9 s59 wi=>∃(j:Nat) (a:kH) (C:List Row) (m:aW),j<=O l/\gg=O l-j/\s59=J j/\jK (bJ (aB q).2) add up sd (l.drop j) a C=GF/\RwT wi m (β+100+up) (β+3) s9 C/\bA wc dN (InW β up) wi m/\
      fF wi m β b ub M q cells st ls add a F G/\EV (aB q).2 up C)
     .exact⟨0,W1,[],dN,Y,rfl,rfl,D0,RwT.nil _ _ _ _,bA.refl _ _ _,sL,by intro x hx;cases hx⟩
     obtain⟨j,a,C,m,hj,Ee,rfl,I7,Hc,hMj,B,hgn⟩:=hrel;obtain⟨na,nc,rfl,-⟩:=Hc.len;by_cases aV:j<O l
     .have s:up<42:=Y;let⟨gf,of,cf,ra,rc,hv,c0,oV⟩:=(aVN.dg hMj (HFT.1.XU HFT.2 HU.1 s) aLu).aU aV;obtain rfl:=CT hv;have jB:=bM (d:=[]) aV;generalize hr:ep l j []=r at c0 oV jB;have Ti:l.drop j=r::l.drop (j+1):=by
       rw[zbM aV];rw[iB,kX aV]at hr;simp only[NQ]at hr;rw[hr]
      rw[Ti]at I7;let⟨g1,g2,g3,g4,g5⟩:=yy (n:=N) I7 HU.2;have hrf:pR (eP (aB q).2 up) sd r:=by have h':=aYw.aLc L hp jB;rw[hsd]at h';exact h'
      have A:up<O (aB q).2.aK:=by rw[y.o];exact HU.2
      have hdg:EV (aB q).2 up (fU (bJ (aB q).2) add a up sd r).2.1:=Ak L HWD A hrf (λhk=>by
       obtain⟨nb,-,-,-,-,-,hN,-⟩:=B.bd.EF A;exact hN.lp hk)
      have Lv:=lC;have hdo:=gj sd B A oV (λh'=>by have:=O2 h';omega) hrf RI.1 RI.2 (j7 y.o);generalize hd:fU (bJ (aB q).2) add a up sd r=d at g1 g2 g3 g4 g5 hdg hdo;have hlen:O C+O d.2.1<=549755813888:=by rw[F5]at g4;omega
      have pO:a.aQ+1+(if sd=oj then d.2.2.1 else 0)<=549755813888:=Y;have aPN:=Z g1;have HGJ:=Z Ee;clear I7 Ti hr jB oV g1 g2 g3 g4 hrf Lv hd A Ee;go_upto_region 13 with(first
       |(go_at_call 40;apply hdo.cF;rintro e w2 ⟨fB,mv,tM,rfl,zI,hT2,htM,ow⟩;obtain⟨ma,mc,rfl,-⟩:=ow.len;have aOv:=(Hc.dg zI (PR (nA s) Y Y (nA s)) (PR Y Y Y Y));clear htM)
       |(at_builtin;refine Qv aOv ow (nA hlen) Y rfl _ _ rfl Yr Yr ?_;intro ga gc w3 kM qU qR))
      have JE:=hT2.dg qU (λc hc=>Y) (λi hi=>Y) (λi c hi hc=>by have:=s;unfold nH;omega);obtain⟨-,-,k7,-,-,klt,kf7,-⟩:=JE.ub.cells;rw[g5]at k7;have aRY:a.aQ+1<=549755813888:=nA pO;have hcw:IntKind.i64.wrap ((a.aQ:Int)+1)=(a.aQ:Int)+1:=TA _ Y;let⟨w4,qJ⟩:=E (ey w3 (Ad ub 7) (J ((a.aQ:Int)+1)));have Hk:fF w4 kM β b ub M q cells st ls add {d.1 with aQ:=a.aQ+1} F G:=by rw[<-qJ];exact JE.K3 (a.aQ+1)
      have qN:bA w3 kM (·=β+2) w4 kM:=by rw[<-qJ];exact JE.ub.XY (a.aQ+1)
      have sZ:=((hMj.dd (zI.aN (λ_ h=> .inl h))).dd (qU.aN (λ_ h=> .inr h))).dd (qN.aN (λ_ h=> .inl (.inr (.inl h))));have Ci:=qR.dg qN Y Y;have hgx:EV (aB q).2 up (C++d.2.1):=λx hx=>(EY.1 hx).elim (hgn x) (hdg x);have VL:=Z Ci;cases sd with
      |false=>
       clear JE qN Ci aOv c0;go_wp2;go_roundg (O l-(j+1))
       .exact⟨j+1,_,C++d.2.1,kM,Y,rfl,eO,aPN.out,VL,sZ,Hk,hgx⟩
       have:=HGJ.o;omega
      |true=>
       have L4:=Hk.K3 (a.aQ+1+d.2.2.1);have tU:=Hk.ub.XY (a.aQ+1+d.2.2.1);have aMZ:a.aQ+1+d.2.2.1<=549755813888:=by have:=pO;simpa using this
       have aZM:IntKind.i64.wrap ((a.aQ:Int)+1+(d.2.2.1:Int))=(a.aQ:Int)+1+(d.2.2.1:Int):=TA _ Y;obtain⟨-,-,m7,-,-,mlt,mf7,-⟩:=Hk.ub.cells;let⟨w5,oD⟩:=E (ey w4 (Ad ub 7) (J ((a.aQ:Int)+1+(d.2.2.1:Int))));have aZa:fF w5 kM β b ub M q cells st ls add {d.1 with aQ:=a.aQ+1+d.2.2.1} F G:=by rw[<-oD];exact L4
       have aNc:bA w4 kM (·=β+2) w5 kM:=by rw[<-oD];exact tU
       have a1c:=(sZ.dd (aNc.aN (λ_ h=> .inl (.inr (.inl h)))));have Nt:=Z (VL.dg aNc Y Y);have aLB:=Z aPN.out;simp only[uN]at aLB;clear JE qN Ci aOv c0 L4 tU aNc aPN;go_wp2;go_roundg (O l-(j+1))
       .exact⟨j+1,_,C++d.2.1,kM,Y,rfl,eO,aLB.out,Nt,a1c,aZa,hgx⟩
       have:=HGJ.o;omega
     .obtain rfl:j=O l:=Y;rw[List.drop_length]at I7;unfold jK at I7;subst I7;clear Ee hj;obtain⟨g2,o2,gI,-,-,-,k3,DM,-,-,-,-,-,k5,-⟩:=B.ub.node (i:=up) (by rw[y.o];exact HU.2);rw[y.o]at k3;go_wp2;go_roundg f
      .exact⟨f,up,C,a,m,β+100+up,na,nc,rfl,rfl,rfl,rfl,HU.2,rV HU.1 DZ.2,HR1,hgn,.inr (.inl Y),λu hu _=>Y,Hc.rws,D4.dd (hMj.aN (λ_=>InW.cl Y)),B⟩
      have:=hgf;omega
variable{co go nb oo τ:Nat}
section
theorem sw(T:iX)(i:Nat):E5 T i (T i)=T:=by
 funext j;unfold E5;split
 .rename_i h;rw[h]
 .rfl
theorem o8.sh{w:aA}{ρ:aW}{b F G:Nat}{s:mC}{n:gK}(h:o8 w ρ τ b s n F G):oM s n<=65536:=by
 obtain⟨lb,rb,iv,-,-,a⟩:=h;have hl:=a.lv;have e:=hl.ok.most.2;unfold oM;rcases a with⟨g,-⟩|⟨i,-⟩|⟨d,kb,sb,db,-,c⟩
 .rw[bD Y];have:=hl.Fm.JF;omega
 .rw[bD Y];have:=hl.Fm.JF;omega
 .rw[bR d];have:=c.eV.JF;omega
def WZ(P:DS)(T:iX)(k:Nat):Nat:=((List.range k).map λi=>oM (P.spec i) (T i)).sum
theorem WY(P:DS)(T:iX)(k:Nat):WZ P T (k+1)=WZ P T k+oM (P.spec k) (T k):=by
 unfold WZ;rw[Yl];simp
theorem Qk{P:DS}{T:iX}:∀{k:Nat},(∀i,i<k->oM (P.spec i) (T i)<=65536)->WZ P T k<=k*65536
 |0,_=>RN _
 |k+1,h=>by
  rw[WY];have b:=Qk (k:=k) λi a=>h i Y;have c:=h k Y;omega
section
variable{w:aA}{ρ:aW}{β b cells st ls F G:Nat}{q:bB}{T:iX}
theorem fR.AS(h:fR w ρ β b q cells st ls T F G):(∃nv:aF,e7 w ⟨b,9,K⟩=H nv)/\e7 w ⟨b,8,K⟩=H (i6 i7 (cells:Int))/\e7 w ⟨b,11,K⟩=H (i6 i7 (st:Int))/\e7 w ⟨b,12,K⟩=H (i6 i7 (ls:Int))/\b<hJ w.heap/\w.frozen? ⟨b,11,K⟩=po/\w.frozen? ⟨b,12,K⟩=po:=by
 obtain⟨hv,av,v0,v1,v2,v4,nv,ov,ps,ns,vG,bs,a,-,-⟩:=h.ex;unfold gQ at a;have c:=aM a;exact⟨⟨nv,aL a (j:=9) rfl⟩,aL a (j:=8) rfl,aL a (j:=11) rfl,aL a (j:=12) rfl,cV a,c 11,c 12⟩
theorem fR.aLw(h:fR w ρ β b q cells st ls T F G):∃a c,e7 w ⟨b,9,K⟩=H (hY a (O (aB q).2.aK) c):=by
 obtain⟨hv,av,v0,v1,v2,v4,nv,ov,ps,ns,vG,bs,d,g,-⟩:=h.ex;obtain⟨a,c,e,-⟩:=g.nds.1.len;rw[g.ndn]at e;unfold gQ at d;exact⟨a,c,e▸aL d (j:=9) rfl⟩
theorem AV(h:fR w ρ β b q cells st ls T F G):aH prog 11 #[h9 (H ⟨b,0,K⟩)] w λe w'=>e=i5 (i6 i7 (st:Int))/\w=w':=by
 obtain⟨-,-,a,-,-,-,-⟩:=h.AS;go_in;go_wp2;go_ret;exact⟨rfl,rfl⟩
theorem rC(h:fR w ρ β b q cells st ls T F G)(hf:O (aB q).2.aK<=42):aH prog 10 #[h9 (H ⟨b,0,K⟩)] w λe w'=>e=i5 (i6 i7 (AB (bJ (aB q).2) T:Int))/\U w [] w' []:=by
 obtain⟨a,c,L⟩:=h.aLw;have HH:=Z h;have j:=Z (λi f=>show oM ((bJ (aB q).2).spec i) (T i)<=65536 from(by obtain⟨nb,-,-,-,-,-,l,-⟩:=h.EF (i:=i) f;exact l.sh));let⟨N,l⟩:=E (O (aB q).2.aK);have v:=Z (show AB (bJ (aB q).2) T=WZ (bJ (aB q).2) T N by rw[<-l];rfl);rw[l]at L j hf;have W:=Z l;clear h l;go_in;go_wp2;go_loopg [3,11] N (λgg s3 z wr=>∃k:Nat,k<=N/\gg=N-k/\z=J k/\s3=J (WZ (bJ (aB q).2) T k:Int)/\U w [] wr [])
 .exact⟨0,Y,rfl,rfl,rfl,U.refl _ _⟩
 obtain⟨k,hk,C,rfl,rfl,m⟩:=hrel;by_cases o:k<N
 .obtain⟨nb,go,oo,co,u,n0,p,-⟩:=(HH.on m).EF (i:=k) (W.o▸o);have r:=m.cell L X;rw[r]at u;injection u with u;injection u with x1 x2 x3;subst x1;have R:=Z (ae p);have B:=Qk (k:=k) λi f=>j.o i Y;have qs:=j.o k o;have d:=WY (bJ (aB q).2) T k;let⟨S,Q⟩:=E (WZ (bJ (aB q).2) T k);let⟨y,g⟩:=E (oM (eP (aB q).2 k) (T k));have n:oM ((bJ (aB q).2).spec k) (T k)=y:=g;rw[Q]at B d|-;rw[n]at qs d;rw[g]at R;have A:=Z d;have x:=Z m;have OR:=Z C;have V:IntKind.i64.wrap ((S:Int)+(y:Int))=(S:Int)+(y:Int):=TA _ Y;clear p Q g n d m r x2 x3 C;go_wp2_with (go_at_call 23;apply R.cL;intro w2 P;have eM:=Z P;clear P);go_roundg (N-(k+1))
  .exact⟨k+1,Y,rfl,eO,by rw[A.o];rfl,x.dd eM⟩
  have:=OR.o;omega
 .obtain rfl:k=N:=Y;have x:=Z m;clear m C;go_wp2;go_ret;exact⟨by rw[v.o];rfl,x⟩
theorem aBd{v:Nat}(hv:v<O (aB q).2.aK)(a:e7 w ⟨b,9,K⟩=H (hY (H ⟨go,oo,K⟩) (O (aB q).2.aK) co))(d:e7 w ⟨go,oo+v,K⟩=H (h9 (H ⟨nb,0,K⟩))):
  aH prog 42 #[h9 (H ⟨b,0,K⟩),i6 i7 (v:Int)] w λe w'=>e=i5 (h9 (H ⟨nb,0,K⟩))/\w=w':=by
 generalize c:O (aB q).2.aK=N at a hv;have i:¬((v:Int)<0):=Y;have j:(v:Int)<(N:Int):=Y;have g:¬(N:Int)<=(v:Int):=Y;go_in;go_wp2;go_ret;exact⟨rfl,rfl⟩
def aId(w:aA)(ρ:aW)(β b v t:Nat)(q:bB)(cells st ls:Nat)(T:iX)(F G:Nat)(e:cg)(w':aA):Prop:=
 ∃bN u,e=i5 (i8 #[u,i6 i7 0])/\bA w ρ (eZ (nH β v)) w' bN/\fR w' bN β b q cells st ls T F G/\iN w' bN (nH β v+27) t u (T v).aI
theorem Qc(h:fR w ρ β b q cells st ls T F G)(qs:O (aB q).2.aK<=42){v t:Nat}(hv:v<O (aB q).2.aK)(p:t<nH β v\/nH β v+100<=t):
  aH prog 19 #[h9 (H ⟨b,0,K⟩),i6 i7 (v:Int)] w (aId w ρ β b v t q cells st ls T F G):=by
 let⟨nb,go,oo,co,n,z,c,r⟩:=h.EF hv;obtain⟨lb,rb,iv,i,C,y⟩:=c;have f:=Zc i 0;have a:=(dX i C);go_in;go_wp2_with (first
  |(go_at_call 43;apply ((aMG y p)).cF;rintro e w2 ⟨fB,u,rfl,d,A,j⟩;obtain⟨ua,uc,rfl,-⟩:=j.len)
  |(go_at_call 42;apply ((aBd (q:=q) hv n z)).cL;rintro w1 rfl))
 go_ret2;have m:bA w ρ (eZ (nH β v)) w2 fB:=d.aN (λ_ h=> .inl h);have x:¬eG (nH β v+20) (nH β v):=by unfold eG;omega
 refine⟨fB,_,rfl,m,?_,j⟩;have l:=r w2 fB (T v) m (by assumption) ⟨lb,rb,iv,d.aC a.1 (a.2▸x),(d.bT nb (cV a.1)).dd a.2,A⟩;rw[sw]at l;exact l
end
end
variable{a:Act}{assign body:Code}{bBP:Exit->Act->aA->Prop}{bx gf:Nat}{P:cu}{v:aF}{Start:aA->Nat->aA->Prop}{Good:aA->Prop}
def Il{α:Type}(P:cu)(gf:Nat)(lb:Array aF)(encs:α->Array aF)(xs:List α)(Start:aA->Nat->aA->Prop)(Good:aA->Prop)(W:aA):Prop:=
 ∀(l:Nat) (bBL Jx:Nat->Nat->aA->Prop),(∀g k W1,bBL g k W1->Good W1)->(∀g W1,Start W g W1->bBL g 0 W1)->
  (∀g k x W1,bBL g k W1->xs[k]? =H x->YieldAt Fence.wide 0 P l (encs x) W1 λe W'=>
   (e=i5 (j4 oj)/\bBL g (k+1) W'/\W'.heap[g]? =W1.heap[g]?)\/(e=i5 (j4 po)/\Jx g (k+1) W'))->
  CallsIn Fence.wide 0 P gf (#[.func (.yield l) #[] #[]]++lb) W λe W'=>(∃v,e=i5 v)/\∃g,bBL g (O xs) W'\/∃k,k<=O xs/\Jx g k W'
theorem q'{α:Type}{g:Operand}{ps:Array Tmp}{lb:Array aF}(l:a.eval g= .func (.func gf) #[] lb)(eg:∀args w,(callFunc gf args).run P w= .ok (.enter gf args) w){Mv:α->Array aF}{xs:List α}(q:∀x,(Mv x).size=ps.size)(hit:∀fn,Il P gf lb Mv xs Start Good (pQ w fn a.tmps ps assign body))(u:∀fn g W1,Start (pQ w fn a.tmps ps assign body) g W1->W1.heap[hJ w.heap+1]? =(pQ w fn a.tmps ps assign body).heap[hJ w.heap+1]?/\W1.heap[hJ w.heap]? =(pQ w fn a.tmps ps assign body).heap[hJ w.heap]?)(b:Nat->Nat->aA->Prop)(Ix:Code->Nat->Nat->aA->Prop)(n:∀g k W,b g k W->Good W)(dW:∀g k W,b g k W->g≠hJ w.heap+1)(hI:∀g k W o,b g k W->b g k (W.putObj (hJ w.heap+1) o))(hIx:∀c g k W o,Ix c g k W->Ix c g k (W.putObj (hJ w.heap+1) o))(r:∀fn g W1,Start (pQ w fn a.tmps ps assign body) g W1->b g 0 W1)(a₁:α->Act)(Lx:∀(x:α) (W:aA) (f:Act->aA->Prop),f (a₁ x) W->
   assign.wpIn (Fence.wide.inRound (hJ w.heap+1)) 0 P (Exit.then f (λ_ _ _=>False)) {tmps:=(ps.zip (Mv x)).foldl (λt (p,v)=>t.setIfInBounds p v) a.tmps,defers:=[]} W)(aDg:∀(g k:Nat) (x:α) (W:aA),b g k W->xs[k]? =H x->
   body.wpIn (Fence.wide.inRound (hJ w.heap+1)) 0 P (aCg (hJ w.heap+1) w.heap.size g W (b g (k+1)) (λc=>Ix c g (k+1))) (a₁ x) W)(Hh:∀g W,b g (O xs) W->W.heap[hJ w.heap]? =H (.deferred (H []))->bBP .normal {a with defers:={target:= .collected w.heap.size,args:=#[]}::a.defers} W)(aDA:∀c g k W,k<=O xs->Ix c g k W->W.heap[hJ w.heap]? =H (.deferred (H []))->c.wpIn Fence.wide 0 P bBP {a with defers:={target:= .collected w.heap.size,args:=#[]}::a.defers} W):
  (Code.rangeFunc g ps assign body).wpIn Fence.wide 0 P bBP a w:=by
 refine wpIn_rangeFunc ?_;intro fn _;have i:Fence.wide.round=K:=rfl;rw[i];obtain⟨rec,O8⟩:∃rec:LoopState->Option Code->Loop,rec=λst m=>{state:=st,pending:=m,fn,tmps:=a.tmps,params:=ps,assign,body,defers:=hJ w.heap}:=⟨_,rfl⟩;let⟨W1,pj⟩:=E (pQ w fn a.tmps ps assign body);have y:W1.heap[hJ w.heap+1]? =H (.loop (rec .ready K)):=ZM64;have j:W1.heap[hJ w.heap]? =H (.deferred (H [])):=by
  rw[<-pj];exact(Below.heap_alloc _ _ _ X).dd (World.alloc_heap_new w _)
 refine⟨hJ w.heap+1,[{target:= .collected w.heap.size,args:=#[]}],W1,{target:= .fn (.func gf) lb,args:=#[.func (.yield (hJ w.heap+1)) #[] #[]]},W1,gf,
  #[.func (.yield (hJ w.heap+1)) #[] #[]]++lb,W1,?_,?_,?_,?_,?_,?_⟩
 .rw[<-pj];exact run_enterLoop_outer _ _ _ _ _
 .simp only[resolve,l];simp[go_sem]
 .intro f' _;trivial
 .grind [invoke]
 .intro h;cases h
 .have d:=hit fn;rw[pj]at d;refine(d (hJ w.heap+1)
   (λg k W=>b g k W/\W.heap[hJ w.heap+1]? =H (.loop (rec .ready K))/\W.heap[hJ w.heap]? =H (.deferred (H [])))
   (λg k W=>∃c,Ix c g k W/\W.heap[hJ w.heap+1]? =H (.loop (rec .done (H c)))/\W.heap[hJ w.heap]? =H (.deferred (H []))) (λg k W h=>n g k W h.1) ?_ ?_).mono ?_
  .grind
  .exact ZM4
  .exact ZM41
def Ia(l:List Nat):List (Nat×Nat):=(List.range (O l)).reverse.map λi=>(i,ep l i 0)
theorem ST(l:List Nat):O (Ia l)=O l:=by simp[Ia]
theorem Vu{l:List Nat}{k:Nat}(a:k<O l):(Ia l)[k]? =H (O l-1-k,ep l (O l-1-k) 0):=by
 grind [Ia]
theorem Nd(v:aF)(w:aA)(n:Nat)(hv:∃a c,v=hY a n c):
  aH prog 38 #[v] w λe w'=>e=i5 (.func (.func 75) #[] #[h9 (H ⟨w,0,K⟩)])/\w'=e8 w (h8 #[v] 43):=by
 obtain⟨a,c,rfl⟩:=hv;go_in;go_wp2;go_ret;exact⟨rfl,rfl⟩
def Br(bx:Nat)(v:aF)(l:List Nat)(W:aA):Prop:=W.heap[bx]? =H (h8 #[v] 43 (0,0))/\eX fN 0 1 W v l
theorem Ep{W:aA}{l:List Nat}(p:Br bx v l W):
  Il prog 75 #[h9 (H ⟨bx,0,K⟩)] (λx:Nat×Nat=>#[i6 i7 (x.1:Int),i6 i7 (x.2:Int)]) (Ia l) (λW g W1=>W1=W/\g=bx) (Br bx v l) W:=by
 intro li u Jx f qs V;obtain⟨a,c,rfl,N⟩:=p.2.len;unfold bw at N;generalize r:O l=n at N p f;have C:=Z r;have L:=Z (show(Ia l).length=n by rw[ST,r]);have T:=Z (qs bx W ⟨rfl,rfl⟩);have x0:=Zc p.1 0;clear p qs r;have Q:IntKind.i64.wrap ((n:Int)-1)=(n:Int)-1:=TA _ Y;refine callsIn_of_wp func75 rfl trivial ?_ rfl;simp only[ntmps75,List.size_toArray,T9,List.length_nil,Nat.reduceAdd,Nat.reduceSub,Array.replicate_succ,Array.replicate_zero,List.push_toArray,List.append_toArray,Bv,zbZ];gi_wp2
 clear x0;gi_loopw [3] (λi wr=>∃k:Nat,k<=n/\i=J ((n:Int)-1-(k:Int))/\u bx k wr) (λi _=>(intOf i+1).toNat)
 .exact⟨0,Y,X,T.o⟩
 obtain⟨k,hk,rfl,j⟩:=hrel;have d:=Z j;by_cases aV:k<n
 .let⟨G,g2⟩:=f bx k wr j;have x0:=Zc G 0;obtain⟨ge,oe,ce,hv,-,P⟩:=eX.aU g2 (i:=n-1-k) (j7 C.o);have c0:=P 0 D;simp only[wZ,pK,fN]at c0;injection hv with x1 x2 x3;subst x1;have m:=Vu (l:=l) (k:=k) Y;rw[C.o]at m;generalize F:n-1-k=i at c0 m;have b:(n:Int)-1-(k:Int)=(i:Int):=Y;rw[b];let⟨fn,tmps,assign,body,h,q⟩:=V bx k (i,ep l i 0) wr d.o m;generalize w:ep l i 0=y at c0 h;dsimp only at h;have gV:(i:Int)<(n:Int):=Y;have Xr:(0:Int)<=(i:Int):=Y;have R:IntKind.i64.wrap ((i:Int)-1)=(i:Int)-1:=TA _ Y;have S:=Z F;clear j G g2 P x2 x3 m F b w;gi_wp2
  refine⟨rfl,q.mono ?_⟩;rintro e W4 (⟨rfl,B,Cg⟩|⟨rfl,A⟩)
  .gi_wp2
   go_roundw
   case rel=>exact⟨k+1,Y,by have:=S.o;congr 1;omega,B⟩
   grind [intOf]
  .gi_wp2
   refine mD (results_none rfl _ _ _) rfl ?_;exact⟨⟨_,rfl⟩,bx,.inr ⟨k+1,j7 L.o,A⟩⟩
 .obtain rfl:k=n:=Y;have z:(k:Int)-1-(k:Int)= -1:=Y;rw[z];clear j;gi_wp2
  refine bodyPost_end (results_none rfl _ _ _) rfl ?_;exact⟨⟨_,rfl⟩,bx,.inl (by rw[L.o];exact d.o)⟩
variable{L':List Nat}{bc bd bt bu g:Nat}{rowOf:Nat->Option Row}{r:Row}{bN kM oC:aW}{dv rv:aF}{Wk:kH}{w' w3:aA}
section
attribute [local go_sem] Oper.semAt_some
def dQ(q:bB)(r:Row)(i:Nat):Option Row:=kA (aB q).2 (ep q.aD i qc) i r
theorem Aw{P:DS}{l:List Nat}{x:Row}(h:rowOf i=H x):mJ P rowOf (i::l) W=mJ P rowOf l (gF P po P.n i (fU P po W i po x).2.1 (fU P po W i po x).1):=by
 rw[mJ,h]
theorem QW{P:DS}{rowOf:Nat->Option Row}(a:∀u v,P.cW u=H v->v<P.n):∀(l:List Nat) (W:kH),(∀i∈l,i<P.n)->W.aQ<=(mJ P rowOf l W).aQ/\W.count P.n<=(mJ P rowOf l W).count P.n
 |[],W,_=>⟨fV _,fV _⟩
 |i::l,W,hl=>by
  have ih:=λW'=>QW (rowOf:=rowOf) a l W' (λj b=>hl j (by simp[b]));cases h:rowOf i with
  |none=>rw[mJ,h];exact ih W
  |some x=>
   rw[Aw h];let⟨g,m⟩:=ih (gF P po P.n i (fU P po W i po x).2.1 (fU P po W i po x).1);obtain⟨e,p,-⟩:=uO (P:=P) (add:=po) a P.n i (fU P po W i po x).2.1 (fU P po W i po x).1;have d:=CD (P:=P) (add:=po) W (hl i X) po x;have c:=d.2.2.2.2.1;have q:=d.2.2.2.2.2.1;omega
theorem TW(a:qm q)(b:i<O q.aD){x:Row}(l:∀v∈r,tm v)(h:dQ q r i=H x):pR (eP (aB q).2 i) po x:=by
 have g:=a.wf.DA;have c:O (oQ (aB q).2 (ep q.aD i qc) i)<=30:=by
  rw[M1];let⟨s,hs,e⟩:=(a.wf.JG i (wM b g)).vars;rw[e];exact BS a.wide hs
 let⟨j,g2⟩:=YB a.aLk b (Mr (d:=qc) b rfl) l h c;have m:=(a.wf.JG i (wM b g)).leaf.2 b;refine⟨j,?_,λe=>by cases e⟩;simp only[UV,zF];rw[g2];unfold eP;simp only;rw[bD Y]
structure Wz(w3:aA)(kM:aW)(β b ub M:Nat)(q:bB)(cells st ls F G bx:Nat)(r:Row)(done:List Nat)(R:kH)(g k:Nat)(W:aA)(oC:aW)(Wk:kH):Prop where
 g:g=bx
 eW:bA w3 kM (zP β) W oC
 tl:oC w3.heap.size=β+6/\oC (hJ w3.heap+1)=β+6
 sz:hJ w3.heap+2<=hJ W.heap
 vK:fF W oC β b ub M q cells st ls po Wk F G
 eq:mJ (bJ (aB q).2) (dQ q r) (done.reverse.drop k) Wk=R
theorem zP.not(h:x<β+1000)(c:x≠β+2)(b:x≠β+4)(a:x<β+100\/β+300<=x):¬zP β x:=by unfold zP;omega
theorem Wz.putObj{M cells ls:Nat}{done:List Nat}{R:kH}{k:Nat}{W:aA}(h:Wz w3 kM β b ub M q cells st ls F G bx r done R g k W oC Wk)(o:Obj):Wz w3 kM β b ub M q cells st ls F G bx r done R g k (W.putObj (hJ w3.heap+1) o) oC Wk:=by
 have e:U W [hJ w3.heap+1] (W.putObj (hJ w3.heap+1) o) [hJ w3.heap+1]:=(U.refl W [hJ w3.heap+1]).putObj (.inl (by simp)) o;have d:bA W oC (·=β+6) (W.putObj (hJ w3.heap+1) o) oC:=e.p9 (λk l=> .inl (by rw[show k=hJ w3.heap+1 by simpa using l];exact h.tl.2));refine⟨h.g,⟨h.eW.os,h.eW.tape,h.eW.output,by rw[World.putObj_size];exact h.eW.size,λj a m=> ?_,h.eW.bT⟩,h.tl,by rw[World.putObj_size];exact h.sz,h.vK.dg d (λc n=>by omega) (λi _=>by omega) (λi c _ _=>by unfold nH;omega),h.eq⟩;rw[World.putObj_heap_other (by omega)];exact h.eW.block j a m
structure J5(w:aA)(ρ:aW)(β b ub bu bd bt bc:Nat)(add:Bool)(rel:dU)(rv dv:aF)(r:Row)(tr:Nat)(done:List Nat):Prop where
 xu:w.heap[bu]? =H (h8 #[h9 (H ⟨ub,0,K⟩)] 104 (0,0))
 xt:w.heap[bt]? =H (h8 #[h9 (H ⟨b,0,K⟩)] 27 (0,0))
 xc:w.heap[bc]? =H (h8 #[j4 add,j3 rel,rv] 35 (0,0))
 xd:w.heap[bd]? =H (h8 #[dv] 43 (0,0))
 zQ:ρ bu=β+6/\ρ bt=β+6/\ρ bc=β+6/\ρ bd=β+6
 row:mK dR aP 3 w ρ tr rv r
 trn:¬G3 β tr
 QK:AP r
 cY:oF fN 0 3 1 w ρ (β+7) dv done
theorem J5.dg{rel:dU}{tr:Nat}{done:List Nat}{S:Nat->Prop}(h:J5 w ρ β b ub bu bd bt bc add rel rv dv r tr done)(a:bA w ρ S w' bN)(c:¬S (β+6))(d:¬S (β+7))(e:∀x,S x->G3 β x):J5 w' bN β b ub bu bd bt bc add rel rv dv r tr done:=
 ⟨a.aC h.xu (h.zQ.1▸c),a.aC h.xt (h.zQ.2.1▸c),a.aC h.xc (h.zQ.2.2.1▸c),a.aC h.xd (h.zQ.2.2.2▸c),
  ⟨(a.bT _ (cV h.xu)).dd h.zQ.1,(a.bT _ (cV h.xt)).dd h.zQ.2.1,(a.bT _ (cV h.xc)).dd h.zQ.2.2.1,(a.bT _ (cV h.xd)).dd h.zQ.2.2.2⟩,
  h.row.dg a (λhs=>h.trn (e _ hs)),h.trn,h.QK,h.cY.dg a d⟩
theorem J5.on{rel:dU}{tr:Nat}{done:List Nat}(h:J5 w ρ β b ub bu bd bt bc add rel rv dv r tr done)(a:U w [] w' L'):J5 w' ρ β b ub bu bd bt bc add rel rv dv r tr done:=
 h.dg (S:=eL) a.fK id id pW
theorem zP.tr(h:zP β x):G3 β x:=by unfold zP at h;unfold G3;omega
end
variable{a0g:Bool}
section
attribute [local go_sem] Oper.semAt_some
theorem fF.aL6{M cells ls:Nat}(h:fF w ρ β b ub M q cells st ls add W F G):fF (ey w ⟨ub,6,K⟩ (j4 po)) ρ β b ub M q cells st ls po W F G/\bA w ρ (·=β+2) (ey w ⟨ub,6,K⟩ (j4 po)) ρ/\w.frozen? ⟨ub,6,K⟩=po:=by
 have e:U w [ub] (ey w (Ad ub 6) (j4 po)) [ub]:=pX w ub 6 _;have a:bA w ρ (·=β+2) (ey w (Ad ub 6) (j4 po)) ρ:=e.p9 (λk l=> .inl ((show k=ub by simpa using l)▸h.ub.bT));obtain⟨u0,u1,u2,u4,ns,d,j,g⟩:=h.ub.ex;refine⟨⟨h.bd.dg a Y Y (λi c _ _=>by unfold nH;omega),⟨⟨u0,u1,u2,u4,ns,?_,j.dg a Y,g⟩,h.ub.bT⟩,h.V0.dg a Y Y (λi _=>Y),h.ok⟩,a,aM d 6⟩;rw[aE _ d];rfl
def aP9(w:aA)(ρ:aW)(β b ub M:Nat)(q:bB)(cells st ls F G:Nat)(R:kH)(e:cg)(w':aA):Prop:=
 ∃bN,e=i5 (i8 #[])/\bA w ρ (zP β) w' bN/\fF w' bN β b ub M q cells st ls po R F G
theorem Vv{M cells ls tr:Nat}{rel:dU}{done:List Nat}{R:kH}(hB:J5 w ρ β b ub bu bd bt bc add rel rv dv r tr done)(h:fF w ρ β b ub M q cells st ls a0g W F G)(pH:G<=F)(hG:G<1073741824)(Hh:∀i∈done,i<O q.aD/\∃x,dQ q r i=H x)(m:mJ (bJ (aB q).2) (dQ q r) done.reverse W=R)(hs:R.aQ<=549755813888)(hc:R.count (O (aB q).2.aK)<=1099511627776):
  aH prog 37 #[h9 (H ⟨bu,0,K⟩),h9 (H ⟨bd,0,K⟩),h9 (H ⟨bt,0,K⟩),h9 (H ⟨bc,0,K⟩)] w (aP9 w ρ β b ub M q cells st ls F G R):=by
 have hb:=hB.xu;have x0:=Zc hb 0;obtain⟨-,u6,-,-,-,ulh,-,-⟩:=h.ub.cells;obtain⟨hA,z,uf6⟩:=h.aL6;obtain⟨wa,dE⟩:=E (ey w ⟨ub,6,K⟩ (j4 po));rw[dE]at hA z;have kG:=hB.dg z (by omega) (by omega) (λx hx=>by unfold G3;omega);have hbd:=kG.xd;obtain⟨da,dc,hdv,-⟩:=kG.cY.len;subst hdv;have d0:=Zc hbd 0;have aDC:=Nd (hY da (O done) dc) wa (O done) ⟨_,_,rfl⟩;have aV:=h.ub.cells.2.2.2.2.2.1;obtain⟨bx,lR⟩:=E (hJ wa.heap);obtain⟨w3,iQ⟩:=E (e8 wa (h8 #[hY da (O done) dc] 43));have cU:=Za iQ;have OB:w3.heap[bx]? =H (h8 #[hY da (O done) dc] 43 (0,0)):=by grind [heap_alloc_new]
 rw[iQ]at aDC;have qU:bA wa ρ (λ_=>False) w3 (up wa.heap.size (β+6) ρ):=cU.eW (S:=λ_=>False) (β+6) (λ_ h=>absurd h (by simp));obtain⟨kM,lO⟩:=E (up wa.heap.size (β+6) ρ);have JC:kM bx=β+6:=by rw[<-lO];grind [cJ]
 rw[lO]at qU;have MW:=Z (kG.dg qU (λh=>h) (λh=>h) (λ_ h=>h.elim));have SZ:=Z (hA.dg qU (λ_ _ h=>h) (λ_ _ h=>h) (λ_ _ _ _ h=>h));have a1k:=Z ((z.aN (T:=zP β) (λx hx=>by unfold zP;omega)).dd (qU.aN (λ_ h=>h.elim)));have LO:=Z (And.intro OB JC);have qw:=Z aDC;have HDN:=Z Hh;have HR:=Z m;have HS:=Z (And.intro hs hc);have RI:=Z (And.intro pH hG);have kN:=h.ok;have N:=Z kN;rw[lR]at qw;clear hB h pH hG Hh m hs hc hb hA z kG hbd aDC iQ cU OB qU lO JC kN aV lR;refine(callsIn_wide (n:=0)).1 ?_;refine callsIn_of_wp_marks func37 rfl trivial ?_ rfl;simp only[ntmps37,List.size_toArray,List.length_cons,List.length_nil,Nat.reduceAdd,Nat.reduceSub,Array.replicate_succ,Array.replicate_zero,List.push_toArray,List.append_toArray,List.nil_append,List.cons_append];gi_wp2_with fail
 refine⟨trivial,rfl,?_⟩;refine(callsIn_wide.2 qw.o).mono ?_;rintro e p ⟨rfl,rfl⟩;gi_wp2_with fail
 have aD2:∀(wz:aA) (Bs:aW),bA p kM (zP β) wz Bs->Br bx (hY da (O done) dc) done wz:=λwz Bs f=>
  ⟨f.aC LO.o.1 (by rw[LO.o.2];grind [zP.not]),(MW.o.cY.dg f (zP.not (by omega) (by omega) (by omega) (by omega))).rd.1⟩
 refine q' rfl (enters_of func75 (by kernel_rfl) rfl) (λ_=>rfl)
  (λfn=>Ep (v:=hY da (O done) dc) (l:=done) (aD2 _ _ (vA.fK (S:=zP β) (ρ:=kM))))
  (λfn g W1 hS=>by grind)
  (λg k W=>∃oC Wk,Wz p kM β b ub M q cells st ls F G bx r done R g k W oC Wk) (λ_ _ _ _=>False)
  (λg k W ⟨oC,Wk,hB⟩=>aD2 W oC hB.eW) (λg k W ⟨_,_,hB⟩=>by rw[hB.g];have:=lt_of_block LO.o.1;omega) ?stab (λ_ _ _ _ _ h=>h) ?start ?a1 ?assign ?body ?done (λ_ _ _ _ _ h=>h.elim)
 case stab=>
  rintro g k W o ⟨oC,Wk,m⟩;exact⟨_,_,m.putObj o⟩
 case start=>
  suffices gH:∀(We:aA),U p [] We []->hJ We.heap=hJ p.heap+2->∃oC Wk,Wz p kM β b ub M q cells st ls F G bx r done R bx 0 We oC Wk from λfn g W1 hS=>by
   grind [vA,IE]
  intro We Tw SF;have f:bA p kM (λ_=>False) We (up p.heap.size (β+6) kM):=Tw.eW (S:=λ_=>False) (β+6) (λ_ h=>absurd h (by simp));exact⟨_,W,rfl,f.aN (λ_ h=>h.elim),⟨cJ (Nat.le_refl _),cJ (by omega)⟩,by omega,SZ.o.dg f (λ_ _ h=>h) (λ_ _ h=>h) (λ_ _ _ _ h=>h),by rw[List.drop_zero];exact HR.o⟩
 case assign=>
  intro x W s hK;gi_wp2
  exact hK
 case body=>
  rintro g k ⟨j,i⟩ W ⟨oC,Wk,m⟩ hx;have hk:k<O done:=by grind [ST]
  rw[Vu hk]at hx;injection hx with hx;injection hx with hj hi;have Ti:done.reverse.drop k=i::done.reverse.drop (k+1):=by
   grind [List.drop_eq_getElem_cons]
  have him:i∈done:=by grind
  obtain⟨Lp,x,B⟩:=HDN.o i him;have y:=m.eq;rw[Ti,Aw B]at y;have qs:i<O (aB q).2.aK:=Nat.lt_of_lt_of_le Lp N.o.wf.DA;have A:=MW.o.dg m.eW (zP.not (by omega) (by omega) (by omega) (by omega)) (zP.not (by omega) (by omega) (by omega) (by omega)) (λ_=>zP.tr);have hu:=A.xu;have ht:=A.xt;have hc:=A.xc;have y0:=Zc hu 0;have z0:=Zc ht 0;have q2:=Zc hc 2;obtain⟨AO,av',v0',v1',v2',v4',RY,ov',Oj,ns',a6N,bs',aDi,hfx,-⟩:=m.vK.bd.ex;have hLR:=TX (a:=ep q.aD i qc) aDi hfx N.o Lp rfl A.row.1 A.QK;have aRM:kA (aB q).2 (ep q.aD i qc) i r=H x:=B;rw[aRM]at hLR;have HLR:=Z hLR;have hrf:=TW N.o Lp (λv hv=>(A.QK.2 v hv).2) B;have HRF:=Z hrf;obtain⟨ra,rc,Cc,-⟩:=A.row.1.len;subst Cc;have F0:∀u v,(bJ (aB q).2).cW u=H v->v<(bJ (aB q).2).n:=λu v FH=>(N.o.wf.oJ.up u v FH).2;have C:=QW (P:=bJ (aB q).2) (rowOf:=dQ q r) F0 (done.reverse.drop (k+1)) (gF (bJ (aB q).2) po (bJ (aB q).2).n i (fU (bJ (aB q).2) po Wk i po x).2.1 (fU (bJ (aB q).2) po Wk i po x).1) (λj hj=>by
   have:j∈done:=List.mem_reverse.1 (List.mem_of_mem_drop hj);exact Nat.lt_of_lt_of_le (HDN.o j this).1 N.o.wf.DA)
  rw[y]at C;have V:=uO (P:=bJ (aB q).2) (add:=po) F0 (bJ (aB q).2).n i (fU (bJ (aB q).2) po Wk i po x).2.1 (fU (bJ (aB q).2) po Wk i po x).1;obtain⟨d,hd⟩:=E (fU (bJ (aB q).2) po Wk i po x);have aDa:EV (aB q).2 i d.2.1:=hd▸Ak N.o.wf N.o.wide qs hrf (λhk=>by
   obtain⟨nb,-,-,-,-,-,hN,-⟩:=m.vK.bd.EF qs;exact hN.lp hk)
  rw[hd]at y C V;have hN:(bJ (aB q).2).n=O (aB q).2.aK:=rfl;rw[hN]at y C V;have Yg:=Z y;have HBW:=Z (show(gF (bJ (aB q).2) po (O (aB q).2.aK) i d.2.1 d.1).aQ<=549755813888/\(gF (bJ (aB q).2) po (O (aB q).2.aK) i d.2.1 d.1).count (O (aB q).2.aK)<=1099511627776/\d.1.count (O (aB q).2.aK)<=1099511627776 by
   obtain⟨s1,s2⟩:=HS.o;omega)
  have HD:=Z hd;have HDG:=Z aDa;have L:=Z m;have km:=Z A;have HIP:=Z qs;clear m hk hj hi Ti him Lp B y qs A hu ht hc aDi hfx hLR aRM hrf C V hd aDa;gi_wp2_with fail
  refine⟨trivial,rfl,?_⟩;refine(CallsIn.inRound _ (callsIn_wide.2 HLR.o)).mono ?_;rintro e w4 ⟨eA,u,rfl,QE⟩;obtain⟨ua,uc,rfl,-⟩:=QE.len;have qN:bA W oC (λ_=>False) w4 (up W.heap.size (β+3) oC):=eA.eW (S:=λ_=>False) (β+3) (λ_ h=>absurd h (by simp));have hK4:=(QE.jU (β+3) oC).rd;obtain⟨CO,MP⟩:=E (up W.heap.size (β+3) oC);rw[MP]at qN hK4;have Hk:=L.o.vK.dg qN (λ_ _ h=>h) (λ_ _ h=>h) (λ_ _ _ _ h=>h);have D1:=km.o.dg qN (λh=>h) (λh=>h) (λ_ h=>h.elim);have hdo:=gj po Hk HIP.o hK4 (λh'=>by have:=O2 h';omega) HRF.o (by simpa using RI.o.1) RI.o.2 (by rw[HD.o];exact HBW.o.2.2);rw[HD.o]at hdo;have HDO:=Z hdo;have Dy:=D1.xu;have y4:=Zc Dy 0;have JW:=Z D1;have JV:=Z qN;clear eA QE qN hK4 MP Hk D1 hdo Dy y0 z0 q2 HLR;gi_wp2_with fail
  refine⟨trivial,rfl,?_⟩;refine(CallsIn.inRound _ (callsIn_wide.2 HDO.o)).mono ?_;rintro e w5 ⟨pJ,fv,tO,rfl,tU,L4,htO,yd⟩;obtain⟨fa,fc,rfl,-⟩:=yd.len;have aSE:i<42:=by have:=HIP.o;have:=N.o.few;omega
  have Q:bA w4 CO (zP β) w5 pJ:=tU.aN (λ_=>DoW.cl aSE);have rS:=JW.o.dg Q (zP.not (by omega) (by omega) (by omega) (by omega)) (zP.not (by omega) (by omega) (by omega) (by omega)) (λ_=>zP.tr);have Gy:=rS.xu;have y5:=Zc Gy 0;have Cp:=Z (Hu L4 HIP.o yd (by rcases htO with e|e;exact .inl e;exact .inr (.inr ⟨i,aSE,e⟩)) (λup hu _=>by grind [nH]) HDG.o (by simpa using RI.o.1) RI.o.2 HBW.o.1 HBW.o.2.1);have G7:=Z Q;clear tU L4 htO yd Q rS Gy y4 HDO;gi_wp2_with fail
  refine⟨trivial,rfl,?_⟩;refine(CallsIn.inRound _ (callsIn_wide.2 Cp.o)).mono ?_;rintro e w6 ⟨rU,rfl,SM,hT6⟩;gi_wp2
  have sZ:bA W oC (zP β) w6 rU:=((JV.o.aN (λ_ h=>h.elim)).dd G7.o).dd SM;have A1:=L.o.sz;have I6:¬zP β (β+6):=zP.not (by omega) (by omega) (by omega) (by omega);have hxW:bx<hJ W.heap:=by have:=lt_of_block LO.o.1;omega
  have hgx:=L.o.g;have htx:oC bx=β+6:=(L.o.eW.bT bx (lt_of_block LO.o.1)).dd LO.o.2;refine⟨⟨sZ.block _ (by omega) (by rw[L.o.tl.2];exact I6),sZ.block _ (by omega) (by rw[L.o.tl.1];exact I6)⟩,by rw[hgx];exact sZ.block _ hxW (by rw[htx];exact I6),rU,_,hgx,L.o.eW.dd sZ,⟨(sZ.bT _ (by omega)).dd L.o.tl.1,(sZ.bT _ (by omega)).dd L.o.tl.2⟩,by have:=sZ.size;omega,hT6,Yg.o⟩
 case done=>
  rintro g W ⟨oC,Wk,m⟩ hK;have he:=m.eq;rw[ST,List.drop_eq_nil_iff.2 (by grind)]at he;have he:Wk=R:=he;subst he;have hU:U W [hJ p.heap] (W.putObj p.heap.size (.deferred K)) [hJ p.heap]:=(U.refl W [hJ p.heap]).putObj (.inl (by simp)) _;have f:bA W oC (·=β+6) (W.putObj p.heap.size (.deferred K)) oC:=hU.p9 (λk hk=> .inl (by rw[show k=hJ p.heap by simpa using hk];exact m.tl.1));have hT:=m.vK.dg f (λc hc=>by omega) (λi _=>by omega) (λi c _ _=>by unfold nH;omega);have MA:bA p kM (zP β) (W.putObj p.heap.size (.deferred K)) oC:=by
   refine⟨m.eW.os,m.eW.tape,m.eW.output,by grind [World.putObj_size],λj hj hn=> ?_,m.eW.bT⟩;rw[World.putObj_heap_other (by omega)];exact m.eW.block j hj hn
  have HT:=Z hT;have HM:=Z (a1k.o.dd MA);have HK:=Z hK;clear m hU f hT MA hK;gi_wp2_with fail
  refine⟨by simp,.inl ⟨_,_,rfl,run_takeDeferred HK.o,?_⟩⟩;refine⟨_,results_none rfl _ _ _,?_⟩;exact⟨oC,rfl,HM.o,HT.o⟩
end
variable{aI:List Row}{T:iX}
section
theorem ZM59{P:Prop}(h:P:=by
  obtain⟨hv,av,v0,v1,v2,v4,nv,ov,ps,ns,vG,bs,hb,hf,hn⟩:=h.ex;refine⟨⟨⟨hv,av,v0,v1,v2,v4,nv,ov,ps,ns,vG,bs,?_,hf.dg hM Y,λi hi=>(hn i hi).dg hM (λc _=>by unfold nH;omega)⟩,h.bT⟩,hM⟩;rw[aE _ hb];rfl):P:=h
section
variable{w:aA}{ρ:aW}{τ b lb rb F G F' G':Nat}{s:mC}{n:gK}{iv:aF}
theorem yC.mono(h:yC w ρ τ lb rb s aI F G)(b:F<=F')(a:G<=G'):yC w ρ τ lb rb s aI F' G':=⟨h.ex,h.bT,h.Fm.mono b a,h.ok⟩
theorem o8.mono(h:o8 w ρ τ b s n F G)(g:F<=F')(c:G<=G'):o8 w ρ τ b s n F' G':=by
 obtain⟨lb,rb,iv,i,m,p⟩:=h;refine⟨lb,rb,iv,i,m,?_⟩;rcases p with⟨d,kb,e,a,l,j⟩|⟨d,kb,cm,e,a⟩|⟨d,kb,sb,db,e,a⟩
 .exact .inl ⟨d,kb,e,a,l,j.mono g c⟩
 .exact .inr (.inl ⟨d,kb,cm,e,a.bS,a.bT,a.lv.mono g c,a.QP,a.QN,a.ok,a.few⟩)
 .exact .inr (.inr ⟨d,kb,sb,db,e,a.bS,a.bT,a.lv.mono g c,a.eV.mono g c,a.sd.mono g c⟩)
end
theorem fR.mono{w:aA}{ρ:aW}{b cells ls F G F' G':Nat}(h:fR w ρ β b q cells st ls T F G)(c:F<=F')(g:G<=G'):fR w ρ β b q cells st ls T F' G':=by
 obtain⟨hv,av,v0,v1,v2,v4,nv,ov,ps,ns,vG,bs,a,e,j⟩:=h.ex;exact⟨⟨hv,av,v0,v1,v2,v4,nv,ov,ps,ns,vG,bs,a,e,λi d=>(j i d).mono c g⟩,h.bT⟩
theorem fF.mono{w:aA}{ρ:aW}{b M cells ls F G F' G':Nat}(h:fF w ρ β b ub M q cells st ls add W F G)(c:F<=F')(a:G<=G'):fF w ρ β b ub M q cells st ls add W F' G':=⟨h.bd.mono c a,h.ub,h.V0,h.ok⟩
theorem fR.sA{w:aA}{ρ:aW}{b cells ls F G:Nat}(h:fR w ρ β b q cells st ls T F G)(n:Nat):fR (ey w ⟨b,12,K⟩ (i6 i7 (n:Int))) ρ β b q cells st n T F G/\bA w ρ (·=β) (ey w ⟨b,12,K⟩ (i6 i7 (n:Int))) ρ:=by
 have d:U w [b] (ey w (Ad b 12) (It n)) [b]:=pX w b 12 _;have hM:bA w ρ (·=β) (ey w (Ad b 12) (It n)) ρ:=d.p9 (λk a=> .inl ((show k=b by simpa using a)▸h.bT));exact ZM59
theorem fR.Qp{w:aA}{ρ:aW}{b cells ls F G:Nat}(h:fR w ρ β b q cells st ls T F G)(n:Nat):fR (ey w ⟨b,11,K⟩ (i6 i7 (n:Int))) ρ β b q cells n ls T F G/\bA w ρ (·=β) (ey w ⟨b,11,K⟩ (i6 i7 (n:Int))) ρ:=by
 have d:U w [b] (ey w (Ad b 11) (It n)) [b]:=pX w b 11 _;have hM:bA w ρ (·=β) (ey w (Ad b 11) (It n)) ρ:=d.p9 (λk a=> .inl ((show k=b by simpa using a)▸h.bT));exact ZM59
section
variable{P:DS}{sc IS:Nat->Nat}{rowOf:Nat->Option Row}
theorem wl(qs:wH P sc IS){w:kH}(h:zJ P w.T)(b:i<P.n)(l:(P.spec i).aG=1)(m:(P.spec i).most=512)(j:(fU P add w i po r).2.2.2≠191/\(fU P add w i po r).2.2.2≠192/\(fU P add w i po r).2.2.2≠31):
  zJ P (gF P add P.n i (fU P add w i po r).2.1 (fU P add w i po r).1).T/\(gF P add P.n i (fU P add w i po r).2.1 (fU P add w i po r).1).aQ<=w.aQ+P.n*(512*(2+512))/\
   (gF P add P.n i (fU P add w i po r).2.1 (fU P add w i po r).1).count P.n+w.aQ<=w.count P.n+1+(gF P add P.n i (fU P add w i po r).2.1 (fU P add w i po r).1).aQ/\(fU P add w i po r).1.count P.n<=w.count P.n+1:=by
 have a:=CD (P:=P) (add:=add) w b po r;have p:=a.2.2.1 rfl;have g:=a.2.2.2.2.1;have q:=a.2.2.2.2.2.2;have c:=(uO (P:=P) (add:=add) (n:=P.n) (λu v e=>(qs.up u v e).2) P.n i (fU P add w i po r).2.1 (fU P add w i po r).1).2.2;refine⟨?_,?_,Y,Y⟩
 .cases add<;>grind [nw,Q3]
 .cases add<;>grind [Dq,KR]
theorem Av(qs:wH P sc IS):∀(l:List Nat) (w:kH),(∀i∈l,i<P.n/\(P.spec i).aG=1)->zJ P w.T->
  (mJ P rowOf l w).aQ<=w.aQ+O l*(P.n*(512*(2+512)))/\(mJ P rowOf l w).count P.n+w.aQ<=w.count P.n+O l+(mJ P rowOf l w).aQ/\zJ P (mJ P rowOf l w).T
 |[],w,_,h=>⟨by simp[mJ],by simp[mJ],h⟩
 |i::l,w,hl,h=>by
  let⟨b,m⟩:=hl i X;have ih:=λw' (p:zJ P w'.T)=>Av qs l w' (λj z=>hl j (by simp[z])) p;cases d:rowOf i with
  |none=>
   rw[mJ,d];let⟨a1,a2,a3⟩:=ih w h;simp only[T9];refine⟨?_,Y,a3⟩;rw[Nat.succ_mul];omega
  |some x=>
   rw[mJ,d];simp only;have a:=CD (P:=P) (add:=po) w b po x;have F:=a.2.2.1 rfl;have B:=a.2.2.2.2.1;have G:=a.2.2.2.2.2.2;have q:=(uO (P:=P) (add:=po) (n:=P.n) (λu v A=>(qs.up u v A).2) P.n i (fU P po w i po x).2.1 (fU P po w i po x).1).2.2;have C:=KR (r:=x) qs h b m;have y:zJ P (gF P po P.n i (fU P po w i po x).2.1 (fU P po w i po x).1).T:=by
    rcases Q3 (r:=x) qs h b m with⟨e,-⟩|⟨-,-,g,-⟩
    .rw[e,KD];exact h
    .exact g
   let⟨a1,a2,a3⟩:=ih _ y;simp only[T9];refine⟨?_,Y,a3⟩;rw[Nat.succ_mul];omega
end
end
variable{sd:Bool}{Hq:List Nat}{n:Nat}{dN:aW}{dv':aF}{w1:aA}
section
def jC(q:bB)(rel:dU)(i:Nat):Bool:=decide ((ep q.aD i qc).rel=rel)
def NH:Nat:=11053057
def Yi(β x:Nat):Prop:=zP β x\/x=β+6\/x=β+7
theorem Yi.tr(h:Yi β x):G3 β x:=by
 rcases h with h|h|h
 .exact h.tr
 .unfold G3;omega
 .unfold G3;omega
theorem Yi.not(h:x<β+1000)(e:x≠β+2)(c:x≠β+4)(d:x<β+100\/β+300<=x)(a:x≠β+6)(b:x≠β+7):¬Yi β x:=by unfold Yi zP;omega
structure aLI(w2:aA)(fB:aW)(β b ub M bu bd bt bc br:Nat)(q:bB)(cells st ls:Nat)(add:Bool)(F G:Nat)(rel:dU)(rv:aF)(r:Row)(tr:Nat)(Rg:kH×List Nat×Bool)(k:Nat)(W:aA)(oC:aW)(Wk:kH)(done:List Nat)(dv:aF):Prop where
 eW:bA w2 fB (Yi β) W oC
 vK:fF W oC β b ub M q cells st ls add Wk F G
 box:J5 W oC β b ub bu bd bt bc add rel rv dv r tr done
 eq:cG (bJ (aB q).2) add (jC q rel) (dQ q r) (List.range' k (O q.aD-k)) Wk done=Rg
 Oi:zJ (bJ (aB q).2) Wk.T
 stp:Wk.aQ<=k*NH
 cnt:Wk.count (O (aB q).2.aK)<=Wk.aQ
 dn:∀i∈done,i<O q.aD/\∃x,dQ q r i=H x
 dl:O done<=k
 Fr:W.heap[br]? =H (h8 #[i6 i7 0,i6 i7 0] 37 (0,0))
 CV:oC br=β+8
theorem u'{k m:Nat}(h:k<m):List.range' k (m-k)=k::List.range' (k+1) (m-(k+1)):=by
 rw[show m-k=(m-(k+1))+1 by omega];rfl
theorem ue{m:Nat}:List.range' m (m-m)=[]:=by rw[Nat.sub_self];rfl
section
variable{P:DS}{add:Bool}{hit:Nat->Bool}{rowOf:Nat->Option Row}{k:Nat}{l:List Nat}{w:kH}{done:List Nat}
theorem aIM(h:hit k=po):cG P add hit rowOf (k::l) w done=cG P add hit rowOf l w done:=by rw[cG];simp[h]
theorem aIL(h:hit k=oj)(a:rowOf k=K):cG P add hit rowOf (k::l) w done=cG P add hit rowOf l {w with aQ:=w.aQ+1} done:=by rw[cG];simp[h,a]
theorem aEN(h:hit k=oj)(b:rowOf k=H r)(a:(fU P add {w with aQ:=w.aQ+1} k po r).2.2.2=191\/(fU P add {w with aQ:=w.aQ+1} k po r).2.2.2=192):
  cG P add hit rowOf (k::l) w done=cG P add hit rowOf l (fU P add {w with aQ:=w.aQ+1} k po r).1 done:=by rw[cG];simp[h,b,a]
theorem aIN(h:hit k=oj)(b:rowOf k=H r)(a:(fU P add {w with aQ:=w.aQ+1} k po r).2.2.2=31):
  cG P add hit rowOf (k::l) w done=((fU P add {w with aQ:=w.aQ+1} k po r).1,done,oj):=by rw[cG];simp[h,b,a]
theorem aTl(h:hit k=oj)(c:rowOf k=H r)(a:(fU P add {w with aQ:=w.aQ+1} k po r).2.2.2≠191)(d:(fU P add {w with aQ:=w.aQ+1} k po r).2.2.2≠192)(b:(fU P add {w with aQ:=w.aQ+1} k po r).2.2.2≠31):
  cG P add hit rowOf (k::l) w done=cG P add hit rowOf l (gF P add P.n k (fU P add {w with aQ:=w.aQ+1} k po r).2.1 (fU P add {w with aQ:=w.aQ+1} k po r).1) (done++[k]):=by rw[cG];simp[h,c,a,d,b]
theorem aEZ(a:(fU P add w k sd r).2.2.2≠0):(fU P add w k sd r).1=w:=by
 unfold fU at a|-;split
 .rfl
 .rename_i h;rw[h]at a;exact dS rfl a
end
theorem aE1{P:DS}{add:Bool}{w:kH}{k:Nat}:(fU P add w k sd r).2.2.2=0\/(fU P add w k sd r).2.2.2=191\/(fU P add w k sd r).2.2.2=192\/(fU P add w k sd r).2.2.2=31:=by
 unfold fU;split
 .rename_i h;exact .inr (WN h)
 .exact .inl rfl
theorem Au{len:Nat}(h:n<=42)(hl:len<=6):len*(n*(512*(2+512)))<=66318336:=by
 have a:n*(512*(2+512))<=11053056:=Y;exact jN (Nat.mul_le_mul hl a) D
theorem RU{k:Nat}(h:k<=6):k*NH<=66318342:=jN (Oh _ h) (by unfold NH;decide)
theorem J5.aLi{w:aA}{add:Bool}{rel:dU}{tr:Nat}{done:List Nat}(h:J5 w ρ β b ub bu bd bt bc add rel rv dv r tr done)(a:bA w ρ (·=β+7) w1 dN)(q:oF fN 0 3 1 w1 dN (β+7) dv' Hq):
  w1.heap[bd]? =H (h8 #[dv] 43 (0,0))/\J5 (ey w1 ⟨bd,0,K⟩ dv') dN β b ub bu bd bt bc add rel rv dv' r tr Hq/\bA w1 dN (·=β+6) (ey w1 ⟨bd,0,K⟩ dv') dN:=by
 have i:¬(β+6=β+7):=Y;have c:=a.aC h.xd (by rw[h.zQ.2.2.2];exact i);have d:U w1 [bd] (ey w1 (Ad bd 0) dv') [bd]:=pX w1 bd 0 _;have n:=(a.bT _ (cV h.xd)).dd h.zQ.2.2.2;have m:bA w1 dN (·=β+6) (ey w1 (Ad bd 0) dv') dN:=d.p9 (λk p=> .inl (by rw[show k=bd by simpa using p];exact n));have ne:∀{x:Nat} {cs:Array aF} {T:ap},w1.heap[x]? =H (h8 cs T (0,0))->T≠43->x∉[bd]:=λ{x cs T} hx hT hm=>by
  rw[show x=bd by simpa using hm]at hx;rw[c]at hx;have:=Option.some.inj hx;injection this with _ h2;exact hT h2.symm
 have j:=a.aC h.xu (by rw[h.zQ.1];exact i);have l:=a.aC h.xt (by rw[h.zQ.2.1];exact i);have g:=a.aC h.xc (by rw[h.zQ.2.2.1];exact i);refine⟨c,⟨d.aC j (ne j D),d.aC l (ne l D),d.aC g (ne g D),?_,⟨(a.bT _ (cV h.xu)).dd h.zQ.1,(a.bT _ (cV h.xt)).dd h.zQ.2.1,(a.bT _ (cV h.xc)).dd h.zQ.2.2.1,n⟩,
  (h.row.dg a (λe=>h.trn (by unfold G3;omega))).dg m (λe=>h.trn (by unfold G3;omega)),h.trn,h.QK,q.dg m Y⟩,m⟩
 rw[aE _ c];rfl
end
variable{ns:List (aX×aF)}{dL:Nat}{v0 v1 v2 v4:aF}{we wx:aA}
theorem ZM163{P:Prop}(h:P:=by
  refine j8 ?_;clear hK qL;refine Zo 11 λqL hK=> ?_;go_simp;refine MH ?_;clear hK qL;clear Q bf b0;go_wp2;go_meet;rw[Ya.o];exact HN.o):P:=h
theorem ZM1{P:Prop}(h:P:=by
  have htq:=Ov.xt;have huq:=Ov.xu;have z1:=Zc htq 0;have y1:=Zc huq 0;obtain⟨-,-,-,l12,lb,aMI,aMH⟩:=hCq.bd.AS;have KY:t.fX<=N:=HH.num.2;have hcw:IntKind.i64.wrap ((t.fX:Int)+1)=(t.fX:Int)+1:=TA _ (by have:=Bm.1;omega);let⟨aDm,pG⟩:=hCq.bd.sA (t.fX+1);let⟨w1,eT⟩:=E (ey wq ⟨b,12,K⟩ (J ((t.fX:Int)+1)));have Tl:fR w1 oC β b q cells t.state (t.fX+1) Wk.T F G:=eT▸aDm;have aEA:bA wq oC (·=β) w1 oC:=eT▸pG;have aFZ:=Z Tl;have D4:=Z aEA;have HCQ:=Z hCq;have Yh:=Z Ov;have HRQ:=Z hRq;clear aDm pG Tl aEA hCq Ov hRq htq huq;go_upto_region 25 with(fail);have vH:=Yh.zQ.2.1;have z2:=D4.cell z1 (j7 vH);obtain⟨-,-,-,KN,mb,aMF,-⟩:=aFZ.AS;clear l12 lb aMI aMH z1 y1 vH;refine ek 7 (eb z2<|d7 KN) (λw2 pS bH Q=> ?_);clear z2 KN mb aMF;have dz:=aFZ.on bH;obtain⟨-,-,n11,-,nb2,aLx,-⟩:=dz.AS;let⟨ZD,ft⟩:=dz.Qp (t.fX+1);obtain⟨w3',bg⟩:∃w3',ey w2 ⟨b,11,K⟩ (J ((t.fX+1:Nat):Int))=w3':=⟨_,rfl⟩;rw[bg]at ZD ft;have aPX:=Z ZD;have Nu:=Z ((D4.jH bH).dd ft);have HW3:=Z (show ey w2 ⟨b,11,K⟩ (J ((t.fX:Int)+1))=w3' from bg);clear pS bH dz ZD ft bg;refine dw [0,1,2,3,4] ?_;refine Zo 5 λqL hK=> ?_;go_simp;refine j8 ?_;clear hK qL;refine I 6 ?_;refine Zo 7 λqL hK=> ?_;go_simp;refine MH ?_;clear hK qL;clear Q n11 nb2 aLx;rw[HW3.o];have sH:=Yh.dg Nu (by omega) (by omega) (λx hx=>by rw[hx];unfold G3;omega);have aCs:=HCQ.ub.dg Nu (by omega) (by omega);have hbu:=sH.xu;have y3:=Zc hbu 0;obtain⟨-,-,k7,k8,-,-,-,-⟩:=aCs.cells;have hqr:oC br=β+8:=HC.CV;have qR:=Nu.aC HRQ (j7 hqr);obtain⟨s0,s1⟩:=Z2 qR;have sf:=aM qR;have sl:=iO (cV qR);let⟨K6,K5⟩:=XB (x:=J (Wk.aQ:Int)) (y:=J (Wk.count (O (aB q).2.aK):Int)) qR;have DW:=Z (dX hqr (dX K6 K5));clear sH aCs hbu hqr qR K6 K5;repeat(first|go_values|go_skip|go_guarded|go_step|go_upon)
  have f0:=Zc DW.2.1 0;have f1:=Zc DW.2.1 1;refine mD (aT (A:=⟨br,0,K⟩) (T:=37) rfl (by rfl) (v:= .agg #[J (Wk.aQ:Int),J (Wk.count (O (aB q).2.aK):Int)]) (by go_simp)) rfl ?_;rw[UQ.o];have qN:bA w3' oC (·=β+8) (ey (ey w3' ⟨br,0,K⟩ (J (Wk.aQ:Int))) ⟨br,1,K⟩ (J (Wk.count (O (aB q).2.aK):Int))) oC:=DW.2.2.p9 (λk hk=> .inl (by rw[show k=br by simpa using hk];exact DW.1));have hG:=RI.2.2;have hF:=RI.2.1;refine⟨oC,rfl,?_,⟨((aPX.dg qN (by omega) (by omega) (λi c _ _=>by unfold nH;omega)).mono (by omega) (by omega)),HH.ok,HC.Oi,⟨fV _,by have:=HH.num.2;simp only;omega⟩,HH.cel⟩⟩;exact((((tC.dd aFO).aN pW).dd (HC.eW.aN (λ_=>Yi.tr))).jH JR).dd ((Nu.aN (λx hx=>by rw[hx];unfold G3;omega)).dd (qN.aN (λx hx=>by rw[hx];unfold G3;omega)))):P:=h
theorem ZM15{P:Prop}(h:P:=by
  have FP:=Ev.aC Ip.1 (by rw[Ip.o.2];exact zP.not (by omega) (by omega) (by omega) (by omega));have aDJ:JX br=β+8:=(Ev.bT br (cV Ip.1)).dd Ip.2;obtain⟨s0,s1⟩:=Z2 FP;have sf:=aM FP;have sl:=iO (cV FP);let⟨K6,K5⟩:=XB (x:=J 0) (y:=J 0) FP;have R4:=Z (dX aDJ (dX K6 K5));clear FP aDJ K6 K5;repeat(first|go_values|go_skip|go_guarded|go_step|go_upon)
  have f0:=Zc R4.2.1 0;have f1:=Zc R4.2.1 1;refine mD (aT (A:=⟨br,0,K⟩) (T:=37) rfl (by rfl) (v:= .agg #[J 0,J 0]) (by go_simp)) rfl ?_;rw[UQ.o];have Uf:bA E1 JX (·=β+8) (ey (ey E1 ⟨br,0,K⟩ (J 0)) ⟨br,1,K⟩ (J 0)) JX:=R4.2.2.p9 (λk hk=> .inl (by rw[show k=br by simpa using hk];exact R4.1));refine⟨JX,rfl,?_,⟨(aFC.bd.dg Uf (by omega) (by omega) (λi c _ _=>by unfold nH;omega)),HH.ok,HLE,⟨HH.num.1,Nat.le_succ_of_le HH.num.2⟩,HH.cel⟩⟩;exact(((tC.dd aFO).aN pW).dd (aAO.aN (λ_=>Yi.tr))).dd ((Ev.aN (λ_=>zP.tr)).dd (Uf.aN (λx hx=>by unfold G3;omega)))):P:=h
theorem ZM26{P:Prop}(h:P:=by
  have nU:=aFD.o (by decide);have I7:=aEN (P:=bJ (aB q).2) (add:=add) (l:=List.range' (k+1) (O q.aD-(k+1))) (done:=done) aFS HX (w:=Wk) (by rw[HD'.out,HEC.o];decide);rw[HD'.out,nU]at I7;have Ny:=Z I7;have R3:=Z nU;clear nU I7;go_wp2;go_roundg (O q.aD-(k+1))
  .refine⟨k+1,US,d.1,done,dv,by omega,rfl,eO,?_⟩;rw[R3.o];have ht:=Pc.o;rw[R3.o]at ht;exact⟨aAO,ht,Nz,by rw[<-Ny.o];exact Yg,HC.Oi,by have:=HC.stp;rw[Nat.succ_mul];unfold NH at*;simp only;omega,by have:=HC.cnt;simp only;exact Nat.le_succ_of_le this,HC.dn,by have:=HC.dl;omega,Ip.1,Ip.2⟩
  have:=OR.o;omega):P:=h
theorem ZM66{P:Prop}(h:P:=by
  have bf:=aM hBz;have b0:=Zc hBz 0;clear dK nP iA Lh hBz;exact ZM163):P:=h
def Ij(w:aA)(ρ:aW)(β b:Nat)(q:bB)(cells N:Nat)(R:iZ×Nat×Nat×Nat)(e:cg)(w':aA):Prop:=
 ∃bN,e=i5 (i8 #[.agg #[i6 i7 (R.2.1:Int),i6 i7 (R.2.2.1:Int)],i6 i7 (R.2.2.2:Int)])/\bA w ρ (G3 β) w' bN/\wG w' bN β b q cells R.1 (N+1) (N+1)
def Yt(T:iX):kH:=⟨T,0,λ_=>[]⟩
theorem WK(T:iX)(n:Nat):(Yt T).count n=0:=by
 unfold kH.count Yt;induction n with
 |zero=>rfl
 |succ n ih=>rw[Yl,R8,List.sum_append,ih];rfl
structure DU(w3:aA)(b dL:Nat)(v0 v1 v2 v4:aF)(add:Bool)(s6:aF)(wx:aA):Prop where
 ex:∃bu ub M,s6=h9 (H ⟨bu,0,K⟩)/\U w3 [] wx []/\(hJ w3.heap<=bu/\hJ w3.heap<=ub/\hJ w3.heap<=M)/\wx.heap[bu]? =H (h8 #[h9 (H ⟨ub,0,K⟩)] 104 (0,0))/\
  wx.heap[ub]? =H (h8 (kY b dL v0 v1 v2 v4 add 0 0 M) 107 (0,0))/\fW wx 3 M (λ_=>K) 0
def N0(n ub M β:Nat)(ρ:aW):aW:=λk=>if k=ub then β+2 else if k=M then β+4 else if n<=k then β+6 else ρ k
theorem DU.start{cells:Nat}{t:iZ}{s6:aF}(h:DU w3 b (aB q).2.dL v0 v1 v2 v4 add s6 wx)(u:fR w3 ρ β b q cells t.state t.fX t.T F G)(L:qm q)(z:mK oE qc 7 w3 ρ (β+1) v2 ns)(qs:ns.map (·.1)=(aB q).2.aK)(f:∀x,x∈ns->∃a n c,x.2=hY a n c)(y:∃a n c,v0=hY a n c)(o:∃a n c,v1=hY a n c)(B:∃a n c,v4=hY a n c):
  ∃bu ub M,s6=h9 (H ⟨bu,0,K⟩)/\bA w3 ρ eL wx (N0 w3.heap.size ub M β ρ)/\wx.heap[bu]? =H (h8 #[h9 (H ⟨ub,0,K⟩)] 104 (0,0))/\N0 w3.heap.size ub M β ρ bu=β+6/\
   fF wx (N0 w3.heap.size ub M β ρ) β b ub M q cells t.state t.fX add (Yt t.T) F G/\(hJ w3.heap<=bu/\hJ w3.heap<=ub/\hJ w3.heap<=M):=by
 obtain⟨bu,ub,M,rfl,g,⟨v,g2,g3⟩,p,m,r⟩:=h.ex;have l:∀k,k<hJ w3.heap->N0 w3.heap.size ub M β ρ k=ρ k:=λk w=>by
  unfold N0;rw[bD Y,bD Y,bD Y]
 have d:bA w3 ρ eL wx (N0 w3.heap.size ub M β ρ):=⟨g.os,g.tape,g.output,g.size,λk w _=>g.block k w X,l⟩;have A:bu≠ub:=λe=>by
  subst e;rw[p]at m;have:=Option.some.inj m;injection this with _ h2;exact dS h2 D
 refine⟨bu,ub,M,rfl,d,p,?_,⟨u.dg d id id (λ_ _ _ _ h=>h),⟨⟨v0,v1,v2,v4,ns,?_,z.dg d id,qs,f,y,o,B⟩,?_⟩,⟨⟨λ_=>K,0,r,Y,λi P=>⟨[],oF.nil _ _ _,rfl,λj N=>dS N (Yk j)⟩⟩,?_⟩,L⟩,v,g2,g3⟩
 .unfold N0;rw[bD A,bD ((r.ne p).symm),bR v]
 .rw[WK];exact m
 .unfold N0;rw[bR rfl]
 .unfold N0;rw[bD ((r.ne m).symm).symm,bR rfl]
theorem DU.of{M:Nat}(j:U w3 [] we [])(g:hJ w3.heap<=bu)(g2:hJ w3.heap<=ub)(g3:hJ w3.heap<=M)(a:we.heap[bu]? =H (h8 #[h9 K] 104 (0,0)))(c:we.heap[ub]? =H (h8 (kY b dL v0 v1 v2 v4 add 0 0 M) 107 (0,0)))(i:fW we 3 M (λ_=>K) 0):DU w3 b dL v0 v1 v2 v4 add (h9 (H ⟨bu,0,K⟩)) (ey we ⟨bu,0,K⟩ (h9 (H ⟨ub,0,K⟩))):=by
 have m:ub≠bu:=λe=>by
  subst e;rw[a]at c;have:=Option.some.inj c;injection this with _ h2;exact dS h2 D
 have d:U we [bu] (ey we (Ad bu 0) (Pt ub)) [bu]:=pX we bu 0 _;refine⟨bu,ub,M,rfl,j.aZ d (λx l=>by rw[show x=bu by simpa using l];exact g),⟨g,g2,g3⟩,?_,d.aC c (eI m),i.eF d (eI (i.ne a))⟩;rw[aE _ a];rfl
theorem Aq{cells N tr:Nat}{t:iZ}{rel:dU}(h:wG w ρ β b q cells t N N)(hN:N+1<1073741824)(hv:mK dR aP 3 w ρ tr rv r)(oY:¬G3 β tr)(hf:AP r):
  aH prog 17 #[h9 (H ⟨b,0,K⟩),.agg #[j4 add,j3 rel,rv]] w (Ij w ρ β b q cells N (eC (bJ (aB q).2) cells (O q.aD) t add (jC q rel) (dQ q r))):=by
 obtain⟨ra,rc,Cc,-⟩:=hv.1.len;subst Cc;let⟨wa,dE⟩:=E (e8 w (h8 #[h9 (H ⟨b,0,K⟩)] 27));let⟨wb,pE⟩:=E (e8 wa (h8 #[j4 add,j3 rel,hY ra (O r) rc] 35));let⟨w3,iQ⟩:=E (e8 wb (h8 #[J 0,J 0] 37));have cR:=Za dE;have m8:=Za pE;have cU:=Za iQ;have hsa:hJ wa.heap=hJ w.heap+1:=by rw[<-dE];simp
 have hsb:hJ wb.heap=hJ w.heap+2:=by rw[<-pE];simp[hsa]
 have hs3:hJ w3.heap=hJ w.heap+3:=by rw[<-iQ];simp[hsb]
 have hBt:rW w3 w.heap.size #[h9 (H ⟨b,0,K⟩)] 27:=(m8.dd cU).aC (by rw[<-dE];exact lK w _) (by simp);have hBc:rW w3 wa.heap.size #[j4 add,j3 rel,hY ra (O r) rc] 35:=cU.aC (by rw[<-pE];exact lK wa _) (by simp);have RD:=Zb iQ;have fg:U w [] w3 []:=(cR.dd m8).dd cU;let⟨bt,JC⟩:=E (hJ w.heap);let⟨bc,yh⟩:=E (hJ wa.heap);let⟨br,hbr⟩:=E (hJ wb.heap);have qU:bA w ρ eL w3 (up br (β+8) (up w (β+6) ρ)):=(fg.eW (S:=eL) (β+6) (λ_ h=>dS h (by simp))).BL (β+8) (by omega);let⟨kM,lO⟩:=E (up br (β+8) (up w (β+6) ρ));have Gz:kM bt=β+6:=by rw[<-lO,eN (by omega)];exact cJ (by omega)
 have htc:kM bc=β+6:=by rw[<-lO,eN (by omega)];exact cJ (by omega)
 have aRS:kM br=β+8:=by rw[<-lO];exact cJ (by omega)
 rw[lO]at qU;rw[JC]at hBt;rw[yh]at hBc;rw[hbr]at RD;obtain⟨F,G,aT0,aTZ,aTY,aTX,aTW⟩:∃F G,(if add=oj then F+1<=G else G<=F)/\N<=F/\N<=G/\F<=N+1/\G=N+1:=by
  cases add with
  |true=>exact⟨N,N+1,by simp,by omega,by omega,by omega,rfl⟩
  |false=>exact⟨N+1,N+1,by simp,by omega,by omega,by omega,rfl⟩
 have ZD:=(h.bd.dg qU id id (λ_ _ _ _ h=>h)).mono aTZ aTY;have aJu:=hv.dg qU id;obtain⟨AO,av,v0,v1,v2,v4,nv,ov,ps,ns,vG,bs,aDi,hfx,-⟩:=ZD.ex;obtain⟨⟨f,W,vc0,hv0⟩,⟨R,L,qs,Sk⟩,⟨B,vn4,C,hv4⟩⟩:=hfx.vs;obtain⟨va2,vc2,EZ,-⟩:=hfx.aK.1.len;obtain⟨aa,ac,hav,ham⟩:=hfx.qt.aD.1.len;rw[hfx.qt.len]at hav ham;subst hav hv0 Sk hv4;have QC:=aDi;unfold gQ at QC;rw[EZ]at QC;have a2:=Zc QC 2;have p3:=Zc QC 3;have p4:=Zc QC 4;have p5:=Zc QC 5;have p6:=Zc QC 6;have p7:=Zc QC 7;have t0:=Zc hBt 0;obtain⟨c0,c1,c2⟩:=Z3 hBc;have mk:∀wz:aA,(Instr.makeMap 105 K).run prog wz= .ok (.map (H wz.heap.size)) (wz.alloc (.map #[] 0)):=λ_=>rfl;have HH:=Z h;have HBD:=Z ZD;have HFX:=Z hfx;have Bl:=Z aJu;have tC:=Z qU;have Ex:=Z (dX hBt (dX hBc (dX RD (dX Gz (dX htc aRS)))));have RI:=Z (dX aT0 (dX aTX aTW));have Bm:=Z (dX hN (dX oY hf));have Ya:=Z EZ;have OP:=Z (show bt<hJ w3.heap/\bc<hJ w3.heap/\br<hJ w3.heap by omega);clear h hv oY hf hN cR m8 cU hsa hsb hs3 hBt hBc RD fg qU lO Gz htc aRS aT0 aTZ aTY aTX aTW ZD aJu aDi QC hfx EZ;go_in;go_upto_region 1 with(fail);go_cut [6] (λs6 wx=>DU w3 b (aB q).2.dL (hY f W vc0) (hY R L qs) v2 (hY B vn4 C) add s6 wx)
 case first=>
  refine ek 11 (eb t0<|eb c0<|eb p3<|eb p4<|eb p5<|eb p6<|d7 p7) (λwd eY qS Q=> ?_);clear t0 c0 c1 c2 a2 p3 p4 p5 p6 p7;have qH:=Z qS;clear eY qS;refine dw [0,1,5,2,6,3,4] ?_;refine xA (i:=7) (j:=10) dB rfl rfl rfl rfl (λqL hK=> ?_) (λqL hK=> ?_)
  .go_simp;let⟨w4,qJ⟩:=E (wd.alloc (.map #[] 0));let⟨M,hM⟩:=E (hJ wd.heap);have eA:=Za qJ;have xr:fW w4 3 M (λ_=>K) 0:=by rw[<-qJ,<-hM];exact fW.wO wd _
   rw[qJ,hM];replace Q:=eA.zh7 Q;have kQ:=Z (qH.dd eA);have JV:=Z xr;have HGM:=Z (show hJ w3.heap<=M by have:=qH.size;omega);clear eA xr qJ hM;refine j8 ?_;clear hK qL;refine I 8 ?_;refine xA (i:=9) (j:=10) dB rfl rfl rfl rfl (λqL hK=> ?_) (λqL hK=> ?_)
   .go_simp;let⟨w5,z⟩:=E (e8 w4 (h8 (kY b (aB q).2.dL (hY f W vc0) (hY R L qs) (hY va2 (O ns) vc2) (hY B vn4 C) add 0 0 M) 107));have cQ:=Za z;have rS:rW w5 w4.heap.size (kY b (aB q).2.dL (hY f W vc0) (hY R L qs) (hY va2 (O ns) vc2) (hY B vn4 C) add 0 0 M) 107:=by rw[<-z];exact lK w4 _
    have aHK:=z;unfold kY at aHK;simp only[Int.natCast_zero]at aHK;rw[aHK];replace Q:=cQ.zh7 Q;have gD:=Z (kQ.dd cQ);have yP:=Z rS;have G7:=Z (JV.eF cQ (by simp));clear cQ rS z aHK;refine j8 ?_;clear hK qL;refine Zo 10 λqL hK=> ?_;go_simp;let⟨w6,iA⟩:=E (e8 w5 (h8 #[h9 K] 104));have dK:=Za iA;have nP:=Zb iA;rw[iA];replace Q:=dK.zh7 Q;have HN:=Z (DU.of (gD.dd dK) (jN gD.size (fV _)) kQ.size HGM nP (dK.aC yP (by simp)) (G7.eF dK (by simp)));have bf:=aM nP;have b0:=Zc nP 0;clear dK nP iA;exact ZM163
   .go_simp;let⟨w5,z⟩:=E (e8 w4 (h8 #[h9 K] 104));have cQ:=Za z;have rS:=Zb z;rw[z];replace Q:=cQ.zh7 Q;have gD:=Z (kQ.dd cQ);have yP:=Z rS;have G7:=Z (JV.eF cQ (by simp));clear cQ rS z;refine j8 ?_;clear hK qL;refine Zo 9 λqL hK=> ?_;go_simp;let⟨w6,iA⟩:=E (e8 w5 (h8 (kY b (aB q).2.dL (hY f W vc0) (hY R L qs) (hY va2 (O ns) vc2) (hY B vn4 C) add 0 0 M) 107));have dK:=Za iA;have nP:rW w6 w5.heap.size (kY b (aB q).2.dL (hY f W vc0) (hY R L qs) (hY va2 (O ns) vc2) (hY B vn4 C) add 0 0 M) 107:=by rw[<-iA];exact lK w5 _
    have Lh:=iA;unfold kY at Lh;simp only[Int.natCast_zero]at Lh;rw[Lh];replace Q:=dK.zh7 Q;have hBz:=dK.aC yP (by simp);have HN:=Z (DU.of (gD.dd dK) kQ.size gD.size HGM hBz nP (G7.eF dK (by simp)));exact ZM66
  .go_simp;let⟨w4,qJ⟩:=E (e8 wd (h8 #[h9 K] 104));have eA:=Za qJ;have D1:=Zb qJ;rw[qJ];replace Q:=eA.zh7 Q;have kQ:=Z (qH.dd eA);have JW:=Z D1;clear eA D1 qJ;refine j8 ?_;clear hK qL;refine Zo 7 λqL hK=> ?_;go_simp;let⟨w5,z⟩:=E (w4.alloc (.map #[] 0));let⟨M,hM⟩:=E (hJ w4.heap);have cQ:=Za z;have hm5:fW w5 3 M (λ_=>K) 0:=by rw[<-z,<-hM];exact fW.wO w4 _
   rw[z,hM];replace Q:=cQ.zh7 Q;have gD:=Z (kQ.dd cQ);have G7:=Z hm5;have yP:=Z (cQ.aC JW (by simp));have HGM:=Z (show hJ w3.heap<=M by have:=kQ.size;omega);clear cQ hm5 z hM;refine j8 ?_;clear hK qL;refine I 8 ?_;refine Zo 9 λqL hK=> ?_;go_simp;let⟨w6,iA⟩:=E (e8 w5 (h8 (kY b (aB q).2.dL (hY f W vc0) (hY R L qs) (hY va2 (O ns) vc2) (hY B vn4 C) add 0 0 M) 107));have dK:=Za iA;have nP:rW w6 w5.heap.size (kY b (aB q).2.dL (hY f W vc0) (hY R L qs) (hY va2 (O ns) vc2) (hY B vn4 C) add 0 0 M) 107:=by rw[<-iA];exact lK w5 _
   have Lh:=iA;unfold kY at Lh;simp only[Int.natCast_zero]at Lh;rw[Lh];replace Q:=dK.zh7 Q;have hBz:=dK.aC yP (by simp);have HN:=Z (DU.of (gD.dd dK) qH.size gD.size HGM hBz nP (G7.eF dK (by simp)));exact ZM66
 case rest=>
  obtain⟨bu,ub,M,rfl,qN,hbu,htu,Hk,A1⟩:=hcut.start HBD HH.ok HFX.aK HFX.nsp HFX.nvs ⟨_,_,_,rfl⟩ ⟨_,_,_,rfl⟩ ⟨_,_,_,rfl⟩;let⟨CO,MP⟩:=E (N0 w3.heap.size ub M β kM);rw[MP]at qN htu Hk;let⟨w5,z⟩:=E (e8 wc (h8 #[cH] 43));have cQ:=Za z;have hBd:=Zb z;have tU:bA wc CO eL w5 (up wc (β+6) CO):=cQ.eW (S:=eL) (β+6) (λ_ h=>dS h (by simp));have htd:up wc (β+6) CO wc.heap.size=β+6:=cJ (fV _);let⟨bd,hbd⟩:=E (hJ wc.heap);let⟨pJ,JA⟩:=E (up wc (β+6) CO);rw[JA]at tU htd;rw[hbd]at hBd htd;have ZT:bA w3 kM eL w5 pJ:=qN.dd tU;have L4:=Hk.dg tU zE zE (λ_ _ _ _ h=>h);obtain⟨b1,b2,b3,b4,b5,b6⟩:=Ex.o;obtain⟨z1,z2,z3⟩:=OP.o;have aSa:J5 w5 pJ β b ub bu bd bt bc add rel (hY ra (O r) rc) cH r tr []:=
   ⟨tU.aC hbu id,ZT.aC b1 id,ZT.aC b2 id,hBd,⟨(tU.bT _ (cV hbu)).dd htu,(ZT.bT _ z1).dd b4,(ZT.bT _ z2).dd b5,htd⟩,Bl.dg ZT id,Bm.2.1,Bm.2.2,oF.nil _ _ _⟩
  have Sw:aLI w5 pJ β b ub M bu bd bt bc br q cells t.state t.fX add F G rel (hY ra (O r) rc) r tr (cG (bJ (aB q).2) add (jC q rel) (dQ q r) (List.range (O q.aD)) (Yt t.T) []) 0 w5 pJ (Yt t.T) [] cH:=
   ⟨bA.refl _ _ _,L4,aSa,by rw[List.range_eq_range',Nat.sub_zero],HH.Oi,by simp[Yt],by rw[WK];exact RN _,by simp,by simp,ZT.aC b3 id,(ZT.bT _ z3).dd b6⟩
  have VM:=Z Sw;have t0':=qN.cell t0 id;have a2':=qN.cell a2 id;have t5:=ZT.cell t0 id;have a5:=ZT.cell a2 id;have aFO:=Z ZT;have a2W:=Z hbd;have lbt:=iO (WC t0');have lb:=iO (WC a2');clear hcut qN hbu htu Hk A1 MP hbd cQ hBd tU htd JA ZT L4 b1 b2 b3 b4 b5 b6 z1 z2 z3 aSa Sw t0 c0 c1 c2 a2 p3 p4 p5 p6 p7 mk;go_upto_region 5 with(fail);try rw[z]
  rw[a2W.o];clear z lbt lb t0' a2';let⟨RG,hRG⟩:=E (cG (bJ (aB q).2) add (jC q rel) (dQ q r) (List.range (O q.aD)) (Yt t.T) []);rw[hRG]at VM;have HRG:=Z hRG;have hm6:=HH.ok.six;clear hRG;go_loopg [33] (O q.aD) (λgg s33 wr=>∃(k:Nat) (oC:aW) (Wk:kH) (done:List Nat) (dv:aF),k<=O q.aD/\gg=O q.aD-k/\s33=J k/\aLI w5 pJ β b ub M bu bd bt bc br q cells t.state t.fX add F G rel (hY ra (O r) rc) r tr RG k wr oC Wk done dv)
  .exact⟨0,pJ,_,[],_,Y,rfl,rfl,VM⟩
  obtain⟨k,oC,Wk,done,dv,hk,CY,rfl,m⟩:=hrel;have OR:=Z CY;clear CY;by_cases aV:k<O q.aD
  .obtain⟨EZ,av2,v02,v12,v22,v42,nv2,ov2,ps2,ns2,a6M,bs2,aDh,aD6,-⟩:=m.vK.bd.ex;have hx:=m.eW.cell a5 (by rw[show pJ b=β from(aFO.o.bT b (by have:=HBD.o.AS.2.2.2.2.1;exact this)).dd HBD.o.bT];exact Yi.not (by omega) (by omega) (by omega) (by omega) (by omega) (by omega));have dy:=aDh;unfold gQ at dy;have hy:=Zc dy 2;rw[hy]at hx;injection hx with hx;change av2=hY aa (O q.aD) ac at hx;subst hx;obtain⟨ga,oa,ca,aZX,-,dx⟩:=eX.aU aD6.qt.aD.1 (i:=k) (by rw[aD6.qt.len];exact aV);let⟨aDH,I3⟩:=aD6.qt.j5 k aV;let⟨a,ha⟩:=E (ep q.aD k qc);rw[ha]at aDH I3;obtain⟨ta,tc,GA,-⟩:=I3.1.len;have p0:e7 wr ⟨ga,oa+k*2,K⟩=H (j3 a.rel):=by have:=dx 0 (by decide);rwa[show vW (ep ps2 k qc) 0=j3 (ep ps2 k qc).1 from rfl,aDH]at this
   have p1:e7 wr ⟨ga,oa+k*2+1,K⟩=H (hY ta (O a.aS) tc):=by have:=dx 1 (by decide);rwa[show vW (ep ps2 k qc) 1=(ep ps2 k qc).2 from rfl,GA]at this
   injection aZX with x1 x2 x3;clear x2 x3;subst x1;have lR:=m.box;have hu:=lR.xu;have ht:=lR.xt;have hcc:=lR.xc;have hd:=lR.xd;have y0:=Zc hu 0;have z0:=Zc ht 0;obtain⟨q0,q1,q2⟩:=Z3 hcc;have d0:=Zc hd 0;have lga:=iO (WC p0);have lu:=iO (WC y0);have lt':=iO (WC z0);have lc:=iO (WC q0);have ld:=iO (WC d0);have hlen:k<O (List.range (O q.aD)):=by rw[List.length_range];exact aV
   have V:=m.eq;rw[u' aV]at V;have Yg:=Z V;have HA:=Z ha;have Nv:=Z aV;have HBL:=Z (dX aDh aD6);have CQ:(k:Int)<(O q.aD:Int):=by omega
   have HC:=Z m;clear aDh dy aD6 hy dx aDH I3 GA lR hu ht hcc hd hlen V ha;by_cases SG:a.rel=rel
   .have Tf:jC q rel k=oj:=by unfold jC;rw[HA.o];exact kI SG
    have aFS:=Z Tf;have hsx:=yG rel rel;rw[SG]at p0;let⟨w6,iA⟩:=E (e8 wr (h8 #[j3 rel,hY ta (O a.aS) tc] 52));have dK:=Za iA;have kG:=Zb iA;obtain⟨ea0,ea1⟩:=Z2 kG;have y6:=dK.cell y0 (by simp);have q61:=dK.cell q1 (by simp);clear kG;have hT6:=m.vK.on dK;obtain⟨-,-,k7,-,-,klt,kf7,-⟩:=hT6.ub.cells;let⟨w7,xM⟩:=E (ey w6 ⟨ub,7,K⟩ (J ((Wk.aQ:Int)+1)));have Xu:fF w7 oC β b ub M q cells t.state t.fX add {Wk with aQ:=Wk.aQ+1} F G:=by rw[<-xM];exact hT6.K3 (Wk.aQ+1)
    have F1:bA w6 oC (·=β+2) w7 oC:=by rw[<-xM];exact hT6.ub.XY (Wk.aQ+1)
    have fq:bA wr oC (·=β+2) w7 oC:=(dK.fK).dd F1;have EM:=m.box.dg fq (by omega) (by omega) (λx hx=>by unfold G3;omega);have pO:=m.stp;have hcw:IntKind.i64.wrap ((Wk.aQ:Int)+1)=(Wk.aQ:Int)+1:=TA _ (by have:=RU (k:=k) (by omega);omega);have aS8:oC b=β:=m.vK.bd.bT;have aKM:=fq.aC HBL.1 (j7 aS8);have aSK:=HBL.2.dg fq (by omega);have Xl:=EM.xu;have ht7:=EM.xt;have hc7:=EM.xc;have y7:=Zc Xl 0;have z7:=Zc ht7 0;have r7:=Zc hc7 2;have HLR:=Z (TX (i:=k) (a:=a) aKM aSK HH.ok aV HA EM.row.1 Bm.2.2);have Es:=Z Xu;have Oa:=Z EM;have IM:=Z (m.eW.dd (fq.aN (T:=Yi β) (λx hx=>by unfold Yi zP;omega)));have ju:=Z (dX (fq.aC m.Fr (j7 m.CV)) ((fq.bT br (cV m.Fr)).dd m.CV));have hrw:dQ q r k=kA (aB q).2 a k r:=by unfold dQ;rw[HA.o]
    rw[<-hrw]at HLR;clear SG Tf m dK hT6 Xu F1 fq EM pO aS8 aKM aSK Xl ht7 hc7 hrw;cases hx:dQ q r k with
    |none=>
     have HX:=Z hx;rw[hx]at HLR;clear hx;go_wp2_with (go_at_call 39;apply HLR.cF;rintro e w8 ⟨iE,rfl⟩;have G6:=Z iE;clear iE);go_roundg (O q.aD-(k+1))
     .refine⟨k+1,oC,{Wk with aQ:=Wk.aQ+1},done,dv,by omega,rfl,eO,?_⟩;exact⟨IM.jH G6,Es.on G6,Oa.on G6,by rw[<-aIL aFS.o HX.o];exact Yg,HC.Oi,by have:=HC.stp;rw[Nat.succ_mul];unfold NH at*;simp only;omega,by have:=HC.cnt;simp only;exact Nat.le_succ_of_le this,HC.dn,by have:=HC.dl;omega,G6.aC ju.1 (by simp),ju.2⟩
     have:=OR.o;omega
    |some x=>
     have HX:=Z hx;rw[hx]at HLR;clear hx;have GE:k<O (aB q).2.aK:=wM Nv HH.ok.wf.DA;have hrf:=TW HH.ok Nv (λv hv=>(Bm.2.2.2 v hv).2) HX.o;have Q9:=HH.ok.wf.cN k Nv.o;have U6:∀W':kH,W'={Wk with aQ:=Wk.aQ+1}->W'.count (O (aB q).2.aK)=Wk.count (O (aB q).2.aK):=λW' e=>by rw[e];rfl
     obtain⟨W1,pj⟩:∃W1:kH,W1={Wk with aQ:=Wk.aQ+1}:=⟨_,rfl⟩;have aS2:=U6 W1 pj;rw[<-pj]at Es;have VJ:=Z pj;have hdb:=CD (P:=bJ (aB q).2) (add:=add) W1 GE po x;let⟨d,hd⟩:=E (fU (bJ (aB q).2) add W1 k po x);have pO:=HC.stp;have hk6:=RU (k:=k) (by omega);have Pg:=Z (show Wk.count (O (aB q).2.aK)<=400000000/\Wk.aQ<=400000000 by have:=HC.cnt;omega);have hdc:(fU (bJ (aB q).2) add W1 k po x).1.count (O (aB q).2.aK)<=1099511627776:=by
      have h3:=hdb.2.2.1 rfl;have h7:=hdb.2.2.2.2.2.2;have:=Pg.o;omega
     rw[hd]at hdb;have HDB:=Z hdb;have HD:=Z hd;have HRF:=Z hrf;have HKN:=Z GE;have HLV:=Z Q9;have HDC:=Z hdc;have HCB:=Z aS2;clear U6 aS2 pj hdb hd pO hk6 hdc hrf GE Q9;go_upto_region 11 with(go_at_call 39;apply HLR.cF;rintro e w8 ⟨iE,u,rfl,hO8⟩;obtain⟨xa,xc,rfl,-⟩:=hO8.len;have y8:=iE.cell y7 (by simp);have G6:=Z iE;have HO8:=Z hO8;clear iE hO8);have pU:bA w7 oC eL w8 (up w7 (β+3) oC):=G6.eW (S:=eL) (β+3) (λ_ h=>dS h (by simp));have hK8:=(HO8.jU (β+3) oC).rd;let⟨D6,MO⟩:=E (up w7 (β+3) oC);rw[MO]at pU hK8;have Tx:=Es.dg pU zE zE (λ_ _ _ _ h=>h);have HDO:=Z (gj po Tx HKN hK8 (λh'=>by have:=O2 h';omega) HRF RI.1 (by have:=RI.2.2;have:=Bm.1;omega) HDC);rw[HD.o]at HDO;have HB8:=Z (Oa.dg pU id id pW);have VN:=Z (IM.dd (pU.aN (T:=Yi β) pW));have HR8:=Z (dX (pU.aC ju.1 id) ((pU.bT br (cV ju.1)).dd ju.2));clear pU hK8 MO Tx y7 z7 r7 k7 kf7 ea0 ea1 y6 q61;go_upto_region 12 with(go_at_call 40;apply HDO.cF;rintro e w9 ⟨US,fv,tO,rfl,Ot,Ma,htO,hf9⟩;obtain⟨fa,fc,rfl,-⟩:=hf9.len;have HM9:=Z Ot;have Pc:=Z Ma;have HF9:=Z (dX htO hf9);clear Ot Ma htO hf9);have xz:k<42:=by have:=HKN.o;have:=HH.ok.few;omega
     have aDz:bA w8 D6 (zP β) w9 US:=HM9.aN (λ_=>DoW.cl xz);have W0:=HB8.dg aDz (zP.not (by omega) (by omega) (by omega) (by omega)) (zP.not (by omega) (by omega) (by omega) (by omega)) (λ_=>zP.tr);have Nz:=Z W0;have aAO:=Z (VN.dd (aDz.aN (T:=Yi β) (λ_ h=> .inl h)));have Ip:=Z (dX (aDz.aC HR8.1 (by rw[HR8.o.2];exact zP.not (by omega) (by omega) (by omega) (by omega))) ((aDz.bT br (cV HR8.1)).dd HR8.2));have Z9:fU (bJ (aB q).2) add {Wk with aQ:=Wk.aQ+1} k po x=d:=by rw[<-VJ.o];exact HD.o
     have HD':=Z Z9;have aDc:=aE1 (P:=bJ (aB q).2) (add:=add) (w:={Wk with aQ:=Wk.aQ+1}) (k:=k) (sd:=po) (r:=x);rw[Z9]at aDc;have TZ:d.2.2.2≠0->d.1={Wk with aQ:=Wk.aQ+1}:=λh=>by rw[<-Z9]at h|-;exact aEZ h
     let⟨ec,hec⟩:=E (d.2.2.2);rw[hec]at aDc TZ|-;have aFD:=Z TZ;have HEC:=Z hec;clear xz aDz W0 Z9 TZ hec HLR HDO HB8 VN HR8 HM9 G6 HO8 Oa IM ju Es y8;rcases aDc with rfl|rfl|rfl|rfl
     .have hw0:(kH.mk Wk.T (Wk.aQ+1) Wk.touched)=({Wk with aQ:=Wk.aQ+1}:kH):=rfl;have aV:=wl (add:=add) (r:=x) HH.ok.wf.oJ (w:={Wk with aQ:=Wk.aQ+1}) HC.Oi HLV.1 HLV.2.1 HLV.2.2 (by rw[HD'.out,HEC.o];decide);have I7:=aTl (P:=bJ (aB q).2) (add:=add) (l:=List.range' (k+1) (O q.aD-(k+1))) (done:=done) aFS HX (w:=Wk) (by rw[HD'.out,HEC.o];decide) (by rw[HD'.out,HEC.o];decide) (by rw[HD'.out,HEC.o];decide);rw[HD'.out]at aV I7;have hN':(bJ (aB q).2).n=O (aB q).2.aK:=rfl;rw[hN']at aV I7;rw[I7]at Yg;have h42:=HH.ok.few;have C0:(gF (bJ (aB q).2) add (O (aB q).2.aK) k d.2.1 d.1).aQ<=Wk.aQ+1+O (aB q).2.aK*(512*(2+512)):=aV.2.1;have Cd:O (aB q).2.aK*(512*(2+512))<=11053056:=by omega
      have U6:(gF (bJ (aB q).2) add (O (aB q).2.aK) k d.2.1 d.1).count (O (aB q).2.aK)<=(gF (bJ (aB q).2) add (O (aB q).2.aK) k d.2.1 d.1).aQ:=by
       have h1:(gF (bJ (aB q).2) add (O (aB q).2.aK) k d.2.1 d.1).count (O (aB q).2.aK)+(Wk.aQ+1)<=Wk.count (O (aB q).2.aK)+1+(gF (bJ (aB q).2) add (O (aB q).2.aK) k d.2.1 d.1).aQ:=aV.2.2.1;have:=HC.cnt;omega
      let⟨WR,hWR⟩:=E (gF (bJ (aB q).2) add (O (aB q).2.aK) k d.2.1 d.1);rw[hWR]at C0 U6 Yg;have aMT:=aV.1;rw[hWR]at aMT;have HWR:=Z hWR;have D3:=Z aMT;have zM:=Z (show WR.aQ<=Wk.aQ+NH by unfold NH;omega);have HCB:=Z U6;have hdg:EV (aB q).2 k d.2.1:=by
       rw[<-HD.o];exact Ak HH.ok.wf HH.ok.wide HKN HRF (λhk=>by
        have h1:((bJ (aB q).2).spec k).aG=1:=HLV.2.1;have h2:(eP (aB q).2 k).aG=1:=h1;omega)
      have HDG:=Z hdg;clear hw0 aV I7 hN' h42 C0 Cd U6 hWR aMT hdg;obtain⟨da,dc0,hdv,-⟩:=Nz.cY.len;subst hdv;have hu9:=Nz.xu;have hd9:=Nz.xd;have y9:=Zc hu9 0;have d9:=Zc hd9 0;have lbd:=iO (cV hd9);have hdl:O done<=6:=by have:=HC.dl;omega
      have lb9:bd<hJ w9.heap:=cV hd9;clear hu9 hd9;go_upto_region 19 with(at_builtin;refine cK OI rfl _ _ rfl (Nz.cY.cY w9) (P7 w9) (by rfl) [J (k:Int)] k (by rfl) rfl (dH rfl) rfl (by omega) F4 ?_;rintro g10 B7 E1 yq lP aDt aZB;have V9:bA w9 US (·=β+7) E1 (up w9 (β+7) US):=Nz.cY.eW (v':=hY (H ⟨g10,0,K⟩) (O done+1) B7) aDt rfl;have aTG:=yq.QX Nz.cY aDt;let⟨aGN,aTh,Uf⟩:=Nz.aLi V9 aTG;have d10:=Zc aGN 0;have a03:=aM aGN;have a01:=iO (cV aGN);have Ev:=Z V9;have aJK:=Z aTh;have aPD:=Z Uf;clear yq lP aDt aZB V9 aTG aGN aTh Uf);let⟨kw,Dw⟩:=E (ey E1 ⟨bd,0,K⟩ (hY (H ⟨g10,0,K⟩) (O done+1) B7));let⟨JX,Gr⟩:=E (up w9 (β+7) US);rw[Gr]at Ev aJK aPD;rw[Dw]at aJK aPD|-;have sZ:bA w9 US (λx=>x=β+6\/x=β+7) kw JX:=(Ev.aN (λ_ h=> .inr h)).dd (aPD.aN (λ_ h=> .inl h));have aSz:=Pc.dg sZ (λc hc=>by omega) (λi _=>by omega) (λi c _ _=>by unfold nH;omega);have aSP:=HF9.2.dg sZ (by have:=HF9.1;unfold nH at this;omega) (by omega);have xz:k<42:=by have:=HKN.o;have:=HH.ok.few;omega
      have GH:=Hu aSz HKN aSP (by rcases HF9.1 with e|e;exact .inl e;exact .inr (.inr ⟨k,xz,e⟩)) (λup hu _=>by have:=HF9.1;unfold nH at this;omega) HDG RI.1 (by have:=RI.2.2;have:=Bm.1;omega) (by rw[HWR.o];have:=zM.o;have:=Pg.o;unfold NH at*;omega) (by rw[HWR.o];have:=HCB.o;have:=zM.o;have:=Pg.o;unfold NH at*;omega);rw[HWR.o]at GH;have Cp:=Z GH;have aHQ:=aJK.xu;have y11:=Zc aHQ 0;have HMX:=Z (aAO.dd (sZ.aN (T:=Yi β) (λ_ h=> .inr h)));have jv:=Z (dX (sZ.aC Ip.1 (j7 Ip.o.2)) ((sZ.bT br (cV Ip.1)).dd Ip.2));clear Dw Gr sZ aSz aSP GH aHQ y9 d9 lbd d10 a03 a01 lb9;go_wp2_with (go_at_call 41;apply Cp.cF;rintro e w12 ⟨Iv,rfl,CZ,aSy⟩;have aAP:=Z CZ;have a1F:=Z aSy;clear CZ aSy);go_roundg (O q.aD-(k+1))
      .have hM:=aAP.o;have h6:¬zP β (β+6):=zP.not (by omega) (by omega) (by omega) (by omega);have h7:¬zP β (β+7):=zP.not (by omega) (by omega) (by omega) (by omega);refine⟨k+1,Iv,WR,done++[k],hY (H ⟨g10,0,K⟩) (O done+1) B7,by omega,rfl,eO,?_⟩;refine⟨HMX.dd (hM.aN (λ_ h=> .inl h)),a1F,aJK.dg hM h6 h7 (λ_=>zP.tr),Yg,D3,by have:=zM.o;have:=HC.stp;rw[Nat.succ_mul];omega,HCB,λi hi=> ?_,by rw[F5,Xd];have:=HC.dl;omega,hM.aC jv.1 (by rw[jv.o.2];exact zP.not (by omega) (by omega) (by omega) (by omega)),(hM.bT br (cV jv.1)).dd jv.2⟩;rcases EY.1 hi with hi|hi
       .exact HC.dn i hi
       .rw[Yj.1 hi];exact⟨Nv,x,HX⟩
      have:=OR.o;omega
     .exact ZM26
     .exact ZM26
     .have nU:=aFD.o (by decide);have I7:=aIN (P:=bJ (aB q).2) (add:=add) (l:=List.range' (k+1) (O q.aD-(k+1))) (done:=done) aFS HX (w:=Wk) (by rw[HD'.out,HEC.o]);rw[HD'.out,Yg.o]at I7;let⟨RB,p⟩:=E (mJ (bJ (aB q).2) (dQ q r) done.reverse d.1);have Ef:eC (bJ (aB q).2) cells (O q.aD) t add (jC q rel) (dQ q r)=({t with T:=RB.T},0,0,110):=by
       unfold eC;simp only;rw[show cG (bJ (aB q).2) add (jC q rel) (dQ q r) (List.range (O q.aD)) ⟨t.T,0,λ_=>[]⟩ []=RG from HRG.o,I7];simp only[uN];rw[p]
      have g:=Av (rowOf:=dQ q r) HH.ok.wf.oJ done.reverse d.1 (λi hi=>by
       have h':=HC.dn i (List.mem_reverse.1 hi);have h2:=HH.ok.wf.cN i h'.1;exact⟨h2.1,h2.2.1⟩) (by rw[nU];exact HC.Oi)
      rw[p]at g;have hdl:=HC.dl;have hN':(bJ (aB q).2).n=O (aB q).2.aK:=rfl;rw[List.length_reverse,hN']at g;have hmul:=Au (n:=O (aB q).2.aK) (len:=O done) HH.ok.few (by omega);let⟨MM,Mj⟩:=E (O done*(O (aB q).2.aK*(512*(2+512))));rw[Mj]at hmul g;have aRY:d.1.aQ=Wk.aQ+1:=by rw[nU]
      have aZO:d.1.count (O (aB q).2.aK)=Wk.count (O (aB q).2.aK):=by rw[nU];rfl
      have ph:=Vv Nz (Pc.mono (F':=N+1) (G':=N+1) RI.2.1 (by rw[RI.o.2.2];exact fV _)) (fV _) Bm.1 HC.dn p (by have:=Pg.o;omega) (by have:=Pg.o;omega);have km:=Z ph;have UQ:=Z Ef;have HLE:=Z g.2.2;have a0Y:=enters_of func37 dB rfl;clear nU I7 p Ef g hdl hN' hmul aRY aZO ph Mj;go_upto_region 17 with(go_at_call 37;apply km.cF;rintro e E1 ⟨JX,rfl,V9,ZP⟩;have Ev:=Z V9;have aFC:=Z ZP;clear V9 ZP);exact ZM15
   .have ND:=WX SG;have aKB:jC q rel k=po:=by unfold jC;rw[HA.o];exact jO SG
    have HMS:=Z aKB;clear SG aKB m;go_wp2;go_roundg (O q.aD-(k+1))
    .refine⟨k+1,oC,Wk,done,dv,by omega,rfl,eO,?_⟩;have hU:=(U.refl wr []).alloc (h8 #[j3 a.rel,hY ta (O a.aS) tc] 52);exact⟨HC.eW.jH hU,HC.vK.on hU,HC.box.on hU,by rw[<-aIM HMS.o];exact Yg,HC.Oi,by have:=HC.stp;rw[Nat.succ_mul];omega,HC.cnt,HC.dn,by have:=HC.dl;omega,hU.aC HC.Fr (by simp),HC.CV⟩
    have:=OR.o;omega
  .obtain rfl:k=O q.aD:=by omega
   have V:=m.eq;rw[ue]at V;have aSG:cG (bJ (aB q).2) add (jC q rel) (dQ q r) [] Wk done=(Wk,done,po):=rfl;rw[aSG]at V;have lR:=m.box;have hu:=lR.xu;have ht:=lR.xt;have hcc:=lR.xc;have y0:=Zc hu 0;have z0:=Zc ht 0;have q0:=Zc hcc 0;obtain⟨-,u8,-,-,-,-,-⟩:=m.vK.bd.AS;have Yg:=Z V;have HC:=Z m;have aS1:eC (bJ (aB q).2) cells (O q.aD) t add (jC q rel) (dQ q r)=(if(add&&decide (cells<AB (bJ (aB q).2) Wk.T))=oj then({t with T:=(mJ (bJ (aB q).2) (dQ q r) done.reverse Wk).T},0,0,201)else({T:=Wk.T,state:=t.fX+1,fX:=t.fX+1},Wk.aQ,Wk.count (O (aB q).2.aK),0)):=by
    unfold eC;simp only;rw[show cG (bJ (aB q).2) add (jC q rel) (dQ q r) (List.range (O q.aD)) ⟨t.T,0,λ_=>[]⟩ []=RG from HRG.o,<-Yg.o];rfl
   have aJH:=Z aS1;clear hk aV V aSG lR hu ht hcc m aS1 hm6;cases add with
   |false=>
    have Ef:eC (bJ (aB q).2) cells (O q.aD) t po (jC q rel) (dQ q r)=({T:=Wk.T,state:=t.fX+1,fX:=t.fX+1},Wk.aQ,Wk.count (O (aB q).2.aK),0):=by rw[aJH.o];rfl
    have UQ:=Z Ef;clear Ef;go_upto_region 21 with(fail);go_quiet (fail);have ZN:U wr [] (wr.drewN nq) []:=(U.refl wr []).drewN nq;let⟨wq,EK⟩:=E (wr.drewN nq);rw[EK]at ZN|-;clear EK;have hCq:=HC.vK.on ZN;have Ov:=HC.box.on ZN;have hRq:=ZN.aC HC.Fr (by simp);have JR:=Z ZN;clear ZN y0 z0 q0 u8;exact ZM1
   |true=>
    have qK:=HH.ok.few;let⟨SS,hSS⟩:=E (AB (bJ (aB q).2) Wk.T);rw[hSS]at aJH;go_upto_region 21 with(fail);refine ek 99 (eb q0<|eb z0<|d7 u8) (λwd eY qS Q=> ?_);clear y0 z0 q0 u8;have aMX:=rC (HC.vK.bd.on qS) qK;rw[hSS]at aMX;have a1I:=Z aMX;have qH:=Z qS;clear eY qS aMX hSS qK;refine dw [0,1,2,3,5,6,7,8] ?_;refine rA (i:=4) dB rfl dB (λqL hK=> ?_);(try simp only[List.getElem_toArray,Pi,Pj]);go_simp;go_at_call 10;apply a1I.cF;rintro e wq ⟨rfl,hUs⟩;dsimp only;replace Q:=hUs.zh3 Q;have Yb:=Z (qH.dd hUs);clear hUs;refine j8 ?_;clear hK qL;by_cases hex:cells<SS
    .have aZI:(cells:Int)<(SS:Int):=by omega
     let⟨RB,p⟩:=E (mJ (bJ (aB q).2) (dQ q r) done.reverse Wk);have Ef:eC (bJ (aB q).2) cells (O q.aD) t oj (jC q rel) (dQ q r)=({t with T:=RB.T},0,0,201):=by
      rw[aJH.o,p,bR (by rw[kI hex];rfl)]
     have g:=Av (rowOf:=dQ q r) HH.ok.wf.oJ done.reverse Wk (λi hi=>by
      have h':=HC.dn i (List.mem_reverse.1 hi);have h2:=HH.ok.wf.cN i h'.1;exact⟨h2.1,h2.2.1⟩) HC.Oi
     rw[p]at g;have hdl:=HC.dl;have hN':(bJ (aB q).2).n=O (aB q).2.aK:=rfl;rw[List.length_reverse,hN']at g;have hm6:=HH.ok.six;have hmul:=Au (n:=O (aB q).2.aK) (len:=O done) HH.ok.few (by omega);let⟨MM,Mj⟩:=E (O done*(O (aB q).2.aK*(512*(2+512))));rw[Mj]at hmul g;have pO:=HC.stp;have DN:=HC.cnt;have h6b:=RU (k:=O q.aD) hm6;have Nz:=Z (HC.box.on Yb);have UQ:=Z Ef;have HLE:=Z g.2.2;have km:=Z (Vv Nz ((HC.vK.on Yb).mono (F':=N+1) (G':=N+1) RI.2.1 (by rw[RI.o.2.2];exact fV _)) (fV _) Bm.1 HC.dn p (by omega) (by omega));have aAO:=Z (HC.eW.jH Yb);have Ip:=Z (dX (Yb.aC HC.Fr (by simp)) HC.CV);have a0Y:=enters_of func37 dB rfl;clear p Ef g hdl hN' hmul Mj pO DN h6b hm6 hex;refine dw [9,10] ?_;refine aY dB ?_ _;clear Q;go_upto_region 23 with(go_at_call 37;apply km.cF;rintro e E1 ⟨JX,rfl,V9,ZP⟩;have Ev:=Z V9;have aFC:=Z ZP;clear V9 ZP);exact ZM15
    .have aZI:¬(cells:Int)<(SS:Int):=by omega
     have Ef:eC (bJ (aB q).2) cells (O q.aD) t oj (jC q rel) (dQ q r)=({T:=Wk.T,state:=t.fX+1,fX:=t.fX+1},Wk.aQ,Wk.count (O (aB q).2.aK),0):=by
      rw[aJH.o,bD (by rw[jO hex];simp)]
     have UQ:=Z Ef;clear Ef hex;refine dw [9,10] ?_;refine aY dB ?_ _;clear Q;have hCq:=HC.vK.on Yb.o;have Ov:=HC.box.on Yb.o;have hRq:=Yb.aC HC.Fr (by simp);have JR:=Yb;exact ZM1
variable{cs:Array aF}{j sz:Nat}
section
structure Wc(bBO:ap)(w wr:aA)(ρ:aW)(t:Nat):Prop where
 eW:bA w ρ (λx=>x=t) wr ρ
 th:∀(k:Nat) (cs:Array aF) (T:ap),w.heap[k]? =H (h8 cs T (0,0))->T≠bBO->wr.heap[k]? =w.heap[k]?
 fJ:∀(k:Nat) (cs:Array aF) (T:ap),w.heap[k]? =H (h8 cs T (0,0))->∃cs',cs'.size=cs.size/\wr.heap[k]? =H (h8 cs' T (0,0))
section
variable{bBO:ap}{w wr wx:aA}{ρ:aW}{t:Nat}
theorem Wc.refl(bBO:ap)(w:aA)(ρ:aW)(t:Nat):Wc bBO w w ρ t:=⟨bA.refl _ _ _,λ_ _ _ _ _=>rfl,λk cs T h=>⟨cs,rfl,h⟩⟩
theorem Wc.on(h:Wc bBO w wr ρ t){L:List Nat}(b:U wr [] wx L):Wc bBO w wx ρ t:=
 ⟨h.eW.jH b,λk cs T a d=>(b.block k (wM (cV a) h.eW.size) X).dd (h.th k cs T a d),λk cs T a=>by
  let⟨c,e,g⟩:=h.fJ k cs T a;exact⟨c,e,b.aC g X⟩⟩
theorem Wc.set(h:Wc bBO w wr ρ t)(c:w.heap[g]? =H (h8 cs bBO (0,0)))(d:ρ g=t)(v:aF):Wc bBO w (ey wr ⟨g,j,K⟩ v) ρ t:=by
 refine⟨h.eW.setCell (.inl d) v,λk An T' hk a=> ?_,λk An T' hk=> ?_⟩
 .have b:k≠g:=λe=>by
   subst e;rw[c]at hk;injection hk with hk;injection hk with _ hk;exact a hk.symm
  rw[Iw wr (Ad g j) k v (λe=>b e)];exact h.th k An T' hk a
 .exact ZM67
theorem Wc.NY(h:Wc bBO w wr ρ t)(a:w.heap[g]? =H (h8 cs bBO (0,0)))(b:ρ g=t)(x0 x1 x2:aF):
  Wc bBO w (ey (ey (ey wr ⟨g,j,K⟩ x0) ⟨g,j+1,K⟩ x1) ⟨g,j+2,K⟩ x2) ρ t:=((h.set a b x0).set a b x1).set a b x2
theorem Wc.bS(h:Wc bBO w wr ρ t){k:Nat}{T:ap}(a:w.heap[k]? =H (h8 cs T (0,0)))(b:T≠bBO):wr.heap[k]? =H (h8 cs T (0,0)):=(h.th k cs T a b).dd a
theorem Wc.has(h:Wc bBO w wr ρ t){e:ap}{c:Nat->Nat->aF}(hT:eJ w v e sz n c)(a:0<n):
  ∃g cap,v=hY (H ⟨g,0,K⟩) n cap/\gz v=H g/\g<hJ wr.heap/\(∀j,wr.frozen? ⟨g,j,K⟩=po)/\(∃cs,w.heap[g]? =H (h8 cs e (0,0)))/\∀i j,i<n->j<sz->∃u,e7 wr ⟨g,i*sz+j,K⟩=H u:=by
 exact ZM49
end
def jl(β x:Nat):Prop:=G3 β x\/x=1
def SW(w:aA)(ρ:aW)(β b:Nat)(q:bB)(cells N:Nat)(R:iZ×Nat×Nat×Nat)(e:cg)(w':aA):Prop:=
 ∃bN,e=i5 (i8 #[.agg #[i6 i7 (R.2.1:Int),i6 i7 (R.2.2.1:Int)],i6 i7 (R.2.2.2:Int)])/\bA w ρ (jl β) w' bN/\wG w' bN β b q cells R.1 (N+1) (N+1)
theorem t8{w:aA}{ρ:aW}{cells N tr:Nat}{t:iZ}{rel:dU}(h:wG w ρ β b q cells t N N)(hN:N+1<1073741824)(hv:mK dR aP 3 w ρ tr rv r)(oY:¬jl β tr)(hf:AP r)(hβ:10<=β):
  aH prog 8 #[h9 (H ⟨b,0,K⟩),.agg #[j4 add,j3 rel,rv]] w (SW w ρ β b q cells N (eC (bJ (aB q).2) cells (O q.aD) t add (jC q rel) (dQ q r))):=by
 obtain⟨ra,rc,rfl,iI⟩:=hv.1.len;let⟨wa,dE⟩:=E (e8 w (h8 #[j4 add,j3 rel,hY ra (O r) rc] 35));let⟨wb,pE⟩:=E (e8 wa (h8 #[J 0,J 0] 37));let⟨wc,z⟩:=E (e8 wb (h8 #[j4 add,j3 rel,hY ra (O r) rc] 35));let⟨bc,yh⟩:=E (hJ w.heap);let⟨B,hbr⟩:=E (hJ wa.heap);let⟨bs,yg⟩:=E (hJ wb.heap);have cR:=Za dE;have P:=Za pE;have L:=Za z;have C:=Ze dE yh;have RD:=Ze pE hbr;have hBs:=Ze z yg;have aT6:=P.aC C X;obtain⟨d0,d1,d2⟩:=Z3 aT6;obtain⟨s0,s1,s2⟩:=Z3 hBs;have wV:bc<=B/\B<=bs/\bs<=hJ wc.heap:=⟨nA cR.size,nA P.size,nA L.size⟩;have HBC:=((P.dd L).aC C X);have HBR:=(L.aC RD X);have Nq:=(cR.dd (P.dd L));have T7:=(aI0 (g:=bs) (o:=0) (cap:=1) s0 s1 s2 (hv.1.on (cR.dd (P.dd L))) hf.1);have hf1:=hf.1;clear cR P L C RD hBs aT6 s0 s1 s2 iI;go_in;go_upto_region 2 with(first
  |(go_at_call 20;apply T7.cF;rintro e w4 ⟨b4,u,rfl,l⟩;obtain⟨ua,uc,rfl,-⟩:=l.row.len;have D1:=l.bS;obtain⟨x0,x1,x2⟩:=Z3 D1;have G:=Z l;clear l D1))
 let⟨w5,oD⟩:=E (e8 w4 (h8 #[j4 add,j3 rel,hY ua (O r) uc] 35));let⟨bi,F⟩:=E (hJ w4.heap);have cQ:=Za oD;have hBI:=Ze oD F;rw[oD,F];obtain⟨i0,i1,i2⟩:=Z3 hBI;have Lz:=G.o.eF.dd cQ;have tU:bA w ρ eL w5 (up w.heap.size 1 ρ):=(Nq.dd Lz).eW (S:=eL) 1 (λ_ h=>dS h X);have L4:=h.dg tU zE;have tB:=((G.o.row.on cQ).eE Nq.size).jU 1 ρ;let⟨pJ,JA⟩:=E (up w.heap.size 1 ρ);have i:∀k,hJ w.heap<=k->pJ k=1:=λk hk=>by rw[<-JA];exact cJ hk
 rw[JA]at tU L4 tB;have m:¬G3 β 1:=by unfold G3;omega
 have UQ:=(Aq (add:=add) (rel:=rel) L4 hN tB.rd m hf);have a2X:=(Lz.aC HBC X);have aVZ:=(Lz.aC HBR X);have Wi:=(hv.dg tU id);generalize hR:eC (bJ (aB q).2) cells (O q.aD) t add (jC q rel) (dQ q r)=R at UQ|-;have Bi:=Z hR;clear cQ L4 JA m oD x0 x1 x2 d0 d1 d2 dE pE z hR;go_upto_region 3 with(first
  |(go_at_call 17;apply UQ.cF;rintro e w6 ⟨rU,rfl,SM,hT6⟩))
 let⟨w7,xM⟩:=E (e8 w6 (h8 #[J (R.2.1:Int),J (R.2.2.1:Int)] 37));let⟨bk,ph⟩:=E (hJ w6.heap);have fM:=Za xM;have hBK:=Ze xM ph;have yp:bA w6 rU eL w7 (up w6.heap.size 1 rU):=fM.eW (S:=eL) 1 (λ_ h=>dS h X);rw[xM,ph];generalize Le:up w6.heap.size 1 rU=ρ7 at yp;have p:bA w5 pJ (G3 β) w7 ρ7:=SM.dd (yp.aN pW);have m:¬G3 β 1:=by unfold G3;omega
 have hnt:¬G3 β tr:=λh=>oY (.inl h);have a:hJ w.heap<=bc/\hJ w.heap<=B/\hJ w.heap<=bi:=⟨Nat.le_of_eq yh,rV yh wV,by have:=F;have:=Nq.size;have:=G.o.eF.size;omega⟩;have aTf:=p.aC hBI (by rw[i _ a.2.2];exact m);have aTg:=p.aC a2X (by rw[i _ a.1];exact m);have a0K:=p.aC aVZ (by rw[i _ a.2.1];exact m);have aYJ:ρ7 B=1:=(p.bT B (cV aVZ)).dd (i _ a.2.1);have hR7:=tB.dg p m;have hV7:=Wi.dg p hnt;obtain⟨i0,i1,i2⟩:=Z3 aTf;obtain⟨d0,d1,d2⟩:=Z3 aTg;have R3:=(ly hR7.rd.1 hV7.1);rw[kI rfl]at R3;have a1j:=(((tU.aN (T:=jl β) pW).dd (p.aN (T:=jl β) (λ_ h=> .inl h))));have Es:=(hT6.dg yp zE);clear xM fM yp Le p m hnt aTg hV7 a ph;go_upto_region 5 with(first
  |(go_at_call 21;apply R3.cL;intro w8 f;have Hn:=f.aC aTf X;obtain⟨j0,j1,j2⟩:=Z3 Hn;clear i0 i1 i2 d0 d1 d2))
 go_upto_region 6 with(fail);clear j0 j1 j2;have HR8:=(hR7.on f);have a2Q:=(f.aC a0K X);have a2S:=(f.aC hBK X);let⟨n,hn⟩:=E (O r);have HN:=Z hn;rw[hn]at hf1|-;clear hn;go_loopg [31] n (λgg s31 wr=>∃k:Nat,k<=n/\gg=n-k/\s31=J k/\Wc 65 w8 wr ρ7 1)
 .exact⟨0,Y,rfl,rfl,Wc.refl _ _ _ _⟩
 obtain⟨k,hk,CY,rfl,V⟩:=hrel;have OR:=Z CY;clear CY;by_cases aV:k<n
 .have d:k<O r:=by rw[HN.o];exact aV
  have c2:=aL (V.bS Hn D) (j:=2) rfl;rw[HN.o]at c2;have CQ:(k:Int)<(n:Int):=Y;go_upto_region 8 with(fail);refine ek 5 (d7 c2) (λwd eY qS Q=> ?_);clear c2;have HWD:=(V.on qS);clear eY qS;refine dw [0,2,1] ?_;refine Zo 3 λs hK=> ?_;go_simp;go_at_call 18;apply(mm _ wd).cF;rintro e w9 ⟨rfl,sO⟩;dsimp only;have Q:=sO.cell Q X;have qs:=HWD.on sO;let⟨g,cap,hv,Xo,aRr,YY,⟨cs,xO⟩,DN⟩:=qs.has HR8.1 (Nat.zero_lt_of_lt d);rw[HN.o]at hv;injection hv with x1 x2 x3;subst x1;let⟨u0,c0⟩:=DN k 0 d D;let⟨u1,c1⟩:=DN k 1 d D;let⟨u2,c2⟩:=DN k 2 d D;rw[pK]at c0;have bl:=iO aRr;have zM:=(qs.NY (j:=k*3) xO (HR8.2 g Xo));have HK:=Z aV;clear qs DN xO Xo aRr x2 x3 d aV sO;refine j8 ?_;clear hK s;refine I 4 ?_;refine Zo 5 λs hK=> ?_;go_simp;refine MH ?_;clear hK s;clear Q c0 c1 c2;go_wp2;go_roundg (n-(k+1))
  .exact⟨k+1,HK.o,rfl,eO,zM _ _ _⟩
  have:=OR.o;have:=HK.o;omega
 .obtain rfl:k=n:=Y;have W:=V.bS a2S D;have c:=V.bS a2Q D;obtain⟨k0,k1⟩:=Z2 W;obtain⟨r0,r1⟩:=Z2 c;have rf:=aM c;have rl:=iO (cV c);have hs2:=XB (x:=J (R.2.1:Int)) (y:=J (R.2.2.1:Int)) c;have rT:=Z hs2;clear W c hs2;go_wp2;refine mD (aT (A:=Ad B 0) (T:=37) rfl Yr (v:= .agg #[J (R.2.1:Int),J (R.2.2.1:Int)]) (by go_simp)) rfl ?_;have pU:bA w ρ (jl β) w8 ρ7:=a1j.jH f;have hMr:bA w ρ (jl β) wr ρ7:=pU.dd (V.eW.aN (T:=jl β) (λ_ h=> .inr h));have hMs:bA wr ρ7 (λx=>x=1) _ ρ7:=rT.o.2.p9 (S:=λx=>x=1) (λk hk=> .inl (by
   have:k=B:=eI hk;rw[this];exact aYJ))
  have hS:∀x,β<=x->¬x=1:=λx hx=>Y;rw[Bi.o];exact⟨ρ7,rfl,hMr.dd (hMs.aN (T:=jl β) (λ_ h=> .inr h)),((Es.dg (f.fK (S:=eL)) zE).dg V.eW hS).dg hMs hS⟩
end
variable{u v':aF}
def OS(w:aA)(ρ:aW)(t:Nat)(v:aF)(ls:List (List Row)):Prop:=
 ∃bX:List aF,O bX=O ls/\oF ID undef 70 1 w ρ t v bX/\∀i,i<O ls->iN w ρ (t+1) (t+1) (ep bX i undef) (ep ls i [])
theorem OS.dg{t:Nat}{ls:List (List Row)}{S:Nat->Prop}(h:OS w ρ t v ls)(d:bA w ρ S w' bN)(j:¬S t)(e:¬S (t+1)):OS w' bN t v ls:=by
 obtain⟨bX,a,b,c⟩:=h;exact⟨bX,a,b.dg d j,λi g=>(c i g).dg d e e⟩
theorem OS.nil(w:aA)(ρ:aW)(t:Nat):OS w ρ t (hY K 0 0) []:=⟨[],rfl,oF.nil _ _ _,λi a=>dS a (Yk i)⟩
theorem OS.len{t:Nat}{ls:List (List Row)}(h:OS w ρ t v ls):∃a cap,v=hY a (O ls) cap/\O ls<=bw:=ZM128
theorem OS.rd{t:Nat}{ls:List (List Row)}(h:OS w ρ t v ls):Ez w v ls:=by
 obtain⟨bX,c,d,b⟩:=h;exact⟨bX,c,d.rd.1,λi a=>(b i a).rw⟩
theorem fR.QK{cells ls:Nat}(h:fR w ρ β b q cells st ls T F G)(g:i<O (aB q).2.aK):
  O (T i).aI<=65536/\∀j,j<O (T i).aI->O (ep (T i).aI j [])<=30:=by
 obtain⟨nb,go,oo,co,-,-,⟨lb,rb,iv,-,-,e⟩,-⟩:=h.EF g;have hl:=e.lv;refine⟨jN hl.Fm.JF hl.ok.most.2,λj c=> ?_⟩;have a:=(hl.Fm.good _ (bM (d:=[]) c)).1.1;unfold iC at a;simp only[Xb,RK]at a;exact a.1
def H9(T:iX)(k:Nat):List (List Row):=(List.range k).map λv=>(T v).aI
theorem Ks(T:iX)(k:Nat):H9 T (k+1)=H9 T k++[(T k).aI]:=by unfold H9;rw[Yl,R8];rfl
theorem iL(T:iX)(k:Nat):O (H9 T k)=k:=by unfold H9;simp
theorem OS.vP{t:Nat}{ls:List (List Row)}{l:List Row}(h:OS w ρ t v ls)(g:iN w ρ (t+1) (t+1) u l){bX:List aF}(hv:O bX=O ls)(m:oF ID undef 70 1 w ρ t v bX)(j:∀i,i<O ls->iN w ρ (t+1) (t+1) (ep bX i undef) (ep ls i []))(b:oF ID undef 70 1 w' (up w t ρ) t v' (bX++[u]))(d:bA w ρ (·=t) w' (up w t ρ)):OS w' (up w t ρ) t v' (ls++[l]):=by
 refine⟨bX++[u],by simp[hv],b,λi c=> ?_⟩;have a:¬(t+1=t):=Y;rw[kC,kC,hv];by_cases e:i=O ls
 .rw[bR e,bR e];exact g.dg d a a
 .rw[bD e,bD e];exact(j i (by rw[F5]at c;simp at c;omega)).dg d a a
def AlW(β t x:Nat):Prop:=G3 β x\/x=t
theorem O5{cells ls t:Nat}(h:fR w ρ β b q cells st ls T F G)(hf:O (aB q).2.aK<=42)(hβ:10<=β)(ht:t+1<10):
  aH prog 9 #[h9 (H ⟨b,0,K⟩),i6 i7 (O (aB q).2.aK:Int)] w λe w'=>∃bN u,e=i5 u/\bA w ρ (AlW β t) w' bN/\fR w' bN β b q cells st ls T F G/\OS w' bN t u (H9 T (O (aB q).2.aK)):=by
 have A:∃n,O (aB q).2.aK=n:=⟨_,rfl⟩;obtain⟨n,A⟩:=A;have qs:=Z h;have HF:=Z hf;have HN:=Z A;rw[A]at hf|-;clear h A;go_in;go_upto_region 3 with(fail);go_loopg [5,6] n (λgg s5 s6 wr=>∃(k:Nat) (L:aW),k<=n/\gg=n-k/\s6=J k/\bA w ρ (AlW β t) wr L/\fR wr L β b q cells st ls T F G/\OS wr L t s5 (H9 T k))
 .exact⟨0,ρ,Y,rfl,rfl,bA.refl _ _ _,qs.o,OS.nil _ _ _⟩
 obtain⟨k,L,hk,CY,rfl,hM,N,hA⟩:=hrel;have OR:=Z CY;have HM:=Z hM;have f:=Z hA;obtain⟨aa,ac,rfl,-⟩:=hA.len;rw[iL]at f|-;clear CY hM hA;by_cases aV:k<n
 .have V:k<O (aB q).2.aK:=by rw[HN.o];exact aV
  have HR:=Z (Qc (t:=1) N HF.o V (.inl (by unfold nH;omega)));have CQ:(k:Int)<(n:Int):=Y;have HK:=Z aV;have y:=Z V;clear N aV hk V;go_upto_region 6 with(go_at_call 19;apply HR.o.cF;rintro e w2 ⟨fB,u,rfl,zI,gT,pT⟩;obtain⟨ua,uc,rfl,-⟩:=pT.len;have P:=Z zI;have F3:=Z gT;have DX:=Z pT;clear zI gT pT);obtain⟨bX,Q5,z,o⟩:=f.o;have a:∀x,x<β->¬eZ (nH β k) x:=λx hx h=>by have:=O2 h;omega
  have Xw:=f.o.dg P.o (a t Y) (a (t+1) Y);let⟨hf1,j⟩:=F3.o.QK y.o;have T7:=Z (aBz DX.o.rw Y (λi v=>by have:=j i v;omega));have m:=z.dg P.o (a t Y);have r:=λi v=>(o i v).dg P.o (a (t+1) Y) (a (t+1) Y);let⟨l,hl⟩:=E ((T k).aI);have d:=Ks T k;rw[hl]at T7 DX d|-;have B:O bX=k:=by rw[Q5,iL]
  have R:=Z d;have Im:=Z Q5;have p:=Z B;have HOV:=Z m;have HEV:=Z r;have HA2:=Z Xw;have CL:=Z hl;clear Q5 z o a Xw hf1 j m r hl d B;go_wp2_with (first
   |(at_builtin;refine cK Pq.ok rfl _ _ rfl (Q.o.cY w3) (P7 w3) Yr [hY ca (O l) cc] (hY ca (O l) cc) Yr rfl (dH rfl) rfl (j7 p.o) (by rw[p.o];unfold bw;omega) ?_;rintro g5 c5 w5 nO cQ C-;have oI:=Z nO;have lI:=Z C;clear nO cQ C)
   |(go_at_call 22;apply T7.o.cF;rintro e w3 ⟨u,rfl,W,cU⟩;obtain⟨ca,cc,rfl,-⟩:=W.rw.len;have g:bA w2 fB eL w3 (up w2.heap.size (t+1) fB):=cU.eW (S:=eL) (t+1) (λ_ h=>dS h X);have HO3:=Z (W.jU (t+1) fB);have tC:=Z g;have Q:=Z (HOV.o.dg g id);have HEW:=Z (λi v=>(HEV.o i v).dg g id id);have HA3:=Z (HA2.o.dg g id id);have MW:=Z (F3.o.dg g id id (λ_ _ _ _ h=>h));clear W cU g))
  go_roundg (n-(k+1))
  .have C:U w3 (hY aa k ac).ownBlock.toList w5 (eB g5 0 (O bX+1) c5).ownBlock.toList:=lI.o;have tU:=Q.o.eW (S:=(·=t)) C rfl;have rS:=MW.o.dg tU (by show¬β=t;omega) (by show¬β+1=t;omega) (λi c _ _=>by show¬nH β i+c=t;unfold nH;omega);have xz:k<42:=rV y.o HF.o;refine⟨k+1,_,HK.o,rfl,eO,((HM.o.dd (P.o.aN (λx h=> .inl (aCY xz h)))).dd (tC.o.aN pW)).dd (tU.aN (λx h=> .inr h)),rS,?_⟩;rw[R.o];exact HA3.o.vP HO3.o Im.o Q.o HEW.o (oI.o.QX Q.o C) tU
  have:=OR.o;have:=HK.o;omega
 .obtain rfl:k=n:=Y;have HB:=Z N;clear N;go_wp2;go_ret;exact⟨L,_,rfl,HM.o,HB.o,f.o⟩
variable{b6:Nat}{R:iZ×Nat×Nat×Nat}{w4 w5 w6:aA}
def sX:dU:={data:=#[120]}
def sR:dU:={data:=#[82]}
def sQ:dU:={data:=#[81]}
def q0:bB:=⟨sQ,[sX],[⟨sR,[⟨sX,aP⟩]⟩]⟩
def r0:Row:=[⟨1,3,bO⟩]
theorem aG4:(aB q0).1=0:=by decide+kernel
def R0:iZ×Nat×Nat×Nat:=eC (bJ (aB q0).2) 9 (O q0.aD) TD oj (jC q0 {data:=#[82]}) (dQ q0 r0)
theorem aIe:R0.2=(2,2,0):=by decide+kernel
theorem aIf:O (R0.1.T 0).aI=1/\AB (bJ (aB q0).2) R0.1.T=2/\R0.1.state=1/\O (aB q0).2.aK=2:=by decide+kernel
theorem aCE:q0.jS:=by
 refine⟨D,D,D,λs hs=> ?_⟩;have:q0.CU=[sQ,sX,sR,sX,bO]:=rfl;rw[this]at hs;simp only[AU,List.not_mem_nil,or_false]at hs;rcases hs with rfl|rfl|rfl|rfl|rfl<;>decide
theorem aLg:AP r0:=⟨D,λv hv=>by
 have:v=⟨1,3,bO⟩:=by simpa[r0]using hv
 subst this;exact⟨D,by unfold tm;decide⟩⟩
theorem aIZ(e:e8 w5 (h8 #[i6 i7 1,i6 i7 3,j3 bO] 65)=w6)(b:hJ w5.heap=b6)(d:U w4 [] w5 [])(c:aW):
  bA w4 c eL w6 (up w4 1 c)/\mK dR aP 3 w6 (up w4 1 c) 1 (hY (H ⟨b6,0,K⟩) 1 1) r0:=by
 have a:=Ze e b;refine⟨(d.dd (Za e)).eW (S:=eL) 1 (λ_ h=>dS h X),.inr ⟨b6,0,1,rfl,Nat.one_pos,(by decide:1<=bw),cV a,λi j g n=> ?_⟩,λ_ k m=> ?_⟩
 .obtain rfl:i=0:=by have:i<1:=g;omega
  match j,n with
  |0,_=>exact aL a rfl
  |1,_=>exact aL a rfl
  |2,_=>exact aL a rfl
 .have:b6=k:=by simpa[Value.mN]using m
  exact cJ (nA d.size)
theorem awk{cells N:Nat}{e:cg}(c:R.2=(2,2,0))(h:Ij w ρ β b q cells N R e w'):
  ∃bN,e=i5 (i8 #[.agg #[i6 i7 2,i6 i7 2],i6 i7 0])/\bA w ρ (G3 β) w' bN/\wG w' bN β b q cells R.1 (N+1) (N+1):=by
 obtain⟨bN,a,g,d⟩:=h;rw[c]at a;exact⟨bN,a,g,d⟩
theorem xU(hw:Tz w):
  aH prog 7 #[] w λe w'=>e=i5 (j4 oj)/\U w [] w' []:=by
 let⟨w1,eT⟩:=E (e8 w (h8 #[j3 {data:=#[120]}] 9));let⟨w2,pS⟩:=E (e8 w1 (h8 #[j3 {data:=#[120]},J 0,J 0,j3 {data:=#[]}] 67));let⟨b1,mZ⟩:=E (hJ w.heap);let⟨b2,pP⟩:=E (hJ w1.heap);let⟨b3,U9⟩:=E (hJ w2.heap);let⟨w3,iQ⟩:=E (e8 w2 (h8 #[j3 {data:=#[82]},hY (H ⟨b2,0,K⟩) 1 1] 52));have cM:=Za eT;have bH:=Za pS;have L:=Za iQ;have eQ:rW w3 b1 #[j3 sX] 9:=(bH.dd L).aC (by rw[<-eT,<-mZ];exact lK w _) (by simp);have d:rW w3 b2 #[j3 sX,J 0,J 0,j3 bO] 67:=L.aC (by rw[<-pS,<-pP];exact lK w1 _) (by simp);have C:=Ze iQ U9;have hQ:B9 w3 (hY (H ⟨b1,0,K⟩) 1 1) (hY (H ⟨b3,0,K⟩) 1 1) [(sR,hY (H ⟨b2,0,K⟩) 1 1)] q0:=by
  refine⟨.inr ⟨b1,0,1,rfl,by decide,by decide,cV eQ,λi j c o=> ?_⟩,.inr ⟨b3,0,1,rfl,Nat.one_pos,(by decide:1<=bw),cV C,λi j c o=> ?_⟩,rfl,λi c=> ?_,aCE⟩
  .obtain rfl:i=0:=by have:i<1:=c;omega
   obtain rfl:j=0:=by omega
   exact aL eQ rfl
  .obtain rfl:i=0:=by have:i<1:=c;omega
   match j,o with
   |0,_=>exact aL C rfl
   |1,_=>exact aL C rfl
  .obtain rfl:i=0:=by have:i<1:=c;omega
   refine⟨rfl,.inr ⟨b2,0,1,rfl,by decide,by decide,cV d,λi j c o=> ?_⟩⟩;obtain rfl:i=0:=by have:i<1:=c;omega
   match j,o with
   |0,_=>exact aL d rfl
   |1,_=>exact aL d rfl
   |2,_=>exact aL d rfl
   |3,_=>exact aL d rfl
 have b:=(cM.dd bH).dd L;have Bf:=Z b;have VW:q0.name={data:=#[81]}:=rfl;have hp:=aG4;have r:=aIe;have m:=aIf;unfold R0 at r m;let⟨q,hq⟩:=E (q0);rw[hq]at hQ VW hp r m;have HN:=Z (WO (ρ:=up w 1 λ_=>0) 10 9 hQ (by show 1<=1;omega) (hw.on b) hp (by decide));rw[VW,show((9:Nat):Int)=9 from rfl]at HN;let⟨R,hR⟩:=E (eC (bJ (aB q).2) 9 (O q.aD) TD oj (jC q {data:=#[82]}) (dQ q r0));rw[hR]at r m;have HR:=Z hR;have V:=Z r;have p:=Z m;clear hq hR r m hp VW;clear cM bH L eQ d C hQ b;go_in;go_upto_region 2 with(go_at_call 14;apply HN.cF;rintro e w4 ⟨bt,CO,rfl,eA,a,hT⟩;have kQ:=Z eA;have HT:=Z hT;have aOt:=Z a;clear eA hT a);go_upto_region 4 with(fail);go_upto_region 5 with(first
  |(go_at_call 17;apply F.cF;rintro e w7 ⟨A,rfl,F1,Xu⟩;have IM:=Z F1;have Es:=Z Xu;clear F1 Xu)
  |(go_at_call 18;apply(mm 3 w4).cL;intro w5 cQ;let⟨w6,iA⟩:=E (e8 w5 (h8 #[i6 i7 1,i6 i7 3,j3 bO] 65));let⟨b6,hb6⟩:=E (hJ w5.heap);have Pa:=Z (aIZ iA hb6 cQ CO);have F:=Z (Aq (add:=oj) (rel:={data:=#[82]}) (HT.dg Pa.1 zE) (by decide) Pa.2 (by unfold G3;omega) aLg);rw[HR.o]at F;have F:=Z (F.mono λe w' h=>awk V h);have gD:=Z cQ;clear cQ))
 let⟨w8,G⟩:=E (e8 w7 (h8 #[J 2,J 2] 37));let⟨bk,ph⟩:=E (hJ w7.heap);have iE:=Za G;have n:=Ze G ph;have N:bA w7 A eL w8 (up w7 1 A):=iE.eW (S:=eL) 1 (λ_ h=>dS h (by simp));have oZ:up w7 1 A bk=1:=cJ (by omega);let⟨D6,MO⟩:=E (up w7 1 A);rw[MO]at N oZ;rw[G,ph];have B:=Es.dg N zE;have g:=Z (Qc (t:=1) (v:=0) B.bd B.ok.few (by rw[p.o.2.2.2];decide) (.inl (by unfold nH;omega)));rw[show((0:Nat):Int)=0 from rfl]at g;have km:=Z (dX n oZ);have VN:=Z N;have P:=Z B.ok.few;clear iE n N oZ MO B ph G;go_upto_region 6 with(go_at_call 19;apply g.cF;rintro e w9 ⟨US,u,rfl,Ot,W0,z⟩;obtain⟨ua,uc,rfl,-⟩:=z.len;have y:=Ot.aC km.1 (by rw[km.o.2];intro h;have:=O2 h;omega);obtain⟨k0,k1⟩:=Z2 y;have f:=Z Ot;have W:=Z W0;clear Ot W0 z y);rw[p.o.1];have zM:=Z (rC W P);have jr:=Z (AV W);rw[p.o.2.1]at zM;rw[p.o.2.2.1]at jr;go_wp2_with (first
  |(go_at_call 11;apply(AV (W.on IL)).cL;rintro kw rfl;rw[p.o.2.2.1])
  |(go_at_call 10;apply zM.cL;intro E1 lP;have IL:=Z lP;clear lP))
 go_ret;have Q:=(Pa.1.aN (T:=G3 10) pW).dd (IM.dd (VN.aN (T:=G3 10) pW));have l:=Bf.dd kQ.o;have aEB:bA w (λ_=>0) (G3 10) w4 CO:=⟨l.os,l.tape,l.output,l.size,λk qs _=>l.block k qs (by simp),λk qs=>(aOt.o k (wM qs Bf.size)).dd (eN qs)⟩;exact⟨rfl,((aEB.dd Q).dd ((f.aN (λx h=>aCY (by decide) h)).jH IL)).aBe (λk _=>by unfold G3;omega)⟩
variable{args:Array aF}{before:List MemPlace}{W':aA}
section
open Go.ChangeShapes Go.WideShapes Go.ChangeAt Go.RowKit
theorem cY:ownKnob prog.godebug=K:=by kernel_rfl
theorem Lc:laidOutB prog=oj:=by kernel_rfl
section
variable{qs:Type}{enc:ap×aF->qs}{P:cu}
theorem MX(hl:laidOutB P=oj){W:aA}(e:Below W.heap.size W W'):∀(ts:List ap) (vs:List aF) (a:List (DataW qs)) (ps:List MemPlace),
  (ts.all λt=>P.readableRec t&&decide (t<P.types.size))=oj->DataW.TrodAll enc P W 0 (λ_=>oj) oj ts vs a ps->(∀x∈ps,x.block<hJ W.heap)->
  DataW.TrodAll enc P W' 0 (λb=>decide (b<hJ W.heap)) oj ts vs a ps
 |[],[],[],ps,_,h,_=>h
 |[],_::_,_,_,_,h,_=>by cases h
 |[],[],_::_,_,_,h,_=>by cases h
 |_::_,[],_,_,_,h,_=>by cases h
 |_::_,_::_,[],_,_,h,_=>by cases h
 |t::ts,v::vs,d::a,ps,ht,h,hlt=>by
  obtain⟨p,q,g,i,rfl⟩:=h;rw[List.all_cons,Xb,Xb,RK]at ht;exact⟨p,q,Below.trod hl ht.1.1 ht.1.2 g e (λx c=>hlt x (EY.2 (.inl c))),MX hl e ts vs a q ht.2 i (λx c=>hlt x (EY.2 (.inr c))),rfl⟩
theorem XK{f:Func}{s:ChangeSpec}{W:aA}{a gs:List (DataW qs)}{T:ap}(hl:laidOutB P=oj)(n:(f.params.toList.all λt=>P.readableRec t&&decide (t<P.types.size))=oj)(hv:s.vars=[])(l:f.resultTypes=#[T])(m:P.underlying T=H .bool)(g:DataW.Whole enc P f.params.toList s.vars po W args.toList a gs before)(c:s.fn qs a={results:=[.lit (.bool oj)],args:=a})(d:Below W.heap.size W W'):
  s.post enc P f po oj po po W args (.bool oj) W':=by
 have e:=g;obtain⟨p,q,j,i,rfl,v,u⟩:=g;rw[hv]at i;obtain⟨rfl,rfl⟩:=trodVars_none i;have r:∀x∈p,x.block<hJ W.heap:=λx b=>e.lt x (eI b);refine⟨a,[],p++[],[],p,[],e,?_,?_,?_,World.keptBut_mono (λx b=>⟨b,.inr (.inl (eI b))⟩) (d.frame (·∈p++[])),λh=>by cases h⟩
 .rw[kn,c,l];exact trodAll_mk1 (shut_bool m oj)
 .rw[kn,c];exact MX hl d _ _ _ _ n j r
 .rw[hv,kn,c];exact rfl
end
end
variable{fs:Array Field}{pl:List MemPlace}{S':List Nat}{fuel:Nat}
section
theorem ZM87{P:Prop}(h:P:=by
  obtain⟨a,b,c,rfl⟩:=aJc hlen;simp only[List.getElem?_cons_zero,List.getElem?_cons_succ,Option.some.injEq]at t0 t1 t2;rw[t0,t1,t2]):P:=h
open Go.ChangeShapes Go.WideShapes Go.ChangeAt Go.RowKit Go.Deep
theorem At{qs:Type}(d:DataW qs):1<=Rows.uptoBulk d:=by
 cases d with
 |lit l=>cases l<;>simp[Rows.uptoBulk]
 |nil=>simp[Rows.uptoBulk]
 |ptr d=>simp[Rows.uptoBulk]
 |slice b spare=>simp[Rows.uptoBulk]
 |agg c=>simp[Rows.uptoBulk]
 |iface t d=>simp[Rows.uptoBulk]
 |map a=>simp[Rows.uptoBulk]
 |held h=>simp[Rows.uptoBulk]
theorem j6{qs:Type}{d:DataW qs}:∀{l:List (DataW qs)},d∈l->Rows.uptoBulk d<=Rows.uptoBulkAll l
 |x::l,h=>by
  simp only[Rows.uptoBulkAll];rcases AU.1 h with rfl|h
  .omega
  .have:=j6 h;omega
theorem Vi{qs:Type}:∀(l:List (DataW qs)),O l<=Rows.uptoBulkAll l
 |[]=>by simp[Rows.uptoBulkAll]
 |x::l=>by have:=At x;have:=Vi l;simp only[Rows.uptoBulkAll,T9];omega
theorem Vh{qs:Type}(bBN:Nat->DataW qs)(μ:Nat->Nat):∀(l:List Nat),(∀i∈l,μ i<=Rows.uptoBulk (bBN i))->(l.map μ).sum<=Rows.uptoBulkAll (l.map bBN)
 |[],_=>X
 |i::l,h=>by
  have b:=h i X;have c:=Vh bBN μ l λj a=>h j (by simp[a]);grind [Rows.uptoBulkAll]
theorem YC{α:Type}(μ:α->Nat){x:α}:∀{l:List α},x∈l->μ x<=(l.map μ).sum
 |y::l,h=>by
  rw[UU,List.sum_cons];rcases AU.1 h with rfl|h
  .omega
  .have:=YC μ h;omega
theorem aQV{α:Type}(a:Nat->α)(d:α)(h:i<n):ep ((List.range n).map a) i d=a i:=by
 grind
section
variable{qs:Type}{enc:ap×aF->qs}{P:cu}{w:aA}{eE:Nat}{spare:Nat->Bool}{held:Bool}
theorem PP{α:Type}{f:α->Nat->aF}{d:α}{B:Nat}{G:α->Prop}{μ:α->Nat}{t e:ap}{cs:List aF}{bBN:DataW qs}(R:P.underlying t=H (.slice e))(S:P.cellsOf e=sz)(qd:0<sz)(qL:∀n z y pl,DataW.trod enc P w eE spare held n e z=H (y,pl)->Rows.uptoBulk y<=B->∃x:α,(∀j,j<sz->z[j]? =H (f x j))/\G x/\μ x<=Rows.uptoBulk y)(h:DataW.trod enc P w eE spare held fuel t cs=H (bBN,pl))(hB:Rows.uptoBulk bBN<=B):
  ∃v l,cs=[v]/\eX f d sz w v l/\CM v/\(∀x∈l,G x)/\O l+1<=Rows.uptoBulk bBN/\(l.map μ).sum+1<=Rows.uptoBulk bBN:=by
 rcases open_slice R h with⟨rfl,c⟩|⟨a,len,cap,m,n,q,Pl,rfl,W,hl,hm,F,c,L⟩
 .exact⟨_,[],rfl,eX.nil w,fV _,λx c=>(by cases c),At bBN,by grind [At]⟩
 .injection c with c _;subst c;rw[S]at L;have IV:len<=m:=by rw[F];split<;>omega
  have FO:∀i,i<len->Rows.uptoBulk (q i)<=B:=λi p=>by
   have:=j6 (BB.2 ⟨i,yD.2 p,rfl⟩:q i∈(List.range len).map q);grind [Rows.uptoBulk]
  have C:∀i,i<len->∃x:α,(∀j,j<sz->e7 w ((a.add (i*sz)).add j)=H (f x j))/\G x/\μ x<=Rows.uptoBulk (q i):=λi p=>by
   let⟨z,V,Q⟩:=L i Y;let⟨x,x1,x2,x3⟩:=qL n z _ _ Q (FO i p);let⟨_,_,pF⟩:=World.cells?_some V;grind
  obtain⟨b,N⟩:∃b:Nat->α,∀i,i<len->(∀j,j<sz->e7 w ((a.add (i*sz)).add j)=H (f (b i) j))/\G (b i)/\μ (b i)<=Rows.uptoBulk (q i):=by
   classical
   exact⟨λi=>if h:i<len then Classical.choose (C i h)else d,λi h=>by grind⟩
  have r:O ((List.range len).map b)=len:=X;refine⟨_,(List.range len).map b,rfl,?_,hl,λx c=> ?_,?_,?_⟩
  .unfold eX;rw[r];rcases Nat.eq_zero_or_pos len with u|u
   .subst u;exact .inl ⟨rfl,H a,cap,rfl,λh=>by cases h⟩
   .obtain⟨g,o,s⟩:=a;have c0:=(N 0 u).1 0 qd;have hs:s=K:=by
     simp only[Nat.zero_mul,Addr.add,uN]at c0;unfold e7 at c0;split at c0
     .simp_all
     .cases c0
    subst hs;have T:∀k,((Ad g o):Addr).add k=(Ad g (o+k)):=λk=>by
     grind [Addr.add]
    have A:∀i j,(((Ad g o):Addr).add (i*sz)).add j=(Ad g (o+i*sz+j)):=λi j=>by
     rw[T];grind [Addr.add]
    refine .inr ⟨g,o,cap,rfl,u,Y,?_,λi j p hj=> ?_⟩
    .rw[A]at c0;exact WC c0
    grind
  .grind
  .grind [Vi,Rows.uptoBulk,List.length_map]
  .have:=Vh q (λi=>μ (b i)) (List.range len) λi p=>(N i (yD.1 p)).2.2;simp only[Rows.uptoBulk];rw[List.map_map];have e:(List.range len).map (μ∘b)=(List.range len).map λi=>μ (b i):=rfl;rw[e];omega
end
section
variable{qs:Type}{enc:ap×aF->qs}{w:aA}{eE B:Nat}{spare:Nat->Bool}{held:Bool}
theorem aJc{α:Type}:∀{l:List α},O l=3->∃a b c,l=[a,b,c]
 |[a,b,c],_=>⟨a,b,c,rfl⟩
theorem zb{P:cu}{cs:List aF}{a:List (DataW qs×List MemPlace)}(d:∀(i:Nat) (f:Field),fs[i]? =H f->DataW.trod enc P w eE spare held n f.type ((cs.drop f.offset).take (P.cellsOf f.type))=a[i]?)(hl:O a=fs.size)(i:Nat)(f:Field)(c:fs[i]? =H f){t:ap}{o k:Nat}(e:f.type=t)(b:f.offset=o)(g:P.cellsOf t=k):∃y,a[i]? =H y/\DataW.trod enc P w eE spare held n t ((cs.drop o).take k)=H y:=by
 grind
theorem IQ{cs:List aF}{k:Nat}(h:(cs.drop k).take 1=[v]):cs[k]? =H v:=by
 have a:((cs.drop k).take 1)[0]? =H v:=by rw[h];rfl
 grind
theorem Rk{cs:List aF}{y:DataW qs}(h:DataW.trod enc prog w eE spare held n 65 cs=H (y,pl)):
  ∃x:MU,(∀j,j<3->cs[j]? =H (dR x j))/\tm x/\x.eR.size<=Rows.uptoBulk y:=by
 let⟨m,n',F,b,i,a,c⟩:=DataW.trod_struct underlying65 h;obtain⟨C,-,p⟩:=zb c a 0 _ rfl rfl rfl (show prog.cellsOf 63=1 by kernel_rfl);obtain⟨B,-,q⟩:=zb c a 1 _ rfl rfl rfl (show prog.cellsOf 2=1 by kernel_rfl);let⟨A,u,l⟩:=zb c a 2 _ rfl rfl rfl (show prog.cellsOf 9=1 by kernel_rfl);let⟨v,e0,_,w0⟩:=DataW.trod_int underlying63 p;let⟨d,r,_,w1⟩:=DataW.trod_int underlying2 q;let⟨g,e2,x2,_⟩:=DataW.trod_string underlying9 l;refine⟨⟨v,d,g⟩,λj z=> ?_,?_,?_⟩
 .match j,z with
  |0,_=>exact IQ e0
  |1,_=>exact IQ r
  |2,_=>exact IQ e2
 .have e:IntKind.i64.min= -9223372036854775808:=D;have:IntKind.i64.min<=d/\d<=9223372036854775807:=by simpa[Lit.wf,IntKind.has]using w1
  rw[e]at this;exact this
 .injection b with b _;subst b;have:=j6 (BB.2 ⟨_,rh u,rfl⟩:A.1∈m.map (·.1));rw[x2]at this;simp only[Rows.uptoBulk]at this|-;have hs:O g.data.toList=g.size:=Array.length_toList;omega
theorem KI{cs:List aF}{y:DataW qs}(h:DataW.trod enc prog w eE spare held n 9 cs=H (y,pl)):∃s:dU,cs=[j3 s]/\s.size<=Rows.uptoBulk y:=by
 let⟨a,e2,x2,_⟩:=DataW.trod_string underlying9 h;injection x2 with x2 _;subst x2;refine⟨a,e2,?_⟩;simp only[Rows.uptoBulk];simp_all
theorem ux{cs:List aF}{y:DataW qs}(h:DataW.trod enc prog w eE spare held n 33 cs=H (y,pl))(a:Rows.uptoBulk y<=1048576):
  ∃v r,cs=[v]/\eX dR aP 3 w v r/\AP r:=by
 obtain⟨v,l,e,g,-,b,m,j⟩:=PP (f:=dR) (d:=aP) (G:=λx=>tm x) (μ:=λx=>x.eR.size) underlying33 (show prog.cellsOf 65=3 by kernel_rfl) D
  (λn i y pl h _=>Rk h) h a
 exact⟨v,l,e,g,Y,λx c=>⟨by grind [YC],b x c⟩⟩
theorem Rm{cs:List aF}{y:DataW qs}(h:DataW.trod enc prog w eE spare held n 35 cs=H (y,pl))(m:Rows.uptoBulk y<=1048576):
  ∃c:Chg,cs=[j4 c.add,j3 c.rel,c.rv]/\eX dR aP 3 w c.rv c.row/\AP c.row:=by
 let⟨l,n',F,e,hlen,d,g⟩:=DataW.trod_struct underlying35 h;obtain⟨G,-,p⟩:=zb g d 0 _ rfl rfl rfl (show prog.cellsOf 4=1 by kernel_rfl);obtain⟨f,-,A⟩:=zb g d 1 _ rfl rfl rfl (show prog.cellsOf 9=1 by kernel_rfl);let⟨x,j,z⟩:=zb g d 2 _ rfl rfl rfl (show prog.cellsOf 33=1 by kernel_rfl);let⟨b0,e0,_⟩:=DataW.trod_bool underlying4 p;let⟨i,B,_⟩:=KI A;injection e with e _;subst e;have C:=j6 (BB.2 ⟨_,rh j,rfl⟩:x.1∈l.map (·.1));simp only[Rows.uptoBulk]at m;let⟨v,r,e2,q,u⟩:=ux z Y;refine⟨⟨b0,i,v,r⟩,?_,q,u⟩;rw[show prog.cellsOf 35=3 by kernel_rfl]at hlen;have t0:cs[0]? =H (j4 b0):=IQ e0;have t1:cs[1]? =H (j3 i):=IQ B;have t2:cs[2]? =H v:=IQ e2;exact ZM87
structure LN(w:aA)(v:aF)(cs:List Chg):Prop where
 rd:eX aES TN 3 w v cs
 j5:∀c∈cs,eX dR aP 3 w c.rv c.row/\AP c.row
 len:O cs<=1048576
theorem LN.on{w:aA}{cs:List Chg}(h:LN w v cs)(a:U w [] w' S'):LN w' v cs:=⟨h.rd.on a,λc b=>⟨(h.j5 c b).1.on a,(h.j5 c b).2⟩,h.len⟩
theorem Rl{cs:List aF}{y:DataW qs}(h:DataW.trod enc prog w eE spare held n 26 cs=H (y,pl))(g:Rows.uptoBulk y<=1048576):∃v l,cs=[v]/\LN w v l:=by
 obtain⟨v,l,e,m,-,i,q,-⟩:=PP (f:=aES) (d:=TN) (G:=λc=>eX dR aP 3 w c.rv c.row/\AP c.row) (μ:=λ_=>0) underlying26 (show prog.cellsOf 35=3 by kernel_rfl) D
  (λn p y pl h b=>by
   let⟨c,e,c1,c2⟩:=Rm h b;refine⟨c,λj a=> ?_,⟨c1,c2⟩,Y⟩;rw[e];match j,a with
   |0,_=>rfl
   |1,_=>rfl
   |2,_=>rfl) h g
 exact⟨v,l,e,m,i,Y⟩
theorem uw{cs:List aF}{y:DataW qs}(h:DataW.trod enc prog w eE spare held n 67 cs=H (y,pl)):
  ∃t:jF,(∀j,j<4->cs[j]? =H (t.cell j))/\t.var.size<=Rows.uptoBulk y/\t.vY.eR.size<=Rows.uptoBulk y:=by
 let⟨c,n',C,a,e,b,d⟩:=DataW.trod_struct underlying67 h;let⟨u,g,i⟩:=zb d b 0 _ rfl rfl rfl (show prog.cellsOf 9=1 by kernel_rfl);let⟨p,m1,m⟩:=zb d b 1 _ rfl rfl rfl (show prog.cellsOf 65=3 by kernel_rfl);let⟨q,e0,l⟩:=KI i;obtain⟨x,v,-,B⟩:=Rk m;injection a with a _;subst a;have b0:=j6 (BB.2 ⟨_,rh g,rfl⟩:u.1∈c.map (·.1));have z:=j6 (BB.2 ⟨_,rh m1,rfl⟩:p.1∈c.map (·.1));simp only[Rows.uptoBulk];refine⟨⟨q,x⟩,λj r=> ?_,GJ,GJ⟩;have hd:∀k,k<3->cs[k+1]? =H (dR x k):=λk A=>by
  grind
 match j,r with
 |0,_=>exact IQ e0
 |1,_=>exact hd 0 D
 |2,_=>exact hd 1 D
 |3,_=>exact hd 2 D
theorem P'{cs:List aF}{y:DataW qs}(h:DataW.trod enc prog w eE spare held n 50 cs=H (y,pl))(a:Rows.uptoBulk y<=1048576):
  ∃v l,cs=[v]/\zB w v l/\O l<=Rows.uptoBulk y/\∀t∈l,t.var.size<=1048576/\t.vY.eR.size<=1048576:=by
 obtain⟨v,l,e,j,-,i,g,-⟩:=PP (f:=jF.cell) (d:=qc) (G:=λt=>t.var.size<=1048576/\t.vY.eR.size<=1048576) (μ:=λ_=>0) underlying50 (show prog.cellsOf 67=4 by kernel_rfl) D
  (λn c y pl h b=>by
   grind [uw]) h a
 grind
theorem U'{cs:List aF}{y:DataW qs}(h:DataW.trod enc prog w eE spare held n 23 cs=H (y,pl))(r:Rows.uptoBulk y<=1048576):
  ∃v,∃l:List ((dU×aF)×oL),cs=[v]/\eX (λx=>vW x.1) qc 2 w v l/\(∀x∈l,x.1.1=x.2.rel/\zB w x.1.2 x.2.aS/\∀s∈x.2.CU,s.size<=1048576)/\O l<=1048576/\(l.map λx=>O x.2.aS).sum<=1048576:=by
 obtain⟨v,l,e,S,-,R,P,L⟩:=PP (f:=λx:(dU×aF)×oL=>vW x.1) (d:=qc) (G:=λx=>x.1.1=x.2.rel/\zB w x.1.2 x.2.aS/\∀s∈x.2.CU,s.size<=1048576) (μ:=λx=>O x.2.aS) underlying23 (show prog.cellsOf 52=2 by kernel_rfl) D
  (λn k y pl h p=>by
   let⟨c,n',T,a,i,b,g⟩:=DataW.trod_struct underlying52 h;let⟨o,q,u⟩:=zb g b 0 _ rfl rfl rfl (show prog.cellsOf 9=1 by kernel_rfl);let⟨B,m1,A⟩:=zb g b 1 _ rfl rfl rfl (show prog.cellsOf 50=1 by kernel_rfl);let⟨m,e0,z⟩:=KI u;injection a with a _;subst a;have b0:=j6 (BB.2 ⟨_,rh q,rfl⟩:o.1∈c.map (·.1));have Q:=j6 (BB.2 ⟨_,rh m1,rfl⟩:B.1∈c.map (·.1));simp only[Rows.uptoBulk]at p|-;let⟨tv,tl,C,t1,t2,N⟩:=P' A Y;refine⟨((m,tv),⟨m,tl⟩),λj F=> ?_,⟨rfl,t1,λs hs=> ?_⟩,GJ⟩
   .match j,F with
    |0,_=>exact IQ e0
    |1,_=>exact IQ C
   grind [oL.CU]) h r
 grind
theorem Hp{α β:Type}(g:α->β)(l:List α)(d:α)(e:β)(h:i<O l):ep (l.map g) i e=g (ep l i d):=by
 grind
theorem R'{cs:List aF}{y:DataW qs}(h:DataW.trod enc prog w eE spare held n 25 cs=H (y,pl))(N:Rows.uptoBulk y<=1048576):
  ∃(q:bB) (hv av:aF) (ps:List (dU×aF)),cs=[j3 q.name,hv,av]/\B9 w hv av ps q/\CM hv:=by
 let⟨l,n',Dz,p,hlen,m,r⟩:=DataW.trod_struct underlying25 h;let⟨F,L,v⟩:=zb r m 0 _ rfl rfl rfl (show prog.cellsOf 9=1 by kernel_rfl);let⟨Q,m1,P⟩:=zb r m 1 _ rfl rfl rfl (show prog.cellsOf 22=1 by kernel_rfl);let⟨S,z,o⟩:=zb r m 2 _ rfl rfl rfl (show prog.cellsOf 23=1 by kernel_rfl);let⟨u,e0,k⟩:=KI v;injection p with p _;subst p;have b0:=j6 (BB.2 ⟨_,rh L,rfl⟩:F.1∈l.map (·.1));have W:=j6 (BB.2 ⟨_,rh m1,rfl⟩:Q.1∈l.map (·.1));have b2:=j6 (BB.2 ⟨_,rh z,rfl⟩:S.1∈l.map (·.1));simp only[Rows.uptoBulk]at N;obtain⟨hv,hl,R,C,iW,A,h4,-⟩:=PP (f:=xR) (d:=bO) (G:=λs=>s.size<=1048576) (μ:=λ_=>0) underlying22 (show prog.cellsOf 9=1 by kernel_rfl) D
  (λn An y pl h T=>by
   let⟨s,e,hs⟩:=KI h;refine⟨s,λj hj=> ?_,Y,Y⟩;obtain rfl:j=0:=Y;rw[e];rfl) P (B:=1048576) Y
 let⟨av,al,e2,a1,a2,a3,a4⟩:=U' o Y;have gH:∀i,i<O al->ep (al.map (·.2)) i qc=(ep al i qc).2/\ep (al.map (·.1)) i qc=(ep al i qc).1:=λi g=>⟨Hp _ al qc qc g,Hp _ al qc qc g⟩;have V:∀i,i<O al->ep al i qc∈al:=λi g=>bM g;refine⟨⟨u,hl,al.map (·.2)⟩,hv,av,al.map (·.1),?_,⟨C,?_,X,λi g=> ?_,⟨GJ,GJ,?_,λs hs=> ?_⟩⟩,iW⟩
 .rw[show prog.cellsOf 25=3 by kernel_rfl]at hlen;have t0:cs[0]? =H (j3 u):=IQ e0;have t1:cs[1]? =H hv:=IQ R;have t2:cs[2]? =H av:=IQ e2;exact ZM87
 .grind [eX,Rd.congr]
 .grind
 .grind [List.length_flatMap]
 .unfold bB.CU at hs;rcases AU.1 hs with e|hs
  .grind
  .rcases EY.1 hs with hs|hs
   .exact A s hs
   .let⟨a,ha,hs⟩:=List.mem_flatMap.1 hs;obtain⟨x,hx,rfl⟩:=BB.1 ha;grind
end
end
section
def LS(β x:Nat):Prop:=G3 β x\/x=1\/x=3\/x=5
theorem jl.ls(h:jl β x):LS β x:=by rcases h with h|h;exact .inl h;exact .inr (.inl h)
theorem AlW.ls3(h:AlW β 3 x):LS β x:=by rcases h with h|h;exact .inl h;exact .inr (.inr (.inl h))
theorem AlW.ls5(h:AlW β 5 x):LS β x:=by rcases h with h|h;exact .inl h;exact .inr (.inr (.inr h))
theorem aCa(h:x=0\/x=2\/x=4\/x=6\/x=7):¬LS 10 x:=by unfold LS G3;omega
theorem oU(h:x<10)(a:x≠1):¬jl 10 x:=by unfold jl G3;omega
theorem zX{t:Nat}(h:x<10)(a:x≠t):¬AlW 10 t x:=by unfold AlW G3;omega
structure oA(wa wr:aA)(ρ:aW)(q:bB)(b d cells N:Nat)(t:iZ):Prop where
 eW:bA wa (λ_=>0) (LS 10) wr ρ
 l8:wG wr ρ 10 b q cells t N N
 doc:Iu wr ρ 2 d (O (aB q).2.aK)
section
variable{wa wr w2:aA}{ρ fB:aW}{q:bB}{b d cells N:Nat}{t:iZ}
theorem oA.eF(h:oA wa wr ρ q b d cells N t):U wa [] wr []:=h.eW.aBe λ_ _=>aCa (.inl rfl)
theorem oA.on(h:oA wa wr ρ q b d cells N t)(a:bA wr ρ eL w2 fB):oA wa w2 fB q b d cells N t:=
 ⟨h.eW.dd (a.aN pW),h.l8.dg a zE,h.doc.dg a id⟩
theorem oA.row(h:oA wa wr ρ q b d cells N t){α:Type}{f:α->Nat->aF}{e:α}{l:List α}(a:eX f e sz wa v l):mK f e sz wr ρ 0 v l:=
 (show mK f e sz wa (λ_=>0) 0 v l from⟨a,λ_ _ _=>rfl⟩).dg h.eW (aCa (.inl rfl))
theorem oA.IG{R:iZ×Nat×Nat×Nat}(h:oA wa wr ρ q b d cells N t)(a:bA wr ρ (jl 10) w2 fB)(c:wG w2 fB 10 b q cells R.1 (N+1) (N+1)):oA wa w2 fB q b d cells (N+1) R.1:=
 ⟨h.eW.dd (a.aN λ_ h=>h.ls),c,h.doc.dg a (oU D D)⟩
theorem oA.told(h:oA wa wr ρ q b d cells N t)(c:x=3\/x=5)(e:bA wr ρ (AlW 10 x) w2 fB)(g:fR w2 fB 10 b q cells t.state t.fX t.T N N):oA wa w2 fB q b d cells N t:=
 ⟨h.eW.dd (e.aN λy a=>by rcases c with rfl|rfl;exact a.ls3;exact a.ls5),⟨g,h.l8.ok,h.l8.Oi,h.l8.num,h.l8.cel⟩,h.doc.dg e (zX D (by rcases c with rfl|rfl<;>decide))⟩
end
section
variable{q:bB}{cells:Nat}{t:iZ}{add:Bool}{rel:dU}{r:Row}{R:iZ×Nat×Nat×Nat}
theorem qm.oJ(h:qm q):wH (bJ (aB q).2) (λv=>(eU (aB q).2.aK v).cB) (λv=>(eU (aB q).2.aK v).bK):=h.wf.oJ
end
theorem DF{q:bB}{c:Int}(h:kS q c=0):(aB q).1=0:=by
 unfold kS at h;split at h
 .rename_i a;exact dS h a
 .rename_i a;exact zbT a
end
section
theorem ZM160{P:Prop}(h:P:=by
  go_in;go_wp2_with (first
   |(go_at_call 7;apply(xU (NO.on cM)).cL;intro w2 bH)
   |(go_at_call 6;apply JJ.cL;intro w1 cM))
  go_ret;exact⟨rfl,cR.dd (cM.dd bH)⟩):P:=h
theorem ZM55{P:Prop}(h:P:=by
  obtain⟨b0,b1,b2⟩:=Z3 kB;have HQ:=(h.on cR);have NO:=(hw.on cR);have JJ:=(Y2 65536 HQ NO he);exact ZM160):P:=h
theorem ZM77{P:Prop}(h:P:=by
  obtain rfl:k=m:=Y;go_wp2_with (go_at_call 7;apply(xU (NO.on HL.eF)).cL;intro w2 bH;have eM:=Z bH;clear bH);go_ret;exact⟨rfl,wU.dd (HL.eF.dd eM)⟩):P:=h
theorem ZM125{P:Prop}(h:P:=by
  go_wp2;go_roundg (m-(k+1))
  .exact⟨k+1,N+1,ρ4,R.1,HK,rfl,eO,Y,DY⟩
  have:=OR.o;have:=HK.o;omega):P:=h
theorem ZM137{P:Prop}(h:P:=by
  subst he;exact⟨_,rfl,XK (T:=4) Lc dB rfl rfl underlying4 V7 rfl hU.below⟩):P:=h
theorem ZM144{P:Prop}(h:P:=by
  exact(show prog.wantsStandIn t=po by simpa using Xa.1 FO t hm)):P:=h
open Go.ChangeShapes Go.WideShapes Go.ChangeAt Go.RowKit
section
variable{qs:Type}{enc:ap×aF->qs}{W:aA}{eE:Nat}{v:aF}{d:DataW qs}{p:List MemPlace}
theorem aUF{a b c:aF}(h:(Value.agg cs).cells.toList=[a,b,c]):Value.agg cs= .agg #[a,b,c]:=by
 simp only[Value.cells]at h;obtain⟨l⟩:=cs;simp only at h;rw[h]
theorem N8{t:ap}(a:P.underlying t=H (.struct fs))(h:Value.okWide P W .any eE t v):∃cs,v= .agg cs:=by
 unfold Value.okWide at h;rw[a]at h;obtain⟨cs,h,-⟩:=h;exact⟨cs,h⟩
theorem SU(b:Value.okWide prog W .any eE 25 v)(h:DataW.Trod enc prog W 0 (λ_=>oj) oj 25 v d p)(c:Rows.uptoBulk d<=1048576):∃(q:bB) (hv av:aF) (ps:List (dU×aF)),v= .agg #[j3 q.name,hv,av]/\B9 W hv av ps q/\CM hv:=by
 obtain⟨cs,rfl⟩:=N8 underlying25 b;obtain⟨fuel,a⟩:=h;let⟨q,hv,av,ps,e,g,i⟩:=R' a c;exact⟨q,hv,av,ps,aUF e,g,i⟩
theorem OM(a:Value.okWide prog W .any eE 26 v)(h:DataW.Trod enc prog W 0 (λ_=>oj) oj 26 v d p)(b:Rows.uptoBulk d<=1048576):∃cs,LN W v cs:=by
 obtain⟨a0,len,cap,rfl⟩:=okWide_slice underlying26 a;obtain⟨fuel,c⟩:=h;let⟨v,l,e,g⟩:=Rl c b;simp[Value.cells]at e;rw[e];exact⟨l,g⟩
end
theorem aTn:prog.globalNamed "math/bits.deBruijn32tab"=H 0:=by kernel_rfl
theorem aXR:(prog.globals[0]?).map (·.type)=H 256:=by kernel_rfl
theorem a0a:prog.cellsOf 256=32:=by kernel_rfl
theorem cU8:prog.cellsOf 5=1:=by kernel_rfl
def ny{qs:Type}:List (String×DataW qs):=[("math/bits.deBruijn32tab",Rows.laid_math_bits_deBruijn32tab)]
theorem aBh:∀i,i<32->([0,1,28,2,29,14,24,3,30,22,20,15,25,17,4,8,31,27,13,23,21,19,16,7,26,12,18,6,11,5,10,9]:List Int).getD i 0=(aB9.getD i 0:Int):=by decide
theorem Jd{W:aA}(h:laidMetH prog ny W):Tz W:=by
 have b:Lib.TabIs prog W "math/bits.deBruijn32tab" lr [0,1,28,2,29,14,24,3,30,22,20,15,25,17,4,8,31,27,13,23,21,19,16,7,26,12,18,6,11,5,10,9]:=
  Lib.tabIs_of_head (rest:=[]) aTn aXR underlying256 underlying5 cU8 a0a h
 intro i a;have:=b.cell aTn i a;rw[this,aBh i a]
noncomputable def xI(os:Os):aA:=
 {World.holding prog os ⟨#[],#[],[]⟩with heap:=(World.holding prog os ⟨#[],#[],[]⟩).heap.modify 0 fun
   |h8 _ t frozen=>h8 #[i6 lr 0,i6 lr 1,i6 lr 28,i6 lr 2,i6 lr 29,i6 lr 14,i6 lr 24,i6 lr 3,i6 lr 30,i6 lr 22,i6 lr 20,i6 lr 15,i6 lr 25,i6 lr 17,i6 lr 4,i6 lr 8,i6 lr 31,i6 lr 27,i6 lr 13,i6 lr 23,i6 lr 21,i6 lr 19,i6 lr 16,i6 lr 7,i6 lr 26,i6 lr 12,i6 lr 18,i6 lr 6,i6 lr 11,i6 lr 5,i6 lr 10,i6 lr 9] t frozen
   |o=>o}
theorem YG(a:Os)(args:Array aF):laidMet prog ny ((xI a).forCall (λ_ _=>0) ⟨#[],args,[]⟩).memory:=
 laidMet_of_run' 8 dB dB
end
end Go.Proofs.YtbcooplfakebmaaGreatDoor
