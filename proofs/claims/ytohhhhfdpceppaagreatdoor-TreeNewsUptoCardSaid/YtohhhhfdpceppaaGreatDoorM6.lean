/- Part of the proof that the tied card of a law of the tree holds; no condition is added. -/
import Derived.Test.YtohhhhfdpceppaaGreatDoorM5
namespace Go.Proofs.YtohhhhfdpceppaaGreatDoor
set_option maxHeartbeats 4000000
set_option maxRecDepth 100000
set_option linter.all false
open Go.RowKit Go.Maps Go.Proofs.Tryz Tryz
open _root_.Array renaming size→i7
open _root_.Bool renaming false→rR,true→qT
open _root_.Go.Ending renaming returned→mi
open _root_.Go.IntKind renaming i64→mn
open _root_.Go.Obj renaming cells→kd
open _root_.Go.Value renaming bool→nj,int→mj,pointer→lr,slice→jS,tuple→mr
open _root_.Go.World renaming alloc→i5,cell?→h8,setCell→hY
open _root_.List renaming getD→hJ,length→O,getElem_toArray→gz
open _root_.Option renaming none→K,some→H
open Go renaming World→aA,Value→aE,Calls→aK,TypeId→ap,Addr→cg
open Go.RowKit renaming Hid→dT
variable{F G b τ:Nat}{r:Row}{ρ:bC}{v:aE}{w:aA}
theorem ZM12{P:Prop}(h:P:=by
  obtain⟨X0,Di⟩:∃x,x=jS fa (O UC) fc:=⟨_,rfl⟩;obtain⟨X1,Dh⟩:∃x,x=jS ta (O XA) tc:=⟨_,rfl⟩;have pJ:bI w ρ (fU τ) w1 E5:=(kK.aL (T:=fU τ) nZ).ds (cT.fL (S:=fU τ));have NY:=pJ.ds hM;have E8:fD bm=τ+99:=(hM.cE bm (dG (cT.aC kI J))).ds mZ;have qP:=hM.aC (cT.aC tE.1 J) (by rw[tE.2];unfold fU eX;omega);have DI:=(hM.cE b (dG (cT.aC tE.1 J))).ds tE.2;have hq:=λ(x y:aE)=>(show bI w2 fD (·=τ+99) (hY (hY w2 (Ad bm 0) x) (Ad bm 1) y) fD from((bI.refl w2 fD _).setCell (a:=Ad bm 0) (.inl E8) x).setCell (a:=Ad bm 1) (.inl E8) y);have hN:=p9.eb ⟨lb,rb,_,qP,DI,HL.o⟩ (hq X0 X1) (λc hc=>Y);have uH:bI w ρ (fU τ) (hY (hY w2 (Ad bm 0) X0) (Ad bm 1) X1) fD:=(NY.setCell (a:=Ad bm 0) (.inr lX) _).setCell (a:=Ad bm 1) (.inr lX) _;have Kz:=ht;have xz:=Ts.eb (hq X0 X1) Y Y Y;subst Di Dh;refine mY (aW (A:=Ad bm 0) (T:=228) rfl Yr (v:= .agg #[jS fa (O UC) fc,jS ta (O XA) tc]) (by go_simp)) rfl ?_;exact⟨fD,uH,_,rfl,hN,xz⟩):P:=h
theorem ZM17{P:Prop}(h:P:=by
  obtain⟨X0,Di⟩:∃x,x=cR:=⟨_,rfl⟩;obtain⟨X1,Dh⟩:∃x,x=cR:=⟨_,rfl⟩;have pJ:bI w ρ (fU τ) w1 E5:=(kK.aL (T:=fU τ) nZ).ds (cT.fL (S:=fU τ));have NY:=pJ.ds hM;have E8:fD bm=τ+99:=(hM.cE bm (dG (cT.aC kI J))).ds mZ;have qP:=hM.aC (cT.aC tE.1 J) (by rw[tE.2];unfold fU eX;omega);have DI:=(hM.cE b (dG (cT.aC tE.1 J))).ds tE.2;have hq:=λ(x y:aE)=>(show bI w2 fD (·=τ+99) (hY (hY w2 (Ad bm 0) x) (Ad bm 1) y) fD from((bI.refl w2 fD _).setCell (a:=Ad bm 0) (.inl E8) x).setCell (a:=Ad bm 1) (.inl E8) y);have hN:=p9.eb ⟨lb,rb,_,qP,DI,HL.o⟩ (hq X0 X1) (λc hc=>Y);have uH:bI w ρ (fU τ) (hY (hY w2 (Ad bm 0) X0) (Ad bm 1) X1) fD:=(NY.setCell (a:=Ad bm 0) (.inr lX) _).setCell (a:=Ad bm 1) (.inr lX) _;subst Di Dh;refine mY (aW (A:=Ad bm 0) (T:=228) rfl Yr (v:=BF) (by go_simp)) rfl ?_;exact⟨fD,uH,rfl,hN⟩):P:=h
theorem ZM168{P:Prop}(h:P:=by
  cases sd with
  |false=>rfl
  |true=>exact dY (hr.2.2 rfl) Y):P:=h
def aHX(w:aA)(ρ:bC)(τ t b:Nat)(s:lV)(n:f7)(F G:Nat)(x:Except Nat (f7×R7))(e:Ending)(w':aA):Prop:=
 ∃bV,bI w ρ (fU τ) w' bV/\match x with
 | .error er=>e=mi (mr #[BF,mj mn (er:Int)])/\p9 w' bV τ b s n F G
 | .ok (n',m)=>∃mv,e=mi (mr #[mv,mj mn 0])/\p9 w' bV τ b s n' F G/\YS w' bV τ t mv m
theorem aEp{t tr:Nat}{s:lV}{n:f7}(sd:Bool)(h:p9 w ρ τ b s n F G)(hv:lW dV aR 3 w ρ tr v r)(pY:¬fU τ tr)(hr:qW s sd r)(Q:F+1<=G)(W:G<=1073741824)(ht:t<τ\/τ+100<=t):
  aK prog 112 #[lr (H ⟨b,0,K⟩),mj mn (DP sd),v] w (aHX w ρ τ t b s n F G (OF s n sd r)):=by
 obtain⟨lb,rb,iv,V,CC,hW⟩:=h;let⟨wa,dM⟩:=D (i5 w (kd #[cR,cR] 228));have cV:=Za dM;have kI:=Zb dM;let⟨bm,LE⟩:=D (i7 w.heap);have kK:bI w ρ eZ wa (up w.heap.size (τ+99) ρ):=cV.fK (S:=eZ) (τ+99) (λ_ h=>dY h J);have mZ:up w.heap.size (τ+99) ρ bm=τ+99:=cY Y;have N:=hv.eb kK id;have u:p9 wa (up w.heap.size (τ+99) ρ) τ b s n F G:=p9.eb ⟨lb,rb,iv,V,CC,hW⟩ kK vF;have pd:=kK.aC V id;have P:=(kK.cE b (dG V)).ds CC;have hWa:=hW.eb kK vF;let⟨E5,nC⟩:=D (up w.heap.size (τ+99) ρ);rw[nC]at kK mZ N u P hWa;rw[LE]at kI;have q:=Ka sd u N.1 hr;have lX:=(show i7 w.heap<=bm by omega);rcases hWa with⟨L,kb,rfl,KE,rE,g⟩|⟨L,kb,cm,rfl,g⟩|⟨L,kb,sb,db,rfl,g⟩
 .obtain rfl:sd=rR:=ZM168;have i:=(λwz (k:U wa [] wz [])=>aFO (n:=n) (r:=r) (t:=t) (DP rR) L (k.aC KE J) rE (g.eb (S:=eZ) k.fL id vF) (N.eb (S:=eZ) k.fL id) pY hr Q W ht);clear KE rE;obtain⟨va,vc,rfl,-⟩:=hv.len;have tE:=(eI pd P);clear V CC hW cV N u pd P nC g hv pY hr Q W L;cases l:OF s n rR r with
  |error er=>
   rw[l]at i;clear l;go_in;go_upto_region 2 with(go_at_call 151;apply q.dC;intro w1 cT);have j:=cT.aC tE.1 J;obtain⟨k0,k1⟩:=Z2 j;have z:=(i w1 cT);clear j i;go_wp2_with (go_at_call 266;apply z.cX;rintro e w2 ⟨fD,hM,rfl,g⟩;have d:=hM.aC (cT.aC kI J) (by rw[mZ];unfold fU eX;omega);obtain⟨z0,z1⟩:=Z2 d;have zf:=aN d;have zl:=iP (dG d);have HL:=Z g;clear g d);exact ZM17
  |ok p=>
   obtain⟨n',m⟩:=p;rw[l]at i;clear l;go_in;go_upto_region 2 with(go_at_call 151;apply q.dC;intro w1 cT);have j:=cT.aC tE.1 J;obtain⟨k0,k1⟩:=Z2 j;have z:=(i w1 cT);clear j i;go_wp2_with (go_at_call 266;apply z.cX;rintro e w2 ⟨fD,hM,mv,rfl,g,hV⟩;obtain⟨fv,tv,t1,t2,rfl,o,e2,C,B⟩:=hV;have R1:=C;have YJ:=B;obtain⟨UC,c1,c2,c3⟩:=R1;obtain⟨XA,d1,f,d3⟩:=YJ;obtain⟨fa,fc,rfl,-⟩:=c2.1.len;obtain⟨ta,tc,rfl,-⟩:=f.1.len;have Ts:=(show YS w2 fD τ t _ _ from⟨_,_,t1,t2,rfl,o,e2,C,B⟩);clear o e2 C B c1 c2 c3 d1 f d3;have d:=hM.aC (cT.aC kI J) (by rw[mZ];unfold fU eX;omega);obtain⟨z0,z1⟩:=Z2 d;have zf:=aN d;have zl:=iP (dG d);have HL:=Z g;clear g d);exact ZM12
 .obtain rfl:sd=rR:=ZM168;have i:=(λwz (k:U wa [] wz [])=>aEB (n:=n) (r:=r) (t:=t) (DP rR) L (g.eb (S:=eZ) k.fL id id vF) (N.eb (S:=eZ) k.fL id) hr Q W ht);obtain⟨va,vc,rfl,-⟩:=hv.len;have tE:=(eI pd P);clear V CC hW cV N u pd P nC g hv pY hr Q W L;cases l:OF s n rR r with
  |error er=>
   rw[l]at i;clear l;go_in;go_upto_region 2 with(go_at_call 151;apply q.dC;intro w1 cT);have j:=cT.aC tE.1 J;obtain⟨k0,k1⟩:=Z2 j;have z:=(i w1 cT);clear j i;go_wp2_with (go_at_call 297;apply z.cX;rintro e w2 ⟨fD,hM,rfl,g⟩;have d:=hM.aC (cT.aC kI J) (by rw[mZ];unfold fU eX;omega);obtain⟨z0,z1⟩:=Z2 d;have zf:=aN d;have zl:=iP (dG d);have HL:=Z g;clear g d);exact ZM17
  |ok p=>
   obtain⟨n',m⟩:=p;rw[l]at i;clear l;go_in;go_upto_region 2 with(go_at_call 151;apply q.dC;intro w1 cT);have j:=cT.aC tE.1 J;obtain⟨k0,k1⟩:=Z2 j;have z:=(i w1 cT);clear j i;go_wp2_with (go_at_call 297;apply z.cX;rintro e w2 ⟨fD,hM,mv,rfl,g,hV⟩;obtain⟨fv,tv,t1,t2,rfl,o,e2,C,B⟩:=hV;have R1:=C;have YJ:=B;obtain⟨UC,c1,c2,c3⟩:=R1;obtain⟨XA,d1,f,d3⟩:=YJ;obtain⟨fa,fc,rfl,-⟩:=c2.1.len;obtain⟨ta,tc,rfl,-⟩:=f.1.len;have Ts:=(show YS w2 fD τ t _ _ from⟨_,_,t1,t2,rfl,o,e2,C,B⟩);clear o e2 C B c1 c2 c3 d1 f d3;have d:=hM.aC (cT.aC kI J) (by rw[mZ];unfold fU eX;omega);obtain⟨z0,z1⟩:=Z2 d;have zf:=aN d;have zl:=iP (dG d);have HL:=Z g;clear g d);exact ZM12
 .have i:=(λwz (k:U wa [] wz [])=>aFC (n:=n) (r:=r) (t:=t) sd L (g.eb (S:=eZ) k.fL id (λ_ _ _ h=>h)) (N.eb (S:=eZ) k.fL id) pY hr Q W ht);obtain⟨va,vc,rfl,-⟩:=hv.len;have tE:=(eI pd P);clear V CC hW cV N u pd P nC g hv pY hr Q W L;cases l:OF s n sd r with
  |error er=>
   rw[l]at i;clear l;go_in;go_upto_region 2 with(go_at_call 151;apply q.dC;intro w1 cT);have j:=cT.aC tE.1 J;obtain⟨k0,k1⟩:=Z2 j;have z:=(i w1 cT);clear j i;go_wp2_with (go_at_call 302;apply z.cX;rintro e w2 ⟨fD,hM,rfl,g⟩;have d:=hM.aC (cT.aC kI J) (by rw[mZ];unfold fU eX;omega);obtain⟨z0,z1⟩:=Z2 d;have zf:=aN d;have zl:=iP (dG d);have HL:=Z g;clear g d);exact ZM17
  |ok p=>
   obtain⟨n',m⟩:=p;rw[l]at i;clear l;go_in;go_upto_region 2 with(go_at_call 151;apply q.dC;intro w1 cT);have j:=cT.aC tE.1 J;obtain⟨k0,k1⟩:=Z2 j;have z:=(i w1 cT);clear j i;go_wp2_with (go_at_call 302;apply z.cX;rintro e w2 ⟨fD,hM,mv,rfl,g,hV⟩;obtain⟨fv,tv,t1,t2,rfl,o,e2,C,B⟩:=hV;have R1:=C;have YJ:=B;obtain⟨UC,c1,c2,c3⟩:=R1;obtain⟨XA,d1,f,d3⟩:=YJ;obtain⟨fa,fc,rfl,-⟩:=c2.1.len;obtain⟨ta,tc,rfl,-⟩:=f.1.len;have Ts:=(show YS w2 fD τ t _ _ from⟨_,_,t1,t2,rfl,o,e2,C,B⟩);clear o e2 C B c1 c2 c3 d1 f d3;have d:=hM.aC (cT.aC kI J) (by rw[mZ];unfold fU eX;omega);obtain⟨z0,z1⟩:=Z2 d;have zf:=aN d;have zl:=iP (dG d);have HL:=Z g;clear g d);exact ZM12
theorem ws{t tr:Nat}{s:lV}{n:f7}(sd:Bool)(h:p9 w ρ τ b s n F G)(hv:lW dV aR 3 w ρ tr v r)(pY:¬fU τ tr)(hr:qW s sd r)(Q:G<=F)(W:G<1073741824)(ht:t<τ\/τ+100<=t):
  aK prog 111 #[lr (H ⟨b,0,K⟩),mj mn (DP sd),v] w (aHX w ρ τ t b s n F G (uN s n sd r)):=by
 obtain⟨lb,rb,iv,V,CC,hW⟩:=h;let⟨wa,dM⟩:=D (i5 w (kd #[cR,cR] 228));have cV:=Za dM;have kI:=Zb dM;let⟨bm,LE⟩:=D (i7 w.heap);have kK:bI w ρ eZ wa (up w.heap.size (τ+99) ρ):=cV.fK (S:=eZ) (τ+99) (λ_ h=>dY h J);have mZ:up w.heap.size (τ+99) ρ bm=τ+99:=cY Y;have N:=hv.eb kK id;have u:p9 wa (up w.heap.size (τ+99) ρ) τ b s n F G:=p9.eb ⟨lb,rb,iv,V,CC,hW⟩ kK vF;have pd:=kK.aC V id;have P:=(kK.cE b (dG V)).ds CC;have hWa:=hW.eb kK vF;let⟨E5,nC⟩:=D (up w.heap.size (τ+99) ρ);rw[nC]at kK mZ N u P hWa;rw[LE]at kI;have q:=Ka sd u N.1 hr;have lX:=(show i7 w.heap<=bm by omega);rcases hWa with⟨L,kb,rfl,KE,rE,g⟩|⟨L,kb,cm,rfl,g⟩|⟨L,kb,sb,db,rfl,g⟩
 .obtain rfl:sd=rR:=ZM168;have i:=(λwz (k:U wa [] wz [])=>aB3 (n:=n) (r:=r) (t:=t) (DP rR) L (k.aC KE J) rE (g.eb (S:=eZ) k.fL id vF) (N.eb (S:=eZ) k.fL id) pY hr Q W ht);clear KE rE;obtain⟨va,vc,rfl,-⟩:=hv.len;have tE:=(eI pd P);clear V CC hW cV N u pd P nC g hv pY hr Q W L;cases l:uN s n rR r with
  |error er=>
   rw[l]at i;clear l;go_in;go_upto_region 2 with(go_at_call 151;apply q.dC;intro w1 cT);have j:=cT.aC tE.1 J;obtain⟨k0,k1⟩:=Z2 j;have z:=(i w1 cT);clear j i;go_wp2_with (go_at_call 265;apply z.cX;rintro e w2 ⟨fD,hM,rfl,g⟩;have d:=hM.aC (cT.aC kI J) (by rw[mZ];unfold fU eX;omega);obtain⟨z0,z1⟩:=Z2 d;have zf:=aN d;have zl:=iP (dG d);have HL:=Z g;clear g d);exact ZM17
  |ok p=>
   obtain⟨n',m⟩:=p;rw[l]at i;clear l;go_in;go_upto_region 2 with(go_at_call 151;apply q.dC;intro w1 cT);have j:=cT.aC tE.1 J;obtain⟨k0,k1⟩:=Z2 j;have z:=(i w1 cT);clear j i;go_wp2_with (go_at_call 265;apply z.cX;rintro e w2 ⟨fD,hM,mv,rfl,g,hV⟩;obtain⟨fv,tv,t1,t2,rfl,o,e2,C,B⟩:=hV;have R1:=C;have YJ:=B;obtain⟨UC,c1,c2,c3⟩:=R1;obtain⟨XA,d1,f,d3⟩:=YJ;obtain⟨fa,fc,rfl,-⟩:=c2.1.len;obtain⟨ta,tc,rfl,-⟩:=f.1.len;have Ts:=(show YS w2 fD τ t _ _ from⟨_,_,t1,t2,rfl,o,e2,C,B⟩);clear o e2 C B c1 c2 c3 d1 f d3;have d:=hM.aC (cT.aC kI J) (by rw[mZ];unfold fU eX;omega);obtain⟨z0,z1⟩:=Z2 d;have zf:=aN d;have zl:=iP (dG d);have HL:=Z g;clear g d);exact ZM12
 .obtain rfl:sd=rR:=ZM168;have i:=(λwz (k:U wa [] wz [])=>aAV (n:=n) (r:=r) (t:=t) (DP rR) L (g.eb (S:=eZ) k.fL id id vF) (N.eb (S:=eZ) k.fL id) hr Q W ht);obtain⟨va,vc,rfl,-⟩:=hv.len;have tE:=(eI pd P);clear V CC hW cV N u pd P nC g hv pY hr Q W L;cases l:uN s n rR r with
  |error er=>
   rw[l]at i;clear l;go_in;go_upto_region 2 with(go_at_call 151;apply q.dC;intro w1 cT);have j:=cT.aC tE.1 J;obtain⟨k0,k1⟩:=Z2 j;have z:=(i w1 cT);clear j i;go_wp2_with (go_at_call 296;apply z.cX;rintro e w2 ⟨fD,hM,rfl,g⟩;have d:=hM.aC (cT.aC kI J) (by rw[mZ];unfold fU eX;omega);obtain⟨z0,z1⟩:=Z2 d;have zf:=aN d;have zl:=iP (dG d);have HL:=Z g;clear g d);exact ZM17
  |ok p=>
   obtain⟨n',m⟩:=p;rw[l]at i;clear l;go_in;go_upto_region 2 with(go_at_call 151;apply q.dC;intro w1 cT);have j:=cT.aC tE.1 J;obtain⟨k0,k1⟩:=Z2 j;have z:=(i w1 cT);clear j i;go_wp2_with (go_at_call 296;apply z.cX;rintro e w2 ⟨fD,hM,mv,rfl,g,hV⟩;obtain⟨fv,tv,t1,t2,rfl,o,e2,C,B⟩:=hV;have R1:=C;have YJ:=B;obtain⟨UC,c1,c2,c3⟩:=R1;obtain⟨XA,d1,f,d3⟩:=YJ;obtain⟨fa,fc,rfl,-⟩:=c2.1.len;obtain⟨ta,tc,rfl,-⟩:=f.1.len;have Ts:=(show YS w2 fD τ t _ _ from⟨_,_,t1,t2,rfl,o,e2,C,B⟩);clear o e2 C B c1 c2 c3 d1 f d3;have d:=hM.aC (cT.aC kI J) (by rw[mZ];unfold fU eX;omega);obtain⟨z0,z1⟩:=Z2 d;have zf:=aN d;have zl:=iP (dG d);have HL:=Z g;clear g d);exact ZM12
 .have i:=(λwz (k:U wa [] wz [])=>aBQ (n:=n) (r:=r) (t:=t) sd L (g.eb (S:=eZ) k.fL id (λ_ _ _ h=>h)) (N.eb (S:=eZ) k.fL id) pY hr Q W ht);obtain⟨va,vc,rfl,-⟩:=hv.len;have tE:=(eI pd P);clear V CC hW cV N u pd P nC g hv pY hr Q W L;cases l:uN s n sd r with
  |error er=>
   rw[l]at i;clear l;go_in;go_upto_region 2 with(go_at_call 151;apply q.dC;intro w1 cT);have j:=cT.aC tE.1 J;obtain⟨k0,k1⟩:=Z2 j;have z:=(i w1 cT);clear j i;go_wp2_with (go_at_call 301;apply z.cX;rintro e w2 ⟨fD,hM,rfl,g⟩;have d:=hM.aC (cT.aC kI J) (by rw[mZ];unfold fU eX;omega);obtain⟨z0,z1⟩:=Z2 d;have zf:=aN d;have zl:=iP (dG d);have HL:=Z g;clear g d);exact ZM17
  |ok p=>
   obtain⟨n',m⟩:=p;rw[l]at i;clear l;go_in;go_upto_region 2 with(go_at_call 151;apply q.dC;intro w1 cT);have j:=cT.aC tE.1 J;obtain⟨k0,k1⟩:=Z2 j;have z:=(i w1 cT);clear j i;go_wp2_with (go_at_call 301;apply z.cX;rintro e w2 ⟨fD,hM,mv,rfl,g,hV⟩;obtain⟨fv,tv,t1,t2,rfl,o,e2,C,B⟩:=hV;have R1:=C;have YJ:=B;obtain⟨UC,c1,c2,c3⟩:=R1;obtain⟨XA,d1,f,d3⟩:=YJ;obtain⟨fa,fc,rfl,-⟩:=c2.1.len;obtain⟨ta,tc,rfl,-⟩:=f.1.len;have Ts:=(show YS w2 fD τ t _ _ from⟨_,_,t1,t2,rfl,o,e2,C,B⟩);clear o e2 C B c1 c2 c3 d1 f d3;have d:=hM.aC (cT.aC kI J) (by rw[mZ];unfold fU eX;omega);obtain⟨z0,z1⟩:=Z2 d;have zf:=aN d;have zl:=iP (dG d);have HL:=Z g;clear g d);exact ZM12
section
theorem ZM124{P:Prop}(h:P:=by
  go_in;go_wp2_with (go_at_call 84;apply HR.dC;rintro w1 rfl);go_ret;exact⟨rfl,U.refl _ _⟩):P:=h
section
variable{w w':aA}{ρ bV:bC}{τ t lb rb b F G:Nat}{s:lV}{n:f7}{iv:aE}
theorem zW.vR(h:zW w ρ τ lb rb s n F G iv)(a:bI w ρ (eX (τ+20)) w' bV)(c:L6 w' bV (τ+20) rb s.bT s.aH [s.up] n.aM F G):zW w' bV τ lb rb s n F G iv:=by
 have i:¬eX (τ+20) τ:=by unfold eX;omega
 rcases h with⟨b,kb,e,g,d,h⟩|⟨b,kb,cm,e,h⟩|⟨b,kb,sb,db,e,h⟩
 .exact .inl ⟨b,kb,e,a.aC g (d▸i),(a.cE kb (dG g)).ds d,h.xI a c⟩
 .obtain⟨m,l,j⟩:=h.T9;exact .inr (.inl ⟨b,kb,cm,e,h.M1 (a.aL (λ_ h=> .inl h)) c (l.eb a (by rw[h.T7];unfold eX;omega)) j h.ok h.oE⟩)
 .exact .inr (.inr ⟨b,kb,sb,db,e,h.M1 a c⟩)
def aRB(w:aA)(ρ:bC)(τ lb rb:Nat)(s:lV)(n:f7)(F G:Nat)(iv:aE)(bEs:aA->bC->aE->Prop)(e:Ending)(w':aA):Prop:=
 ∃bV v,e=mi v/\bI w ρ (eX (τ+20)) w' bV/\zW w' bV τ lb rb s n F G iv/\bEs w' bV v
theorem aOn(h:zW w ρ τ lb rb s n F G iv)(r:t<τ\/τ+100<=t):
  aK prog 44 #[lr (H ⟨lb,0,K⟩)] w (aRB w ρ τ lb rb s n F G iv λw' bV v=>QO w' bV (τ+27) t v n.aM):=by
 obtain⟨⟨u,p,q,sc,ua,uc,l,-,-⟩,-,g,-⟩:=h.lv;have i:=(aJA (t:=t) g (λc x=>Y));have m:=Z h;have l6:=Zc l 6;go_in;go_wp2_with (go_at_call 85;apply i.cX;rintro e w1 ⟨dX,v,rfl,a,d,b⟩;have j:=Z d);go_ret;exact⟨dX,_,rfl,a,m.vR a j,b⟩
theorem kr(h:p9 w ρ τ b s n F G):
  aK prog 42 #[lr (H ⟨b,0,K⟩)] w λe w'=>e=mi (mj mn (lI s n:Int))/\U w [] w' []:=by
 obtain⟨lb,rb,iv,c,x,j⟩:=h;obtain⟨⟨y,r,u,sc,ua,uc,q,-,-⟩,-,l,-⟩:=j.lv;have HR:=(Nq l);have l6:=Zc q 6;rcases j with⟨a,kb,rfl,-⟩|⟨a,kb,cm,rfl,-⟩|⟨a,kb,sb,db,rfl,i⟩
 .have hs:lI s n=O n.aM:=by unfold lI;rw[R Y]
  rw[hs];obtain⟨d,g⟩:=Z2 c;have ta:∀w,(Instr.typeAssert (.iface 186 (Pt kb)) 121 193 qT).run prog w= .ok (mr #[lr K,nj rR]) w:=λ_=>by kernel_rfl
  exact ZM124
 .have hs:lI s n=O n.aM:=by unfold lI;rw[R Y]
  rw[hs];obtain⟨d,g⟩:=Z2 c;have ta:∀w,(Instr.typeAssert (.iface 189 (Pt kb)) 121 193 qT).run prog w= .ok (mr #[lr K,nj rR]) w:=λ_=>by kernel_rfl
  exact ZM124
 .have hs:lI s n=O n.fJ:=by unfold lI;rw[bW a]
  rw[hs];have p:=(Nq i.fJ);have m:=i.cF;obtain⟨d,g⟩:=Z2 c;have ta:∀w,(Instr.typeAssert (.iface 193 (Pt kb)) 121 193 qT).run prog w= .ok (mr #[Pt kb,nj qT]) w:=λ_=>by kernel_rfl
  obtain⟨v,m1⟩:=Z2 m;go_in;go_wp2_with (go_at_call 84;apply p.dC;rintro w1 rfl);go_ret;exact⟨rfl,U.refl _ _⟩
end
end
variable{f8:List Nat}{i j n:Nat}{cv:aE}
theorem ZM149{P:Prop}(h:P:=by
  go_in;go_wp2;go_ret;first|exact⟨rfl,hU⟩|exact⟨rfl,(U.refl w []).alloc _⟩):P:=h
theorem A3.at{l:List Nat}(h:A3 l n)(b:i<j)(a:j<O l):hJ l i 0<hJ l j 0:=by
 have:=List.pairwise_iff_getElem.1 h.1 i j Y a b;rw[gV,gV,kU (show i<O l by omega),kU a];exact this
theorem D5{wd:Nat}(h:fM fN 0 1 w cv f8)(g:A3 f8 wd)(y:wd<=1000):
  aK prog 128 #[cv,mj mn (wd:Int)] w λe w'=>e=mi (nj qT)/\U w [] w' []:=by
 have l:=g.len;obtain⟨a,cap,rfl,-⟩:=h.len;go_in;go_wp2;go_loopg [5,10] (O f8) (λp n b wr=>wr=w/\∃(k:Nat) (z:Int),k<=O f8/\p=O f8-k/\b=X k/\n=X z/\∀j,k<=j->j<O f8->z<(f8.getD j 0:Int))
 .exact⟨rfl,0,-1,Y,rfl,rfl,rfl,λj _ _=>Y⟩
 obtain⟨rfl,k,z,v,rfl,rfl,rfl,q⟩:=hrel;by_cases i:k<O f8
 .let⟨r,o,cap',hv,m⟩:=h.FC i;obtain rfl:=IK hv;generalize c:hJ f8 k 0=x at m;simp only[fN]at m;have C:¬(x:Int)<=z:=by have:=q k (fV _) i;rw[c]at this;omega
  have u:¬(wd:Int)<=(x:Int):=by
   have:=g.2 _ (bO (d:=0) i);rw[c]at this;omega
  have A:¬wd<=x:=Y;go_wp2;go_roundg (O f8-(k+1))
  .exact⟨rfl,k+1,x,Y,rfl,eY,rfl,λj B hl=>by have:=g.at (show k<j by omega) hl;have:=c;omega⟩
  omega
 .go_wp2;go_ret;exact⟨rfl,U.refl _ _⟩
def nO(s:lV)(ka:Option cg)(kc:Nat)(sa:Option cg)(sc:Nat)(ua:Option cg)(uc:Nat):aE:=
 .agg #[mj mn s.aG,mj mn s.kJ,jS ka (O s.eb) kc,jS sa (O s.bP) sc,jS ua (O s.up) uc,mj mn s.aH]
theorem GI(w:aA)(s:lV)(c:Option cg)(a:Nat)(b:Option cg)(sc:Nat)(ua:Option cg)(uc:Nat):
  aK prog 82 #[nO s c a b sc ua uc] w λe w'=>e=mi (mj mn (s.bT:Int))/\U w [] w' []:=by
 unfold nO;let⟨wa,g⟩:=D (i5 w (kd #[X s.aG,X s.kJ,jS c (O s.eb) a,jS b (O s.bP) sc,jS ua (O s.up) uc,X s.aH] 114));have hU:=Za g;have j:=Zb g;obtain⟨b0,l,b2⟩:=Z3 j;by_cases d:s.aG=2
 .have hs:s.bT=O s.eb:=by unfold lV.bT;rw[bW d]
  rw[hs];have i:(s.aG:Int)=2:=Y;exact ZM149
 .have hs:s.bT=s.kJ:=by unfold lV.bT;rw[R d]
  rw[hs];have i:¬(s.aG:Int)=2:=Y;exact ZM149
theorem ZM189{P:Prop}(h:P:=by
  rw[MQ]at Q|-;have To:=Z WP;clear MQ WP;refine ek [0,1,2,3,4,5,6,7,8,9,10,11,12,13,14,15,16,17,18,19,20,21,22,23,24,25,27,26] ?_;refine sI (i:=28) dJ rfl dJ (λvm hK=> ?_);(try simp only[List.getElem_toArray,Tw,Tx]);go_simp;go_at_call 82;have Pq:=GI we s ka kc sa sc ua uc;unfold nO at Pq;refine Calls.mono Pq ?_;clear Pq;rintro e w5 ⟨rfl,cO⟩;dsimp only;replace Q:=cO.zh6 Q;have gN:=Z cO;clear cO;refine j5 ?_;clear hK vm;refine sI (i:=29) dJ rfl dJ (λvm hK=> ?_);(try simp only[List.getElem_toArray,Tw,Tx]);go_simp;go_at_call 128;refine(D5 (((HPQ.o.on To.o)).on gN.o) L9.o.up (kX HWD.o)).mono ?_;rintro e w6 ⟨rfl,dR⟩;dsimp only;replace Q:=dR.zh6 Q;have lM:=Z dR;clear dR;refine j5 ?_;clear hK vm;refine ek [30,31] ?_;refine bD dJ ?_ _;clear Q;go_wp2;go_ret;exact⟨rfl,((LI.o.ds To.o).ds gN.o).ds lM.o⟩):P:=h
theorem ZM7{P:Prop}(h:P:=by
  have LI:=Z (eQ.o.ds iF.o);have HBQ:=QS;have HPQ:=Z ((Ry.o.on o9.o).on iF.o);try clear c1 c2
  have Tf:=HBQ.o;clear b0 b1 b2 b3 b4 b5;obtain⟨b0,b1,b2,b3,b4,b5⟩:=Z6 Tf;clear Tf;refine e7 99 (ez b0<|ez b1<|ez b2<|ez b3<|ez b4<|ey b5) (λQ=> ?_);clear b0 b1 b2 b3 b4 b5;let⟨we,MQ⟩:=D (w3.drew);have WP:U w3 [] we []:=A1 MQ;exact ZM189):P:=h
theorem aES(w:aA)(s:lV)(ka:Option cg)(kc:Nat)(sa:Option cg)(sc:Nat)(ua:Option cg)(uc:Nat)(A:QN s)(b:fM fN 0 1 w (jS ka (O s.eb) kc) s.eb)(hs:fM fN 0 1 w (jS sa (O s.bP) sc) s.bP)(C:fM fN 0 1 w (jS ua (O s.up) uc) s.up):
  aK prog 79 #[nO s ka kc sa sc ua uc] w λe w'=>e=mi (nj qT)/\U w [] w' []:=by
 unfold nO;let⟨wa,B⟩:=D (i5 w (kd #[X s.aG,X s.kJ,jS ka (O s.eb) kc,jS sa (O s.bP) sc,jS ua (O s.up) uc,X s.aH] 114));let⟨bx,L⟩:=D (i7 w.heap);have l:=Za B;have y:=Ze B L;obtain⟨b0,b1,b2,b3,b4,b5⟩:=Z6 y;have k:=Z l;have N:=Z (b.on l);have G:=Z (hs.on l);have Ry:=Z (C.on l);have L9:=Z A;have F:=Z y;clear A b hs C l;go_in;go_upto_region 1 with(fail);clear y;refine e7 99 (ez b2<|ey b3) (λQ=> ?_);refine ek [0,4,1,5,2,6,3,8,7,9] ?_;refine bD dJ ?_ _;clear Q;let⟨wd,z⟩:=D (wa.drew);have r:U wa [] wd []:=A1 z;rw[z];have v:=r.aC F.o J;have o9:=Z r;have eQ:=Z (k.o.ds r);clear z r b0 b1 b2 b3 b4 b5;obtain⟨b0,b1,b2,b3,b4,b5⟩:=Z6 v;have x:=Z v;have P:(0:Int)<=(s.kJ:Int):=Y;have W:(s.kJ:Int)<=30:=kX L9.o.kJ;have S:(1:Int)<=(s.aH:Int):=kX L9.o.aH.1;have V:(s.aH:Int)<=65536:=kX L9.o.aH.2;have f:s.kJ<=30:=L9.o.kJ;have j3:1<=s.aH:=L9.o.aH.1;have j4:s.aH<=65536:=L9.o.aH.2;have HWD:=Z (show s.bT<=1000 by
  have a:=L9.o.eb;unfold lV.bT;split
  .rename_i h;rw[bW h]at a;have:=a.2;omega
  .omega)
 have a:=L9.o.eb;have c:=L9.o.bP;clear v;rcases L9.o.aG with b|b|b
 .rw[R Y]at a c;have j:((O s.eb:Int)==0)=qT:=by rw[a];rfl
  have q:((O s.bP:Int)==0)=qT:=by rw[c];rfl
  have p:((s.aG:Int)==1)=qT:=by rw[show((1:Int))=((1:Nat):Int)from rfl,dH];exact kY Y
  have n:((s.aG:Int)==2)=rR:=by rw[show((2:Int))=((2:Nat):Int)from rfl,dH];exact kE Y
  have m:((s.aG:Int)==3)=rR:=by rw[show((3:Int))=((3:Nat):Int)from rfl,dH];exact kE Y
  clear b;rw[j,q];clear j q a c;go_upto_region 9 with(fail);have LI:=eQ;have HBQ:=x;have HPQ:=Z (Ry.o.on o9.o);have Tf:=HBQ.o;clear b0 b1 b2 b3 b4 b5;obtain⟨b0,b1,b2,b3,b4,b5⟩:=Z6 Tf;clear Tf;refine e7 99 (ez b0<|ez b1<|ez b2<|ez b3<|ez b4<|ey b5) (λQ=> ?_);clear b0 b1 b2 b3 b4 b5;let⟨we,MQ⟩:=D (wd.drew);have WP:U wd [] we []:=A1 MQ;exact ZM189
 .rw[bW b]at a;rw[R Y]at c;have q:((O s.bP:Int)==0)=qT:=by rw[c];rfl
  have e5:(O s.eb:Int)<(s.kJ:Int):=kX a.2;have T:O s.eb<s.kJ:=a.2;have g:=Z (D5 (N.o.on o9.o) a.1 Y);have p:((s.aG:Int)==1)=rR:=by rw[show((1:Int))=((1:Nat):Int)from rfl,dH];exact kE Y
  have n:((s.aG:Int)==2)=qT:=by rw[show((2:Int))=((2:Nat):Int)from rfl,dH];exact kY Y
  have m:((s.aG:Int)==3)=rR:=by rw[show((3:Int))=((3:Nat):Int)from rfl,dH];exact kE Y
  clear b;rw[q];clear q a c;go_upto_region 9 with(go_at_call 128;apply g.o.dC;intro w3 d;have u:=d.aC x.o J;have c1:=Zc u 1;have c2:=Zc u 2;have iF:=Z d;have QS:=Z u;clear d u);exact ZM7
 .rw[R Y]at a;rw[bW b]at c;have j:((O s.eb:Int)==0)=qT:=by rw[a];rfl
  have g:=Z (D5 (G.o.on o9.o) c Y);have p:((s.aG:Int)==1)=rR:=by rw[show((1:Int))=((1:Nat):Int)from rfl,dH];exact kE Y
  have n:((s.aG:Int)==2)=rR:=by rw[show((2:Int))=((2:Nat):Int)from rfl,dH];exact kE Y
  have m:((s.aG:Int)==3)=qT:=by rw[show((3:Int))=((3:Nat):Int)from rfl,dH];exact kY Y
  clear b;rw[j];clear j a c;go_upto_region 9 with(go_at_call 128;apply g.o.dC;intro w3 d;have QS:=Z (d.aC x.o J);have iF:=Z d;clear d);exact ZM7
variable{uc:Nat}{ua:Option cg}
theorem ZM33{P:Prop}(h:P:=by
  refine Zk hK Q<|Zo 7 λvm hK=> ?_;go_simp;go_at_call 81;refine(Np (ρ:=oT) (τ+20) s.bT s.aH _ [s.up] HGS HWD jQ.aH J (λk hk=>by obtain rfl:k=0:=(eP hk);exact jQ.up)).mono ?_;rintro e w8 ⟨rb,QV,rfl,jB,ht8,hS8⟩;dsimp only;replace Q:=jB.zh6 Q;have HN:=Z (Rr.mk ⟨rb,QV,rfl,rfl,PF.ds jB,λk hk=>ht8 k (xF hk PF.size),hS8⟩);clear hS8;refine Zk hK Q<|I 8 ?_;refine ek [9,11,10,12] ?_;refine bD dJ ?_ _;clear Q;go_wp2;go_meet;exact HN.o):P:=h
theorem ZM134{P:Prop}(h:P:=by
  have LD:=h.eb;unfold lV.bT;split
  .rename_i e;rw[bW e]at LD;have:=LD.2;omega
  .omega):P:=h
def OY:f7:=⟨[],λ_=>0,[],[]⟩
def aL3(w:aA)(ρ:bC)(τ:Nat)(s:lV)(e:Ending)(w':aA):Prop:=
 ∃nb bV,e=mi (mr #[lr (H ⟨nb,0,K⟩),mj mn 0])/\U w [] w' []/\(∀k,k<i7 w.heap->bV k=ρ k)/\p9 w' bV τ nb s OY 0 0
theorem aGj{l:List Nat}(a:w.heap[b]? =H (kd #[jS ua (O l) uc] 50 (0,0)))(hl:fM fN 0 1 w (jS ua (O l) uc) l):aSC w (jS (H ⟨b,0,K⟩) 1 1) [l]:=
 ⟨[jS ua (O l) uc],rfl,FM (news:=[jS ua (O l) uc]) a rfl _ (dE rfl),λk c=>by
  obtain rfl:k=0:=eP c;exact hl⟩
theorem aQb(w:aA):aSC w (jS K 0 0) []:=⟨[],rfl,fM.nil w,λk a=>dY a (Gd k)⟩
structure Rr(w4:aA)(ρ4:bC)(β xA aH:Nat)(gs:List (List Nat))(s4 s5:aE)(wx:aA):Prop where
 ex:∃rb ρr,s4=lr (H ⟨rb,0,K⟩)/\s5=mj mn 0/\U w4 [] wx []/\(∀k,k<i7 w4.heap->ρr k=ρ4 k)/\L6 wx ρr β rb xA aH gs [] 0 0
theorem aEP{s:lV}(h:QN s):s.bT<=30:=by
 have a:=h.kJ;exact ZM134
theorem aER{s:lV}(h:QN s):O s.eb<=100000/\O s.bP<=100000/\O s.up<=100000:=by
 have b:=h.kJ;have c:s.bT<=30:=ZM134;refine⟨?_,?_,?_⟩
 .have LD:=h.eb;split at LD
  .omega
  .rw[LD];simp
 .have a:=h.bP;split at a
  .have:=MA.len a;omega
  .rw[a];simp
 .have:=MA.len h.up;omega
theorem aJ1(τ:Nat)(s:lV)(ka:Option cg)(kc:Nat)(sa:Option cg)(sc:Nat)(ua:Option cg)(uc:Nat)(jQ:QN s)(hk:fM fN 0 1 w (jS ka (O s.eb) kc) s.eb)(hs:fM fN 0 1 w (jS sa (O s.bP) sc) s.bP)(hu:fM fN 0 1 w (jS ua (O s.up) uc) s.up):
  aK prog 38 #[nO s ka kc sa sc ua uc] w (aL3 w ρ τ s):=by
 have fg:=λwz (hz:U w [] wz [])=>aES wz s ka kc sa sc ua uc jQ (hk.on hz) (hs.on hz) (hu.on hz);unfold nO at fg|-;let⟨wa,dM⟩:=D (i5 w (kd #[X s.aG,X s.kJ,jS ka (O s.eb) kc,jS sa (O s.bP) sc,jS ua (O s.up) uc,X s.aH] 114));let⟨bx,mJ⟩:=D (i7 w.heap);have cV:=Za dM;have hB:=Ze dM mJ;obtain⟨b0,b1,b2,b3,b4,b5⟩:=Z6 hB;have HK:=Z hk;have HS:=Z hs;have aRk:=Z (aER jQ);have HWD:=(aEP jQ);clear hk hs;go_in;go_upto_region 3 with(go_at_call 79;apply(fg _ cV).dC;intro w1 cT);clear b0 b1 b2 b3 b4 b5;have fR:=cT.aC hB J;obtain⟨b0,b1,b2,b3,b4,b5⟩:=Z6 fR;clear fR;refine Ub [10,11,12,13,14] (λw'=>h8 w' (Ad bx 2)=H (jS ka (O s.eb) kc)/\h8 w' (Ad bx 3)=H (jS sa (O s.bP) sc)/\h8 w' (Ad bx 4)=H (jS ua (O s.up) uc)) dJ ⟨b2,b3,b4⟩ (λQ=> ?_);clear b0 b1 b2 b3 b4 b5;let⟨wd,fF⟩:=D (w1.drew);have pH:U w1 [] wd []:=A1 fF;rw[fF]at Q|-;have o9:=Z (cT.ds pH);clear fF pH;(refine sG (i:=0) (H 14) (v:= ?_) rfl rfl dJ dJ dJ dJ (λ_ _ _ h=>h) (Or.inl ⟨by rfl,?_⟩) (by assumption) ?_;rotate_left;·(intro w b;(try dsimp only at b);(try obtain⟨YL,b⟩:=b);(try obtain⟨Qj,b⟩:=b);(try obtain⟨VA,b⟩:=b);(try obtain⟨Qi,b⟩:=b);(try obtain⟨Ln,b⟩:=b);(try obtain⟨XO,b⟩:=b);(try obtain⟨F,b⟩:=b);go_simp;try with_reducible rfl));simp only[Act.put,UB,U9,X9]
 (refine sG (i:=3) (H 17) (v:= ?_) rfl rfl dJ dJ dJ dJ (λ_ _ _ h=>h) (Or.inl ⟨by rfl,?_⟩) (by assumption) ?_;rotate_left;·(intro w b;(try dsimp only at b);(try obtain⟨YL,b⟩:=b);(try obtain⟨Qj,b⟩:=b);(try obtain⟨VA,b⟩:=b);(try obtain⟨Qi,b⟩:=b);(try obtain⟨Ln,b⟩:=b);(try obtain⟨XO,b⟩:=b);(try obtain⟨F,b⟩:=b);go_simp;try with_reducible rfl));simp only[Act.put,UB,U9,X9]
 (refine sG (i:=6) (H 20) (v:= ?_) rfl rfl dJ dJ dJ dJ (λ_ _ _ h=>h) (Or.inl ⟨by rfl,?_⟩) (by assumption) ?_;rotate_left;·(intro w b;(try dsimp only at b);(try obtain⟨YL,b⟩:=b);(try obtain⟨Qj,b⟩:=b);(try obtain⟨VA,b⟩:=b);(try obtain⟨Qi,b⟩:=b);(try obtain⟨Ln,b⟩:=b);(try obtain⟨XO,b⟩:=b);(try obtain⟨F,b⟩:=b);go_simp;try with_reducible rfl));simp only[Act.put,UB,U9,X9]
 (refine sG (i:=1) (H 15) (v:= ?_) rfl rfl dJ dJ dJ dJ (λ_ _ _ h=>h) (Or.inl ⟨by rfl,?_⟩) (by assumption) ?_;rotate_left;·(intro w b;(try dsimp only at b);(try obtain⟨YL,b⟩:=b);(try obtain⟨Qj,b⟩:=b);(try obtain⟨VA,b⟩:=b);(try obtain⟨Qi,b⟩:=b);(try obtain⟨Ln,b⟩:=b);(try obtain⟨XO,b⟩:=b);(try obtain⟨F,b⟩:=b);go_simp;try with_reducible rfl));simp only[Act.put,UB,U9,X9]
 (refine sG (i:=4) (H 18) (v:= ?_) rfl rfl dJ dJ dJ dJ (λ_ _ _ h=>h) (Or.inl ⟨by rfl,?_⟩) (by assumption) ?_;rotate_left;·(intro w b;(try dsimp only at b);(try obtain⟨YL,b⟩:=b);(try obtain⟨Qj,b⟩:=b);(try obtain⟨VA,b⟩:=b);(try obtain⟨Qi,b⟩:=b);(try obtain⟨Ln,b⟩:=b);(try obtain⟨XO,b⟩:=b);(try obtain⟨F,b⟩:=b);go_simp;try with_reducible rfl));simp only[Act.put,UB,U9,X9]
 (refine sG (i:=7) (H 21) (v:= ?_) rfl rfl dJ dJ dJ dJ (λ_ _ _ h=>h) (Or.inl ⟨by rfl,?_⟩) (by assumption) ?_;rotate_left;·(intro w b;(try dsimp only at b);(try obtain⟨YL,b⟩:=b);(try obtain⟨Qj,b⟩:=b);(try obtain⟨VA,b⟩:=b);(try obtain⟨Qi,b⟩:=b);(try obtain⟨Ln,b⟩:=b);(try obtain⟨XO,b⟩:=b);(try obtain⟨F,b⟩:=b);go_simp;try with_reducible rfl));simp only[Act.put,UB,U9,X9]
 refine sH (i:=2) dJ rfl rfl (λvm hK=> ?_);(try simp only[gz,Tw,Tx]);go_simp;go_at_call 80;apply(NZ _ s.eb wd (HK.on (cV.ds o9)) aRk.1).cX;rintro e w2 ⟨u,rfl,Qo,bM⟩;obtain⟨d,g,rfl,-⟩:=Qo.len;dsimp only;replace Q:=bM.gm Q;have eQ:=(o9.ds bM);have NG:=(Qo.eO (wb:=w) (cV.ds o9).size);clear bM Qo;refine hK.o _ _ (λ_=>Q) ?_;clear hK vm;(try simp only[Act.put,UB,U9,X9]);(refine sG (i:=9) (H 23) (v:= ?_) rfl rfl dJ dJ dJ dJ (λ_ _ _ h=>h) (Or.inl ⟨by rfl,?_⟩) (by assumption) ?_;rotate_left;·(intro w b;(try dsimp only at b);(try obtain⟨YL,b⟩:=b);(try obtain⟨Qj,b⟩:=b);(try obtain⟨VA,b⟩:=b);(try obtain⟨Qi,b⟩:=b);(try obtain⟨Ln,b⟩:=b);(try obtain⟨XO,b⟩:=b);(try obtain⟨F,b⟩:=b);go_simp;try with_reducible rfl));simp only[Act.put,UB,U9,X9]
 refine sH (i:=5) dJ rfl rfl (λvm hK=> ?_);(try simp only[gz,Tw,Tx]);go_simp;go_at_call 80;apply(NZ _ s.bP w2 (HS.on (cV.ds eQ)) aRk.2.1).cX;rintro e w3 ⟨u,rfl,yp,cW⟩;obtain⟨m,n,rfl,-⟩:=yp.len;dsimp only;replace Q:=cW.gm Q;have iF:=(eQ.ds cW);have aXc:=(NG.on cW);have Sc:=(yp.eO (wb:=w) (cV.ds eQ).size);clear cW yp;refine hK.o _ _ (λ_=>Q) ?_;clear hK vm;(try simp only[Act.put,UB,U9,X9]);refine sH (i:=8) dJ rfl rfl (λvm hK=> ?_);(try simp only[gz,Tw,Tx]);go_simp;go_at_call 80;apply(NZ _ s.up w3 (hu.on (cV.ds iF)) aRk.2.2).cX;rintro e w4 ⟨u,rfl,SV,eJ⟩;obtain⟨y,q,rfl,-⟩:=SV.len;dsimp only;replace Q:=eJ.gm Q;have lH:=(iF.ds eJ);have aXb:=(aXc.on eJ);have aXa:=(Sc.on eJ);have Sb:=(SV.eO (wb:=w) (cV.ds iF).size);clear eJ SV;refine hK.o _ _ (λ_=>Q) ?_;clear hK vm;(try simp only[Act.put,UB,U9,X9]);clear Q;have AA:=lH.aC hB J;have c2:=Zc AA 2;have c3:=Zc AA 3;have c4:=Zc AA 4;have cf:=aN AA;have cl:=iP (dG AA);let⟨w5,oY⟩:=D (hY (hY (hY w4 (Ad bx 2) (jS d (O s.eb) g)) (Ad bx 3) (jS m (O s.bP) n)) (Ad bx 4) (jS y (O s.up) q));have cO:U w4 [bx] w5 [bx]:=oY▸((qX w4 bx 2 _).setCell (a:=Ad bx 3) (.inl J) _).setCell (a:=Ad bx 4) (.inl J) _;have uV:w5.heap[bx]? =H (kd #[X s.aG,X s.kJ,jS d (O s.eb) g,jS m (O s.bP) n,jS y (O s.up) q,X s.aH] 114 (0,0)):=by
  have h1:(hY w4 (Ad bx 2) (jS d (O s.eb) g)).heap[bx]? =H (kd #[X s.aG,X s.kJ,jS d (O s.eb) g,jS sa (O s.bP) sc,jS ua (O s.up) uc,X s.aH] 114 (0,0)):=by rw[aF _ AA];rfl
  have h2:(hY (hY w4 (Ad bx 2) (jS d (O s.eb) g)) (Ad bx 3) (jS m (O s.bP) n)).heap[bx]? =H (kd #[X s.aG,X s.kJ,jS d (O s.eb) g,jS m (O s.bP) n,jS ua (O s.up) uc,X s.aH] 114 (0,0)):=by rw[aF _ h1];rfl
  rw[<-oY,aF _ h2];rfl
 refine sH (i:=10) dJ rfl rfl (λvm hK=> ?_);(try simp only[gz,Tw,Tx]);go_simp;refine hK.o _ _ (λh=>dY E h) ?_;clear hK vm;(try simp only[Act.put,UB,U9,X9]);refine sH (i:=11) dJ rfl rfl (λvm hK=> ?_);(try simp only[gz,Tw,Tx]);go_simp;refine hK.o _ _ (λh=>dY E h) ?_;clear hK vm;(try simp only[Act.put,UB,U9,X9]);refine sH (i:=12) dJ rfl rfl (λvm hK=> ?_);(try simp only[gz,Tw,Tx]);go_simp;refine hK.o _ _ (λh=>dY E h) ?_;clear hK vm;(try simp only[Act.put,UB,U9,X9]);refine sH (i:=13) dJ rfl rfl (λvm hK=> ?_);(try simp only[gz,Tw,Tx]);go_simp;refine hK.o _ _ (λh=>dY E h) ?_;clear hK vm;(try simp only[Act.put,UB,U9,X9]);refine sH (i:=14) dJ rfl rfl (λvm hK=> ?_);(try simp only[gz,Tw,Tx]);go_simp;refine hK.o _ _ (λh=>dY E h) ?_;clear hK vm;(try simp only[Act.put,UB,U9,X9]);refine Uc dJ ?_ _;have aV9:U wa [bx] w5 [bx]:=((lH.aL (T:=[bx]) (λ_ h=>by cases h)).to (λ_ h=> .inl h)).ds cO;have Yc:U w [] w5 []:=cV.bJ aV9 (λx hx=>by rw[show x=bx by simpa using hx];omega);have ne5:∀{v:aE} {l:List Nat},bN fN 0 3 1 w w4 v l->bN fN 0 3 1 w w5 v l:=λh=>h.set AA E cO;have HK5:=Z (ne5 aXb);have Tp:=Z (ne5 aXa);have wD:=(ne5 Sb);obtain⟨d0,d1,d2,d3,d4,d5⟩:=Z6 uV;clear aV9 ne5 cO AA c2 c3 c4 cf cl oY aXb aXa Sb aXc Sc NG eQ iF lH o9;let⟨oT,GS⟩:=D (up w τ ρ);go_upto_region 4 with(fail);go_cut [4,5] (λs4 s5 wx=>Rr w5 oT (τ+20) s.bT s.aH [s.up] s4 s5 wx)
 case first=>
  refine fj 99 (ez d0<|ez d1<|ez d2<|ez d3<|ez d4<|ey d5) (λwd fF pH Q=> ?_);clear d0 d1 d2 d3 d4 d5;have o9:=Z pH;clear fF pH;refine ek [0,2,4,3,5] ?_;refine vG (i:=1) (j:=6) dJ rfl rfl rfl rfl (λvm hK=> ?_) (λvm hK=> ?_)
  .go_simp;have Pq:=GI wd s d g m n y q;unfold nO at Pq;refine Calls.mono Pq ?_;clear Pq;rintro e w6 ⟨rfl,G⟩;dsimp only;replace Q:=G.zh6 Q;have N:=Z (o9.ds G);clear G;refine Zk hK Q<|Zo 6 λvm hK=> ?_;go_simp;let⟨w7,B⟩:=D (i5 w6 (kd #[jS y (O s.up) q] 50));have p:=Za B;have FX:=Zb B;rw[B];replace Q:=p.zh6 Q;have HGS:=(aGj FX ((wD.rd.on N).on p));have PF:=Z (N.ds p);clear p FX B;exact ZM33
  .go_simp;let⟨w6,L⟩:=D (i5 wd (kd #[jS y (O s.up) q] 50));have G:=Za L;have mK:=Zb L;rw[L];replace Q:=G.zh6 Q;have N:=Z (o9.ds G);clear G L;refine Zk hK Q<|Zo 1 λvm hK=> ?_;go_simp;go_at_call 82;have Pq:=GI w6 s d g m n y q;unfold nO at Pq;refine Calls.mono Pq ?_;clear Pq;rintro e w7 ⟨rfl,p⟩;dsimp only;replace Q:=p.zh6 Q;have HGS:=(aGj (p.aC mK J) ((wD.rd.on N).on p));have PF:=Z (N.ds p);clear p;exact ZM33
 case rest=>
  obtain⟨rb,QV,rfl,rfl,z,htc,hSc⟩:=hcut.ex;clear hcut;have d0:=(z).cell d0 J;have d1:=(z).cell d1 J;have d2:=(z).cell d2 J;have d3:=(z).cell d3 J;have d4:=(z).cell d4 J;have d5:=(z).cell d5 J;have lbx:=iP (IL d0);go_upto_region 6 with(fail);let⟨w6,L⟩:=D (i5 (i5 wc (kd #[X s.aG,X s.kJ,jS d (O s.eb) g,jS m (O s.bP) n,jS y (O s.up) q,X s.aH,Pt rb] 185)) (kd #[lr (H ⟨wc,0,K⟩),Value.nilIface] 123));have G:U wc [] w6 []:=L▸((U.refl wc []).alloc _).alloc _;have nR:w6.heap[i7 wc.heap]? =H (kd #[X s.aG,X s.kJ,jS d (O s.eb) g,jS m (O s.bP) n,jS y (O s.up) q,X s.aH,Pt rb] 185 (0,0)):=by rw[<-L];exact lP wc _ _
  have Qp:w6.heap[i7 wc.heap+1]? =H (kd #[lr (H ⟨wc,0,K⟩),Value.nilIface] 123 (0,0)):=by rw[<-L];exact lO wc _ _
  have hs6:i7 w6.heap=i7 wc.heap+2:=by rw[<-L];simp
  rw[L];generalize uT:i7 wc.heap=lb at nR Qp hs6|-;generalize TW:lb+1=nb at Qp|-;have hMc:bI w5 oT eZ wc QV:=⟨z.os,z.tape,z.output,z.size,λk hk _=>z.block k hk J,htc⟩;have aRh:=(show∀(wx:aA) (gL:bC),bI wc QV eZ wx gL->wx.heap[lb]? =H (kd #[X s.aG,X s.kJ,jS d (O s.eb) g,jS m (O s.bP) n,jS y (O s.up) q,X s.aH,Pt rb] 185 (0,0))->gL lb=τ->z4 wx gL τ lb rb s [] 0 0 from λwx gL hM hl ht=>by
   have g1:=(HK5.jR τ ρ).rd;have g2:=(Tp.jR τ ρ).rd;rw[GS]at g1 g2;exact⟨⟨_,_,_,_,_,_,hl,(g1.eb hMc id).eb hM id,(g2.eb hMc id).eb hM id⟩,ht,hSc.eb hM vF,jQ⟩)
  have fy:=Z (eI Qp (eI nR (eI hs6 (eI TW uT))));have N:=Z G;have O6:=(show∀k,k<i7 w.heap->QV k=ρ k from λk hk=>by
   have h5:=Yc.size;rw[htc k Y,<-GS,fG hk])
  have Tu:=(G.aC (hMc.aC uV id) J);have HW6:=(Yc.ds (z.ds G));clear d0 d1 d2 d3 d4 d5 lbx;have aPl:=Tu;obtain⟨d0,d1,d2,d3,d4,d5⟩:=Z6 aPl;obtain⟨l0,l1,l2,l3,l4,l5,l6⟩:=Z7 nR;obtain⟨n0,n1⟩:=Z2 Qp;have nf:=aN Qp;have nl:=iP (dG Qp);have ll:=iP (dG nR);have lbx:=iP (dG aPl);clear G nR Qp hs6 L uT TW hMc aPl;rcases jQ.aG with hk|hk|hk
  .have fz:=Z hk;have kf1:((s.aG:Int)==1)=qT:=by rw[show((1:Int))=((1:Nat):Int)from rfl,dH];exact kY Y
   have kf2:((s.aG:Int)==2)=rR:=by rw[show((2:Int))=((2:Nat):Int)from rfl,dH];exact kE Y
   have kf3:((s.aG:Int)==3)=rR:=by rw[show((3:Int))=((3:Nat):Int)from rfl,dH];exact kE Y
   clear hk;go_wp2;go_ret2;have hn:=fy.o;obtain⟨g1,g2,g3,g4,g5⟩:=hn;have p:U w6 [nb] (hY w6 (Ad nb 1) (.iface 186 (lr (H ⟨w6,0,K⟩)))) [nb]:=qX w6 nb 1 _;let⟨w7,B⟩:=D (hY w6 (Ad nb 1) (.iface 186 (lr (H ⟨w6,0,K⟩))));have OK:w7.heap[nb]? =H (kd #[Pt lb,.iface 186 (lr (H ⟨w6,0,K⟩))] 123 (0,0)):=by rw[<-B,aF _ g1];rfl
   have V:i7 w7.heap=i7 w6.heap:=by rw[<-B];simp
   rw[B]at p|-;have jB:U w7 [] (i5 w7 (kd #[Pt lb] 188)) []:=(U.refl w7 []).alloc _;have hk8:=mE w7 (kd #[Pt lb] 188);generalize DH:i5 w7 (kd #[Pt lb] 188)=w8 at jB hk8|-;rw[V]at hk8;have o:U wc [] w8 []:=(N.bJ p (λx hx=>by rw[show x=nb by simpa using hx];omega)).ds jB;have uH:bI wc QV eZ w8 (up wc τ QV):=o.fK (S:=eZ) τ (λ_ h=>dY h J);have hl8:=jB.aC (p.aC g2 (by simp;omega)) J;exact⟨nb,_,rfl,(Yc.ds z).ds o,λk hk=>(fG (pN Yc.size z.size)).ds (O6 k hk),lb,rb,_,jB.aC OK J,cY Y,.inl ⟨fz,_,rfl,hk8,cY Y,aRh _ _ uH hl8 (cY Y)⟩⟩
  .have fz:=Z hk;have kf1:((s.aG:Int)==1)=rR:=by rw[show((1:Int))=((1:Nat):Int)from rfl,dH];exact kE Y
   have kf2:((s.aG:Int)==2)=qT:=by rw[show((2:Int))=((2:Nat):Int)from rfl,dH];exact kY Y
   have kf3:((s.aG:Int)==3)=rR:=by rw[show((3:Int))=((3:Nat):Int)from rfl,dH];exact kE Y
   clear hk;have mk:∀wz:aA,(Instr.makeMap 190 K).run prog wz= .ok (.map (H wz.heap.size)) (wz.alloc (.map #[] 0)):=λ_=>rfl;go_wp2;go_ret2;obtain⟨g1,g2,g3,g4,g5⟩:=fy.o;let⟨w7,B⟩:=D (hY w6 (Ad nb 1) (.iface 189 (lr (H ⟨i7 w6.heap+1,0,K⟩))));have p:U w6 [nb] w7 [nb]:=B▸qX w6 nb 1 _;have OK:w7.heap[nb]? =H (kd #[Pt lb,.iface 189 (lr (H ⟨i7 w6.heap+1,0,K⟩))] 123 (0,0)):=by rw[<-B,aF _ g1];rfl
   have V:i7 w7.heap=i7 w6.heap:=by rw[<-B];simp
   rw[B];have hm8:=gM.xO w7 9;let⟨w8,DH⟩:=D (w7.alloc (.map #[] 0));have jB:=Za DH;have hs8:i7 w8.heap=i7 w6.heap+1:=by rw[<-DH];simp[V]
   rw[DH,V]at hm8;rw[DH];let⟨A,TV⟩:=D (i5 w8 (kd #[Pt lb,.map (H w6.heap.size),.map K] 192));have C:=Za TV;have hk9:A.heap[i7 w6.heap+1]? =H (kd #[Pt lb,.map (H w6.heap.size),.map K] 192 (0,0)):=by rw[<-TV,<-hs8];exact mE w8 _
   rw[TV];have o:U wc [] A []:=((N.bJ p (λx hx=>by rw[show x=nb by simpa using hx];omega)).ds jB).ds C;have uH:bI wc QV eZ A (up (i7 w6.heap+1) τ (up w6 (τ+1) (up wc τ QV))):=((o.fK (S:=eZ) τ (λ_ h=>dY h J)).D6 (τ+1) Y).D6 τ Y;have hl9:=C.aC (jB.aC (p.aC g2 (by simp;omega)) J) J;have tl:up (i7 w6.heap+1) τ (up w6 (τ+1) (up wc τ QV)) lb=τ:=by rw[fG Y,fG Y];exact cY Y
   have tn:up (i7 w6.heap+1) τ (up w6 (τ+1) (up wc τ QV)) nb=τ:=by rw[fG Y,fG Y];exact cY Y
   have tc:up (i7 w6.heap+1) τ (up w6 (τ+1) (up wc τ QV)) w6.heap.size=τ+1:=by rw[fG Y];exact cY (fV _)
   have CD:=Yc.size;have a1P:=z.size;exact⟨nb,_,rfl,(Yc.ds z).ds o,λk hk=>by rw[fG Y,fG Y,fG Y];exact O6 k hk,lb,rb,_,C.aC (jB.aC OK J) J,tn,.inr (.inl ⟨fz,_,i7 w6.heap,rfl,⟨hk9,cY (fV _),aRh _ _ uH hl9 tl,⟨λ_=>K,hm8.eU C J,λr _=>rfl⟩,tc,λr=>by simp[OY],λr=>by simp[OY]⟩⟩)⟩
  .have fz:=Z hk;have kf1:((s.aG:Int)==1)=rR:=by rw[show((1:Int))=((1:Nat):Int)from rfl,dH];exact kE Y
   have kf2:((s.aG:Int)==2)=rR:=by rw[show((2:Int))=((2:Nat):Int)from rfl,dH];exact kE Y
   have kf3:((s.aG:Int)==3)=qT:=by rw[show((3:Int))=((3:Nat):Int)from rfl,dH];exact kY Y
   clear hk;have hmo:=jQ.aH;let⟨w7,B⟩:=D (i5 w6 (kd #[jS m (O s.bP) n] 50));have p:=Za B;have FX:=Zb B;let⟨Mx,Wr⟩:=D (up wc τ QV);have hsd:A3 s.bP s.kJ:=by have:=jQ.bP;rw[bW fz.o]at this;exact this
   have aUI:O s.bP<=30:=pN (MA.len hsd) jQ.kJ;have a2g:=N.ds p;have hgs:=aGj FX ((Tp.rd.on z).on a2g);have a41:=(Np (ρ:=Mx) (τ+40) s.kJ s.aH _ [s.bP] hgs jQ.kJ hmo J (λk hk=>by obtain rfl:k=0:=(eP hk);exact hsd));have aLd:=(λ(wz:aA) (K3:bC)=>Np (w:=wz) (ρ:=K3) (τ+60) (O s.bP) s.aH _ [] (aQb wz) aUI hmo J (λk hk=>dY hk (Gd k)));have PF:=Z p;clear p FX hsd aUI hgs hmo;go_upto_region 8 with(go_at_call 81;apply a41.cX;rintro e w8 ⟨sb,CM,rfl,jB,ht8,hS8⟩;have d3:=(PF.ds jB).cell d3 J;have d5:=(PF.ds jB).cell d5 J;have n0:=(PF.ds jB).cell n0 J;have fx:=Z hS8;clear hS8);go_upto_region 9 with(go_at_call 81;apply(aLd _ CM).cX;rintro e A ⟨db,f,rfl,C,ht9,hS9⟩;have n0:=C.cell n0 J;have HS9:=Z hS9;clear hS9);have nk:=(PF.ds jB).aC fy.1 J;have nk:=C.aC nk J;obtain⟨n90,n91⟩:=Z2 nk;have nf9:=aN nk;have nl9:=iP (dG nk);have HN9:=Z nk;clear nk n0 n1 nf nl;go_wp2;go_ret2;obtain⟨g1,g2,g3,g4,g5⟩:=fy.o;have z7:=PF.size;have z8:=jB.size;have z9:=C.size;have z5:=Yc.size;have zc:=z.size;have z6:=N.size;let⟨IU,GT⟩:=D (hY A (Ad nb 1) (.iface 193 (lr (H ⟨A,0,K⟩))));have yH:U A [nb] IU [nb]:=GT▸qX A nb 1 _;have a22:IU.heap[nb]? =H (kd #[Pt lb,.iface 193 (lr (H ⟨A,0,K⟩))] 123 (0,0)):=by rw[<-GT,aF _ HN9.o];rfl
   have a1W:i7 IU.heap=i7 A.heap:=by rw[<-GT];simp
   rw[GT];let⟨W,Ho⟩:=D (i5 IU (kd #[Pt lb,Pt sb,Pt db] 195));have P:=Za Ho;have a1p:W.heap[i7 A.heap]? =H (kd #[Pt lb,Pt sb,Pt db] 195 (0,0)):=by rw[<-Ho,<-a1W];exact mE IU _
   rw[Ho];have a2h:=((N.ds PF).ds jB).ds C;have o:U wc [] W []:=(a2h.bJ yH (λx hx=>by rw[show x=nb by simpa using hx];omega)).ds P;have aOJ:∀k,k<i7 w7.heap->f k=up wc τ QV k:=λk hk=>by rw[ht9 k Y,ht8 k hk,Wr]
   have aTV:∀k,k<i7 wc.heap->up A τ f k=QV k:=λk hk=>by rw[fG Y,aOJ k Y,fG hk]
   have uH:bI wc QV eZ W (up A τ f):=⟨o.os,o.tape,o.output,o.size,λk hk _=>o.block k hk J,aTV⟩;have tn9:f nb=τ:=by rw[aOJ nb Y];exact cY Y
   have aNJ:bI A f (·=τ) W (up A τ f):=((yH.qO (S:=(·=τ)) (λk hk=> .inl (by rw[show k=nb by simpa using hk];exact tn9))).kV P).D6 τ (fV _);have Dp:bI w8 CM eZ A f:=⟨C.os,C.tape,C.output,C.size,λk hk _=>C.block k hk J,ht9⟩;have a1j:=P.aC (yH.aC (C.aC ((PF.ds jB).aC g2 J) J) (by simp;omega)) J;have tl:up A τ f lb=τ:=by rw[fG Y,aOJ lb Y];exact cY Y
   have tn:up A τ f nb=τ:=by rw[fG Y];exact tn9
   exact⟨nb,_,rfl,(Yc.ds z).ds o,λk hk=>by rw[aTV k Y];exact O6 k hk,lb,rb,_,P.aC a22 J,tn,.inr (.inr ⟨fz,_,sb,db,rfl,⟨a1p,cY (fV _),aRh _ _ uH a1j tl,(fx.eb Dp vF).eb aNJ (λc _=>Y),HS9.eb aNJ (λc _=>Y)⟩⟩)⟩
end Go.Proofs.YtohhhhfdpceppaaGreatDoor
