/- Proved: the law TreeRefused returns true for every query, every limit and every script, and leaves its arguments as they were, where these together are of bulk at most 1048576 (the row's own bound). It holds where the package-level variable deBruijn32tab reads as the program's text lays it: the card ties that to the text. No other conditions. -/
import Derived.Test.YtbcooplfakebmaaGreatDoorM6
import Derived.Test.YtbcooplfakebmaaGreatDoorF1
namespace Go.Proofs.YtbcooplfakebmaaGreatDoor
set_option maxHeartbeats 4000000
set_option maxRecDepth 100000
set_option linter.all false
open Go.RowKit Go.Maps Go.Proofs.Tryz Tryz
open _root_.Array renaming size→hJ
open _root_.Bool renaming false→po,true→oj
open _root_.Go.Ending renaming returned→i5
open _root_.Go.IntKind renaming i64→i7
open _root_.Go.Obj renaming cells→h8
open _root_.Go.Value renaming bool→j4,int→i6,slice→hY,string→j3
open _root_.Go.World renaming alloc→e8
open _root_.List renaming getD→ep,length→O
open _root_.Option renaming none→K,some→H
open Go renaming Value→aF
variable{ps:List (dU×aF)}{av hv sv:aF}{w:World}
section
section
variable{wa wr w2:World}{ρ fB:aW}{q:bB}{b d cells N:Nat}{t:iZ}
variable{q:bB}{cells:Nat}{t:iZ}{add:Bool}{rel:dU}{r:Row}{R:iZ×Nat×Nat×Nat}
theorem Jg(a:qm q)(h:zJ (bJ (aB q).2) t.T)(b:eC (bJ (aB q).2) cells (O q.aD) t add (jC q rel) (dQ q r)=R)(d:R.2.2.2≠0):
  R.1=t/\add=oj/\(R.2.2.2=110\/R.2.2.2=201):=by
 obtain⟨t1,st,c,e⟩:=R;have:=v8 a.oJ a.wf.cN a.wf.Ry h b d;exact⟨this.1,this.2.1,this.2.2.1⟩
end
theorem Ra{q:bB}{cells:Int}(h:B9 w hv av ps q)(g:Tz w)(j:kS q cells≠0):
  Calls prog 4 #[.agg #[j3 q.name,hv,av],i6 i7 cells,sv] w λe w'=>e=i5 (j4 oj)/\U w [] w' []:=by
 obtain⟨ha,m,rfl,-⟩:=h.head.len;obtain⟨l,c,rfl,-⟩:=h.aD.len;rw[h.len]at h|-;let⟨wa,b⟩:=E (e8 w (h8 #[j3 q.name,hY ha (O q.head) m,hY l (O q.aD) c] 25));let⟨r,i⟩:=E (hJ w.heap);have cR:=Za b;obtain⟨b0,p,b2⟩:=Z3 (Ze b i);have NO:=(g.on cR);have JJ:=(Y2 cells ((h.on cR)) NO j);exact ZM160
theorem Zz{q:bB}{cs:List Chg}{cells:Nat}(h:B9 w hv av ps q)(hs:LN w sv cs)(hw:Tz w)(i:(aB q).1=0)(Lt:1<=cells/\cells<=65536):
  Calls prog 4 #[.agg #[j3 q.name,hv,av],i6 i7 (cells:Int),sv] w λe w'=>e=i5 (j4 oj)/\U w [] w' []:=by
 obtain⟨sa,sc,rfl,-⟩:=hs.rd.len;obtain⟨ha,hc,rfl,-⟩:=h.head.len;obtain⟨aa,ac,rfl,-⟩:=h.aD.len;rw[h.len]at h|-;obtain⟨wa,dE⟩:=E (e8 w (h8 #[j3 q.name,hY ha (O q.head) hc,hY aa (O q.aD) ac] 25));obtain⟨bq,CR⟩:=E (hJ w.heap);have x:=Za dE;have kB:=Ze dE CR;obtain⟨b0,b1,b2⟩:=Z3 kB;have Yh:=Z kB;have wU:=Z x;have HQ:=Z (h.on x);have NO:=Z (hw.on x);have JJ:=Z (Kr (ρ:=λ_=>0) 10 cells HQ NO i Lt (λ_ _=>rfl) D);have HS:=Z (hs.on x);obtain⟨m,hm⟩:=E (O cs);have qW:m<=1048576:=hm▸hs.len;rw[hm]at HS|-;have F:=Z hm;clear h hs hw kB x i hm;go_in;go_upto_region 5 with(go_at_call 6;apply JJ.cF;rintro e w1 ⟨bt,d,dN,rfl,pG,uX,u⟩;have nV:=Z (oA.mk (cells:=cells) (pG.aN (T:=LS 10) pW) uX u);clear pG uX u);clear b0 b1 b2 dE;go_loopg [38] m (λgg s38 wr=>∃(k N:Nat) (n:aW) (t:iZ),k<=m/\gg=m-k/\s38=J k/\N<=2*k/\oA wa wr n q bt d cells N t)
 .exact⟨0,0,dN,TD,Y,rfl,rfl,fV _,nV⟩
 obtain⟨k,N,n,t,hk,CY,rfl,hN,hL⟩:=hrel;have OR:=Z CY;have HL:=Z hL;clear CY hL;by_cases aV:k<m
 .have Oo:k<O cs:=F.o▸aV;obtain⟨g,o,cap,hv,-,dF⟩:=eX.aU (HS.rd.on HL.eF) Oo;rw[F.o]at hv;obtain rfl:=CT hv;have c0:=dF 0 D;have c1:=dF 1 D;have c2:=dF 2 D;rw[pK]at c0;obtain⟨W,l9⟩:=HS.j5 _ (bM (d:=TN) Oo);obtain⟨⟨add,rel,rv,r⟩,hc⟩:∃c,ep cs k TN=c:=⟨_,rfl⟩;rw[hc]at c0 c1 c2 W l9;obtain⟨ra,rc,Cc,-⟩:=W.len;dsimp only at Cc;subst Cc;dsimp only[aES]at c0 c1 c2 W l9;obtain⟨w2,pS⟩:=E (e8 wr (h8 #[j4 add,j3 rel,hY ra (O r) rc] 35));obtain⟨bx,lR⟩:=E (hJ wr.heap);have bH:=Za pS;have ZV:=Ze pS lR;have zI:bA wr n eL w2 (up wr 7 n):=bH.eW (S:=eL) 7 (λ_ h=>dS h X);have b:up wr 7 n bx=7:=cJ Y;generalize YP:up wr 7 n=fB at zI b;have P:=HL.on zI;obtain⟨dcs,da,dc,l,L,hDt⟩:=P.doc;have dl:=iO (cV l);have d5:=aL l L;have qz:=Z (O5 (t:=3) P.l8.bd P.l8.ok.few D D);generalize xm:O (aB q).2.aK=nn at d5 qz;have Bm:=Z xm;have Co:=Z P;have Ex:=Z (dX ZV b);have Bl:=Z W;have v:=Z l9;have HK:=Z aV;have CQ:(k:Int)<(m:Int):=Y;clear dF hc W l9 bH ZV zI b YP P Oo aV hk l L hDt xm;go_upto_region 8 with(first
   |(go_at_call 11;apply(AV (oI.l8.bd.on lI)).cL;rintro w7 rfl)
   |(go_at_call 10;apply(rC oI.l8.bd oI.l8.ok.few).cL;intro w6 dK;have lI:=Z dK;clear dK)
   |(go_at_call 9;apply qz.cF;rintro e w5 ⟨pJ,u5,rfl,tU,rS,ZW⟩;obtain⟨a5,c5,rfl,-⟩:=ZW.len;rw[iL]at ZW|-;have oI:=Z (Co.told (.inl rfl) tU rS);have G7:=Z tU;have HA5:=Z ZW;clear tU rS ZW))
  have SM:bA w5 pJ eL w6 pJ:=lI.fK;have lL:=oI.on SM;have G:=G7.jH lI.o;have fu:=G.aC Ex.1 (Ex.o.2▸zX D D);have aCu:pJ bx=7:=(G7.bT bx (cV Ex.1)).dd Ex.2;have z:=HA5.dg SM id id;obtain⟨x0,x1,x2⟩:=Z3 fu;have Cq:=Z (t8 (add:=add) (rel:=rel) lL.l8 Y (lL.row Bl) (oU D D) v D);generalize hR:eC (bJ (aB q).2) cells (O q.aD) t add (jC q rel) (dQ q r)=R at Cq;have HR:=Z hR;have uL:=Z lL;have V:=Z (dX fu aCu);have HA6:=Z z;clear SM lL G fu aCu z hR d5 dl lR pS;go_upto_region 9 with(go_at_call 8;apply Cq.cF;rintro e w3 ⟨kM,rfl,qU,JE⟩;have nR:=Z (uL.IG qU JE);have tC:=Z qU;clear qU JE);obtain⟨w4,qJ⟩:=E (e8 w3 (h8 #[J (R.2.1:Int),J (R.2.2.1:Int)] 37));have eA:=Za qJ;have j:bA w3 kM eL w4 (up w3 7 kM):=eA.eW (S:=eL) 7 (λ_ h=>dS h X);rw[qJ];generalize MP:up w3 7 kM=ρ4 at j;have DY:=Z (nR.on j);by_cases i:R.2.2.2=0
  .have g0:((R.2.2.2:Int)==0)=oj:=by rw[i];rfl
   clear i eA j MP x0 x1 x2 qJ;exact ZM125
  .obtain⟨hRt,Eg,hE⟩:=Jg uL.l8.ok uL.l8.Oi HR i;subst Eg;have g0:((R.2.2.2:Int)==0)=po:=j7 G9;have a:=DY.o;rw[hRt]at a;have yu:=j.aC (tC.aC V.1 (V.o.2▸oU D D)) id;have A:ρ4 bx=7:=(j.bT bx (wM (cV V.1) tC.size)).dd ((tC.bT bx (cV V.1)).dd V.2);have hA4:=(HA6.dg tC (oU D D) (oU D D)).dg j id id;obtain⟨aTx,da2,dc2,VA,Mn,-⟩:=a.doc;have C:=Z (dX VA (aL VA Mn));obtain⟨S,hS⟩:=E (AB (bJ (aB q).2) t.T);have Pd:=Z (rC a.l8.bd a.l8.ok.few);rw[hS]at Pd|-;obtain⟨x0,x1,x2⟩:=Z3 yu;have JW:=Z a.l8.bd;have HF4:=Z a.l8.ok.few;have HA4:=Z hA4;have DY:=Z a;have kk:=Z (dX yu A);have hg:(((R.2.2.2:Int)!=201)=oj/\((R.2.2.2:Int)!=110)=po)\/((R.2.2.2:Int)!=201)=po:=by
    rcases hE with e|e
    .exact .inl ⟨by rw[e];rfl,by rw[e];rfl⟩
    .exact .inr (by rw[e];rfl)
   clear i eA j MP qJ a yu A hA4 VA Mn hS hRt hE;rcases hg with⟨g1,g2⟩|g1;all_goals
    go_upto_region 12 with(first
     |(go_at_call 12;apply(MD aP2.rd HAW.rd (by rw[iL])).cL;intro w13 ZO;rw[kI rfl];have y0:=(f.cell x0 X);have B:=Z ZO;clear ZO)
     |(go_at_call 9;apply HA2.cF;rintro e w12 ⟨Iv,u12,rfl,CZ,QG,L7⟩;obtain⟨a12,c12,rfl,-⟩:=L7.len;rw[iL]at L7|-;have HAW:=Z ((HA4.dg (f.fK (S:=eL)) id id).dg CZ (zX D D) (zX D D));have p:=Z CZ;have aPY:=Z QG;have aP2:=Z L7;clear CZ QG L7)
     |(go_at_call 11;apply(AV (JW.on f)).cL;rintro kw rfl)
     |(go_at_call 10;apply Pd.cL;intro E1 Q;have d52:=Q.cell C.2 X;have dl2:=iO (cV (Q.aC C.1 X));have Xw:=O5 (t:=5) (JW.on Q) HF4 D D;rw[Bm.o]at d52 Xw;have HA2:=Z Xw;have f:=Z Q;clear Q Xw))
    have Ug:=((DY.on (f.fK (S:=eL))).told (.inr rfl) p aPY).on (B.fK (S:=eL));have s:=B.aC (p.aC (f.aC kk.1 X) (kk.o.2▸zX D D)) X;clear x0 x1 x2 y0 d52 dl2;obtain⟨x0,x1,x2⟩:=Z3 s;have qL:=Z (t8 (add:=oj) (rel:=rel) Ug.l8 Y (Ug.row Bl) (oU D D) v D);rw[HR.o]at qL;have aPI:=Z Ug;clear Ug s;go_wp2_with (go_at_call 8;apply qL.cF;rintro e w14 ⟨aXL,rfl,aTO,y⟩;have a1n:=Z (aPI.IG aTO y);clear aTO y);go_roundg (m-(k+1))
    .exact⟨k+1,N+1+1,aXL,R.1,HK,rfl,eO,Y,a1n.on ((U.refl w14 []).alloc _|>.fK (S:=eL))⟩
    have:=OR.o;have:=HK.o;omega
 .exact ZM77
theorem Kj{q:bB}{c:Int}(h:kS q c=0):1<=c/\c<=65536:=by
 unfold kS at h;rw[bD (by rw[DF h];simp)]at h;split at h
 .cases h
 .rename_i b;omega
theorem Rb{q:bB}{cs:List Chg}{cells:Int}(h:B9 w hv av ps q)(hs:LN w sv cs)(b:Tz w):
  tR 4 #[.agg #[j3 q.name,hv,av],i6 i7 cells,sv] w λe w'=>e=i5 (j4 oj)/\U w [] w' []:=by
 by_cases a:kS q cells=0
 .let⟨d,c⟩:=Kj a;obtain⟨n,rfl⟩:=Int.eq_ofNat_of_zero_le (show 0<=cells by omega);exact Zz h hs b (DF a) ⟨Y,Y⟩
 .exact Ra h b a
end
section
open Go.ChangeShapes Go.WideShapes Go.ChangeAt Go.RowKit
def KF:Array aF:=#[.agg #[j3 {data:=#[]},hY K 0 0,hY K 0 0],i6 i7 0,hY K 0 0]
theorem Df(b:Os){c:Type}(enc:TypeId×aF->c):∃x a,DataW.whole enc prog ((xI b).forCall (λ_ _=>0) ⟨#[],KF,[]⟩).memory f4.params.toList Rows.treeRefusedSpec.vars po KF.toList 8=H (x,[],a)/\Rows.uptoSmall c x=oj:=
 ⟨[.agg [.lit (.string []),.nil,.nil],.lit (.int i7 0),.nil],[],by kernel_rfl,by kernel_rfl⟩
theorem NT(b:Os)(a:b.Started)(o:Type)(enc:TypeId×aF->o)(F:Stop.Interp):
  ReturnsInHanded {} checked b 4 .any ((Rows.OpenSpec.upto Rows.treeRefusedSpec).preRow enc prog f4 Rows.treeRefusedUptoRow.domain po Rows.treeRefusedUptoRow.laid) (((Rows.OpenSpec.upto Rows.treeRefusedSpec).at F).post enc prog f4 po oj po po):=by
 let⟨x,d,B,t⟩:=Df b enc;refine returnsInHanded_of_row (C:=checked) (s:=Rows.OpenSpec.upto Rows.treeRefusedSpec) cY a dB func4
  (witness_row_at (enc:=enc) (C:=checked) po (xI b) KF rfl dB dB dB
   (OpenSpec.preRow_of_cond 8 B dB (λk u=>by cases u;simpa using t) dB (YG b _))) ?_
 intro W eE args N gs before m l _ L _ n _ _;have c:=m;have j:Rows.uptoBulkAll (N++gs)<=1048576:=of_decide_eq_true (L _ rfl);have V7:=l;obtain⟨p,q,g,Q,rfl,A,S⟩:=l;have i:=g;rw[params4]at i c;obtain⟨v0,v1,v2,y,V,r,p0,p1,P,rfl,rfl,rfl,z,w,G⟩:=trodAll_three i;have v:Rows.uptoBulk y<=1048576:=jN (j6 (by simp)) j;have k2:Rows.uptoBulk r<=1048576:=jN (j6 (by simp)) j;obtain⟨R,hv,av,ps,rfl,f,-⟩:=SU (c 0 25 v0 rfl rfl) z v;obtain⟨c1,rfl,rfl,rfl,-⟩:=open_int underlying3 (c 1 3 v1 rfl rfl) w;let⟨cs,hs⟩:=OM (c 2 26 v2 rfl rfl) G k2;refine(Rb f hs (Jd n)).mono λe W' ⟨he,hU⟩=> ?_;exact ZM137
theorem RQ:Rows.TreeRefusedUptoSaid:=
 OpenClaim.holds_of_cond 4 f4 rfl rfl rfl rfl rfl rfl rfl ⟨rfl,rfl,rfl,rfl,rfl⟩ rfl rfl rfl rfl rfl dB func4 dB
  (of_decide_eq_true dB) (by unfold Func.isWrapper;first|(rw[bR (by decide+kernel)];kernel_rfl)|(rw[bD (by decide+kernel)];exact⟨rfl,rfl⟩))
  (λb a c enc _ F=>by rw[OpenClaim.pre_eq_preRow];exact NT b a c enc F)
theorem P9(f:FuncId)(fn:Func)(c:pinned.checked.prog.funcNamed "osier/osierlaw20.TreeRefused"=H f)(a:pinned.checked.prog.funcs[f]? =H fn):
  oj=pinned.checked.prog.looks []/\∀(j:Nat) t,fn.params[j]? =H t->pinned.checked.prog.wantsStandIn t=po:=by
 obtain rfl:f=4:=Option.some.inj ((show prog.funcNamed "osier/osierlaw20.TreeRefused"=H 4 by kernel_rfl).symm.dd c)|>.symm;obtain rfl:fn=f4:=(Option.some.inj (func4.symm.dd a)).symm;refine⟨by kernel_rfl,λj t b=> ?_⟩;rw[params4]at b;have hm:t∈[25,3,26]:=eI (Array.mem_of_getElem? b);have FO:([25,3,26].all λu=> !prog.wantsStandIn u)=oj:=by kernel_rfl
 exact ZM144
theorem treeRefused_card:Rows.TreeRefusedUptoCardSaid:=
 Claim7.holds_tied_plain_at .later [] _ _ _ _ RQ (λ_ h=>by cases h) dB (λ_ h=>by cases h) treeRefusedUpto_row_tie rfl ⟨rfl,rfl⟩ dB rfl P9 dB
end
end Go.Proofs.YtbcooplfakebmaaGreatDoor
