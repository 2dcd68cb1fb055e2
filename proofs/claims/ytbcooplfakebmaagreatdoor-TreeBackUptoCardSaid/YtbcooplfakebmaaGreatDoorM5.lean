/- Part of the proof that the tied card of a law of the tree holds; no condition is added. -/
import Derived.Test.YtbcooplfakebmaaGreatDoorM4
namespace Go.Proofs.YtbcooplfakebmaaGreatDoor
set_option maxHeartbeats 4000000
set_option maxRecDepth 100000
set_option linter.all false
open Go.RowKit Go.Maps Go.Proofs.Tryz Tryz
open _root_.Array renaming size→hJ
open _root_.Bool renaming false→po,true→oj
open _root_.Go.Ending renaming returned→i5
open _root_.Go.IntKind renaming i64→i7,u32→kd
open _root_.Go.Obj renaming cells→h8
open _root_.Go.Value renaming bool→j4,int→i6,ownBlock→gz,pointer→h9,slice→hY,string→j3,tuple→i8
open _root_.Go.World renaming alloc→e8,cell?→e7,setCell→ey
open _root_.Inhabited renaming default→qc
open _root_.List renaming getD→ep,length→O
open _root_.Option renaming none→K,some→H
theorem _root_.Iff.dd{a b c:Prop}(h:a↔b)(k:b↔c):a↔c:=h.trans k
open Go renaming World→aA,Value→aF,Calls→aH,TypeId→ap,maxLen→bw,Ending→cg,Addr→cj,Program→cu
open Go.RowKit renaming Hid→dT
variable{fE:List Nat}{i j n wd:Nat}{cv:aF}{w:aA}
theorem yH.at{l:List Nat}(h:yH l n)(b:i<j)(a:j<O l):ep l i 0<ep l j 0:=by
 have:=List.pairwise_iff_getElem.1 h.1 i j Y a b;rw[iB,iB,kX (show i<O l by omega),kX a];exact this
theorem BJ(h:eX fN 0 1 w cv fE)(i:yH fE wd)(v:wd<=1000):
  aH prog 98 #[cv,i6 i7 (wd:Int)] w λe w'=>e=i5 (j4 oj)/\U w [] w' []:=by
 have l:=i.len;obtain⟨a,cap,rfl,-⟩:=h.len;go_in;go_wp2;go_loopg [5,10] (O fE) (λn p b wr=>wr=w/\∃(k:Nat) (z:Int),k<=O fE/\n=O fE-k/\b=J k/\p=J z/\∀j,k<=j->j<O fE->z<(fE.getD j 0:Int))
 .exact⟨rfl,0,-1,Y,rfl,rfl,rfl,λj _ _=>Y⟩
 obtain⟨rfl,k,z,B,rfl,rfl,rfl,q⟩:=hrel;by_cases g:k<O fE
 .let⟨r,o,cap',hv,m⟩:=h.DR g;obtain rfl:=CT hv;generalize c:ep fE k 0=x at m;simp only[fN]at m;have A:¬(x:Int)<=z:=by have:=q k (fV _) g;rw[c]at this;omega
  have u:¬(wd:Int)<=(x:Int):=by
   have:=i.2 _ (bM (d:=0) g);rw[c]at this;omega
  have y:¬wd<=x:=Y;go_wp2;go_roundg (O fE-(k+1))
  .exact⟨rfl,k+1,x,Y,rfl,eO,rfl,λj C hl=>by have:=i.at (show k<j by omega) hl;have:=c;omega⟩
  omega
 .go_wp2;go_ret;exact⟨rfl,U.refl _ _⟩
def mQ(s:mC)(ka:Option cj)(kc:Nat)(sa:Option cj)(sc:Nat)(ua:Option cj)(uc:Nat):aF:=
 .agg #[i6 i7 s.aG,i6 i7 s.inW,hY ka (O s.dg) kc,hY sa (O s.bK) sc,hY ua (O s.up) uc,i6 i7 s.most]
theorem F9(w:aA)(s:mC)(i:Option cj)(g:Nat)(d:Option cj)(sc:Nat)(ua:Option cj)(uc:Nat):
  aH prog 61 #[mQ s i g d sc ua uc] w λe w'=>e=i5 (i6 i7 (s.bL:Int))/\U w [] w' []:=by
 unfold mQ;let⟨wa,c⟩:=E (e8 w (h8 #[J s.aG,J s.inW,hY i (O s.dg) g,hY d (O s.bK) sc,hY ua (O s.up) uc,J s.most] 98));have a:=Za c;obtain⟨b0,m,b2⟩:=Z3 (Zb c);by_cases b:s.aG=2
 .have hs:s.bL=O s.dg:=by unfold mC.bL;rw[bR b]
  rw[hs];have j:(s.aG:Int)=2:=Y;go_in;go_wp2;go_ret;first|exact⟨rfl,a⟩|exact⟨rfl,(U.refl w []).alloc _⟩
 .have hs:s.bL=s.inW:=by unfold mC.bL;rw[bD b]
  rw[hs];have j:¬(s.aG:Int)=2:=Y;go_in;go_wp2;go_ret;first|exact⟨rfl,a⟩|exact⟨rfl,(U.refl w []).alloc _⟩
variable{a:Act}{listed:Array Bool}{fuel:Nat}
section
section
variable{P:cu}{ops:Array Oper}{bBP:Exit->Act->aA->Prop}{md:Region.Mode}{S:aA->Prop}{L:Nat}
theorem rA{o:Oper}(c:Region.ready md ops listed=[i])(d:ops[i]? =H o)(e:Region.wanted o (yielded ops a.tmps)=oj)(h:∀f:Act->aA->Prop,dT (∀a' w',(i≠L->S w')->iF P md ops bBP S L fuel (listed.setIfInBounds i oj) a' w'->f a' w')->Oper.wp P o a w f bBP):
  iF P md ops bBP S L (fuel+1) listed a w:=by
 refine⟨λh=>(by rw[c]at h;cases h),λj b=> ?_⟩;rw[c]at b;obtain rfl:j=i:=eI b;have:=h (λa' w'=>(j≠L->S w')/\iF P md ops bBP S L fuel (listed.setIfInBounds j oj) a' w') (Z λa' w' g l=>⟨g,l⟩);unfold wpOp;simp only[d,e,uN];exact .inl this
end
end
theorem ZM155{P:Prop}(h:P:=by
  rw[YQ]at Q|-;have HUE:=Z Tw;clear YQ Tw;refine dw [0,1,2,3,4,5,6,7,8,9,10,11,12,13,14,15,16,17,18,19,20,21,22,23,24,25,27,26] ?_;refine rA (i:=28) dB rfl dB (λqL hK=> ?_);(try simp only[List.getElem_toArray,Pi,Pj]);go_simp;go_at_call 61;have Li:=F9 we s ka kc sa sc ua uc;unfold mQ at Li;refine Calls.mono Li ?_;clear Li;rintro e w5 ⟨rfl,cQ⟩;dsimp only;replace Q:=cQ.zh6 Q;have gD:=Z cQ;clear cQ;refine j8 ?_;clear hK qL;refine rA (i:=29) dB rfl dB (λqL hK=> ?_);(try simp only[List.getElem_toArray,Pi,Pj]);go_simp;go_at_call 98;refine(BJ (((HPQ.o.on HUE.o)).on gD.o) BA.o.up (nA HWD.o)).mono ?_;rintro e w6 ⟨rfl,dK⟩;dsimp only;replace Q:=dK.zh6 Q;have lI:=Z dK;clear dK;refine j8 ?_;clear hK qL;refine dw [30,31] ?_;refine aY dB ?_ _;clear Q;go_wp2;go_ret;exact⟨rfl,((JR.o.dd HUE.o).dd gD.o).dd lI.o⟩):P:=h
theorem ZM7{P:Prop}(h:P:=by
  have JR:=Z (eM.o.dd gZ.o);have Yh:=MW;have HPQ:=Z ((Wm.o.on qH.o).on gZ.o);try clear c1 c2
  have Ov:=Yh.o;clear b0 b1 b2 b3 b4 b5;obtain⟨b0,b1,b2,b3,b4,b5⟩:=Z6 Ov;clear Ov;refine ee 99 (eb b0<|eb b1<|eb b2<|eb b3<|eb b4<|d7 b5) (λQ=> ?_);clear b0 b1 b2 b3 b4 b5;let⟨we,YQ⟩:=E (w3.drew);have Tw:U w3 [] we []:=BC YQ;exact ZM155):P:=h
theorem aBs(w:aA)(s:mC)(ka:Option cj)(kc:Nat)(sa:Option cj)(sc:Nat)(ua:Option cj)(uc:Nat)(B:ON s)(b:eX fN 0 1 w (hY ka (O s.dg) kc) s.dg)(hs:eX fN 0 1 w (hY sa (O s.bK) sc) s.bK)(A:eX fN 0 1 w (hY ua (O s.up) uc) s.up):
  aH prog 58 #[mQ s ka kc sa sc ua uc] w λe w'=>e=i5 (j4 oj)/\U w [] w' []:=by
 unfold mQ;let⟨wa,C⟩:=E (e8 w (h8 #[J s.aG,J s.inW,hY ka (O s.dg) kc,hY sa (O s.bK) sc,hY ua (O s.up) uc,J s.most] 98));let⟨bx,F⟩:=E (hJ w.heap);have p:=Za C;have x:=Ze C F;obtain⟨b0,b1,b2,b3,b4,b5⟩:=Z6 x;have k:=Z p;have N:=Z (b.on p);have L:=Z (hs.on p);have Wm:=Z (A.on p);have BA:=Z B;have G:=Z x;clear B b hs A p;go_in;go_upto_region 1 with(fail);clear x;refine ee 99 (eb b2<|d7 b3) (λQ=> ?_);refine dw [0,4,1,5,2,6,3,8,7,9] ?_;refine aY dB ?_ _;clear Q;let⟨wd,z⟩:=E (wa.drew);have u:U wa [] wd []:=BC z;rw[z];have v:=u.aC G.o X;have qH:=Z u;have eM:=Z (k.o.dd u);clear z u b0 b1 b2 b3 b4 b5;obtain⟨b0,b1,b2,b3,b4,b5⟩:=Z6 v;have y:=Z v;have i1:(0:Int)<=(s.inW:Int):=Y;have i2:(s.inW:Int)<=30:=nA BA.o.inW;have P:(1:Int)<=(s.most:Int):=nA BA.o.most.1;have W:(s.most:Int)<=65536:=nA BA.o.most.2;have S:s.inW<=30:=BA.o.inW;have T:1<=s.most:=BA.o.most.1;have f:s.most<=65536:=BA.o.most.2;have HWD:=Z (show s.bL<=1000 by
  have a:=BA.o.dg;unfold mC.bL;split
  .rename_i h;rw[bR h]at a;have:=a.2;omega
  .omega)
 have a:=BA.o.dg;have c:=BA.o.bK;clear v;rcases BA.o.aG with b|b|b
 .rw[bD Y]at a c;have n:((O s.dg:Int)==0)=oj:=by rw[a];rfl
  have j:((O s.bK:Int)==0)=oj:=by rw[c];rfl
  have q:((s.aG:Int)==1)=oj:=by rw[show((1:Int))=((1:Nat):Int)from rfl,dA];exact kI Y
  have m:((s.aG:Int)==2)=po:=by rw[show((2:Int))=((2:Nat):Int)from rfl,dA];exact jO Y
  have l:((s.aG:Int)==3)=po:=by rw[show((3:Int))=((3:Nat):Int)from rfl,dA];exact jO Y
  clear b;rw[n,j];clear n j a c;go_upto_region 9 with(fail);have JR:=eM;have Yh:=y;have HPQ:=Z (Wm.o.on qH.o);have Ov:=Yh.o;clear b0 b1 b2 b3 b4 b5;obtain⟨b0,b1,b2,b3,b4,b5⟩:=Z6 Ov;clear Ov;refine ee 99 (eb b0<|eb b1<|eb b2<|eb b3<|eb b4<|d7 b5) (λQ=> ?_);clear b0 b1 b2 b3 b4 b5;let⟨we,YQ⟩:=E (wd.drew);have Tw:U wd [] we []:=BC YQ;exact ZM155
 .rw[bR b]at a;rw[bD Y]at c;have j:((O s.bK:Int)==0)=oj:=by rw[c];rfl
  have V:(O s.dg:Int)<(s.inW:Int):=nA a.2;have R:O s.dg<s.inW:=a.2;have d:=Z (BJ (N.o.on qH.o) a.1 Y);have q:((s.aG:Int)==1)=po:=by rw[show((1:Int))=((1:Nat):Int)from rfl,dA];exact jO Y
  have m:((s.aG:Int)==2)=oj:=by rw[show((2:Int))=((2:Nat):Int)from rfl,dA];exact kI Y
  have l:((s.aG:Int)==3)=po:=by rw[show((3:Int))=((3:Nat):Int)from rfl,dA];exact jO Y
  clear b;rw[j];clear j a c;go_upto_region 9 with(go_at_call 98;apply d.o.cL;intro w3 g;have r:=g.aC y.o X;have c1:=Zc r 1;have c2:=Zc r 2;have gZ:=Z g;have MW:=Z r;clear g r);exact ZM7
 .rw[bD Y]at a;rw[bR b]at c;have n:((O s.dg:Int)==0)=oj:=by rw[a];rfl
  have d:=Z (BJ (L.o.on qH.o) c Y);have q:((s.aG:Int)==1)=po:=by rw[show((1:Int))=((1:Nat):Int)from rfl,dA];exact jO Y
  have m:((s.aG:Int)==2)=po:=by rw[show((2:Int))=((2:Nat):Int)from rfl,dA];exact jO Y
  have l:((s.aG:Int)==3)=oj:=by rw[show((3:Int))=((3:Nat):Int)from rfl,dA];exact kI Y
  clear b;rw[n];clear n a c;go_upto_region 9 with(go_at_call 98;apply d.o.cL;intro w3 g;have MW:=Z (g.aC y.o X);have gZ:=Z g;clear g);exact ZM7
variable{id:Nat}{oi:Oper}{v:aF}
section
section
variable{P:cu}{ops:Array Oper}{bBP:Exit->Act->aA->Prop}{md:Region.Mode}{S:aA->Prop}{L:List Nat}
def BD(P:cu)(md:Region.Mode)(ops:Array Oper)(bBP:Exit->Act->aA->Prop)(S:aA->Prop)(L:List Nat):Nat->Array Bool->Act->aA->Prop
 |0,listed,a,w=>Region.ready md ops listed=[]/\bBP .normal a w
 |fuel+1,listed,a,w=>
  (Region.ready md ops listed=[]->bBP .normal a w)/\
  ∀i∈Region.ready md ops listed,wpOp P ops bBP i (λa' w'=>(i∉L->S w')/\BD P md ops bBP S L fuel (listed.setIfInBounds i oj) a' w') a w
theorem WG:∀(fuel:Nat) (listed:Array Bool) (a:Act) (w:aA),BD P md ops bBP S L fuel listed a w->wpAny P md ops bBP fuel listed a w
 |0,_,_,_,h=>h
 |fuel+1,_,_,_,h=>⟨h.1,λi c=>wpOp_mono (λa' w' b=>WG fuel _ a' w' b.2) (h.2 i c)⟩
theorem P3(x:ops[i]? =H oi)(y:∀(j:Nat) (o:Oper) cs b,ops[j]? =H o->o.op≠ .select cs b)(hl:(L.all λl=>waits md ops l i)=oj)(G:∀c a w,bBP (.panic c) (a.put oi.dst v) w->bBP (.panic c) a w):
  ∀(fuel:Nat) (listed:Array Bool) (a:Act) (w:aA),
   (∀j g,ops[j]? =H g->j≠i->listed.getD j oj=po->(∀e∈g.after,Region.binds md e=oj->e.on≠i)->oi.apart ops g=oj)->
   i∈Region.ready md ops listed->YieldsIf P ops S oi v a->S w->
   BD P md ops bBP S L fuel (listed.setIfInBounds i oj) (a.put oi.dst v) w->BD P md ops bBP S L (fuel+1) listed a w
 |fuel,listed,a,w,hfree,hr,hy,hS,s=>by
  refine⟨λh=>(by rw[h]at hr;cases hr),λj u=> ?_⟩;by_cases m:j=i
  .subst m;exact hy.wpOp x hS ⟨λ_=>hS,s⟩
  .have q:j∉L:=λe=>KK (Xa.1 hl j e) hr u;cases fuel with
   |zero=>
    have:=ready_mono u m;rw[s.1]at this;cases this
   |succ fuel=>
    let⟨p,g,d,FO⟩:=mem_ready.1 u;have T:∀e∈g.after,Region.binds md e=oj->e.on≠i:=λe N t A=>by
     have n:=FO e N t;have C:=(mem_ready.1 hr).1;rw[A]at n;rcases WB i listed.size with z|z
     .simp[z]at C n;rw[C]at n;cases n
     .simp[Array.getElem?_eq_none z]at n
    have R:∀k ok,ops[k]? =H ok->k≠i->(listed.setIfInBounds j oj).getD k oj=po->
      (∀e∈ok.after,Region.binds md e=oj->e.on≠i)->oi.apart ops ok=oj:=λk ok V f F fS=>by
     refine hfree k ok V f ?_ fS;by_cases B:j=k
     .subst B;exact p
     .rw[getD_set_ne oj B]at F;exact F
    refine wpOp_mono (λa' w' r=>⟨λ_=>r.2.1 q,P3 x y hl G fuel (listed.setIfInBounds j oj) a' w' R (ready_mono hr (Ne.symm m)) r.1 (r.2.1 q) ?_⟩) (wpOp_putIf d (hfree j g d m p T) (λcs b=>y i oi cs b x) (λcs b=>y j g cs b d) G hy (s.2 j (ready_mono u m)));rw[Array.setIfInBounds_comm _ _ m];exact r.2.2
theorem qY(d:Option Tmp)(b:ops[i]? =H oi)(hd:oi.dst=d)(hs:Region.noSelect ops=oj)(e:Region.free md ops listed i=oj)(m:(Region.ready md ops listed).contains i=oj)(hl:(L.all λl=>waits md ops l i)=oj)(n:∀c a w,bBP (.panic c) (a.put oi.dst v) w->bBP (.panic c) a w)(j:YieldsIf P ops S oi v a)(g:S w)(h:BD P md ops bBP S L fuel (listed.setIfInBounds i oj) (a.put d v) w):BD P md ops bBP S L (fuel+1) listed a w:=
 P3 b (Region.noSelect_spec hs) hl n fuel listed a w (Region.free_spec b e) (eI m) j g (hd▸h)
theorem qZ{o:Oper}(c:Region.ready md ops listed=[i])(d:ops[i]? =H o)(g:o.guard=K)(h:∀f:Act->aA->Prop,dT (∀a' w',(i∉L->S w')->BD P md ops bBP S L fuel (listed.setIfInBounds i oj) a' w'->f a' w')->Oper.wp P o a w f bBP):
  BD P md ops bBP S L (fuel+1) listed a w:=by
 refine⟨λh=>(by rw[c]at h;cases h),λj b=> ?_⟩;rw[c]at b;obtain rfl:j=i:=eI b;have e:Region.wanted o (yielded ops a.tmps)=oj:=by simp[Region.wanted,g]
 have:=h (λa' w'=>(j∉L->S w')/\BD P md ops bBP S L fuel (listed.setIfInBounds j oj) a' w') (Z λa' w' l m=>⟨l,m⟩);unfold wpOp;simp only[d,e,uN];exact .inl this
theorem Ps(b:Region.ready md ops listed=[])(h:bBP .normal a w):∀fuel,BD P md ops bBP S L fuel listed a w
 |0=>⟨b,h⟩
 |_+1=>⟨λ_=>h,by rw[b];simp⟩
theorem Pr(L:List Nat)(S:aA->Prop)(b:P.follows .mixedOrders=oj)(c:S w.drew)(h:S w.drew->BD P .any ops bBP S L ops.size (Array.replicate ops.size po) a w.drew):(Code.region id ops oj).wp P bBP a w:=
 wp_region_any b (WG _ _ _ _ (h c))
end
end
variable{b uc:Nat}{ua:Option cj}{ρ:aW}
theorem ZM35{P:Prop}(h:P:=by
  refine Zk hK Q<|Zo 7 λqL hK=> ?_;go_simp;go_at_call 60;refine(Jj (ρ:=pJ) (τ+20) s.bL s.most _ [s.up] HGS HWD BA.most X (λk hk=>by obtain rfl:k=0:=(eI hk);exact BA.up)).mono ?_;rintro e w8 ⟨rb,E0,rfl,iE,ou,hS8⟩;dsimp only;replace Q:=iE.zh6 Q;have HN:=Z (Nj.mk ⟨rb,E0,rfl,rfl,NN.dd iE,λk hk=>ou k (wM hk NN.size),hS8⟩);clear iE ou hS8;refine Zk hK Q<|I 8 ?_;refine dw [9,11,10,12] ?_;refine aY dB ?_ _;clear Q;go_wp2;go_meet;exact HN.o):P:=h
def PS:gK:=⟨[],λ_=>0,[],[]⟩
def aIg(w:aA)(ρ:aW)(τ:Nat)(s:mC)(e:cg)(w':aA):Prop:=
 ∃nb bN,e=i5 (i8 #[h9 (H ⟨nb,0,K⟩),i6 i7 0])/\U w [] w' []/\(∀k,k<hJ w.heap->bN k=ρ k)/\o8 w' bN τ nb s PS 0 0
theorem aEM{l:List Nat}(a:w.heap[b]? =H (h8 #[hY ua (O l) uc] 43 (0,0)))(hl:eX fN 0 1 w (hY ua (O l) uc) l):aP3 w (hY (H ⟨b,0,K⟩) 1 1) [l]:=
 ⟨[hY ua (O l) uc],rfl,E8 (news:=[hY ua (O l) uc]) a rfl _ (dH rfl),λk c=>by
  obtain rfl:k=0:=eI c;exact hl⟩
theorem aOC(w:aA):aP3 w (hY K 0 0) []:=⟨[],rfl,eX.nil w,λk a=>dS a (Yk k)⟩
structure Nj(w4:aA)(ρ4:aW)(β vD most:Nat)(gs:List (List Nat))(s4 s5:aF)(wx:aA):Prop where
 ex:∃rb ρr,s4=h9 (H ⟨rb,0,K⟩)/\s5=i6 i7 0/\U w4 [] wx []/\(∀k,k<hJ w4.heap->ρr k=ρ4 k)/\JH wx ρr β rb vD most gs [] 0 0
theorem aBp{s:mC}(h:ON s):s.bL<=30:=by
 have b:=h.inW;have a:=h.dg;unfold mC.bL;split
 .rename_i e;rw[bR e]at a;have:=a.2;omega
 .omega
theorem aBr{s:mC}(h:ON s):O s.dg<=100000/\O s.bK<=100000/\O s.up<=100000:=by
 have c:=h.inW;have d:s.bL<=30:=by
  have a:=h.dg;unfold mC.bL;split
  .rename_i e;rw[bR e]at a;have:=a.2;omega
  .omega
 refine⟨?_,?_,?_⟩
 .have a:=h.dg;split at a
  .omega
  .rw[a];simp
 .have b:=h.bK;split at b
  .have:=KE.len b;omega
  .rw[b];simp
 .have:=KE.len h.up;omega
theorem aGj(τ:Nat)(s:mC)(ka:Option cj)(kc:Nat)(sa:Option cj)(sc:Nat)(ua:Option cj)(uc:Nat)(kN:ON s)(hk:eX fN 0 1 w (hY ka (O s.dg) kc) s.dg)(hs:eX fN 0 1 w (hY sa (O s.bK) sc) s.bK)(hu:eX fN 0 1 w (hY ua (O s.up) uc) s.up):
  aH prog 32 #[mQ s ka kc sa sc ua uc] w (aIg w ρ τ s):=by
 have Tg:=λf (hz:U w [] f [])=>aBs f s ka kc sa sc ua uc kN (hk.on hz) (hs.on hz) (hu.on hz);unfold mQ at Tg|-;let⟨wa,dE⟩:=E (e8 w (h8 #[J s.aG,J s.inW,hY ka (O s.dg) kc,hY sa (O s.bK) sc,hY ua (O s.up) uc,J s.most] 98));let⟨bx,lR⟩:=E (hJ w.heap);have cR:=Za dE;have hB:=Ze dE lR;obtain⟨b0,b1,b2,b3,b4,b5⟩:=Z6 hB;have HG:=Z Tg;have HU:=Z cR;have HB:=Z hB;have HK:=Z hk;have HS:=Z hs;have Wm:=Z hu;have BA:=Z kN;have aPH:=Z (aBr kN);have HWD:=Z (aBp kN);clear Tg cR hB hk hs hu kN;go_in;go_upto_region 3 with(go_at_call 58;apply(HG.o _ HU).cL;intro w1 cM;have oN:=Z cM;clear cM);clear b0 b1 b2 b3 b4 b5;have eQ:=oN.aC HB X;obtain⟨b0,b1,b2,b3,b4,b5⟩:=Z6 eQ;clear eQ;refine Pr [10,11,12,13,14] (λw'=>e7 w' (Ad bx 2)=H (hY ka (O s.dg) kc)/\e7 w' (Ad bx 3)=H (hY sa (O s.bK) sc)/\e7 w' (Ad bx 4)=H (hY ua (O s.up) uc)) dB ⟨b2,b3,b4⟩ (λQ=> ?_);clear b0 b1 b2 b3 b4 b5;let⟨wd,eY⟩:=E (w1.drew);have qS:U w1 [] wd []:=BC eY;rw[eY]at Q|-;have qH:=Z (oN.dd qS);clear eY qS;(refine qY (i:=0) (H 14) (v:= ?_) rfl rfl dB dB dB dB (λ_ _ _ h=>h) (Or.inl ⟨by rfl,?_⟩) (by assumption) ?_;rotate_left;·(intro w b;(try dsimp only at b);(try obtain⟨ZQ,b⟩:=b);(try obtain⟨Mc,b⟩:=b);(try obtain⟨UB,b⟩:=b);(try obtain⟨Mb,b⟩:=b);(try obtain⟨Hl,b⟩:=b);(try obtain⟨V8,b⟩:=b);(try obtain⟨B,b⟩:=b);go_simp;try with_reducible rfl));simp only[Act.put,RM,RJ,UT]
 (refine qY (i:=3) (H 17) (v:= ?_) rfl rfl dB dB dB dB (λ_ _ _ h=>h) (Or.inl ⟨by rfl,?_⟩) (by assumption) ?_;rotate_left;·(intro w b;(try dsimp only at b);(try obtain⟨ZQ,b⟩:=b);(try obtain⟨Mc,b⟩:=b);(try obtain⟨UB,b⟩:=b);(try obtain⟨Mb,b⟩:=b);(try obtain⟨Hl,b⟩:=b);(try obtain⟨V8,b⟩:=b);(try obtain⟨B,b⟩:=b);go_simp;try with_reducible rfl));simp only[Act.put,RM,RJ,UT]
 (refine qY (i:=6) (H 20) (v:= ?_) rfl rfl dB dB dB dB (λ_ _ _ h=>h) (Or.inl ⟨by rfl,?_⟩) (by assumption) ?_;rotate_left;·(intro w b;(try dsimp only at b);(try obtain⟨ZQ,b⟩:=b);(try obtain⟨Mc,b⟩:=b);(try obtain⟨UB,b⟩:=b);(try obtain⟨Mb,b⟩:=b);(try obtain⟨Hl,b⟩:=b);(try obtain⟨V8,b⟩:=b);(try obtain⟨B,b⟩:=b);go_simp;try with_reducible rfl));simp only[Act.put,RM,RJ,UT]
 (refine qY (i:=1) (H 15) (v:= ?_) rfl rfl dB dB dB dB (λ_ _ _ h=>h) (Or.inl ⟨by rfl,?_⟩) (by assumption) ?_;rotate_left;·(intro w b;(try dsimp only at b);(try obtain⟨ZQ,b⟩:=b);(try obtain⟨Mc,b⟩:=b);(try obtain⟨UB,b⟩:=b);(try obtain⟨Mb,b⟩:=b);(try obtain⟨Hl,b⟩:=b);(try obtain⟨V8,b⟩:=b);(try obtain⟨B,b⟩:=b);go_simp;try with_reducible rfl));simp only[Act.put,RM,RJ,UT]
 (refine qY (i:=4) (H 18) (v:= ?_) rfl rfl dB dB dB dB (λ_ _ _ h=>h) (Or.inl ⟨by rfl,?_⟩) (by assumption) ?_;rotate_left;·(intro w b;(try dsimp only at b);(try obtain⟨ZQ,b⟩:=b);(try obtain⟨Mc,b⟩:=b);(try obtain⟨UB,b⟩:=b);(try obtain⟨Mb,b⟩:=b);(try obtain⟨Hl,b⟩:=b);(try obtain⟨V8,b⟩:=b);(try obtain⟨B,b⟩:=b);go_simp;try with_reducible rfl));simp only[Act.put,RM,RJ,UT]
 (refine qY (i:=7) (H 21) (v:= ?_) rfl rfl dB dB dB dB (λ_ _ _ h=>h) (Or.inl ⟨by rfl,?_⟩) (by assumption) ?_;rotate_left;·(intro w b;(try dsimp only at b);(try obtain⟨ZQ,b⟩:=b);(try obtain⟨Mc,b⟩:=b);(try obtain⟨UB,b⟩:=b);(try obtain⟨Mb,b⟩:=b);(try obtain⟨Hl,b⟩:=b);(try obtain⟨V8,b⟩:=b);(try obtain⟨B,b⟩:=b);go_simp;try with_reducible rfl));simp only[Act.put,RM,RJ,UT]
 refine qZ (i:=2) dB rfl rfl (λqL hK=> ?_);(try simp only[List.getElem_toArray,Pi,Pj]);go_simp;go_at_call 59;apply(MB _ s.dg wd (HK.on (HU.dd qH)) aPH.1).cF;rintro e w2 ⟨u,rfl,Mg,bH⟩;obtain⟨d,g,rfl,-⟩:=Mg.len;dsimp only;replace Q:=bH.zh3 Q;have eM:=Z (qH.dd bH);have LP:=Z (Mg.eE (wb:=w) (HU.dd qH).size);clear bH Mg;refine hK.o _ _ (λ_=>Q) ?_;clear hK qL;(try simp only[Act.put,RM,RJ,UT]);(refine qY (i:=9) (H 23) (v:= ?_) rfl rfl dB dB dB dB (λ_ _ _ h=>h) (Or.inl ⟨by rfl,?_⟩) (by assumption) ?_;rotate_left;·(intro w b;(try dsimp only at b);(try obtain⟨ZQ,b⟩:=b);(try obtain⟨Mc,b⟩:=b);(try obtain⟨UB,b⟩:=b);(try obtain⟨Mb,b⟩:=b);(try obtain⟨Hl,b⟩:=b);(try obtain⟨V8,b⟩:=b);(try obtain⟨B,b⟩:=b);go_simp;try with_reducible rfl));simp only[Act.put,RM,RJ,UT]
 refine qZ (i:=5) dB rfl rfl (λqL hK=> ?_);(try simp only[List.getElem_toArray,Pi,Pj]);go_simp;go_at_call 59;apply(MB _ s.bK w2 (HS.on (HU.dd eM)) aPH.2.1).cF;rintro e w3 ⟨u,rfl,Oq,cU⟩;obtain⟨n,m,rfl,-⟩:=Oq.len;dsimp only;replace Q:=cU.zh3 Q;have gZ:=Z (eM.dd cU);have aUp:=Z (LP.on cU);have HO3:=Z (Oq.eE (wb:=w) (HU.dd eM).size);clear cU Oq;refine hK.o _ _ (λ_=>Q) ?_;clear hK qL;(try simp only[Act.put,RM,RJ,UT]);refine qZ (i:=8) dB rfl rfl (λqL hK=> ?_);(try simp only[List.getElem_toArray,Pi,Pj]);go_simp;go_at_call 59;apply(MB _ s.up w3 (Wm.on (HU.dd gZ)) aPH.2.2).cF;rintro e w4 ⟨u,rfl,QE,eA⟩;obtain⟨y,q,rfl,-⟩:=QE.len;dsimp only;replace Q:=eA.zh3 Q;have kQ:=Z (gZ.dd eA);have aUo:=Z (aUp.on eA);have aUn:=Z (HO3.on eA);have Ns:=Z (QE.eE (wb:=w) (HU.dd gZ).size);clear eA QE;refine hK.o _ _ (λ_=>Q) ?_;clear hK qL;(try simp only[Act.put,RM,RJ,UT]);clear Q;have D1:=kQ.aC HB X;have c2:=Zc D1 2;have c3:=Zc D1 3;have c4:=Zc D1 4;have cf:=aM D1;have cl:=iO (cV D1);let⟨w5,oD⟩:=E (ey (ey (ey w4 (Ad bx 2) (hY d (O s.dg) g)) (Ad bx 3) (hY n (O s.bK) m)) (Ad bx 4) (hY y (O s.up) q));have cQ:U w4 [bx] w5 [bx]:=oD▸((pX w4 bx 2 _).setCell (a:=Ad bx 3) (.inl X) _).setCell (a:=Ad bx 4) (.inl X) _;have rS:w5.heap[bx]? =H (h8 #[J s.aG,J s.inW,hY d (O s.dg) g,hY n (O s.bK) m,hY y (O s.up) q,J s.most] 98 (0,0)):=by
  have h1:(ey w4 (Ad bx 2) (hY d (O s.dg) g)).heap[bx]? =H (h8 #[J s.aG,J s.inW,hY d (O s.dg) g,hY sa (O s.bK) sc,hY ua (O s.up) uc,J s.most] 98 (0,0)):=by rw[aE _ D1];rfl
  have h2:(ey (ey w4 (Ad bx 2) (hY d (O s.dg) g)) (Ad bx 3) (hY n (O s.bK) m)).heap[bx]? =H (h8 #[J s.aG,J s.inW,hY d (O s.dg) g,hY n (O s.bK) m,hY ua (O s.up) uc,J s.most] 98 (0,0)):=by rw[aE _ h1];rfl
  rw[<-oD,aE _ h2];rfl
 refine qZ (i:=10) dB rfl rfl (λqL hK=> ?_);(try simp only[List.getElem_toArray,Pi,Pj]);go_simp;refine hK.o _ _ (λh=>dS D h) ?_;clear hK qL;(try simp only[Act.put,RM,RJ,UT]);refine qZ (i:=11) dB rfl rfl (λqL hK=> ?_);(try simp only[List.getElem_toArray,Pi,Pj]);go_simp;refine hK.o _ _ (λh=>dS D h) ?_;clear hK qL;(try simp only[Act.put,RM,RJ,UT]);refine qZ (i:=12) dB rfl rfl (λqL hK=> ?_);(try simp only[List.getElem_toArray,Pi,Pj]);go_simp;refine hK.o _ _ (λh=>dS D h) ?_;clear hK qL;(try simp only[Act.put,RM,RJ,UT]);refine qZ (i:=13) dB rfl rfl (λqL hK=> ?_);(try simp only[List.getElem_toArray,Pi,Pj]);go_simp;refine hK.o _ _ (λh=>dS D h) ?_;clear hK qL;(try simp only[Act.put,RM,RJ,UT]);refine qZ (i:=14) dB rfl rfl (λqL hK=> ?_);(try simp only[List.getElem_toArray,Pi,Pj]);go_simp;refine hK.o _ _ (λh=>dS D h) ?_;clear hK qL;(try simp only[Act.put,RM,RJ,UT]);refine Ps dB ?_ _;have aSt:U wa [bx] w5 [bx]:=((kQ.aN (T:=[bx]) (λ_ h=>by cases h)).to (λ_ h=> .inl h)).dd cQ;have aSn:U w [] w5 []:=HU.aZ aSt (λx hx=>by rw[show x=bx by simpa using hx];omega);have ne5:∀{v:aF} {l:List Nat},bG fN 0 3 1 w w4 v l->bG fN 0 3 1 w w5 v l:=λh=>h.set D1 D cQ;have HK5:=Z (ne5 aUo);have Pe:=Z (ne5 aUn);have uK:=Z (ne5 Ns);have gD:=Z aSn;have yP:=Z rS;obtain⟨d0,d1,d2,d3,d4,d5⟩:=Z6 rS;clear aSt aSn ne5 rS cQ D1 c2 c3 c4 cf cl oD aUo aUn Ns aUp HO3 LP eM gZ kQ qH oN;let⟨pJ,JA⟩:=E (up w τ ρ);go_upto_region 4 with(fail);go_cut [4,5] (λs4 s5 wx=>Nj w5 pJ (τ+20) s.bL s.most [s.up] s4 s5 wx)
 case first=>
  refine ek 99 (eb d0<|eb d1<|eb d2<|eb d3<|eb d4<|d7 d5) (λwd eY qS Q=> ?_);clear d0 d1 d2 d3 d4 d5;have qH:=Z qS;clear eY qS;refine dw [0,2,4,3,5] ?_;refine xA (i:=1) (j:=6) dB rfl rfl rfl rfl (λqL hK=> ?_) (λqL hK=> ?_)
  .go_simp;have Li:=F9 wd s d g n m y q;unfold mQ at Li;refine Calls.mono Li ?_;clear Li;rintro e w6 ⟨rfl,F⟩;dsimp only;replace Q:=F.zh6 Q;have L:=Z (qH.dd F);clear F;refine Zk hK Q<|Zo 6 λqL hK=> ?_;go_simp;let⟨w7,A⟩:=E (e8 w6 (h8 #[hY y (O s.up) q] 43));have p:=Za A;have EM:=Zb A;rw[A];replace Q:=p.zh6 Q;have HGS:=Z (aEM EM ((uK.rd.on L).on p));have NN:=Z (L.dd p);clear p EM A;exact ZM35
  .go_simp;let⟨w6,o⟩:=E (e8 wd (h8 #[hY y (O s.up) q] 43));have F:=Za o;have nP:=Zb o;rw[o];replace Q:=F.zh6 Q;have L:=Z (qH.dd F);have zO:=Z nP;clear F nP o;refine Zk hK Q<|Zo 1 λqL hK=> ?_;go_simp;go_at_call 61;have Li:=F9 w6 s d g n m y q;unfold mQ at Li;refine Calls.mono Li ?_;clear Li;rintro e w7 ⟨rfl,p⟩;dsimp only;replace Q:=p.zh6 Q;have HGS:=Z (aEM (p.aC zO X) ((uK.rd.on L).on p));have NN:=Z (L.dd p);clear p;exact ZM35
 case rest=>
  obtain⟨rb,E0,rfl,rfl,Ej,htc,hSc⟩:=hcut.ex;clear hcut;have d0:=(Ej).cell d0 X;have d1:=(Ej).cell d1 X;have d2:=(Ej).cell d2 X;have d3:=(Ej).cell d3 X;have d4:=(Ej).cell d4 X;have d5:=(Ej).cell d5 X;have C:=Z Ej;have HTC:=Z htc;have Pd:=Z hSc;have lbx:=iO (WC d0);clear Ej htc hSc;go_upto_region 6 with(fail);let⟨w6,o⟩:=E (e8 (e8 wc (h8 #[J s.aG,J s.inW,hY d (O s.dg) g,hY n (O s.bK) m,hY y (O s.up) q,J s.most,Pt rb] 130)) (h8 #[h9 (H ⟨wc,0,K⟩),Value.nilIface] 123));have F:U wc [] w6 []:=o▸((U.refl wc []).alloc _).alloc _;have lL:w6.heap[hJ wc.heap]? =H (h8 #[J s.aG,J s.inW,hY d (O s.dg) g,hY n (O s.bK) m,hY y (O s.up) q,J s.most,Pt rb] 130 (0,0)):=by rw[<-o];exact kV wc _ _
  have Mh:w6.heap[hJ wc.heap+1]? =H (h8 #[h9 (H ⟨wc,0,K⟩),Value.nilIface] 123 (0,0)):=by rw[<-o];exact kU wc _ _
  have xh:hJ w6.heap=hJ wc.heap+2:=by rw[<-o];simp
  rw[o];generalize uD:hJ wc.heap=lb at lL Mh xh|-;generalize Cd:lb+1=nb at Mh|-;have P:bA w5 pJ eL wc E0:=⟨C.os,C.tape,C.output,C.size,λk hk _=>C.block k hk X,HTC⟩;have aPF:=Z (show∀(wx:aA) (f7:aW),bA wc E0 eL wx f7->wx.heap[lb]? =H (h8 #[J s.aG,J s.inW,hY d (O s.dg) g,hY n (O s.bK) m,hY y (O s.up) q,J s.most,Pt rb] 130 (0,0))->f7 lb=τ->yC wx f7 τ lb rb s [] 0 0 from λwx f7 hM hl ht=>by
   have g1:=(HK5.jU τ ρ).rd;have g2:=(Pe.jU τ ρ).rd;rw[JA]at g1 g2;exact⟨⟨_,_,_,_,_,_,hl,(g1.dg P id).dg hM id,(g2.dg P id).dg hM id⟩,ht,Pd.dg hM zE,BA⟩)
  have Ye:=Z (dX Mh (dX lL (dX xh (dX Cd uD))));have L:=Z F;have UN:=Z (show∀k,k<hJ w.heap->E0 k=ρ k from λk hk=>by
   have h5:=gD.size;rw[HTC.o k Y,<-JA,eN hk])
  have Ex:=Z (F.aC (P.aC yP id) X);have HW6:=Z (gD.dd (C.dd F));clear d0 d1 d2 d3 d4 d5 lbx;have aNH:=Ex.o;obtain⟨d0,d1,d2,d3,d4,d5⟩:=Z6 aNH;obtain⟨l0,l1,l2,l3,l4,l5,l6⟩:=Z7 lL;obtain⟨n0,n1⟩:=Z2 Mh;have nf:=aM Mh;have nl:=iO (cV Mh);have ll:=iO (cV lL);have lbx:=iO (cV aNH);clear F lL Mh xh o uD Cd P aNH;rcases BA.aG with hk|hk|hk
  .have Yf:=Z hk;have kf1:((s.aG:Int)==1)=oj:=by rw[show((1:Int))=((1:Nat):Int)from rfl,dA];exact kI Y
   have kf2:((s.aG:Int)==2)=po:=by rw[show((2:Int))=((2:Nat):Int)from rfl,dA];exact jO Y
   have kf3:((s.aG:Int)==3)=po:=by rw[show((3:Int))=((3:Nat):Int)from rfl,dA];exact jO Y
   clear hk;go_wp2;go_ret2;obtain⟨g1,g2,g3,g4,g5⟩:=Ye.o;have p:U w6 [nb] (ey w6 (Ad nb 1) (.iface 164 (h9 (H ⟨w6,0,K⟩)))) [nb]:=pX w6 nb 1 _;let⟨w7,A⟩:=E (ey w6 (Ad nb 1) (.iface 164 (h9 (H ⟨w6,0,K⟩))));have MS:w7.heap[nb]? =H (h8 #[Pt lb,.iface 164 (h9 (H ⟨w6,0,K⟩))] 123 (0,0)):=by rw[<-A,aE _ g1];rfl
   have W:hJ w7.heap=hJ w6.heap:=by rw[<-A];simp
   rw[A]at p|-;have iE:U w7 [] (e8 w7 (h8 #[Pt lb] 166)) []:=(U.refl w7 []).alloc _;have hk8:=lK w7 (h8 #[Pt lb] 166);generalize wP:e8 w7 (h8 #[Pt lb] 166)=w8 at iE hk8|-;rw[W]at hk8;have G:U wc [] w8 []:=(L.aZ p (λx hx=>by rw[show x=nb by simpa using hx];omega)).dd iE;have sZ:bA wc E0 eL w8 (up wc τ E0):=G.eW (S:=eL) τ (λ_ h=>dS h X);have hl8:=iE.aC (p.aC g2 (by simp;omega)) X;exact⟨nb,_,rfl,(gD.dd C).dd G,λk hk=>(eN (rV gD.size C.size)).dd (UN.o k hk),lb,rb,_,iE.aC MS X,cJ Y,.inl ⟨Yf,_,rfl,hk8,cJ Y,aPF _ _ sZ hl8 (cJ Y)⟩⟩
  .have Yf:=Z hk;have kf1:((s.aG:Int)==1)=po:=by rw[show((1:Int))=((1:Nat):Int)from rfl,dA];exact jO Y
   have kf2:((s.aG:Int)==2)=oj:=by rw[show((2:Int))=((2:Nat):Int)from rfl,dA];exact kI Y
   have kf3:((s.aG:Int)==3)=po:=by rw[show((3:Int))=((3:Nat):Int)from rfl,dA];exact jO Y
   clear hk;have mk:∀f:aA,(Instr.makeMap 168 K).run prog f= .ok (.map (H f.heap.size)) (f.alloc (.map #[] 0)):=λ_=>rfl;go_wp2;go_ret2;obtain⟨g1,g2,g3,g4,g5⟩:=Ye.o;let⟨w7,A⟩:=E (ey w6 (Ad nb 1) (.iface 167 (h9 (H ⟨hJ w6.heap+1,0,K⟩))));have p:U w6 [nb] w7 [nb]:=A▸pX w6 nb 1 _;have MS:w7.heap[nb]? =H (h8 #[Pt lb,.iface 167 (h9 (H ⟨hJ w6.heap+1,0,K⟩))] 123 (0,0)):=by rw[<-A,aE _ g1];rfl
   have W:hJ w7.heap=hJ w6.heap:=by rw[<-A];simp
   rw[A];have hm8:=fW.wO w7 9;let⟨w8,wP⟩:=E (w7.alloc (.map #[] 0));have iE:=Za wP;have hs8:hJ w8.heap=hJ w6.heap+1:=by rw[<-wP];simp[W]
   rw[wP,W]at hm8;rw[wP];let⟨z,Gv⟩:=E (e8 w8 (h8 #[Pt lb,.map (H w6.heap.size),.map K] 170));have sO:=Za Gv;have hk9:z.heap[hJ w6.heap+1]? =H (h8 #[Pt lb,.map (H w6.heap.size),.map K] 170 (0,0)):=by rw[<-Gv,<-hs8];exact lK w8 _
   rw[Gv];have G:U wc [] z []:=((L.aZ p (λx hx=>by rw[show x=nb by simpa using hx];omega)).dd iE).dd sO;have sZ:bA wc E0 eL z (up (hJ w6.heap+1) τ (up w6 (τ+1) (up wc τ E0))):=((G.eW (S:=eL) τ (λ_ h=>dS h X)).BL (τ+1) Y).BL τ Y;have hl9:=sO.aC (iE.aC (p.aC g2 (by simp;omega)) X) X;have tl:up (hJ w6.heap+1) τ (up w6 (τ+1) (up wc τ E0)) lb=τ:=by rw[eN Y,eN Y];exact cJ Y
   have tn:up (hJ w6.heap+1) τ (up w6 (τ+1) (up wc τ E0)) nb=τ:=by rw[eN Y,eN Y];exact cJ Y
   have tc:up (hJ w6.heap+1) τ (up w6 (τ+1) (up wc τ E0)) w6.heap.size=τ+1:=by rw[eN Y];exact cJ (fV _)
   have A1:=gD.size;have aYM:=C.size;exact⟨nb,_,rfl,(gD.dd C).dd G,λk hk=>by rw[eN Y,eN Y,eN Y];exact UN k hk,lb,rb,_,sO.aC (iE.aC MS X) X,tn,.inr (.inl ⟨Yf,_,hJ w6.heap,rfl,⟨hk9,cJ (fV _),aPF _ _ sZ hl9 tl,⟨λ_=>K,hm8.eF sO X,λr _=>rfl⟩,tc,λr=>by simp[PS],λr=>by simp[PS]⟩⟩)⟩
  .have Yf:=Z hk;have kf1:((s.aG:Int)==1)=po:=by rw[show((1:Int))=((1:Nat):Int)from rfl,dA];exact jO Y
   have kf2:((s.aG:Int)==2)=po:=by rw[show((2:Int))=((2:Nat):Int)from rfl,dA];exact jO Y
   have kf3:((s.aG:Int)==3)=oj:=by rw[show((3:Int))=((3:Nat):Int)from rfl,dA];exact kI Y
   clear hk;have hmo:=BA.most;let⟨w7,A⟩:=E (e8 w6 (h8 #[hY n (O s.bK) m] 43));have p:=Za A;have EM:=Zb A;let⟨OZ,Le⟩:=E (up wc τ E0);have hsd:yH s.bK s.inW:=by have:=BA.bK;rw[bR Yf.o]at this;exact this
   have aR4:O s.bK<=30:=rV (KE.len hsd) BA.inW;have aNO:=L.dd p;have hgs:=aEM EM ((Pe.rd.on C).on aNO);have a1K:=Z (Jj (ρ:=OZ) (τ+40) s.inW s.most _ [s.bK] hgs BA.inW hmo X (λk hk=>by obtain rfl:k=0:=(eI hk);exact hsd));have aIs:=Z (λ(f:aA) (Bs:aW)=>Jj (w:=f) (ρ:=Bs) (τ+60) (O s.bK) s.most _ [] (aOC f) aR4 hmo X (λk hk=>dS hk (Yk k)));have a8d:=Z aNO;have ju:=Z Le;have NN:=Z p;clear p EM hsd aR4 aNO hgs Le hmo;go_upto_region 8 with(go_at_call 60;apply a1K.cF;rintro e w8 ⟨sb,D6,rfl,iE,ou,hS8⟩;have d3:=(NN.dd iE).cell d3 X;have d5:=(NN.dd iE).cell d5 X;have n0:=(NN.dd iE).cell n0 X;have G6:=Z iE;have HT8:=Z ou;have Yc:=Z hS8;clear iE ou hS8);go_upto_region 9 with(go_at_call 60;apply(aIs.o _ D6).cF;rintro e z ⟨db,R,rfl,sO,ht9,hS9⟩;have n0:=sO.cell n0 X;have N:=Z sO;have Pc:=Z ht9;have HS9:=Z hS9;clear sO ht9 hS9);have xp:=(NN.dd G6).aC Ye.1 X;have xp:=N.aC xp X;obtain⟨n90,n91⟩:=Z2 xp;have nf9:=aM xp;have nl9:=iO (cV xp);have HN9:=Z xp;clear xp n0 n1 nf nl;go_wp2;go_ret2;obtain⟨g1,g2,g3,g4,g5⟩:=Ye.o;have z7:=NN.size;have z8:=G6.size;have z9:=N.size;have z5:=gD.size;have zc:=C.size;have z6:=L.size;let⟨E1,BY⟩:=E (ey z (Ad nb 1) (.iface 125 (h9 (H ⟨z,0,K⟩))));have lP:U z [nb] E1 [nb]:=BY▸pX z nb 1 _;have aZW:E1.heap[nb]? =H (h8 #[Pt lb,.iface 125 (h9 (H ⟨z,0,K⟩))] 123 (0,0)):=by rw[<-BY,aE _ HN9.o];rfl
   have aYT:hJ E1.heap=hJ z.heap:=by rw[<-BY];simp
   rw[BY];let⟨kw,Dw⟩:=E (e8 E1 (h8 #[Pt lb,Pt sb,Pt db] 128));have V:=Za Dw;have aYl:kw.heap[hJ z.heap]? =H (h8 #[Pt lb,Pt sb,Pt db] 128 (0,0)):=by rw[<-Dw,<-aYT];exact lK E1 _
   rw[Dw];have G:U wc [] kw []:=((((L.dd NN).dd G6).dd N.o).aZ lP (λx hx=>by rw[show x=nb by simpa using hx];omega)).dd V;have aL0:∀k,k<hJ w7.heap->R k=up wc τ E0 k:=λk hk=>by rw[Pc.o k Y,HT8.o k hk,ju.o]
   have aQm:∀k,k<hJ wc.heap->up z τ R k=E0 k:=λk hk=>by rw[eN Y,aL0 k Y,eN hk]
   have sZ:bA wc E0 eL kw (up z τ R):=⟨G.os,G.tape,G.output,G.size,λk hk _=>G.block k hk X,aQm⟩;have tn9:R nb=τ:=by rw[aL0 nb Y];exact cJ Y
   have aK1:bA z R (·=τ) kw (up z τ R):=((lP.p9 (S:=(·=τ)) (λk hk=> .inl (by rw[show k=nb by simpa using hk];exact tn9))).jH V).BL τ (fV _);have ZS:bA w8 D6 eL z R:=⟨N.os,N.tape,N.output,N.size,λk hk _=>N.block k hk X,Pc⟩;have aYf:=V.aC (lP.aC (N.aC ((NN.dd G6).aC g2 X) X) (by simp;omega)) X;have tl:up z τ R lb=τ:=by rw[eN Y,aL0 lb Y];exact cJ Y
   have tn:up z τ R nb=τ:=by rw[eN Y];exact tn9
   exact⟨nb,_,rfl,(gD.dd C).dd G,λk hk=>by rw[aQm k Y];exact UN k hk,lb,rb,_,V.aC aZW X,tn,.inr (.inr ⟨Yf,_,sb,db,rfl,⟨aYl,cJ (fV _),aPF _ _ sZ aYf tl,(Yc.dg ZS zE).dg aK1 (λc _=>Y),HS9.dg aK1 (λc _=>Y)⟩⟩)⟩
theorem ZM100{P:Prop}(h:P:=by
  go_wp2;refine mD (aT (A:=⟨hJ w.heap+1,0,K⟩) (T:=78) rfl Yr (v:=EG) (by go_simp)) rfl ?_;exact⟨rfl,gD⟩):P:=h
structure aKi(w0 w:aA)(v:aF)(p:zY):Prop where
 ex:∃v0 v1 v2 v4 ns,v= .agg #[v0,v1,v2,i6 i7 (p.dL:Int),v4]/\vC w0 w v0 p.vars/\gJ w0 w v1 p.head/\Be w0 w v2 ns/\ns.map (·.1)=p.aK/\gJ w0 w v4 p.tops
abbrev EG:aF:= .agg #[hY K 0 0,hY K 0 0,hY K 0 0,i6 i7 0,hY K 0 0]
theorem un(hv av:aF)(ps:List (dU×aF))(q:bB)(w:aA)(h:B9 w hv av ps q)(iW:CM hv)(hs:fJ q≠0):
  aH prog 27 #[.agg #[j3 q.name,hv,av]] w λe w'=>e=i5 (i8 #[EG,i6 i7 (fJ q)])/\U w [] w' []:=by
 have g:(fJ q !=0)=oj:=by rw[bne_iff_ne];exact hs
 obtain⟨ha,B,rfl,-⟩:=h.head.len;obtain⟨p,m,rfl,-⟩:=h.aD.len;rw[h.len]at h|-;let⟨wa,i⟩:=E (e8 (e8 w (h8 #[j3 q.name,hY ha (O q.head) B,hY p (O q.aD) m] 25)) (h8 #[cH,cH,cH,J 0,cH] 78));have l:U w [] wa []:=i▸((U.refl w []).alloc _).alloc _;have F:rW wa w.heap.size #[j3 q.name,hY ha (O q.head) B,hY p (O q.aD) m] 25:=by rw[<-i];exact kV ..
 have c:rW wa (hJ w.heap+1) #[cH,cH,cH,J 0,cH] 78:=by rw[<-i];exact kU ..
 obtain⟨b0,R,b2⟩:=Z3 F;have a:=Z λC (f:U w [] C [])=>aLp _ _ ps q C (h.on f) iW hs;generalize P:fJ q=s at g a|-;go_in;go_upto_region 2 with(go_at_call 46;apply(a.o _ l).cL;intro w2 n;have G:=Z (n.aC c X));let⟨wg,r⟩:=E (e8 w2 (h8 #[J 0,cH] 133));have j:=Za r;have d:=j.aC G X;obtain⟨e0,e1,e2,S,Q⟩:=Z5 d;have V:=aM d;have W:=iO (cV d);let⟨h5,L⟩:=Dd (x:=cH) (y:=cH) (z:=cH) (u:=J 0) (v:=cH) d;have gD:=(((((l.dd n)).dd j)).aZ L (λb g=>by simp at g;omega));rw[r];exact ZM100
variable{vB:List Nat}{x:Nat}{av:aF}
theorem Sd{l:List Nat}{k:Nat}(b:k<O l)(c:ep l k 0=x)(a:∀j,j<k->ep l j 0≠x):l.idxOf x=k:=by
 induction l generalizing k with
 |nil=>simp at b
 |cons y l ih=>
  rw[List.idxOf_cons];cases k with
  |zero=>
   have:y=x:=c;subst this;simp
  |succ k=>
   have e:y≠x:=a 0 Y;have d:(y==x)=po:=eI e;rw[d];simp only[cond_false];rw[ih (eI b) c (λj g=>a (j+1) Y)]
theorem aCk{l:List Nat}(h:eX fN 0 1 w v l)(B:x∈l):
  aH prog 100 #[v,i6 i7 (x:Int)] w λe w'=>e=i5 (i6 i7 (l.idxOf x:Int))/\w=w':=by
 obtain⟨a,cap,rfl,z⟩:=h.len;unfold bw at z;go_in;go_wp2;go_loopg [8] (O l) (λF i wr=>w=wr/\∃k:Nat,k<=O l/\F=O l-k/\i=J k/\∀j,j<k->ep l j 0≠x)
 .exact⟨rfl,0,Y,rfl,rfl,λj C=>Y⟩
 obtain⟨rfl,k,G,p,rfl,c⟩:=hrel;have u:=Z p;clear p;by_cases n:k<O l
 .obtain⟨g,o,cap',hv,-,m⟩:=eX.aU h n;have c0:=m 0 D;simp only[wZ,pK,fN]at c0;obtain rfl:=CT hv;let⟨y,b⟩:=E (ep l k 0);rw[b]at c0;clear m;by_cases hs:x=y
  .have q:((x:Int)==(y:Int))=oj:=by rw[dA];exact kI hs
   have d:=Z hs;clear hs;go_wp2;go_ret;exact⟨by rw[Sd n (b.dd d.o.symm) c];rfl,rfl⟩
  .have q:((x:Int)==(y:Int))=po:=by rw[dA];exact jO hs
   have d:=Z hs;clear hs;go_wp2;go_roundg (O l-(k+1))
   .exact⟨rfl,k+1,Y,rfl,eO,λj C=>by
    by_cases A:j=k
    .subst A;rw[b];exact λe=>d.o e.symm
    .exact c j Y⟩
   have:=u.o;omega
 .exfalso;let⟨i,r,e⟩:=Pn B;refine c i Y ?_;rw[iB,kX r,NQ,e]
theorem Dg(vs vB:List Nat){k:Nat}(a:k<O vs):iD (vs.take (k+1)) vB=iD (vs.take k) vB++[vB.idxOf (ep vs k 0)]:=by
 unfold iD;rw[List.take_add_one,kX a,R8,iB,kX a];rfl
theorem rK{vs:List Nat}(h:eX fN 0 1 w v vs)(ha:eX fN 0 1 w av vB)(gV:∀x∈vs,x∈vB)(hl:O vs<=1000):
  aH prog 62 #[v,av] w λe w'=>∃u,e=i5 u/\bG fN 0 3 1 w w' u (iD vs vB)/\U w [] w' []:=by
 obtain⟨a,cap,rfl,iI⟩:=h.len;obtain⟨aa,ac,rfl,-⟩:=ha.len;unfold bw at iI;have s:=Z h;have HA:=Z ha;have L:=Z gV;obtain⟨n,A⟩:=E (O vs);have t:=Z A;rw[A]at s hl iI;rw[A];have r:=WE.wO 0 n (Nat.zero_le _) (by omega) (by unfold bw;omega) w;have P:=WE.yF 0 n (Nat.zero_le _) (by unfold bw;omega) w (by omega);obtain⟨wa,N⟩:=E (e8 w (h8 (madeCells #[i6 i7 0] (n*1)) 3));have T:=Za N;rw[N]at r P;have b:bG fN 0 3 1 w wa (hY (H ⟨hJ w.heap,0,K⟩) 0 n) []:=⟨P.congr λi j hi _=>absurd hi (Nat.not_lt_zero i),λg hg=>by
  have:hJ w.heap=g:=by simpa[gz]using hg
  omega⟩
 obtain⟨b5,S⟩:=E (hJ w.heap);rw[S]at r b;simp only[Int.natCast_zero]at r;have m:=Z b;have wU:=Z T;clear h ha gV A P N b T S;go_enter func62,ntmps62;go_upto_region 3 with(fail);clear r;go_loopg [5,13] n (λgg s5 F wr=>∃k:Nat,k<=n/\gg=n-k/\F=i6 i7 k/\bG fN 0 3 1 w wr s5 (iD (vs.take k) vB)/\U w [] wr [])
 case atStart=>exact⟨0,Nat.zero_le _,rfl,rfl,m.o,wU.o⟩
 case round=>
  obtain⟨k,hk,f,rfl,b,c⟩:=hrel;obtain⟨oa,oc,rfl,-⟩:=b.len;by_cases aV:k<n
  .have z:k<O vs:=by rw[t.o];exact aV
   obtain⟨g,o,cap',hv,-,hc⟩:=eX.aU (s.o.on c) z;have c0:=hc 0 (by decide);simp only[Nat.mul_one,Nat.add_zero,fN]at c0;injection hv with x1 x2 x3;clear x2 x3;subst x1;have q:=Dg vs vB z;have B:=L.o _ (bM (d:=0) z);obtain⟨y,hy⟩:=E (ep vs k 0);rw[hy]at c0 q B;have l:=Z (aCk (HA.o.on c) B);obtain⟨ix,p⟩:=E (vB.idxOf y);rw[p]at q l;have V:O (iD (vs.take k) vB)=k:=by rw[vM,List.length_take];omega
   have G:=Z q;have m:=Z b;have C:=Z c;have OR:=Z f;have R:=Z V;clear hc hy q B p b c f z V;go_wp2_with (first
    |(at_builtin;refine cK OI rfl _ _ rfl m.o C.o (by rfl) [i6 i7 (ix:Int)] ix (by rfl) rfl (dH rfl) rfl (by rw[R.o];omega) (by rw[R.o];unfold bw;omega) ?_;rintro g5 c5 w5 Q W- -;have oI:=Z Q;have gD:=Z W;clear Q W)
    |(go_at_call 100;refine l.o.mono ?_;rintro e w2 ⟨rfl,rfl⟩))
   go_roundg (n-(k+1))
   case measure=>have:=OR.o;omega
   case rel=>exact⟨k+1,by omega,rfl,by go_num,by rw[G.o];exact oI.o,gD.o⟩
  .obtain rfl:k=n:=by omega
   have m:=Z b;have C:=Z c;clear b c f;go_wp2;go_ret;have ho:=m.o;rw[<-t.o,List.take_length]at ho;rw[<-t.o,List.take_length];exact⟨_,rfl,ho,C.o⟩
variable{q:bB}
theorem uj(A:O (vars q)<=30)(v:aJ q≠[])(d:(aB q).1=0)(hs:fJ q=0):gY (O (vars q)) (O (aJ q)) (aB q).2:=by
 have e:∀s,s∈aJ q->s<2^O (vars q):=λs i=>by
  obtain⟨a,_,rfl⟩:=BB.1 i;exact AY _ _
 have w:∀s,s∈aJ q->s<2^32:=λs i=>wM (e s i) (Cr D Y);unfold aB at d|-;rw[bD (by rw[hs];simp)]at d|-;split at d
 .exact dS d D
 .rename_i y;rw[bD y];cases j:cX (-1) (cO q) bZ (cN (-1) (aJ q)) (bW (aJ q))with
  |none=>rw[j]at d;exact dS (show(170:Int)=0 from d) D
  |some x=>
   obtain⟨b,l⟩:=x;simp only;have u:=F2.cN (-1) (dg:=cO q) w v (W:=O (aJ q)+eD (bW (aJ q))) (fV _);have n:=(F2.cX (-1) _ _ _ b l u j).1;have r:=n.qB (keep':=0) (b.1,l.map λx=>ep b.2 x.1 0) (.inl rfl) rfl;have p:=F2.fC (-1) bZ _ _ r;have c:=Ob.fC (-1) bZ _ _ ((Ob.cX (-1) _ _ _ b l (Ob.cN (-1) e) u j).qB n.nd) r;generalize B:fC (-1) bZ (b.1,l.map λx=>ep b.2 x.1 0) (qB l)=R at p c|-;exact gY.of p.ok.below c.JG c.Jb c.DA _ _ _ rfl
variable{sd:Bool}{n':gK}{r:Row}
section
section
variable{P:DS}{add:Bool}{sc IS:Nat->Nat}
theorem Qb{s:mC}{n:gK}{m:SV}(h:jA add s n sd r= .ok (n',m)):
  O m.kK<=O m.touched/\O m.touched<=1+O n.eV/\(sd=po->O m.touched<=1)/\(sd=oj->n'.eV=n.eV):=by
 grind [jA,KJ,sU]
theorem tT:∀(t l:List Row),O l<=O (dO l t)/\O (dO l t)<=O l+O t
 |[],l=>by simp[dO]
 |x::t,l=>by
  have ih:=tT t (if x∈l then l else l++[x]);have hl:(dO l (x::t))=dO (if x∈l then l else l++[x]) t:=rfl;rw[hl,T9];split at ih
  .rename_i h;rw[bR h];omega
  .rename_i h;rw[bD h];simp only[F5,Xd]at ih;omega
theorem N3(f:Nat->Nat)(k a:Nat):∀n,((List.range n).map λi=>if i=k then a else f i).sum+(if k<n then f k else 0)=((List.range n).map f).sum+(if k<n then a else 0)
 |0=>X
 |n+1=>by
  have ih:=N3 f k a n;rw[Yl,R8,R8,List.sum_append,List.sum_append];grind
theorem kH.SP(w:kH)(T:iX)(aQ:Nat){aU:Nat}(a:aU<n)(l:List Row):
  (kH.mk T aQ λi=>if i=aU then l else w.touched i).count n+O (w.touched aU)=w.count n+O l:=by
 unfold kH.count;have h:=N3 (λi=>O (w.touched i)) aU (O l) n;rw[bR a,bR a]at h;rw[<-h];congr 2;apply List.map_congr_left;intro i _;show(if i=aU then l else w.touched i).length=_;split<;>rfl
theorem kH.YD(w:kH)(a:i<n):O (w.touched i)<=w.count n:=by
 unfold kH.count;induction n<;>grind [List.range_succ]
theorem CD(w:kH){aU:Nat}(a:aU<n)(sd:Bool)(r:Row):
  O (fU P add w aU sd r).2.1<=(fU P add w aU sd r).2.2.1/\(fU P add w aU sd r).2.2.1<=1+O (w.T aU).eV/\(sd=po->(fU P add w aU sd r).2.2.1<=1)/\(sd=oj->((fU P add w aU sd r).1.T aU).eV=(w.T aU).eV)/\
  (fU P add w aU sd r).1.aQ=w.aQ/\w.count n<=(fU P add w aU sd r).1.count n/\(fU P add w aU sd r).1.count n<=w.count n+(fU P add w aU sd r).2.2.1:=by
 unfold fU;cases h:jA add (P.spec aU) (w.T aU) sd r with
 |error e=>simp
 |ok p=>
  obtain⟨n',m⟩:=p;let⟨c,d,b,g⟩:=Qb h;refine⟨c,d,b,λe=>by grind [kZ],rfl,?_,?_⟩
  .have:=w.SP (E5 w.T aU n') w.aQ a (dO (w.touched aU) m.touched);grind [tT]
  .have:=w.SP (E5 w.T aU n') w.aQ a (dO (w.touched aU) m.touched);grind [tT]
theorem uY{aU:Nat}(q:aU<n)(sd:Bool):∀(l:List Row) (w:kH) (next:List Row),
  w.aQ<=(jK P add aU sd l w next).1.aQ/\O next<=O (jK P add aU sd l w next).2/\O (jK P add aU sd l w next).2+w.aQ<=O next+(jK P add aU sd l w next).1.aQ/\
  w.count n<=(jK P add aU sd l w next).1.count n/\(jK P add aU sd l w next).1.count n+w.aQ<=w.count n+(jK P add aU sd l w next).1.aQ/\
  (sd=oj->((jK P add aU sd l w next).1.T aU).eV=(w.T aU).eV)/\(jK P add aU sd l w next).1.aQ<=w.aQ+O l*(2+(if sd=oj then(w.T aU).eV.length else 0))
 |[],w,next=>by simp[jK]
 |r::l,w,next=>by
  let⟨z,B,y,m,G,A,C⟩:=CD (P:=P) (add:=add) w q sd r;let⟨d,hd⟩:=E (fU P add w aU sd r);rw[hd]at z B y m G A C;have e:jK P add aU sd (r::l) w next=jK P add aU sd l {d.1 with aQ:=d.1.aQ+1+if sd then d.2.2.1 else 0} (next++d.2.1):=by rw[jK,hd]
  rw[e];let⟨i,v,c,u,b,j,a⟩:=uY q sd l {d.1 with aQ:=d.1.aQ+1+if sd then d.2.2.1 else 0} (next++d.2.1);let⟨g,p⟩:=E (jK P add aU sd l {d.1 with aQ:=d.1.aQ+1+if sd then d.2.2.1 else 0} (next++d.2.1));rw[p]at i v c u b j a;rw[p];have F:({d.1 with aQ:=d.1.aQ+1+if sd then d.2.2.1 else 0}:kH).count n=d.1.count n:=rfl;rw[F]at u b;simp only[F5,T9]at i v c a|-;cases sd with
  |false=>
   have:=y rfl;simp only[UV,zF,pK]at i c b a|-;refine⟨Y,Y,Y,Y,Y,X,?_⟩;rw[Nat.succ_mul];omega
  |true=>
   have x:=m rfl;simp only[uN]at i c b a j|-;rw[x]at a;refine⟨Y,Y,Y,Y,Y,λ_=>by rw[j trivial,x],?_⟩;rw[Nat.succ_mul];omega
theorem uO(a:∀u v,P.cW u=H v->v<n):∀(f aU:Nat) (fl:List Row) (w:kH),
  w.aQ<=(gF P add f aU fl w).aQ/\w.count n<=(gF P add f aU fl w).count n/\(gF P add f aU fl w).count n+w.aQ<=w.count n+(gF P add f aU fl w).aQ
 |0,_,_,w=>by simp[gF]
 |f+1,aU,fl,w=>by
  unfold gF;cases b:P.cW aU with
  |none=>simp
  |some up=>
   simp only;split
   .simp
   .obtain⟨a1,-,-,a4,a5,-,-⟩:=uY (P:=P) (add:=add) (a aU up b) (P.isSide aU) fl w [];let⟨d,b2,c⟩:=uO a f up (jK P add up (P.isSide aU) fl w []).2 (jK P add up (P.isSide aU) fl w []).1;refine⟨Y,Y,Y⟩
end
end
variable{add:Bool}
section
theorem ZM56{P:Prop}(h:P:=by
  rw[hg]at hb;have hM:(if P.isSide aU=oj then(w.T up).eV.length else 0)<=B:=by
   split
   .rename_i h;rw[FI h];exact hS (sc up) Y
   .omega
  have hmul:O fl*(2+(if P.isSide aU=oj then(w.T up).eV.length else 0))<=B*(2+B):=Nat.mul_le_mul Y Y;grind):P:=h
section
variable{P:DS}{sc IS:Nat->Nat}
theorem N5(qs:wH P sc IS){B:Nat}(j:B<=65536):∀(f aU:Nat) (fl:List Row) (w:kH) (l:List Row),P.n<=aU+f->aU<P.n->CN P w.T->(∀u v,P.cW u=H v->u≠aU->dD (P.spec v) (w.T v) (P.isSide u) (w.T u).aI)->
  (∀v,P.cW aU=H v->dD (P.spec v) (w.T v) (P.isSide aU) l)->(w.T aU).aI=l++fl->uM P w.T B->
  (gF P oj f aU fl w).aQ<=w.aQ+f*(B*(2+B))
 |0,aU,fl,w,l,hf,hat,_,_,_,_,_=>Y
 |f+1,aU,fl,w,l,hf,hat,hA,hE,hEa,hl,hS=>by
  unfold gF;cases hp:P.cW aU with
  |none=>grind
  |some up=>
   simp only;by_cases A:fl=[]
   .grind
   .rw[if_neg A];let⟨k,a⟩:=qs.up aU up hp;have hk:=qs.aG aU up hp;have d:(P.spec up).aG≠1:=by rcases hk with⟨h,_⟩|h<;>omega
    have c:=(hA aU hat).cZ;have i:=hS aU hat;rw[hl]at c i;let⟨p,G⟩:=qs.eV up a d;have r:P.isSide aU=oj->sc up≠aU:=λh e=>by grind
    have z:=(qs.up _ _ p).1;have FI:P.isSide aU=oj->(w.T up).eV=(w.T (sc up)).aI:=λh=>by
     grind [dD]
    let⟨g1,g2,g3,g4,new,g5,b⟩:=Mp hk (qs.most up a d) fl w [] l (hA up a) (hEa up hp) c Y (λh=>by rw[FI h];have:=hS (sc up) Y;omega);have ho:∀v,v≠up->(jK P oj up (P.isSide aU) fl w []).1.T v=w.T v:=λv hv=>xQ _ hv _ _ _;let⟨g,hg⟩:=E (jK P oj up (P.isSide aU) fl w []);rw[hg]at g1 g2 g3 g4 g5 b ho;rw[Bv]at g5;rw[hg];have x:uM P g.1.T B:=λv hv=>by
     exact ZM47
    have y:CN P g.1.T:=by
     intro v hv;exact ZM150
    have q:∀u v,P.cW u=H v->u≠up->dD (P.spec v) (g.1.T v) (P.isSide u) (g.1.T u).aI:=by
     intro u v FH hu;exact ZM99
    have m:∀v,P.cW up=H v->dD (P.spec v) (g.1.T v) (P.isSide up) (w.T up).aI:=by
     intro v hv;have:=qs.up up v hv;grind
    have F:=N5 qs j f up g.2 g.1 (w.T up).aI Y a y q m (by rw[b,g5]) x;have C:O fl<=B:=by grind
    have hb:=(uY (P:=P) (add:=oj) a (P.isSide aU) fl w []).2.2.2.2.2.2;exact ZM56
theorem KC(qs:wH P sc IS){B:Nat}:∀(f aU:Nat) (fl:List Row) (w:kH) (l:List Row),P.n<=aU+f->aU<P.n->CN P w.T->(∀u v,P.cW u=H v->u≠aU->dD (P.spec v) (w.T v) (P.isSide u) (w.T u).aI)->
  (∀v,P.cW aU=H v->dD (P.spec v) (w.T v) (P.isSide aU) l)->(w.T aU).aI=fl.foldl List.erase l->l.Nodup->fl.Nodup->(∀x,x∈fl->x∈l)->uM P w.T B->O fl<=B->
  (gF P po f aU fl w).aQ<=w.aQ+f*(B*(2+B))
 |0,aU,fl,w,l,hf,hat,_,_,_,_,_,_,_,_,_=>Y
 |f+1,aU,fl,w,l,hf,hat,hA,hE,hEa,hl,hd1,hd2,hsub,hS,hfl=>by
  unfold gF;cases hp:P.cW aU with
  |none=>grind
  |some up=>
   simp only;by_cases C:fl=[]
   .grind
   .rw[if_neg C];let⟨k,a⟩:=qs.up aU up hp;have d:=qs.aG aU up hp;have z:(P.spec up).aG≠1:=by rcases d with⟨h,_⟩|h<;>omega
    let⟨j,G⟩:=qs.eV up a z;have q:P.isSide aU=oj->sc up≠aU:=λh e=>by grind
    have A:=(qs.up _ _ j).1;have FI:P.isSide aU=oj->(w.T up).eV=(w.T (sc up)).aI:=λh=>by
     grind [dD]
    let⟨g1,g2,g3,g4,new,g5,g6,c,b⟩:=ZY d fl w [] l (hA up a) (hEa up hp) hd1 hd2 hsub;have ho:∀v,v≠up->(jK P po up (P.isSide aU) fl w []).1.T v=w.T v:=λv hv=>xQ _ hv _ _ _;let⟨g,hg⟩:=E (jK P po up (P.isSide aU) fl w []);rw[hg]at g1 g2 g3 g4 g5 g6 ho;rw[Bv]at g5;rw[hg];have r:uM P g.1.T B:=λv hv=>by
     exact ZM70
    have y:CN P g.1.T:=by
     intro v hv;exact ZM150
    have p:∀u v,P.cW u=H v->u≠up->dD (P.spec v) (g.1.T v) (P.isSide u) (g.1.T u).aI:=by
     intro u v FH hu;exact ZM99
    have i:∀v,P.cW up=H v->dD (P.spec v) (g.1.T v) (P.isSide up) (w.T up).aI:=by
     intro v hv;have:=qs.up up v hv;grind
    have F:=KC qs f up g.2 g.1 (w.T up).aI Y a y p i (by rw[g6,g5]) (hA up a).cZ (g5▸c) (g5▸b) r (by rw[g5];have h1:=M4 c b;have:=hS up a;omega);have hb:=(uY (P:=P) (add:=po) a (P.isSide aU) fl w []).2.2.2.2.2.2;exact ZM56
theorem KD(P:DS)(add:Bool)(f aU:Nat)(w:kH):gF P add f aU [] w=w:=by
 cases f with
 |zero=>rfl
 |succ f=>unfold gF;cases P.cW aU<;>simp
theorem SO{P:DS}(w:kH)(aU:Nat)(sd:Bool)(r:Row):(fU P add w aU sd r).1.aQ=w.aQ:=by
 unfold fU;split<;>rfl
theorem Dq(qs:wH P sc IS){w:kH}(h:zJ P w.T)(c:i<P.n)(hk:(P.spec i).aG=1)(p:(P.spec i).most=512):
  (gF P oj P.n i (fU P oj w i po r).2.1 (fU P oj w i po r).1).aQ<=w.aQ+P.n*(512*(2+512)):=by
 have hN:=h.all i c;have N:=h.dM i c;by_cases y:r∈(w.T i).aI
 .grind [fU,jA,KJ,KD]
 .by_cases z:O (w.T i).aI=512
  .grind [fU,jA,KJ,KD]
  .have g:KJ (P.spec i) (w.T i) po r= .ok ({w.T i with aI:=(w.T i).aI++[r]},⟨[r],[r]⟩):=by unfold KJ;rw[bR hk,bD y,bD (p▸z)]
   let⟨j,l,F⟩:=gm (w:=w) g;have m:=SO (P:=P) (add:=oj) w i po r;generalize hd:fU P oj w i po r=d at j l F m|-;have hT:d.1.T i={w.T i with aI:=(w.T i).aI++[r]}:=j▸kZ _ _ _;have hO:∀v,v≠i->d.1.T v=w.T v:=λv hv=>by rw[j];grind [nX]
   have uC:((w.T i).aI++[r]).Nodup:=by
    rw[Iy];exact⟨hN.cZ,X,λa ha b f e=>by grind⟩
   have G:CN P d.1.T:=by
    intro v hv;exact ZM106
   have C:∀u v,P.cW u=H v->u≠i->dD (P.spec v) (d.1.T v) (P.isSide u) (d.1.T u).aI:=by
    intro u v FH hu;exact ZM142
   have x:∀v,P.cW i=H v->dD (P.spec v) (d.1.T v) (P.isSide i) (w.T i).aI:=by
    intro v hv;exact ZM151
   have A:(d.1.T i).aI=(w.T i).aI++d.2.1:=by
    rw[hT,l]
   have q:uM P d.1.T 512:=by
    intro v hv;by_cases e:v=i
    .grind
    .rw[hO v e];exact h.dM v hv
   have L:=N5 qs (B:=512) D P.n i d.2.1 d.1 (w.T i).aI Y c G C x A q;omega
theorem KR(qs:wH P sc IS){w:kH}(h:zJ P w.T)(b:i<P.n)(hk:(P.spec i).aG=1):
  (gF P po P.n i (fU P po w i po r).2.1 (fU P po w i po r).1).aQ<=w.aQ+P.n*(512*(2+512)):=by
 have hN:=h.all i b;have C:=h.dM i b;by_cases p:r∈(w.T i).aI
 .have c:sU (P.spec i) (w.T i) po r= .ok ({w.T i with aI:=(w.T i).aI.erase r},⟨[r],[r]⟩):=by unfold sU;rw[bR hk,bR p]
  let⟨g,a,y⟩:=My (w:=w) c;have j:=SO (P:=P) (add:=po) w i po r;generalize hd:fU P po w i po r=d at g a y j|-;have hT:d.1.T i={w.T i with aI:=(w.T i).aI.erase r}:=g▸kZ _ _ _;have hO:∀v,v≠i->d.1.T v=w.T v:=λv hv=>by rw[g];grind [nX]
  have z:CN P d.1.T:=by
   intro v hv;exact ZM96
  have q:∀u v,P.cW u=H v->u≠i->dD (P.spec v) (d.1.T v) (P.isSide u) (d.1.T u).aI:=by
   intro u v FH hu;exact ZM142
  have l:∀v,P.cW i=H v->dD (P.spec v) (d.1.T v) (P.isSide i) (w.T i).aI:=by
   intro v hv;exact ZM151
  have x:(d.1.T i).aI=d.2.1.foldl List.erase (w.T i).aI:=by
   rw[hT,a];rfl
  have m:uM P d.1.T 512:=by
   intro v hv;by_cases e:v=i
   .grind
   .rw[hO v e];exact h.dM v hv
  have A:=KC qs (B:=512) P.n i d.2.1 d.1 (w.T i).aI Y b z q l x hN.cZ (by rw[a];simp) GJ m (by rw[a];simp);omega
 grind [fU,jA,sU,KD]
end
end
variable{pa:Int}
section
section
variable{V m:Nat}{p:zY}
theorem Qn(p:zY)(v:Nat):(eP p v).bL=O (eU p.aK v).vars:=by
 grind [mC.bL,eP,vM]
theorem gY.aLR(h:gY V m p){u v:Nat}(b:(bJ p).cW u=H v):
  (eP p u).bL=(if(bJ p).isSide u=oj then(eP p v).bK.length else(eP p v).inW)/\((bJ p).isSide u=oj->(eP p v).aG=3):=by
 let⟨j,a,i,d⟩:=h.aCI b;rw[Qn,gY.PF i];rcases iM.1 d with⟨c1,c2⟩|⟨c1,c2⟩
 .by_cases e:(eU p.aK v).aG=3/\(eU p.aK v).bK=u
  .exact dS (c2.dd e.2.symm) ((h.JG v a).apart e.1)
  .have c:((eU p.aK v).aG==3&&(eU p.aK v).bK==u)=po:=by
    grind
   rw[c];refine⟨?_,λh=>by cases h⟩;simp only[UV,zF];unfold eP;simp only;rcases c1 with c1|c1
   .rw[bR c1,c2]
   .rw[bD Y];let⟨s,t,_,_,g,e2,_⟩:=(h.JG v a).V3 c1;rw[g,<-e2,c2]
 grind [eP,vM]
end
theorem Hx(pa:Int)(b:sM)(l:List ES)(s:cT):∃tl,(gB pa b l s).1=b.1++tl:=by
 unfold gB;split<;>grind
theorem XO{dg:Nat}:∀(n:Nat) (b:sM) (l:List ES) (c:sM) (k:List ES),cX pa dg n b l=H (c,k)->∃tl,c.1=b.1++tl
 |0,b,l,c,k,h=>by
  simp_all [cX]
 |n+1,b,l,c,k,h=>by
  unfold cX at h;split at h
  .cases h;exact⟨[],X⟩
  .split at h
   .cases h
   .let⟨t1,a⟩:=XO n _ _ _ _ h;let⟨t2,d⟩:=Hx pa b l ‹_›;exact⟨t2++t1,by rw[a,d,zcV]⟩
theorem XM:∀(n:Nat) (b:sM) (l:List ES),∃tl,(fC pa n b l).1.1=b.1++tl
 |0,b,l=>⟨[],by simp[fC]⟩
 |n+1,b,l=>by
  unfold fC;split
  .simp_all
  .obtain⟨t1,a⟩:=XM n (gB pa b l ‹_›) (make l ‹_›);obtain⟨t2,c⟩:=Hx pa b l ‹_›;exact⟨t2++t1,by rw[a,c,zcV]⟩
theorem KG(a:(aB q).1=0)(e:i<O (aJ q)):(eU (aB q).2.aK i).vars=cD (ep (aJ q) i 0)/\(aB q).2.vars=vars q:=by
 unfold aB at a|-;split at a
 .omega
 .rename_i hs;rw[bD hs];split at a
  .omega
  .rename_i d;rw[bD d];cases c:cX (-1) (cO q) bZ (cN (-1) (aJ q)) (bW (aJ q))with
   |none=>grind
   |some x=>
    obtain⟨b,l⟩:=x;simp only;let⟨t1,g⟩:=XO _ _ _ _ _ c;let⟨t2,j⟩:=XM (pa:= -1) bZ (b.1,l.map λx=>ep b.2 x.1 0) (qB l);grind [cN,eU,oJ,C6]
theorem M'(z:O (vars q)<=30)(v:aJ q≠[])(c:(aB q).1=0)(w:eD (bW (aJ q))<=36)(y:O (aJ q)<=6):O (aB q).2.aK<=42:=by
 have e:∀s,s∈aJ q->s<2^O (vars q):=λs d=>by
  obtain⟨a,_,rfl⟩:=BB.1 d;exact AY _ _
 have j:∀s,s∈aJ q->s<2^32:=λs d=>wM (e s d) (Cr D Y);unfold aB at c|-;split at c
 .omega
 .rename_i hs;rw[bD hs];split at c
  .omega
  .rename_i n;rw[bD n];cases p:cX (-1) (cO q) bZ (cN (-1) (aJ q)) (bW (aJ q))with
   |none=>grind
   |some x=>
    obtain⟨b,l⟩:=x;simp only;have u:O (oJ (fC (-1) bZ (b.1,l.map λx=>ep b.2 x.1 0) (qB l)).1.1 (O b.1) (l.map λx=>ep b.2 x.1 0))=O (fC (-1) bZ (b.1,l.map λx=>ep b.2 x.1 0) (qB l)).1.1:=by simp[oJ]
    have:=(F2.fC (-1) bZ _ _ (((F2.cX (-1) _ _ _ b l (F2.cN (-1) (dg:=cO q) j v (W:=42) Y) p).1).qB (keep':=0) (b.1,l.map λx=>ep b.2 x.1 0) (.inl rfl) rfl)).wt;rw[u];omega
end
variable{vs:List dU}
theorem ZM127{P:Prop}(h:P:=by
  split at h
  .rcases AI h x hx with h'|h'
   .exact .inl h'
   .exact .inr (by simp[h'])
  .cases h):P:=h
def jY(vs:List dU):List jF->Row->Row->Option Row
 |t::ts,x::xs,out=>
  if t.var=bO then(if x=t.vY then jY vs ts xs out else K)
  else if vs.idxOf t.var=O out then jY vs ts xs (out++[x])
  else if ep out (vs.idxOf t.var) aP=x then jY vs ts xs out else K
 |_,_,out=>H out
def AH(a:oL)(r:Row):Option Row:=if O r=O a.aS then jY (bY a) a.aS r []else K
def oQ(p:zY)(a:oL)(i:Nat):List Nat:=(eU p.aK i).vars.map λv=>(bY a).idxOf (ep p.vars v bO)
def kA(p:zY)(a:oL)(i:Nat)(r:Row):Option Row:=match AH a r with
 |none=>K
 |some m=>if iC r=oj then H (dG m (oQ p a i))else K
theorem MZ:∀(ts:List jF) (out:List dU),∃tl,bC ts out=out++tl
 |[],out=>⟨[],by simp[bC]⟩
 |t::ts,out=>by
  rw[rE];let⟨t1,a⟩:=MZ ts (if t.var=bO then out else gX out t.var);grind [gX]
theorem YM{a:oL}{k:Nat}(g:k<O a.aS){t:jF}(e:a.aS[k]=t):
  (t.var=bO->bC (a.aS.take (k+1)) []=bC (a.aS.take k) [])/\
  (t.var≠bO->(((bY a).idxOf t.var<O (bC (a.aS.take k) [])/\bC (a.aS.take (k+1)) []=bC (a.aS.take k) [])\/
   ((bY a).idxOf t.var=O (bC (a.aS.take k) [])/\O (bC (a.aS.take (k+1)) [])=O (bC (a.aS.take k) [])+1))):=by
 have b:a.aS.take (k+1)=a.aS.take k++[t]:=by grind [List.take_succ]
 have i:bC (a.aS.take (k+1)) []=if t.var=bO then bC (a.aS.take k) []else gX (bC (a.aS.take k) []) t.var:=by
  rw[b,rY,rE];rfl
 have c:bY a=bC (a.aS.drop (k+1)) (bC (a.aS.take (k+1)) []):=by
  rw[<-rY,List.take_append_drop];rfl
 let⟨tl,d⟩:=MZ (a.aS.drop (k+1)) (bC (a.aS.take (k+1)) []);grind [gX]
theorem AI:∀{ts:List jF} {xs out m:Row},jY vs ts xs out=H m->∀x∈m,x∈out\/x∈xs
 |[],xs,out,m,h,x,hx=>by
  grind [jY]
 |t::ts,[],out,m,h,x,hx=>by
  grind [jY]
 |t::ts,y::ys,out,m,h,x,hx=>by
  unfold jY at h;split at h
  .exact ZM127
  .split at h
   .rcases AI h x hx with h'|h'
    .rcases EY.1 h' with h'|h'
     .exact .inl h'
     .exact .inr (by simp at h';simp[h'])
    .exact .inr (by simp[h'])
   .exact ZM127
theorem DH{a:oL}:∀(n k:Nat) (xs out m:Row),O a.aS-k=n->k+O xs=O a.aS->O out=O (bC (a.aS.take k) [])->jY (bY a) (a.aS.drop k) xs out=H m->O m=O (bY a)
 |0,k,xs,out,m,hn,hl,ho,h=>by
  have hd:a.aS.drop k=[]:=by grind [List.drop_eq_nil_iff]
  rw[hd]at h;unfold jY at h;cases h
  rw[ho,zdH Y];rfl
 |n+1,k,xs,out,m,hn,hl,ho,h=>by
  have c:k<O a.aS:=Y;rw[zbM c]at h;generalize i:a.aS[k]=t at h;let⟨d,e⟩:=YM c i;cases xs with
  |nil=>simp at hl;omega
  |cons x xs=>
   simp only[T9]at hl;unfold jY at h;split at h
   .rename_i hv;split at h
    .exact DH n (k+1) xs out m Y Y (d hv▸ho) h
    .cases h
   .rename_i hv;rcases e hv with⟨g,b⟩|⟨g,b⟩
    .rw[bD Y]at h;split at h
     .exact DH n (k+1) xs out m Y Y (b▸ho) h
     .cases h
    .rw[bR Y]at h;exact DH n (k+1) xs (out++[x]) m Y Y GJ h
theorem PX{a:oL}{m:Row}(h:AH a r=H m):O m=O (bY a)/\∀x∈m,x∈r:=by
 unfold AH at h;split at h
 .rename_i hl;refine⟨DH (O a.aS) 0 r [] m Y Y rfl h,λx c=> ?_⟩;rcases AI h x c with b|b<;>grind
 .cases h
theorem Rj(d:(aB q).1=0)(b:i<O q.aD){a:oL}(ha:q.aD[i]=a):∀c∈oQ (aB q).2 a i,c<O (bY a):=by
 grind [aJ,KG,oQ,mG,rD]
theorem M1(p:zY)(a:oL)(i:Nat):O (oQ p a i)=O (eU p.aK i).vars:=by unfold oQ;simp
theorem YB(d:(aB q).1=0)(c:i<O q.aD){a:oL}(ha:q.aD[i]=a){x:Row}(e:∀v∈r,tm v)(h:kA (aB q).2 a i r=H x)(n:O (oQ (aB q).2 a i)<=30):
  dI x/\O x=O (eU (aB q).2.aK i).vars:=by
 unfold kA at h;split at h
 .cases h
 .rename_i m g;split at h
  .rename_i hv;cases h
   let⟨m1,p⟩:=PX g;have w:=Rj d c ha;have j:∀y∈dG m (oQ (aB q).2 a i),y∈r:=λy u=>by
    grind [dG]
   have b:O (dG m (oQ (aB q).2 a i))=O (oQ (aB q).2 a i):=by unfold dG;simp
   unfold iC at hv;simp only[Xb,RK,Xa]at hv;refine⟨⟨?_,λv l=>e v (j v l)⟩,by rw[b,M1]⟩;grind [iC]
  .cases h
variable{bv:aF}
theorem ZM72{P:Prop}(h:P:=by
  have dW:¬a=b:=λe=>hl (by rw[e]);have V5:((O a:Int)==(O b:Int))=po:=by rw[dA];exact jO hl
  rw[jO dW];clear dW hl;go_in;go_wp2;go_ret;exact⟨rfl,U.refl _ _⟩):P:=h
theorem ZM74{P:Prop}(h:P:=by
  have tP:=Z dW;clear dW;go_upto_region 6 with(fail);go_quiet (fail);go_wp2;go_ret;refine⟨?_,hU.dd ((U.refl _ _).drewN _)⟩;rw[jO λe=>tP.o (HD.1 (ho.1 e)).1];rfl):P:=h
theorem ZM85{P:Prop}(h:P:=by
  go_wp2;go_ret;refine⟨?_,hU⟩;have Tt:a=b:=by
   rw[ho,List.drop_eq_nil_iff.2 (j7 HL.o),List.drop_eq_nil_iff.2 (j7 HN.o)]
  rw[kI Tt];rfl):P:=h
theorem Mw{α:Type}{d:α}{a b:List α}{k:Nat}(ha:k<O a)(c:k<O b):(a.drop k=b.drop k)↔(ep a k d=ep b k d/\a.drop (k+1)=b.drop (k+1)):=by
 rw[zbM ha,zbM c,iB,kX ha,iB,kX c,List.cons.injEq];rfl
theorem RP(x y:MU):x=y\/((x.aG==y.aG)=po/\¬x=y)\/((x.aG==y.aG)=oj/\(x.num==y.num)=po/\¬x=y)\/((x.aG==y.aG)=oj/\(x.num==y.num)=oj/\(x.eR.toList==y.eR.toList)=po/\¬x=y):=by
 by_cases h:x=y
 .exact .inl h
 .refine .inr ?_;cases b:x.aG==y.aG with
  |false=>exact .inl ⟨rfl,h⟩
  |true=>
   refine .inr ?_;cases c:x.num==y.num with
   |false=>exact .inl ⟨rfl,rfl,h⟩
   |true=>
    refine .inr ⟨rfl,rfl,WX λa=>h ?_,h⟩;cases x;cases y
    simp only[JY]at b c a;rw[b,c,a]
theorem ly{a b:Row}(ha:eX dR aP 3 w av a)(p:eX dR aP 3 w bv b):
  aH prog 21 #[av,bv] w λe w'=>e=i5 (j4 (decide (a=b)))/\U w [] w' []:=by
 obtain⟨Q,f,rfl,m⟩:=ha.len;obtain⟨L,bc,rfl,c⟩:=p.len;unfold bw at m c;by_cases hl:O a=O b
 .rw[hl]at m;let⟨n,g⟩:=E (O b);rw[g]at hl m c;rw[hl,g];have HL:=Z hl;have HN:=Z g;clear hl g;go_in;go_wp2;go_loopg [5] n (λF i wr=>U w [] wr []/\∃k:Nat,k<=n/\F=n-k/\i=J k/\(a=b↔a.drop k=b.drop k))
  .exact⟨U.refl _ _,0,Y,rfl,rfl,Iff.rfl⟩
  obtain⟨hU,k,s,rfl,rfl,ho⟩:=hrel;by_cases q:k<n
  .have l:k<O a:=by rw[HL.o];exact q
   have j:k<O b:=by rw[HN.o];exact q
   let⟨P,o,cap',hv,c0,c1,c2⟩:=A9 (ha.on hU) l;obtain rfl:=CT hv;let⟨S,o2,R,hv,B,C,A⟩:=A9 (p.on hU) j;obtain rfl:=CT hv;have HD:=(Mw (d:=aP) l j);let⟨x,v⟩:=E (ep a k aP);let⟨y,u⟩:=E (ep b k aP);rw[v]at c0 c1 c2 HD;rw[u]at B C A HD;clear v u l j;have N:(k:Int)<(n:Int):=Y;rcases RP x y with rfl|⟨r,dW⟩|⟨r,G,dW⟩|⟨r,G,t,dW⟩
   .have z:=yG x.eR x.eR;go_upto_region 6 with(fail);go_quiet (fail);go_wp2;go_roundg (n-(k+1))
    .exact⟨hU.dd ((U.refl _ _).drewN _),k+1,Y,rfl,eO,ho.dd (HD.dd X)⟩
    omega
   .exact ZM74
   .exact ZM74
   .exact ZM74
  .exact ZM85
 .exact ZM72
variable{S':List Nat}{bV:List Row}{tO:Nat}{w' w0:aA}
theorem ZM162{P:Prop}(h:P:=by
  have h4:=h3 k hk;obtain⟨ra,rc,e2,-⟩:=h4.len;have c0:=hc 0 D;simp only[wZ,pK,ID]at c0;rw[e2]at h4 c0;exact⟨g,o,cap,ra,rc,by rw[e,h1],c0,h4⟩):P:=h
theorem ZM60{P:Prop}(h:P:=by
  obtain⟨bX,h1,h2,h3⟩:=h;obtain⟨g,o,cap,e,-,hc⟩:=h2.aU (i:=k) Y;exact ZM162):P:=h
theorem ZM91{P:Prop}(h:P:=by
  refine aY dB ?_ _;clear Q;go_wp2;go_roundg (n-(k+1))
  .exact⟨eM,k+1,Y,rfl,eO,ho.dd (HD.dd (by simp[HXY.o]))⟩
  omega):P:=h
theorem ZM124{P:Prop}(h:P:=by
  refine aY dB ?_ _;clear Q;go_wp2;go_ret;refine⟨?_,eM⟩;rw[jO λe=>tP.o (HD.1 (ho.1 e)).1];rfl):P:=h
theorem ZM128{P:Prop}(h:P:=by
  obtain⟨bX,h1,h2,h3⟩:=h;obtain⟨a,cap,e,hm⟩:=h2.len;exact⟨a,cap,by rw[e,h1],h1▸hm⟩):P:=h
theorem aGK:wI prog 33 65 3 32 #[i6 i7 0,i6 i7 0,j3 {data:=#[]}]:=
 .PU (z:= .agg #[J 0,J 0,j3 {data:=#[]}]) underlying33 dB rfl rfl
theorem aQg:wI prog 70 33 1 24 #[hY K 0 0]:= .PU (z:=cH) underlying70 dB rfl rfl
def qj(w:aA)(v:aF)(bV:List Row):Prop:=
 ∃bX:List aF,O bX=O bV/\eX ID undef 1 w v bX/\∀i,i<O bV->eX dR aP 3 w (ep bX i undef) (ep bV i [])
def RwO(w0 w:aA)(v:aF)(bV:List Row):Prop:=
 ∃bX:List aF,O bX=O bV/\bG ID undef 33 1 w0 w v bX/\∀i,i<O bV->bG dR aP 65 3 w0 w (ep bX i undef) (ep bV i [])
theorem iN.rw{t:Nat}(h:iN w ρ tO t v bV):qj w v bV:=by
 obtain⟨bX,c,d,b⟩:=h;exact⟨bX,c,d.1,λi a=>(b i a).1⟩
theorem RwO.rw(h:RwO w0 w v bV):qj w v bV:=by
 obtain⟨bX,c,d,b⟩:=h;exact⟨bX,c,d.rd,λi a=>(b i a).rd⟩
theorem RwO.jU(h:RwO w0 w v bV)(t:Nat)(ρ:aW):iN w (up w0 t ρ) t t v bV:=by
 obtain⟨bX,c,d,b⟩:=h;exact⟨bX,c,(d.jU t ρ).rd,λi a=>((b i a).jU t ρ).rd⟩
theorem qj.on(h:qj w v bV)(a:U w [] w' S'):qj w' v bV:=by
 obtain⟨bX,d,e,c⟩:=h;exact⟨bX,d,e.on a,λi b=>(c i b).on a⟩
theorem qj.len(h:qj w v bV):∃a cap,v=hY a (O bV) cap/\O bV<=bw:=ZM128
theorem qj.aU(h:qj w v bV){k:Nat}(hk:k<O bV):
  ∃g o cap ra rc,v=hY (H ⟨g,o,K⟩) (O bV) cap/\e7 w ⟨g,o+k,K⟩=H (hY ra (O (ep bV k [])) rc)/\eX dR aP 3 w (hY ra (O (ep bV k [])) rc) (ep bV k []):=by
 exact ZM60
theorem aBy{a b:List Row}(ha:qj w av a)(A:qj w bv b):
  aH prog 24 #[av,bv] w λe w'=>e=i5 (j4 (decide (a=b)))/\U w [] w' []:=by
 obtain⟨aa,ac,rfl,v⟩:=ha.len;obtain⟨W,bc,rfl,g⟩:=A.len;unfold bw at v g;by_cases hl:O a=O b
 .rw[hl]at v;let⟨n,l⟩:=E (O b);rw[l]at hl v g;rw[hl,l];have HL:=Z hl;have HN:=Z l;clear hl l;go_in;go_wp2;go_loopg [5] n (λS i wr=>U w [] wr []/\∃k:Nat,k<=n/\S=n-k/\i=J k/\(a=b↔a.drop k=b.drop k))
  .exact⟨U.refl _ _,0,Y,rfl,rfl,Iff.rfl⟩
  obtain⟨hU,k,V,rfl,rfl,ho⟩:=hrel;by_cases B:k<n
  .have u:k<O a:=by rw[HL.o];exact B
   have p:k<O b:=by rw[HN.o];exact B
   let⟨P,o,cap',N,rc,hv,c0,L⟩:=(ha.on hU).aU u;obtain rfl:=CT hv;let⟨T,o2,gI,rb,rd,hv,q,G⟩:=(A.on hU).aU p;obtain rfl:=CT hv;have HD:=(Mw (d:=[]) u p);have j:=Z (λn=>ly (L.on ((U.refl wr []).drewN n)) (G.on ((U.refl wr []).drewN n)));let⟨x,F⟩:=E (ep a k []);let⟨y,C⟩:=E (ep b k []);rw[F]at c0 HD j;rw[C]at q HD j;clear F C u p L G;have CQ:(k:Int)<(n:Int):=Y;go_upto_region 6 with(fail);refine ee 99 (eb c0<|d7 q) (λQ=> ?_);clear c0 q;let⟨wd,m⟩:=E (wr.drew);have s:U wr [] wd []:=BC m;have z:=j.o 1;rw[show wr.drewN 1=wd from m]at z;rw[m]at Q|-;have f:=Z z;have R:=(hU.dd s);clear m s z j;refine dw [0,1,4,5,2,6,3,7] ?_;refine Zo 8 λt hK=> ?_;go_simp;go_at_call 21;apply f.o.cF;rintro e w2 ⟨rfl,r⟩;dsimp only;replace Q:=r.Of Q;have eM:=(R.dd r);clear r;refine j8 ?_;clear hK t;by_cases c:x=y
   .rw[kI c];have HXY:=Z c;clear c;refine I 9 ?_;exact ZM91
   .rw[jO c];have tP:=Z c;clear c;refine I 9 ?_;exact ZM124
  .exact ZM85
 .exact ZM72
theorem me{l:Row}(h:eX dR aP 3 w v l)(n:O l<=1048576):
  aH prog 44 #[v] w λe w'=>∃u,e=i5 u/\bG dR aP 65 3 w w' u l/\U w [] w' []:=by
 obtain⟨a,cap,hv,b⟩:=h.len;subst hv;have m:=aGK.wO (O l) (O l) (fV _) Y b;obtain⟨w2,i,g,d,-⟩:=QO (w0:=w) aIR Y 3 w.heap.size (aGK.yF (O l) (O l) (fV _) b w Y) (fV _) ((U.refl w []).alloc _) (h.on ((U.refl w []).alloc _)) (λx _ j _=>aCO x j);have c:=Z g;unfold bw at b;go_in;go_wp2;go_ret;exact⟨_,rfl,c,d⟩
variable{ts:List jF}{rv tv:aF}
theorem ZM46{P:Prop}(h:P:=by
  have tP:=Z dW;clear dW;go_upto_region 14 with(go_at_call 30;refine(HIX.o _ (by first|exact SY.o|(rw[pE];exact SY.o))).mono ?_;rintro e w9 ⟨rfl,rfl⟩);try rw[pE]
  go_quiet (fail);go_wp2;go_ret2;refine⟨D2.o.dd ((U.refl _ _).drewN _),?_⟩;rw[Ny.o,zC.o,if_neg HV.o,if_neg (Nat.ne_of_lt HJ.o.1),if_neg tP.o];rfl):P:=h
theorem ZM69{P:Prop}(h:P:=by
  have tP:=Z dW;clear dW;go_upto_region 9 with(fail);try rw[pE]
  go_quiet (fail);go_wp2;go_ret2;refine⟨D2.o.dd ((U.refl _ _).drewN _),?_⟩;rw[Ny.o,zC.o,if_pos HV.o,if_neg tP.o];rfl):P:=h
def qn(w:aA)(x:Option Row)(e:cg)(w':aA):Prop:=
 U w [] w' []/\match x with
 |none=>e=i5 (i8 #[hY K 0 0,j4 po])
 |some m=>∃u,e=i5 (i8 #[u,j4 oj])/\bG dR aP 65 3 w w' u m
theorem aI9{l:List dU}{s:dU}(h:s∈l):Vx l s=(l.idxOf s:Int):=bR h
theorem aBg{a:oL}{k:Nat}(b:k<O a.aS){t:jF}(c:ep a.aS k qc=t)(hv:t.var≠bO):t.var∈bY a:=by
 unfold bY;rw[tG];refine .inr ⟨t,?_,hv,rfl⟩;rw[<-c];exact bM b
theorem Ko{out:Row}{k:Nat}(c:k<O ts)(d:k<O r){t:jF}{x:MU}(a:ep ts k qc=t)(b:ep r k aP=x):
  jY vs (ts.drop k) (r.drop k) out=if t.var=bO then(if x=t.vY then jY vs (ts.drop (k+1)) (r.drop (k+1)) out else K)
   else if vs.idxOf t.var=O out then jY vs (ts.drop (k+1)) (r.drop (k+1)) (out++[x])
   else if ep out (vs.idxOf t.var) aP=x then jY vs (ts.drop (k+1)) (r.drop (k+1)) out else K:=by
 rw[zbM c,zbM d];rw[iB,kX c]at a;rw[iB,kX d]at b;simp only[NQ]at a b;rw[a,b];rfl
theorem vk{a:oL}(c:zB w tv a.aS)(hr:eX dR aP 3 w rv r)(hs:O a.aS<=1048576):
  aH prog 76 #[.agg #[j3 a.rel,tv],rv] w (qn w (AH a r)):=by
 obtain⟨ta,tc,rfl,Lm⟩:=c.len;obtain⟨ra,rc,rfl,hmr⟩:=hr.len;unfold bw at Lm hmr;obtain⟨wa,dE⟩:=E (e8 w (h8 #[j3 a.rel,hY ta (O a.aS) tc] 52));have cR:=Za dE;have N:=Zb dE;obtain⟨bx,lR⟩:=E (hJ w.heap);rw[lR]at N;obtain⟨b0,G⟩:=Z2 N;have HT:=Z c;have HR:=Z hr;have wU:=Z cR;have rR:=Z N;have l:=Z (λf (hz:U wa [] f [])=>AT _ a.rel a.aS f ((c.on cR).on hz) hs);by_cases hl:O r=O a.aS
 .have s:AH a r=jY (bY a) a.aS r []:=if_pos hl;have HM:=Z s;rw[s];clear s;obtain⟨n,hn⟩:=E (O a.aS);rw[hn]at hl Lm hs dE b0 G rR HT l;have HL:=Z hl;have p:=Z hn;rw[hl]at HR;rw[hl,hn];clear hl hn c hr cR N;go_enter func76,ntmps76;have Q5:O (bY a)<=n:=by rw[<-p.o];have:=gG a.aS [];simpa[bY]using this
  obtain⟨nv,di⟩:=E (O (bY a));have R:O (bC a.aS [])=nv:=di;rw[di]at Q5;have HNV:=Z di;clear di;go_upto_region 4 with(go_at_call 31;refine(l.o _ (U.refl _ _)).mono ?_;rintro e w2 ⟨u,rfl,d,bH⟩;obtain⟨ua,uc,rfl,-⟩:=d.len;rw[R]at d|-;have G:=bH.cell G (by simp);have HO:=Z d;have eM:=Z (wU.o.dd bH);clear d bH);clear R l;have vI:=aGK.wO 0 nv (Nat.zero_le _) (by omega) (by unfold bw;omega) w2;have vH:=aGK.yF 0 nv (Nat.zero_le _) (by unfold bw;omega) w2 (by omega);obtain⟨w3,iQ⟩:=E (e8 w2 (h8 (madeCells #[i6 i7 0,i6 i7 0,j3 {data:=#[]}] (nv*3)) 65));have cU:=Za iQ;rw[iQ]at vI vH;have Oq:bG dR aP 65 3 w w3 (hY (H ⟨hJ w2.heap,0,K⟩) 0 nv) []:=⟨vH.congr λi j hi _=>absurd hi (Nat.not_lt_zero i),λg hg=>by
   have:hJ w2.heap=g:=by simpa[gz]using hg
   have:=eM.o.size;omega⟩
  obtain⟨b7,MS⟩:=E (hJ w2.heap);rw[MS]at vI Oq;simp only[Int.natCast_zero]at vI;have G:=cU.cell G (by simp);have HO3:=Z Oq;have gZ:=Z (eM.o.dd cU);have HVS:=Z (HO.o.on cU);clear vH iQ cU Oq MS;go_upto_region 5 with(fail);clear vI;go_upto_region 6 with(fail);clear G;have zZ:=Z HM.o;go_loopg [7,25] n (λgg s7 s25 wr=>∃(k:Nat) (out:Row),k<=n/\gg=n-k/\s25=i6 i7 k/\bG dR aP 65 3 w wr s7 out/\U w [] wr []/\vC wa wr (hY ua nv uc) (bC a.aS [])/\O out=O (bC (a.aS.take k) [])/\jY (bY a) a.aS r []=jY (bY a) (a.aS.drop k) (r.drop k) out)
  case atStart=>exact⟨0,[],Nat.zero_le _,rfl,rfl,HO3.o,gZ.o,HVS.o,rfl,rfl⟩
  case round=>
   obtain⟨k,out,hk,rfl,rfl,d,F,T,A,I7⟩:=hrel;obtain⟨oa,oc,rfl,-⟩:=d.len;have Ny:=Z I7;have Wt:=Z A;clear I7 A;by_cases aV:k<n
   .have b:k<O a.aS:=by rw[p.o];exact aV
    have B:k<O r:=by rw[HL.o];exact aV
    obtain⟨gt,ot,ct,hv,-,qL⟩:=eX.aU (HT.o.on F) b;injection hv with x1 x2 x3;clear x2 x3;subst x1;obtain⟨gr,o,cr,hv,c0,c1,c2⟩:=A9 (HR.o.on F) B;injection hv with x1 x2 x3;clear x2 x3;subst x1;obtain⟨t,c⟩:=E (ep a.aS k qc);obtain⟨x,hx⟩:=E (ep r k aP);have zC:=Z (Ko (vs:=bY a) (out:=out) b B c hx);have P:=Z (YM b (t:=t) (by rw[List.getD_eq_getElem?_getD,List.getElem?_eq_getElem b]at c;exact c));have kh:=Z (aBg b c);rw[c]at qL;rw[hx]at c0 c1 c2;have p0:e7 wr ⟨gt,ot+k*4,K⟩=H (j3 t.var):=qL 0 (by omega);have p1:e7 wr ⟨gt,ot+k*4+1,K⟩=H (i6 i7 t.vY.aG):=qL 1 (by omega);have p2:e7 wr ⟨gt,ot+k*4+2,K⟩=H (i6 i7 t.vY.num):=qL 2 (by omega);have p3:e7 wr ⟨gt,ot+k*4+3,K⟩=H (j3 t.vY.eR):=qL 3 (by omega);obtain⟨wb,pE⟩:=E (e8 wr (h8 #[j3 t.var,i6 i7 t.vY.aG,i6 i7 t.vY.num,j3 t.vY.eR] 67));have C:=Za pE;have VZ:=Zb pE;obtain⟨e0,e1,e2,e3⟩:=Z4 VZ;have c0:=(C).cell c0 (by simp);have c1:=(C).cell c1 (by simp);have c2:=(C).cell c2 (by simp);have D2:=Z (F.dd C);have SY:=Z (T.on C);have Q:=Z (d.on C);have CQ:(k:Int)<(n:Int):=by omega
    clear qL c hx b B d F T C VZ;by_cases hv:t.var=bO
    .have Om:=nW hv;have HV:=Z hv;clear hv;rcases RP x t.vY with z|⟨W,dW⟩|⟨W,h2,dW⟩|⟨W,h2,h3,dW⟩
     .have hsx:=yG x.eR x.eR;have HX:=Z z;rw[<-z]at e1 e2 e3 pE p1 p2 p3;clear z;go_upto_region 9 with(fail);try rw[pE]
      go_quiet (fail);go_wp2;go_roundg (n-(k+1))
      case measure=>omega
      case rel=>exact⟨k+1,out,by omega,rfl,by go_num,Q.o.on ((U.refl _ _).drewN _),D2.o.dd ((U.refl _ _).drewN _),SY.o.on ((U.refl _ _).drewN _),by rw[P.o.1 HV.o];exact Wt.o,by rw[Ny.o,zC.o,if_pos HV.o,if_pos HX.o]⟩
     .exact ZM69
     .exact ZM69
     .exact ZM69
    .have Om:=iR hv;have GD:=pC hv;have HV:=Z hv;have v:=aI9 (show t.var∈bC a.aS []from kh.o hv);have IY:=P.o.2 hv;obtain⟨S,q⟩:=E ((bY a).idxOf t.var);have V:(bC a.aS []).idxOf t.var=S:=q;rw[V]at v;rw[q]at IY zC;rw[<-Wt.o]at IY;have HIX:=Z (λf (hz:vC wa f (hY ua nv uc) (bC a.aS []))=>BI _ _ t.var f hz.rd);rw[v]at HIX;clear hv v q V;rcases IY with m|m
     .have HJ:=Z m;obtain⟨go,oo,co,hvo,q0,q1,q2⟩:=A9 Q.o.rd m.1;injection hvo with x1 x2 x3;clear x2 x3;subst x1;obtain⟨y,hy⟩:=E (ep out S aP);rw[hy]at q0 q1 q2 zC;have mZ:((S:Int)==(O out:Int))=po:=by rw[dA];exact decide_eq_false (by omega)
      have pP:(S:Int)<(O out:Int):=by omega
      clear m hy;rcases RP y x with z|⟨W,dW⟩|⟨W,h2,dW⟩|⟨W,h2,h3,dW⟩
      .have hsx:=yG x.eR x.eR;have HX:=Z z;rw[z]at q0 q1 q2;clear z;go_upto_region 14 with(go_at_call 30;refine(HIX.o _ (by first|exact SY.o|(rw[pE];exact SY.o))).mono ?_;rintro e w9 ⟨rfl,rfl⟩);try rw[pE]
       go_quiet (fail);go_wp2;go_roundg (n-(k+1))
       case measure=>omega
       case rel=>exact⟨k+1,out,by omega,rfl,by go_num,Q.o.on ((U.refl _ _).drewN _),D2.o.dd ((U.refl _ _).drewN _),SY.o.on ((U.refl _ _).drewN _),by rw[HJ.o.2];exact Wt.o,by rw[Ny.o,zC.o,if_neg HV.o,if_neg (Nat.ne_of_lt HJ.o.1),if_pos HX.o]⟩
      .exact ZM46
      .exact ZM46
      .exact ZM46
     .have HJ:=Z m;have mZ:((S:Int)==(O out:Int))=oj:=by rw[dA];exact decide_eq_true m.1
      have A:O out<=1048576:=by rw[Wt.o];have:=gG (a.aS.take k) [];have:=List.length_take_le k a.aS;simp only[List.length_nil]at*;omega
      clear m;go_upto_region 13 with(go_at_call 30;refine(HIX.o _ (by first|exact SY.o|(rw[pE];exact SY.o))).mono ?_;rintro e w9 ⟨rfl,rfl⟩);try rw[pE]
      have lgr:=iO (block_lt_of_cell c0);go_wp2_with (at_builtin;refine cK aIR rfl _ _ rfl Q.o D2.o (by rfl) [i6 i7 x.aG,i6 i7 x.num,j3 x.eR] x (by rfl) rfl (λj m=>by match j,m with|0,_=>rfl|1,_=>rfl|2,_=>rfl) rfl (by omega) (by unfold bw;omega) ?_;rintro g5 c5 w5 nO cQ L hg5;have oI:=Z nO;have gD:=Z cQ;have a0z:=Z L;clear nO cQ L);go_roundg (n-(k+1))
      case measure=>omega
      case rel=>exact⟨k+1,out++[x],by omega,rfl,by go_num,oI.o,gD.o,SY.o.jL Q.o (by decide) a0z.o,by rw[HJ.o.2,List.length_append];rfl,by rw[Ny.o,zC.o,if_neg HV.o,if_pos HJ.o.1]⟩
   .obtain rfl:k=n:=by omega
    rw[List.drop_eq_nil_iff.2 (by rw[p.o];exact Nat.le_refl _)]at Ny;have LP:=Z d;have a1B:=Z F;clear d F;go_wp2;go_ret2;refine⟨a1B.out,?_⟩;rw[Ny.o];unfold jY;exact⟨_,rfl,LP.o⟩
 .have s:AH a r=K:=if_neg hl;have V5:((O r:Int)==(O a.aS:Int))=po:=by rw[dA];exact decide_eq_false hl
  rw[s];clear c hr cR N s hl l;go_enter func76,ntmps76;go_wp2;go_ret2;exact⟨wU.o,rfl⟩
theorem ZM107{P:Prop}(h:P:=by
  rename_i h;refine⟨λh=>dS h D,λe=> ?_⟩;injection e with e1 _;subst e1;exact dS h (UInt8.lt_irrefl a)):P:=h
theorem ZM138{P:Prop}(h:P:=by
  go_wp2_with (go_at_call 170;apply(S8 _ _).cL;rintro w' rfl);go_ret;exact⟨rfl,rfl⟩):P:=h
theorem ZM139{P:Prop}(h:P:=by
  go_wp2_with (go_at_call 171;apply(YJ _ _).cL;rintro w' rfl);go_ret;exact⟨rfl,rfl⟩):P:=h
def QR(x y:Int):Int:=if x<y then-1 else if y<x then 1 else 0
theorem SQ{x y:Int}:QR x y=0↔x=y:=by
 unfold QR;split
 .constructor<;>intro h<;>omega
 .split<;>constructor<;>intro h<;>omega
def NU(s t:dU):Int:=Lib.compareBytes s.data.toList t.data.toList
theorem DQ:∀{a b:List UInt8},Lib.compareBytes a b=0↔a=b
 |[],[]=>by simp[Lib.compareBytes]
 |[],_::_=>by simp[Lib.compareBytes]
 |_::_,[]=>by simp[Lib.compareBytes]
 |a::xs,b::ys=>by
  unfold Lib.compareBytes;split
  .exact ZM107
  .rename_i c;split
   .exact ZM107
   .rename_i d;have:a=b:=UInt8.le_antisymm (UInt8.not_lt.1 d) (UInt8.not_lt.1 c);rw[DQ (a:=xs) (b:=ys),this];simp
theorem Qj{s t:dU}:NU s t=0↔s=t:=by
 unfold NU;rw[DQ];refine⟨λh=> ?_,λh=>by rw[h]⟩;cases s with|mk a=>cases t with|mk b=>
  exact wJ ByteArray.mk (Array.toList_inj.1 h)
def GM(a b:MU):Int:=if QR a.aG b.aG≠0 then QR a.aG b.aG else if QR a.num b.num≠0 then QR a.num b.num else NU a.eR b.eR
theorem TB{a b:MU}:GM a b=0↔a=b:=by
 unfold GM;cases a with|mk k n t=>cases b with|mk k' n' d=>
  simp only[ne_eq,SQ,MU.mk.injEq];split
  .rename_i h;rw[SQ];exact⟨λe=>dS e h,λe=>dS e.1 h⟩
  .rename_i h;split
   .rename_i c;rw[SQ];exact⟨λe=>dS e c,λe=>dS e.2.1 c⟩
   .rename_i c;rw[Qj];exact⟨λe=>⟨Decidable.not_not.1 h,Decidable.not_not.1 c,e⟩,λe=>e.2.2⟩
def rG:Row->Row->Int
 |[],[]=>0
 |[],_::_=> -1
 |_::_,[]=>1
 |a::xs,b::ys=>if GM a b≠0 then GM a b else rG xs ys
theorem KB:∀{a b:Row},rG a b=0↔a=b
 |[],[]=>by simp[rG]
 |[],_::_=>by simp[rG]
 |_::_,[]=>by simp[rG]
 |a::xs,b::ys=>by
  unfold rG;split
  .rename_i h;refine⟨λe=>dS e h,λe=> ?_⟩;injection e with e1 _;exact dS (TB.2 e1) h
  .rename_i h;rw[KB (a:=xs) (b:=ys),TB.1 (Decidable.not_not.1 h)];simp
theorem zq(a b:dU)(w:aA):
  aH prog 172 #[j3 a,j3 b] w λe w'=>e=i5 (i6 i7 (NU a b))/\w'=w:=by
 go_in;go_wp2;rw[run_callFunc_extern func190 dB dB dB (e:=Extern.BytealgCompare.compare) dB,Lib.run_compareString];simp only[Result.andThen];rw[Oper.upon_value];go_wp2;go_ret;exact⟨rfl,rfl⟩
theorem WW(a b:dU)(w:aA):
  aH prog 151 #[j3 a,j3 b] w λe w'=>e=i5 (i6 i7 (NU a b))/\w'=w:=by
 go_in;go_wp2_with (go_at_call 172;apply(zq _ _ _).cL;rintro w' rfl);go_ret;exact⟨rfl,rfl⟩
theorem S8(x:Int)(w:aA):
  aH prog 170 #[i6 i7 x] w λe w'=>e=i5 (j4 po)/\w'=w:=by
 have h:(x !=x)=po:=X;go_in;go_wp2;go_ret;exact⟨rfl,rfl⟩
theorem aIY(x y:Int)(w:aA):
  aH prog 149 #[i6 i7 x,i6 i7 y] w λe w'=>e=i5 (i6 i7 (QR x y))/\w'=w:=by
 unfold QR;by_cases a:x<y
 .rw[bR a];go_in;exact ZM138
 .rw[bD a];by_cases b:y<x
  .rw[bR b];go_in;exact ZM138
  .rw[bD b];go_in;exact ZM138
theorem YJ(x:Int)(w:aA):
  aH prog 171 #[i6 i7 x] w λe w'=>e=i5 (j4 po)/\w'=w:=by
 have h:(x !=x)=po:=X;go_in;go_wp2;go_ret;exact⟨rfl,rfl⟩
theorem aOO(x y:Int)(w:aA):
  aH prog 150 #[i6 i7 x,i6 i7 y] w λe w'=>e=i5 (i6 i7 (QR x y))/\w'=w:=by
 unfold QR;by_cases a:x<y
 .rw[bR a];go_in;exact ZM139
 .rw[bD a];by_cases b:y<x
  .rw[bR b];go_in;exact ZM139
  .rw[bD b];go_in;exact ZM139
def fIz(x:Int)(_:Nat):aF:=i6 i7 x
def orI:List Int->Int
 |[]=>0
 |x::l=>if x≠0 then x else orI l
theorem aCM{l:List Int}{k:Nat}(a:k<O l):orI (l.drop k)=if ep l k 0≠0 then ep l k 0 else orI (l.drop (k+1)):=by
 rw[zbM a,iB,kX a];rfl
theorem aTy{l:List Int}(h:eX fIz 0 1 w v l):
  aH prog 148 #[v] w λe w'=>e=i5 (i6 i7 (orI l))/\U w [] w' []:=by
 obtain⟨a,cap,rfl,n⟩:=h.len;unfold bw at n;go_in;go_wp2;go_loopg [8] (O l) (λp i wr=>U w [] wr []/\∃k:Nat,k<=O l/\p=O l-k/\i=J k/\orI l=orI (l.drop k))
 .exact⟨U.refl _ _,0,Y,rfl,rfl,rfl⟩
 obtain⟨b,k,y,rfl,rfl,g⟩:=hrel;by_cases m:k<O l
 .obtain⟨u,o,cap',hv,-,j⟩:=eX.aU (h.on b) m;have c0:=j 0 D;simp only[wZ,pK,fIz]at c0;obtain rfl:=CT hv;clear j;have c:=(aCM m);generalize q:ep l k 0=x at c0 c;clear q;by_cases d:x=0
  .subst d;go_wp2;go_roundg (O l-(k+1))
   .exact⟨b,k+1,Y,rfl,eO,by rw[g,c];rfl⟩
   omega
  .have r:(x !=0)=oj:=eI d;go_wp2;go_ret;exact⟨by rw[g,c,bR d];rfl,b⟩
 .go_wp2;go_ret;refine⟨?_,b⟩;rw[g,List.drop_eq_nil_iff.2 Y];rfl
variable{bx:Nat}{xv yv:aF}
theorem aCA(x y z:Int)(a:w.heap[b]? =H (h8 #[i6 i7 x,i6 i7 y,i6 i7 z] 3 (0,0))):eX fIz 0 1 w (hY (H ⟨b,0,K⟩) 3 3) [x,y,z]:=
 .inr ⟨b,0,3,rfl,by simp,(by decide:3<=bw),cV a,λi j d e=>by
  have c:j=0:=by omega
  subst c;have g:i<3:=d;have:i=0\/i=1\/i=2:=by omega
  rcases this with rfl|rfl|rfl
  .exact aL a rfl
  .exact aL a rfl
  .exact aL a rfl⟩
theorem Ja(x y:MU)(w:aA):
  aH prog 116 #[E3 x,E3 y] w λe w'=>e=i5 (i6 i7 (GM x y))/\U w [] w' []:=by
 unfold E3;let⟨wa,u⟩:=E (e8 w (h8 #[J x.aG,J x.num,j3 x.eR] 65));have N:=Za u;have d:=Zb u;let⟨wb,r⟩:=E (e8 wa (h8 #[J y.aG,J y.num,j3 y.eR] 65));have A:=Za r;have z:=Zb r;have d:=A.aC d X;let⟨q,P⟩:=E (hJ w.heap);let⟨bb,B⟩:=E (hJ wa.heap);rw[P]at d;rw[B]at z;obtain⟨a0,a1,a2⟩:=Z3 d;obtain⟨b0,L,b2⟩:=Z3 z;have G:=(N.dd A);go_in;go_upto_region 1 with(fail);refine ek 99 (eb a0<|eb a1<|eb a2<|eb b0<|eb L<|d7 b2) (λwd v F Q=> ?_);have C:=(G.dd F);refine dw [0,2,5,7,10,12,1,3,6,8,11,13] ?_;refine Zo 4 λo hK=> ?_;go_simp;go_at_call 149;apply(aIY _ _ _).cF;rintro e w1 ⟨rfl,rfl⟩;dsimp only;refine Zk hK Q<|Zo 9 λo hK=> ?_;go_simp;go_at_call 150;apply(aOO _ _ _).cF;rintro e w2 ⟨rfl,rfl⟩;dsimp only;refine Zk hK Q<|Zo 14 λo hK=> ?_;go_simp;go_at_call 151;apply(WW _ _ _).cF;rintro e w3 ⟨rfl,rfl⟩;dsimp only;refine Zk hK Q<|Zo 15 λo hK=> ?_;go_simp;have a:U w3 [] (e8 w3 (h8 #[J (QR x.aG y.aG),J (QR x.num y.num),J (NU x.eR y.eR)] 3)) []:=(U.refl w3 []).alloc _;have n:=aCA (w:=e8 w3 (h8 #[J (QR x.aG y.aG),J (QR x.num y.num),J (NU x.eR y.eR)] 3)) _ _ _ (lK w3 _);obtain⟨m,j,l,i,p,b⟩:=Q;have Q:=dX ((a).cell m X) (dX ((a).cell j X) (dX ((a).cell l X) (dX ((a).cell i X) (dX ((a).cell p X) ((a).cell b X)))));have f:=(aTy n);have g:=(C.dd a);refine Zk hK Q<|Zo 16 λo hK=> ?_;go_simp;go_at_call 148;apply f.cF;rintro e w4 ⟨rfl,c⟩;dsimp only;obtain⟨m,j,l,i,p,b⟩:=Q;have Q:=dX ((c).cell m X) (dX ((c).cell j X) (dX ((c).cell l X) (dX ((c).cell i X) (dX ((c).cell p X) ((c).cell b X)))));have k:=(g.dd c);refine Zk hK Q<|I 17 ?_;refine aY dB ?_ _;go_wp2;go_ret;refine⟨?_,k⟩;unfold orI GM;congr 2;split
 .rfl
 .unfold orI;split
  .rfl
  .unfold orI;split
   .rfl
   .rename_i h;simpa[orI]using(Decidable.not_not.1 h).symm
theorem Qx{a b:Row}{k:Nat}(ha:k<O a)(c:k<O b):rG (a.drop k) (b.drop k)=if GM (ep a k aP) (ep b k aP)≠0 then GM (ep a k aP) (ep b k aP)else rG (a.drop (k+1)) (b.drop (k+1)):=by
 rw[zbM ha,zbM c,iB,kX ha,iB,kX c];rfl
theorem Uz{a b:Row}(ha:eX dR aP 3 w av a)(z:eX dR aP 3 w bv b):
  aH prog 115 #[av,bv,.func (.func 116) #[] #[]] w λe w'=>e=i5 (i6 i7 (rG a b))/\U w [] w' []:=by
 obtain⟨aa,W,rfl,R⟩:=ha.len;obtain⟨V,bc,rfl,p⟩:=z.len;unfold bw at R p;have eg:=enters_of func116 dB rfl;go_in;go_wp2;go_loopg [13] (O a) (λgg i wr=>U w [] wr []/\∃k:Nat,k<=O a/\k<=O b/\gg=O a-k/\i=J k/\rG a b=rG (a.drop k) (b.drop k))
 .exact⟨U.refl _ _,0,Y,Y,rfl,rfl,rfl⟩
 obtain⟨c,k,s,T,rfl,rfl,n⟩:=hrel;by_cases m:k<O a
 .let⟨gx,o,cap',hv,c0,c1,c2⟩:=A9 (ha.on c) m;obtain rfl:=CT hv;by_cases j:k<O b
  .let⟨gy,o2,gI,hv,A,N,h⟩:=A9 (z.on c) j;obtain rfl:=CT hv;have d:=(Qx m j);have L:=iO (WC A);have G:=iO (WC c0);let⟨x,B⟩:=E (ep a k aP);let⟨y,C⟩:=E (ep b k aP);rw[B]at c0 c1 c2 d;rw[C]at A N h d;have F:¬O b<=k:=Y;clear B C;have l:=(λw=>Ja x y w);unfold E3 at l;generalize S:GM x y=q at l d;clear S;by_cases r:q=0
   .subst r;go_wp2_with (first
     |(go_at_call 116;apply(l _).cL;intro w2 u))
    go_roundg (O a-(k+1))
    .exact⟨(((c.alloc _).alloc _).dd u),k+1,Y,Y,rfl,eO,by rw[n,d];rfl⟩
    omega
   .have f:(q !=0)=oj:=eI r;go_wp2_with (first
     |(go_at_call 116;apply(l _).cL;intro w2 u))
    go_ret;exact⟨by rw[n,d,bR r];rfl,((c.alloc _).alloc _).dd u⟩
  .have F:O b<=k:=Y;go_wp2;go_ret;refine⟨?_,c.alloc _⟩;rw[n,zbM m,List.drop_eq_nil_iff.2 F];rfl
 .have P:k=O a:=Y;subst P;clear s m;have g:=n;rw[List.drop_eq_nil_iff.2 (fV _)]at g;by_cases Q:O a<O b
  .have v:rG a b= -1:=by rw[g,zbM Q];rfl
   clear g;go_wp2;go_ret;exact⟨by rw[v];rfl,c⟩
  .have v:rG a b=0:=by rw[g,List.drop_eq_nil_iff.2 Y];rfl
   clear g;go_wp2;go_ret;exact⟨by rw[v];rfl,c⟩
theorem Zu{a b:Row}(ha:eX dR aP 3 w av a)(c:eX dR aP 3 w bv b):
  aH prog 82 #[av,bv] w λe w'=>e=i5 (i6 i7 (rG a b))/\U w [] w' []:=by
 obtain⟨l,i,rfl,-⟩:=ha.len;obtain⟨j,bc,rfl,-⟩:=c.len;go_in;go_wp2_with (go_at_call 115;apply (Uz ha c).cL;intro w2 d);go_ret;exact⟨rfl,d⟩
def aIP(x:Row×aF)(_:Nat):aF:=x.2
theorem ay(v:aF)(l:List (Row×aF))(g:Nat)(B:Array aF)(p:Row×aF->Bool)(w:aA)(eg:∀args w,(callFunc g args).run prog w= .ok (.enter g args) w)(h:eX aIP ([],undef) 1 w v l)(f:∀x,x∈l->∃a n c,x.2=hY a n c)(N:G4 g B (λx:Row×aF=>x.2) p l w):
  aH prog 117 #[v,.func (.func g) #[] B] w λe w'=>e=i5 (i6 i7 (S9 p l))/\U w [] w' []:=by
 obtain⟨a,cap,rfl,P⟩:=h.len;unfold bw at P;go_in;go_wp2;go_loopg [8] (O l) (λt i wr=>U w [] wr []/\∃k:Nat,k<=O l/\t=O l-k/\i=J k/\∀j,j<k->p (ep l j ([],undef))=po)
 .exact⟨U.refl _ _,0,Y,rfl,rfl,λj G=>by omega⟩
 obtain⟨m,k,V,rfl,rfl,A⟩:=hrel;by_cases y:k<O l
 .obtain⟨Q,o,cap',hv,-,F⟩:=eX.aU (h.on m) y;have c0:=F 0 (by decide);simp only[wZ,pK,aIP]at c0;obtain rfl:=CT hv;clear F;have r:=bM (d:=([],undef)) y;have b:=N _ r wr m;generalize C:ep l k ([],undef)=x at c0 b r;let⟨R,T,S,s⟩:=f x r;dsimp only at b;rw[s]at c0 b;clear r s;cases q:p x with
  |true=>
   rw[q]at b;go_wp2_with (first
    |(go_at_fn g;apply b.cL;intro w2 u))
   go_ret;exact⟨wJ (λz=>i5 (J z)) (uB (d:=([],undef)) y (by rw[C];exact q) A).symm,m.dd u⟩
  |false=>
   rw[q]at b;go_wp2_with (first
    |(go_at_fn g;apply b.cL;intro w2 u))
   go_roundg (O l-(k+1))
   .exact⟨m.dd u,k+1,by omega,rfl,eO,λj G=>by
    by_cases L:j=k
    .subst L;rw[C];exact q
    .exact A j (by omega)⟩
   omega
 .go_wp2;go_ret;exact⟨wJ (λz=>i5 (J z)) (xK (d:=([],undef)) λj G=>A j (by omega)).symm,m⟩
theorem ez(v:aF)(l:List (Row×aF))(g:Nat)(b:Array aF)(p:Row×aF->Bool)(w:aA)(eg:∀args w,(callFunc g args).run prog w= .ok (.enter g args) w)(h:eX aIP ([],undef) 1 w v l)(d:∀x,x∈l->∃a n c,x.2=hY a n c)(i:G4 g b (λx:Row×aF=>x.2) p l w):
  aH prog 83 #[v,.func (.func g) #[] b] w λe w'=>e=i5 (j4 (l.any p))/\U w [] w' []:=by
 go_in;go_wp2_with (go_at_call 117;apply(ay v l g b p w eg h d i).cL;intro w' j);go_ret;exact⟨by rw[<-pD];rfl,j⟩
theorem aG1{x y:Row}(m:e7 w ⟨bx,0,K⟩=H xv)(d:eX dR aP 3 w xv x)(c:eX dR aP 3 w yv y):
  aH prog 81 #[yv,h9 (H ⟨bx,0,K⟩)] w λe w'=>e=i5 (j4 (decide (x=y)))/\U w [] w' []:=by
 have g:=Z (Zu d c);obtain⟨p,n,rfl,-⟩:=d.len;obtain⟨r,bc,rfl,-⟩:=c.len;by_cases a:x=y
 .have b:rG x y=0:=KB.2 a;rw[b]at g;rw[kI a];clear d c b a;go_in;go_wp2_with (go_at_call 82;apply g.o.cL;intro w2 j);go_ret;exact⟨rfl,j⟩
 .have b:¬rG x y=0:=λe=>a (KB.1 e);rw[jO a];generalize i:rG x y=q at g b;have l:(q==0)=po:=eI b;clear d c i a b;go_in;go_wp2_with (go_at_call 82;apply g.o.cL;intro w2 j);go_ret;exact⟨rfl,j⟩
variable{ns:List (aX×aF)}{ps:List (dU×aF)}{L' bs:List Nat}{vG:List aF}{F G c st tg β:Nat}{T:iX}{p:zY}{bN:aW}{hv nv v0 v1 v2 v4:aF}
structure QT(w:aA)(ρ:aW)(tg:Nat)(hv av:aF)(ps:List (dU×aF))(q:bB):Prop where
 head:mK xR bO 1 w ρ tg hv q.head
 cap:CM hv
 aD:mK vW qc 2 w ρ tg av ps
 len:O ps=O q.aD
 j5:∀i,i<O q.aD->(ep ps i qc).1=(ep q.aD i qc).rel/\mK jF.cell qc 4 w ρ tg (ep ps i qc).2 (ep q.aD i qc).aS
 dM:q.jS
theorem QT.dg{S:Nat->Prop}(h:QT w ρ tg hv av ps q)(a:bA w ρ S w' bN)(b:¬S tg):QT w' bN tg hv av ps q:=
 ⟨h.head.dg a b,h.cap,h.aD.dg a b,h.len,λi c=>⟨(h.j5 i c).1,(h.j5 i c).2.dg a b⟩,h.dM⟩
def nH(β i:Nat):Nat:=β+1000+100*i
structure Ba(w:aA)(ρ:aW)(β:Nat)(q:bB)(p:zY)(hv av v0 v1 v2 v4 nv ov:aF)(ps:List (dU×aF))(ns:List (aX×aF))(vG:List aF)(bs:List Nat):Prop where
 qt:QT w ρ (β+1) hv av ps q
 aK:mK oE qc 7 w ρ (β+1) v2 ns
 nsp:ns.map (·.1)=p.aK
 nvs:∀x,x∈ns->∃a n c,x.2=hY a n c
 mO:mK ID undef 1 w ρ (β+1) ov vG
 aLm:O vG=O q.aD
 aGb:∀i,i<O q.aD->mK fN 0 1 w ρ (β+1) (ep vG i undef) (oQ p (ep q.aD i qc) i)
 nds:mK Uq 0 1 w ρ (β+1) nv bs
 ndn:O bs=O p.aK
 vs:(∃a n c,v0=hY a n c)/\(∃a n c,v1=hY a n c)/\∃a n c,v4=hY a n c
theorem Ba.dg{ov:aF}{S:Nat->Prop}(h:Ba w ρ β q p hv av v0 v1 v2 v4 nv ov ps ns vG bs)(a:bA w ρ S w' bN)(b:¬S (β+1)):Ba w' bN β q p hv av v0 v1 v2 v4 nv ov ps ns vG bs:=
 ⟨h.qt.dg a b,h.aK.dg a b,h.nsp,h.nvs,h.mO.dg a b,h.aLm,λi c=>(h.aGb i c).dg a b,h.nds.dg a b,h.ndn,h.vs⟩
structure qm(q:bB):Prop where
 aLk:(aB q).1=0
 wf:gY (O (vars q)) (O q.aD) (aB q).2
 few:O (aB q).2.aK<=42
 six:O q.aD<=6
 wide:O (vars q)<=30
 a0T:∀a,a∈q.aD->O a.aS<=5
def gQ(q:bB)(p:zY)(hv av v0 v1 v2 v4 nv ov:aF)(cells:Nat)(state fX:Nat):Array aF:=
 #[j3 q.name,hv,av,v0,v1,v2,i6 i7 (p.dL:Int),v4,i6 i7 (cells:Int),nv,ov,i6 i7 (state:Int),i6 i7 (fX:Int),j4 po,i6 i7 0]
structure fR(w:aA)(ρ:aW)(β b:Nat)(q:bB)(cells st ls:Nat)(T:iX)(F G:Nat):Prop where
 ex:∃hv av v0 v1 v2 v4 nv ov ps ns vG bs,w.heap[b]? =H (h8 (gQ q (aB q).2 hv av v0 v1 v2 v4 nv ov cells st ls) 82 (0,0))/\
  Ba w ρ β q (aB q).2 hv av v0 v1 v2 v4 nv ov ps ns vG bs/\∀i,i<O (aB q).2.aK->o8 w ρ (nH β i) (ep bs i 0) (eP (aB q).2 i) (T i) F G
 bT:ρ b=β
theorem fR.dg{cells ls:Nat}{S:Nat->Prop}(h:fR w ρ β b q cells st ls T F G)(a:bA w ρ S w' bN)(g:¬S β)(l:¬S (β+1))(m:∀i c,i<O (aB q).2.aK->c<80->¬S (nH β i+c)):fR w' bN β b q cells st ls T F G:=by
 obtain⟨hv,av,v0,v1,v2,v4,nv,ov,ps,ns,vG,bs,d,n,p⟩:=h.ex;exact⟨⟨hv,av,v0,v1,v2,v4,nv,ov,ps,ns,vG,bs,a.aC d (h.bT▸g),n.dg a l,λi e=>(p i e).dg a (λc j=>m i c e j)⟩,(a.bT _ (cV d)).dd h.bT⟩
theorem fR.on{cells ls:Nat}(h:fR w ρ β b q cells st ls T F G)(a:U w [] w' L'):fR w' ρ β b q cells st ls T F G:=
 h.dg (S:=eL) a.fK id id (λ_ _ _ _ h=>h)
structure wG(w:aA)(ρ:aW)(β b:Nat)(q:bB)(cells:Nat)(t:iZ)(F G:Nat):Prop where
 bd:fR w ρ β b q cells t.state t.fX t.T F G
 ok:qm q
 Oi:zJ (bJ (aB q).2) t.T
 num:t.state<=t.fX/\t.fX<=G
 cel:1<=cells/\cells<=65536
def G3(β x:Nat):Prop:=β<=x/\x<β+10000/\x≠β+1
theorem aCY(a:i<42)(h:eZ (nH β i) x):G3 β x:=by
 unfold eZ eG nH at h;unfold G3;omega
theorem O2(h:eZ (nH β i) x):β+1000<=x:=by
 unfold eZ eG nH at h;omega
theorem vb(a:i≠j)(b:c<100):¬eZ (nH β i) (nH β j+c):=by
 unfold eZ eG nH;omega
theorem Mr{α:Type}{l:List α}{d x:α}(a:i<O l)(h:ep l i d=x):l[i]=x:=by
 rw[iB,kX a]at h;exact h
theorem TX{cells ls:Nat}{ov:aF}{a:oL}(hb:w.heap[b]? =H (h8 (gQ q (aB q).2 hv av v0 v1 v2 v4 nv ov cells st ls) 82 (0,0)))(h:Ba w ρ β q (aB q).2 hv av v0 v1 v2 v4 nv ov ps ns vG bs)(B:qm q)(j:i<O q.aD)(ha:ep q.aD i qc=a)(f:eX dR aP 3 w rv r)(hf:AP r):
  aH prog 39 #[h9 (H ⟨b,0,K⟩),i6 i7 (i:Int),rv] w (qn w (kA (aB q).2 a i r)):=by
 have hik:(i:Int)<(O q.aD:Int):=Y;obtain⟨ga,oa,ca,k,-,V⟩:=eX.aU h.qt.aD.1 (i:=i) (h.qt.len▸j);let⟨hrel,C⟩:=h.qt.j5 i j;rw[ha]at hrel C;obtain⟨ta,tc,T,-⟩:=C.len;have p0:e7 w (Ad ga (oa+i*2))=H (j3 a.rel):=by have:=V 0 D;rwa[show vW (ep ps i qc) 0=j3 (ep ps i qc).1 from rfl,hrel]at this
 have p1:e7 w (Ad ga (oa+i*2+1))=H (hY ta (O a.aS) tc):=by have:=V 1 D;rwa[show vW (ep ps i qc) 1=(ep ps i qc).2 from rfl,T]at this
 rw[h.qt.len]at k;obtain⟨go,oo,co,L,-,z⟩:=eX.aU h.mO.1 (i:=i) (h.aLm▸j);have d:=h.aGb i j;rw[ha]at d;obtain⟨da,dc,p,-⟩:=d.len;have o0:e7 w (Ad go (oo+i))=H (hY da (O (oQ (aB q).2 a i)) dc):=by have:=z 0 D;rwa[show ID (ep vG i undef) 0=ep vG i undef from rfl,p,wZ,pK]at this
 rw[h.aLm]at L;rw[p]at d;rw[T]at C;subst k L;have aDD:O a.aS<=1048576:=by
  have:=B.a0T a (ha▸bM j);omega
 have F:=Z (vk (a:=a) C.1 f aDD);have N:=Z (λwz (hz:U w [] wz [])=>KA rv r wz (f.on hz) hf);have HOR:=Z d.1;have hol:O (oQ (aB q).2 a i)<=30:=by
  rw[M1];let⟨s,hs,e⟩:=(B.wf.JG i (wM j B.wf.DA)).vars;rw[e];exact BS B.wide hs
 have Wt:=Z hol;have Nv:=Z (Rj B.aLk j (Mr j ha));obtain⟨ra,rc,rfl,-⟩:=f.len;have Q:=hb;unfold gQ at Q;have b2:=Zc Q 2;have G:=Zc Q 10;clear V hrel C T z d p f hf h ha hb Q;cases g:AH a r with
 |none=>
  have hl:kA (aB q).2 a i r=K:=by unfold kA;rw[g]
  rw[g]at F;rw[hl];clear g hl;go_in;go_wp2_with (go_at_call 76;apply F.cF;rintro e w2 ⟨l,rfl⟩;have n:=Z l;clear l);go_ret2;exact⟨n,rfl⟩
 |some m=>
  let⟨P,A⟩:=PX g;have W:=Z P;rw[g]at F;cases R:iC r with
  |false=>
   have hl:kA (aB q).2 a i r=K:=by unfold kA;rw[g];simp only;rw[R];rfl
   rw[hl];rw[R]at N;clear g hl A P;go_in;go_wp2_with (first
    |(go_at_call 76;apply F.cF;rintro e w2 ⟨l,u,rfl,x⟩;obtain⟨ua,uc,rfl,-⟩:=x.len;have n:=Z l;clear l x)
    |(go_at_call 77;apply(N.o _ n).cL;intro w3 v;have y:=Z (n.dd v);clear v))
   go_ret2;exact⟨y,rfl⟩
  |true=>
   have hl:kA (aB q).2 a i r=H (dG m (oQ (aB q).2 a i)):=by unfold kA;rw[g];simp only;rw[R];rfl
   rw[hl];rw[R]at N;have o:O m<=1048576:=by rw[P];have:=gG a.aS [];unfold bY;simp only[List.length_nil]at this;omega
   have a1f:=Z o;clear g hl A P o;go_in;go_wp2_with (first
    |(go_at_call 78;refine(GS _ _ m (oQ (aB q).2 a i) _ (HO.rd.on a1A) (HOR.on y) Wt (λc hc=>by rw[W.o];exact Nv c hc) a1f).mono ?_;rintro e w4 ⟨u4,rfl,S,eA⟩;obtain⟨ua4,uc4,rfl,-⟩:=S.len;have kQ:=Z eA;have Ns:=Z S;clear eA S)
    |(go_at_call 77;apply(N.o _ n).cL;intro w3 v;have y:=Z (n.dd v);have a1A:=Z v;let⟨G,o0⟩:=y.zc2 G o0;clear v)
    |(go_at_call 76;apply F.cF;rintro e w2 ⟨l,u,rfl,x⟩;obtain⟨ua,uc,rfl,-⟩:=x.len;have n:=Z l;have HO:=Z x;clear l x))
   go_ret2;exact⟨y.dd kQ,_,rfl,Ns.eE y.size⟩
variable{V:Nat}{u z:aF}
theorem ZM167{P:Prop}(h:P:=by
  have kO:=Z (Jo (x:=J (S.aG:Int)) (y:=J (S.inW:Int)) (z:=hY ka (O S.dg) kc) (u:=hY sa (O S.bK) sc) (v:=hY ua (O S.up) uc) (s:=J (S.most:Int)) sS);generalize Dv:(ey (ey (ey (ey (ey (ey wf (Ad br 0) (J (S.aG:Int))) (Ad br 1) (J (S.inW:Int))) (Ad br 2) (hY ka (O S.dg) kc)) (Ad br 3) (hY sa (O S.bK) sc)) (Ad br 4) (hY ua (O S.up) uc)) (Ad br 5) (J (S.most:Int)))=wz at kO;have yY:=kO.out.1;obtain⟨s0,s1,s2,s3,s4,s5⟩:=Z6 yY;clear yY;go_wp2;refine mD (gO (T:=98) (Ad br 0) rfl Yr (v:=mQ S ka kc sa sc ua uc) (by unfold mQ;go_simp)) rfl ?_;unfold EQ;rw[HSQ.o];exact⟨ka,kc,sa,sc,ua,uc,rfl,(qC.set sS D kO.out.2).rd,(A6.set sS D kO.out.2).rd,(Wn.set sS D kO.out.2).rd,Wo.aZ kO.out.2 (λb hb=>by have:b=br:=(eI hb);have:=HBP.o;omega)⟩):P:=h
theorem ZM154{P:Prop}(h:P:=by
  rw[<-HU.o]at oO;clear Gs;go_upto_region 18 with(go_at_call 62;apply oO.cF;rintro e w2 ⟨u,rfl,hO,bH⟩;obtain⟨ua,uc,rfl,-⟩:=hO.len;have oO:=Z (bH.aC HCQ X);have d4:=Hv oO.o;have df:=aM oO.o;have dl:=iO (cV oO);have sK:=Z bH;have LP:=Z (hO.eE (wb:=w) JR.size);clear bH hO);clear d4 df dl y0 y2 e2;let⟨wf,sG⟩:=E (ey w2 (Ad bs 4) (hY ua (O S.up) uc));have wL:U w2 [bs] wf [bs]:=sG▸pX w2 bs 4 _;have UD:wf.heap[bs]? =H (h8 #[J (S.aG:Int),J (S.inW:Int),hY ka (O S.dg) kc,hY sa (O S.bK) sc,hY ua (O S.up) uc,J (S.most:Int)] 98 (0,0)):=by rw[<-sG,aE _ oO.o];rfl
  have Wo:=Z ((JR.dd sK).aZ wL (λb hb=>by have:b=bs:=(eI hb);have:=lC.o;omega));replace qC:=Z ((qC.on (UO.dd sK)).set oO D wL);replace A6:=Z ((A6.on (UO.dd sK)).set oO D wL);have Wn:=Z (LP.set oO D wL);have sS:=Z (wL.aC (sK.aC Ws X) (by simp;have:=lC.o;omega));have tB:=sS.o;obtain⟨d0,d1,d2,d3,d4,d5⟩:=Z6 UD;obtain⟨r0,r1,r2,r3,r4,r5⟩:=Z6 tB;have rl:=iO (cV tB);have rf:=aM tB;clear wL tB UD;rw[sG];clear sG;exact ZM167):P:=h
theorem ZM0{P:Prop}(h:P:=by
  have Uc:=qu.aC VL (by simp;have:=lC.o;omega);have Me:=qu.aC jx (by simp;have:=lC.o;omega);have sS:=Z (qu.aC HR4 (by simp;have:=lC.o;omega));have OO:=Z (kQ.aZ qu (λb hb=>by have:b=bs:=(eI hb);have:=lC.o;omega));obtain⟨e0,e1,e2,e3,e4,e5,e6⟩:=Z7 Uc;have q2:=Zc Me 2;clear Me;rcases Int.lt_or_le x.bU 0 with hp|hp
  .have gp:decide (x.bU<0)=oj:=kI hp;have F0:S.up=[]:=by rw[Wr.o.2.2.2.2.1,bR hp]
   have hul:O S.up=0:=by rw[F0];rfl
   obtain⟨ua,uc,UD,Wn⟩:∃ua uc,wx.heap[bs]? =H (h8 #[J (S.aG:Int),J (S.inW:Int),hY ka (O S.dg) kc,hY sa (O S.bK) sc,hY ua (O S.up) uc,J (S.most:Int)] 98 (0,0))/\dT (bG fN 0 3 1 w wx (hY ua (O S.up) uc) S.up):=⟨K,0,by rw[hul];exact HC,Z (by rw[F0];exact bG.nil _ _)⟩;have Wo:=OO;have tB:=sS.o;obtain⟨d0,d1,d2,d3,d4,d5⟩:=Z6 UD;obtain⟨r0,r1,r2,r3,r4,r5⟩:=Z6 tB;have rl:=iO (cV tB);have rf:=aM tB;clear hp F0 hul UD tB Uc;obtain⟨wf,sG⟩:∃wf,wf=wx:=⟨_,rfl⟩;subst sG;exact ZM167
  .obtain⟨j,hj⟩:∃j:Nat,x.bU=(j:Int):=⟨x.bU.toNat,Y⟩;have gp:decide ((j:Int)<0)=po:=jO Y;rw[hj]at e5;let⟨Te,hjm⟩:=HS.2.2 j hj;have Ee:(j:Int)<(N:Int):=nA CK.o;let⟨ya,yc,SA,n0,n1,n2,n3,n4,n5,n6⟩:=DZ.o j Te;have F0:=Wr.2.2.2.2.1;rw[bD Y,hj,zbX]at F0;have jn:=Z (by have:=Im.o i (nA CK.o);rw[HX.o]at this;exact this);have qr:=Z (Im.o j Te);generalize hy:eU p.aK j=y at n0 n1 n2 n3 n4 n5 n6 SA F0 hjm qr;replace n0:=OO.cell n0 X;replace n1:=OO.cell n1 X;replace n2:=OO.cell n2 X;replace n3:=OO.cell n3 X;replace n4:=OO.cell n4 X;replace n5:=OO.cell n5 X;replace n6:=OO.cell n6 X;have HYV:=Z SA;have Wl:=Z F0;have HJM:=Z hjm;have HPJ:=Z hj;have Nt:=Z Uc;clear hp Te hjm SA F0 hj hy Uc;go_upto_region 15 with(fail);clear n0 n1 n2 n3 n4 n5 n6 e0 e1 e2 e3 e4 e5 e6 q2;let⟨wq,EK⟩:=E (e8 wx (h8 #[J (y.aG:Int),J (y.o7:Int),hY ya (O y.vars) yc,J (y.cB:Int),J (y.bK:Int),J y.bU,j4 y.lW] 92));let⟨bq,CR⟩:=E (hJ wx.heap);have UO:dT (U wx [] wq []):=Z (Za EK);have hQ:=Ze EK CR;rw[EK,CR];have JR:=Z (OO.dd UO);have hNQ:=UO.aC Nt X;have HCQ:=Z (UO.aC HC X);have Ws:=Z (UO.aC sS X);have y0:=Zc hQ 0;have y2:=Zc hQ 2;have e2:=Zc hNQ 2;clear hQ hNQ EK CR;by_cases Gs:y.aG=2
   .have gy:((y.aG:Int)==2)=oj:=j7 JY;have HU:dT (S.up=iD y.vars x.vars):=Z (by rw[Wl.o,bR Gs]);have HJ:dT (∀z∈y.vars,z∈x.vars):=Z (λz hz=>HJM.o z (by rw[bR Gs];exact hz));have oO:=Z (rK (HYV.on JR) (HXV.on JR) HJ (rV qr.o jn.o));exact ZM154
   .have gy:((y.aG:Int)==2)=po:=j7 G9;have HU:dT (S.up=iD x.vars x.vars):=Z (by rw[Wl.o,bD Gs]);have HJ:dT (∀z∈x.vars,z∈x.vars):=Z (λz hz=>HJM.o z (by rw[bD Gs];exact hz));have oO:=Z (rK (HXV.on JR) (HXV.on JR) HJ (rV qr.o jn.o));exact ZM154):P:=h
theorem gY.aXS{m:Nat}(h:gY V m p)(d:i<O p.aK):
  ((eU p.aK i).aG=2->(eU p.aK i).cB<O p.aK/\∀x∈(eU p.aK i).vars,x∈(eU p.aK (eU p.aK i).cB).vars)/\
  ((eU p.aK i).aG=3->(eU p.aK i).bK<O p.aK/\∀x∈(eU p.aK (eU p.aK i).bK).vars,x∈(eU p.aK i).vars)/\
  (∀j:Nat,(eU p.aK i).bU=(j:Int)->j<O p.aK/\∀x∈(if(eU p.aK j).aG=2 then(eU p.aK j).vars else(eU p.aK i).vars),x∈(eU p.aK i).vars):=by
 let⟨w,b2,v⟩:=h.below i d;have e:∀{s t:Nat},part s t=oj->∀x∈cD s,x∈cD t:=λu x r=>by
  let⟨x1,x2⟩:=mG.1 r;exact mG.2 ⟨x1,kR.1 u x x2⟩
 refine⟨λa=> ?_,λa=> ?_,λj y=> ?_⟩
 .have hs:(eU p.aK i).cB<i:=b2 (by have:(eU p.aK i).aG=(ep p.aK i qc).aG:=rfl;omega);obtain⟨s,t,-,-,c,e2,b,-⟩:=(h.JG i d).MJ a;exact⟨by omega,by rw[c,e2];exact e b⟩
 .have hs:(eU p.aK i).bK<i:=v a;obtain⟨s,t,-,-,c,-,e2,b⟩:=(h.JG i d).V3 a;exact⟨by omega,by rw[c,e2];exact e b⟩
 .let⟨q,g,z,n⟩:=h.aG6 i d (by omega);obtain rfl:j=q:=by omega
  refine⟨g,?_⟩;by_cases a:(eU p.aK j).aG=2
  .rw[bR a];obtain⟨s,t,-,-,c,e2,b,-⟩:=(h.JG j g).MJ a;have l:(eU p.aK j).cB=i:=by
    rcases iM.1 n with⟨-,c2⟩|⟨c1,-⟩
    .exact c2
    .omega
   rw[l]at e2;rw[c,e2];exact e b
  .rw[bD a];exact λ_ h=>h
theorem gY.kx{m:Nat}(b:V<=30)(h:gY V m p)(a:i<O p.aK):O (eU p.aK i).vars<=30:=by
 let⟨s,hs,e⟩:=(h.JG i a).vars;rw[e];exact BS b hs
theorem mn(q:eX oE qc 7 w v2 ns)(c:ns.map (·.1)=p.aK)(A:∀x,x∈ns->eX fN 0 1 w x.2 x.1.vars)(B:0<O p.aK):
  ∃g o cap,v2=hY (H ⟨g,o,K⟩) (O p.aK) cap/\∀j,j<O p.aK->∃va vc,eX fN 0 1 w (hY va (O (eU p.aK j).vars) vc) (eU p.aK j).vars/\
   e7 w ⟨g,o+j*7,K⟩=H (i6 i7 ((eU p.aK j).aG:Int))/\e7 w ⟨g,o+j*7+1,K⟩=H (i6 i7 ((eU p.aK j).o7:Int))/\e7 w ⟨g,o+j*7+2,K⟩=H (hY va (O (eU p.aK j).vars) vc)/\
   e7 w ⟨g,o+j*7+3,K⟩=H (i6 i7 ((eU p.aK j).cB:Int))/\e7 w ⟨g,o+j*7+4,K⟩=H (i6 i7 ((eU p.aK j).bK:Int))/\e7 w ⟨g,o+j*7+5,K⟩=H (i6 i7 (eU p.aK j).bU)/\
   e7 w ⟨g,o+j*7+6,K⟩=H (j4 (eU p.aK j).lW):=by
 have hl:O ns=O p.aK:=by rw[<-c,sN]
 obtain⟨g,o,cap,rfl,-,-⟩:=q.aU (i:=0) Y;refine⟨g,o,cap,by rw[hl],λj C=> ?_⟩;have l:j<O ns:=Y;obtain⟨g',F,cap',e,-,a⟩:=q.aU l;injection e with e1 e2 e3;injection e1 with e1;injection e1 with e1 e4 e5;subst e1 e4;have b:(ep ns j qc).1=eU p.aK j:=by
  unfold eU;rw[<-c,iB,iB,Pm,kX l];rfl
 have hv:=A _ (bM (d:=qc) l);rw[b]at hv;obtain⟨va,vc,z,-⟩:=hv.len;rw[z]at hv;have r:=a 0 D;have n:=a 1 D;have n2:=a 2 D;have v:=a 3 D;have m:=a 4 D;have y:=a 5 D;have u:=a 6 D;simp only[oE,pK,b,z]at r n n2 v m y u;exact⟨va,vc,hv,r,n,n2,v,m,y,u⟩
def EQ(w:aA)(s:mC)(e:cg)(w':aA):Prop:=
 ∃ka kc sa sc ua uc,e=i5 (mQ s ka kc sa sc ua uc)/\eX fN 0 1 w' (hY ka (O s.dg) kc) s.dg/\eX fN 0 1 w' (hY sa (O s.bK) sc) s.bK/\eX fN 0 1 w' (hY ua (O s.up) uc) s.up/\U w [] w' []
theorem Jo{B:Nat}{a b c d e f x y s:aF}{t:ap}(h:w.heap[B]? =H (h8 #[a,b,c,d,e,f] t (0,0))):
  (ey (ey (ey (ey (ey (ey w ⟨B,0,K⟩ x) ⟨B,1,K⟩ y) ⟨B,2,K⟩ z) ⟨B,3,K⟩ u) ⟨B,4,K⟩ v) ⟨B,5,K⟩ s).heap[B]? =H (h8 #[x,y,z,u,v,s] t (0,0))/\U w [B] (ey (ey (ey (ey (ey (ey w ⟨B,0,K⟩ x) ⟨B,1,K⟩ y) ⟨B,2,K⟩ z) ⟨B,3,K⟩ u) ⟨B,4,K⟩ v) ⟨B,5,K⟩ s) [B]:=
 ⟨by rw[aE _ (aE _ (aE _ (aE _ (aE _ (aE _ h)))))];rfl,(((((pX w B 0 x).setCell (a:=Ad B 1) (.inl X) y).setCell (a:=Ad B 2) (.inl X) z).setCell (a:=Ad B 3) (.inl X) u).setCell (a:=Ad B 4) (.inl X) v).setCell (a:=Ad B 5) (.inl X) s⟩
theorem Hv{B:Nat}{a b c d e f:aF}{t:ap}(h:w.heap[B]? =H (h8 #[a,b,c,d,e,f] t (0,0))):e7 w ⟨B,4,K⟩=H e:=by
 exact Zc h 4
theorem aUB{B:Nat}{a b c d e f:aF}{t:ap}(h:w.heap[B]? =H (h8 #[a,b,c,d,e,f] t (0,0))):e7 w ⟨B,1,K⟩=H b:=by
 exact Zc h 1
theorem aUA{B:Nat}{a b c d e f:aF}{t:ap}(h:w.heap[B]? =H (h8 #[a,b,c,d,e,f] t (0,0))):e7 w ⟨B,2,K⟩=H c:=by
 exact Zc h 2
theorem aTz{B:Nat}{a b c d e f:aF}{t:ap}(h:w.heap[B]? =H (h8 #[a,b,c,d,e,f] t (0,0))):e7 w ⟨B,3,K⟩=H d:=by
 exact Zc h 3
theorem aBo{m:Nat}(h0:∃a n c,v0=hY a n c)(h1:∃a n c,v1=hY a n c)(B:∃a n c,v4=hY a n c)(hn:eX oE qc 7 w v2 ns)(hnp:ns.map (·.1)=p.aK)(nN:∀x,x∈ns->eX fN 0 1 w x.2 x.1.vars)(sG:gY V m p)(hV:V<=30)(hi:i<O p.aK):
  aH prog 33 #[.agg #[v0,v1,v2,i6 i7 (p.dL:Int),v4],i6 i7 (i:Int)] w (EQ w (eP p i)):=by
 obtain⟨a0,l0,c0,rfl⟩:=h0;obtain⟨a1,l1,c1,rfl⟩:=h1;obtain⟨a4,l4,c4,rfl⟩:=B;obtain⟨g,o,cap,rfl,pF⟩:=mn hn hnp nN Y;let⟨xa,xc,oh,n0,n1,n2,n3,n4,n5,n6⟩:=pF i hi;have DZ:=Z pF;have HS:=Z (sG.aXS hi);have Im:=Z (λj (hj:j<O p.aK)=>sG.kx hV hj);have Yf:=Z (sG.below i hi).1;have hik:(i:Int)<(O p.aK:Int):=Y;have HXV:=Z oh;generalize hx:eU p.aK i=x at n0 n1 n2 n3 n4 n5 n6 HXV HS;have HX:=Z hx;let⟨N,hN⟩:=E (O p.aK);have CK:=Z hN;rw[hN]at hik|-;have HB:=Z (WC n0);let⟨w1,eT⟩:=E (e8 w (h8 #[hY a0 l0 c0,hY a1 l1 c1,eB g o N cap,J (p.dL:Int),hY a4 l4 c4] 78));let⟨bp,V6⟩:=E (hJ w.heap);have cM:=Za eT;have hP1:=Ze eT V6;let⟨w2,pS⟩:=E (e8 w1 (h8 #[J 0,J 0,cH,cH,cH,J 0] 98));let⟨br,hbr⟩:=E (hJ w1.heap);have bH:=Za pS;have pT:=Ze pS hbr;have hP2:=bH.aC hP1 X;have qx:=Z hP2;have DX:=Z pT;have C:=Z (cM.dd bH);have HBP:dT (hJ w.heap<=bp/\hJ w.heap<=br):=Z ⟨Y,nA cM.size⟩;have m0:=C.cell n0 X;have m1:=C.cell n1 X;have m2:=C.cell n2 X;have m3:=C.cell n3 X;have m4:=C.cell n4 X;have m5:=C.cell n5 X;have m6:=C.cell n6 X;have b2:=Zc hP2 2;clear hn hnp nN sG pF oh hx hN n0 n1 n2 n3 n4 n5 n6 cM hP1 bH pT hP2;go_in;go_upto_region 2 with(fail);clear m0 m1 m2 m3 m4 m5 m6 eT pS b2;let⟨w3,iQ⟩:=E (e8 w2 (h8 #[J (x.aG:Int),J (x.o7:Int),hY xa (O x.vars) xc,J (x.cB:Int),J (x.bK:Int),J x.bU,j4 x.lW] 92));let⟨bn,Lv⟩:=E (hJ w2.heap);have cU:=Za iQ;have yo:=Ze iQ Lv;let⟨w4,qJ⟩:=E (e8 w3 (h8 #[J (x.aG:Int),J (O x.vars:Int),cH,cH,cH,J 65536] 98));let⟨bs,yg⟩:=E (hJ w3.heap);have eA:=Za qJ;have Mb:=Ze qJ yg;have r:=Zc yo 0;have q:=Zc yo 2;rw[iQ,Lv];have lC:dT (bs≠bp/\bs≠br/\bs≠bn/\hJ w.heap<=bs):=Z (by
  have G:=cV qx.o;have F:=cV DX.o;have B:=cV yo;have k:=cU.size;have h6:=C.size;omega)
 have VL:=Z (eA.aC yo X);have jx:=Z (eA.aC (cU.aC qx X) X);have HR4:=Z (eA.aC (cU.aC DX X) X);have kQ:=Z (C.dd (cU.dd eA));have VK:=Z Mb;clear yo cU eA Mb qx DX C iQ;go_upto_region 3 with(fail);try rw[qJ]
 try rw[yg]
 have aPB:=VL.o;have r:=Zc aPB 0;have q:=Zc aPB 2;clear qJ aPB;go_upto_region 4 with(fail);clear r q;have Mb:=VK.o;obtain⟨r,c1',q,c3',f,W⟩:=Z6 Mb;have cf:=aM Mb;have cl:=iO (cV Mb);let⟨S,hS⟩:=E (eP p i);have Wr:dT (S.aG=x.aG/\S.inW=(if x.aG=2 then(eU p.aK x.cB).vars.length else O x.vars)/\S.dg=(if x.aG=2 then iD x.vars (eU p.aK x.cB).vars else[])/\
   S.bK=(if x.aG=3 then iD (eU p.aK x.bK).vars x.vars else[])/\S.up=(if x.bU<0 then[]else iD (if(eU p.aK x.bU.toNat).aG=2 then(eU p.aK x.bU.toNat).vars else x.vars) x.vars)/\
   S.most=(if x.aG=1 then 512 else 65536)):=Z (by rw[<-hS,<-HX.o];exact⟨rfl,rfl,rfl,rfl,rfl,rfl⟩)
 have HSQ:=Z hS;clear hS Mb;have l:x.aG=1\/x.aG=2\/x.aG=3:=by have:=Yf.o;rw[<-HX.o];exact this
 rcases l with l|l|l
 .have g1:((x.aG:Int)==1)=oj:=j7 JY;have g2:((x.aG:Int)==2)=po:=j7 G9;have g3:((x.aG:Int)==3)=po:=j7 G9;have HK:=Z l;clear l;go_upto_region 11 with(fail);let⟨wx,d⟩:=E (ey w4 (Ad bs 5) (J 512));have qu:dT (U w4 [bs] wx [bs]):=Z (d▸pX w4 bs 5 _);obtain⟨ka,kc,sa,sc,HC,qC,A6⟩:∃ka kc sa sc,dT (wx.heap[bs]? =H (h8 #[J (S.aG:Int),J (S.inW:Int),hY ka (O S.dg) kc,hY sa (O S.bK) sc,cH,J (S.most:Int)] 98 (0,0)))/\dT (bG fN 0 3 1 w wx (hY ka (O S.dg) kc) S.dg)/\dT (bG fN 0 3 1 w wx (hY sa (O S.bK) sc) S.bK):=by
   obtain⟨s1,s2,s3,s4,-,s5⟩:=Wr.o;have hK:=HK.o;rw[bD Y]at s2 s3 s4;rw[bR hK]at s5;rw[s1,s2,s3,s4,s5];exact⟨K,0,K,0,Z (by rw[<-d,aE _ VK.o];rfl),Z (bG.nil _ _),Z (bG.nil _ _)⟩
  rw[d];clear d r c1' q c3' f W cf cl;exact ZM0
 .have g1:((x.aG:Int)==1)=po:=j7 G9;have g2:((x.aG:Int)==2)=oj:=j7 JY;let⟨ND,nU⟩:=HS.1 l;have L:(x.cB:Int)<(N:Int):=nA CK.o;obtain⟨ya,yc,SA,-,-,n2,-,-,-,-⟩:=DZ.o x.cB ND;obtain⟨h1,G,F,B,-,k⟩:=Wr.o;rw[bR l]at G F;rw[bD Y]at B k;have jn:=Z (by have:=Im.o i (nA CK.o);rw[HX.o]at this;exact this);generalize hy:eU p.aK x.cB=y at SA n2 nU G F;replace n2:=kQ.cell n2 X;have oO:=Z (rK (HXV.on kQ) (SA.on kQ) nU (nA jn.o));rw[<-F]at oO;have HH:=Z (show S.aG=x.aG/\S.inW=O y.vars/\S.bK=[]/\S.most=65536 from⟨h1,G,B,k⟩);have P:=VL.o;have A:=jx.o;have e2:=Zc P 2;have e3:=Zc P 3;have q2:=Zc A 2;have HK:=Z l;clear l ND nU SA hy h1 G F B k P A;go_upto_region 11 with(go_at_call 62;apply oO.cF;rintro e w2 ⟨u,rfl,hO,bH⟩;obtain⟨ka,kc,rfl,-⟩:=hO.len;have oO:=Z (bH.aC VK X);have d1:=aUB oO.o;have d2:=aUA oO.o;have df:=aM oO.o;have dl:=iO (cV oO);have sK:=Z bH;have LP:=Z (hO.eE (wb:=w) kQ.size);clear bH hO);let⟨wx,d⟩:=E (ey (ey w2 (Ad bs 1) (J (O y.vars:Int))) (Ad bs 2) (hY ka (O S.dg) kc));have R:U w2 [bs] wx [bs]:=d▸(pX w2 bs 1 _).setCell (a:=Ad bs 2) (.inl X) _;have qu:dT (U w4 [bs] wx [bs]):=Z (sK.Gj.dd R);obtain⟨sa,sc,HC,qC,A6⟩:∃sa sc,dT (wx.heap[bs]? =H (h8 #[J (S.aG:Int),J (S.inW:Int),hY ka (O S.dg) kc,hY sa (O S.bK) sc,cH,J (S.most:Int)] 98 (0,0)))/\dT (bG fN 0 3 1 w wx (hY ka (O S.dg) kc) S.dg)/\dT (bG fN 0 3 1 w wx (hY sa (O S.bK) sc) S.bK):=by
   obtain⟨s1,s2,s4,s5⟩:=HH.o;have vS:=LP.set oO D R;rw[s1,s2,s4,s5];exact⟨K,0,Z (by rw[<-d,aE _ (aE _ oO.o)];rfl),Z vS,Z (bG.nil _ _)⟩
  rw[d];clear d r c1' q c3' f W cf cl d1 d2 df dl R e2 e3 q2 n2 L;exact ZM0
 .have g1:((x.aG:Int)==1)=po:=j7 G9;have g2:((x.aG:Int)==2)=po:=j7 G9;have g3:((x.aG:Int)==3)=oj:=j7 JY;let⟨ND,nU⟩:=HS.2.1 l;have L:(x.bK:Int)<(N:Int):=nA CK.o;obtain⟨ya,yc,SA,-,-,n2,-,-,-,-⟩:=DZ.o x.bK ND;obtain⟨h1,G,F,B,-,k⟩:=Wr.o;rw[bD Y]at G F;rw[bR l]at B;rw[bD Y]at k;have qr:=Z (Im.o x.bK ND);generalize hy:eU p.aK x.bK=y at SA n2 nU B qr;replace n2:=kQ.cell n2 X;have oO:=Z (λwd (hd:U w4 [] wd [])=>rK (SA.on (kQ.dd hd)) (HXV.on (kQ.dd hd)) nU (nA qr.o));rw[<-B]at oO;have HH:=Z (show S.aG=x.aG/\S.inW=O x.vars/\S.dg=[]/\S.most=65536 from⟨h1,G,F,k⟩);have P:=VL.o;have A:=jx.o;have e2:=Zc P 2;have e4:=Zc P 4;have q2:=Zc A 2;have HK:=Z l;clear l ND nU SA hy h1 G F B k P A;go_upto_region 10 with(fail);refine ek 11 (eb q2<|eb e4<|eb n2<|d7 e2) (λwd eY jW Q=> ?_);have qH:=Z jW;clear eY jW r c1' q c3' f W cf cl q2 e4 n2 e2;refine dw [0,2,7,1,3,8,4,5,6] ?_;refine Zo 9 λt hK=> ?_;go_simp;go_at_call 62;apply(oO.o _ qH).cF;rintro e w2 ⟨u,rfl,hO,bH⟩;obtain⟨sa,sc,rfl,-⟩:=hO.len;dsimp only;replace Q:=bH.zh4 Q;have sK:=Z (qH.dd bH);have oO:=Z (sK.aC VK X);have d3:=aTz oO.o;have df:=aM oO.o;have dl:=iO (cV oO);have LP:=Z (hO.eE (wb:=w) (kQ.dd qH).size);clear bH hO;refine j8 ?_;clear hK t;refine I 10 ?_;refine Zo 11 λt hK=> ?_;go_simp;refine MH ?_;clear hK t;let⟨wx,d⟩:=E (ey w2 (Ad bs 3) (hY sa (O S.bK) sc));have R:U w2 [bs] wx [bs]:=d▸pX w2 bs 3 _;have qu:dT (U w4 [bs] wx [bs]):=Z (sK.Gj.dd R);obtain⟨ka,kc,HC,qC,A6⟩:∃ka kc,dT (wx.heap[bs]? =H (h8 #[J (S.aG:Int),J (S.inW:Int),hY ka (O S.dg) kc,hY sa (O S.bK) sc,cH,J (S.most:Int)] 98 (0,0)))/\dT (bG fN 0 3 1 w wx (hY ka (O S.dg) kc) S.dg)/\dT (bG fN 0 3 1 w wx (hY sa (O S.bK) sc) S.bK):=by
   obtain⟨s1,s2,s4,s5⟩:=HH.o;have vS:=LP.set oO D R;rw[s1,s2,s4,s5];exact⟨K,0,Z (by rw[<-d,aE _ oO.o];rfl),Z (bG.nil _ _),Z vS⟩
  rw[d];clear d d3 df dl R L Q;exact ZM0
variable{l:List ES}{S:List Nat}{w1 w2:aA}
section
section
variable{w0 w w':aA}{bb:Nat}{nv sv pv:aF}{ns:List (aX×aF)}{ss pr:List Nat}
theorem JK.nh{sv':aF}{x:Nat}(h:JK w0 w bb nv sv pv ns ss pr)(c:U w sv.ownBlock.toList w' S')(hs:wY w0 w' sv' (ss++[x])):
  JK w0 (ey w' ⟨bb,1,K⟩ sv') bb nv sv' pv ns (ss++[x]) pr:=by
 have ne:∀t,t≠134->∀b,b∈sv.ownBlock.toList->lZ w b≠H t:=λt j b g=>by rw[h.s.Bx b g];exact λe=>j (by injection e with e;exact e.symm)
 have a:=c.bS h.bS (ne _ D);have d:=pX w' bb 1 sv';exact⟨aE (i:=1) _ a,(h.n.dg c (ne _ D)).set a D d,λy l=>((h.o y l).dg c (ne _ D)).set a D d,hs.set a D d,(h.p.dg c (ne _ D)).set a D d,h.ne,h.bge⟩
theorem JK.ni{pv':aF}{x:Nat}(h:JK w0 w bb nv sv pv ns ss pr)(g:U w pv.ownBlock.toList w' pv'.ownBlock.toList)(q:gJ w0 w' pv' (pr++[x])):
  JK w0 (ey w' ⟨bb,2,K⟩ pv') bb nv sv pv' ns ss (pr++[x]):=by
 have ne:∀t,t≠3->∀b,b∈pv.ownBlock.toList->lZ w b≠H t:=λt r b a=>by rw[h.p.Bx b a];exact λe=>r (by injection e with e;exact e.symm)
 have c:=g.bS h.bS (ne _ D);have j:=pX w' bb 2 pv';refine⟨aE (i:=2) _ c,(h.n.dg g (ne _ D)).set c D j,λy d=>((h.o y d).eF g λb a m=>h.ne y d b a (eI m)).set c D j,(h.s.dg g (ne _ D)).set c D j,q.set c D j,λy d b a u=> ?_,h.bge⟩;rcases g.fresh b (by rw[u];simp)with l|l
 .exact h.ne y d b a (eI l)
 .have:=(h.o y d).1.lt b a;omega
theorem JK.wO{nv:aF}{ns:List (aX×aF)}(hs:hJ w0.heap<=hJ w.heap)(e:Nl w0 w nv ns)(d:∀x,x∈ns->gJ w0 w x.2 x.1.vars):JK w0 (e8 w (h8 #[nv,hY K 0 0,hY K 0 0] 141)) w.heap.size nv (hY K 0 0) (hY K 0 0) ns [] []:=by
 have a:=(U.refl w []).alloc (h8 #[nv,cH,cH] 141);exact⟨lK w _,e.on a,λx c=>(d x c).on a,bG.nil _ _,bG.nil _ _,λx c b g h=>by grind [gz],hs⟩
end
theorem aGq(h:∀x,x∈l->x.2<2^n)(s:cT):∀x,x∈make l s->x.2<2^n:=λx a=>by
 grind [make,AL]
theorem Gb{dg:Nat}:∀(f:Nat) (b:sM) (l:List ES) (c:sM) (k:List ES),(∀x,x∈l->x.2<2^n)->cX pa dg f b l=H (c,k)->∀x,x∈k->x.2<2^n
 |0,b,l,c,k,h,hp=>by
  grind [cX]
 |f+1,b,l,c,k,h,hp=>by
  unfold cX at hp;split at hp
  .grind
  .split at hp
   .cases hp
   .exact Gb f _ _ c k (aGq h _) hp
theorem Ui{dg f:Nat}{b c:sM}{k:List ES}(a:oB (aJ q) (O (vars q)))(d:cX pa dg f b (bW (aJ q))=H (c,k))(l:O k<=7):oB (k.map (·.2)) (O (vars q)):=
 ⟨a.hv,GJ,λs hs=>by
  obtain⟨x,g,rfl⟩:=BB.1 hs;refine Gb f b _ c k (λy e=> ?_) d x g;let⟨i,j⟩:=oT.1 (show(y.1,y.2)∈_ from e);rw[j];exact a.xD _ (bM i)⟩
theorem U.xB{w:aA}{T T':List Nat}(h:U w S w1 S')(k:U w1 T w2 T')(e:∀b,b∈T->b∈S\/hJ w.heap<=b):U w S w2 S:=
 ⟨k.os.dd h.os,k.tape.dd h.tape,k.output.dd h.output,jN h.size k.size,λi c d=>(k.block i (wM c h.size) (λa=>(e i a).elim d (λg=>Y))).dd (h.block i c d),λ_ a=> .inl a⟩
structure qh(w3 w7:aA)(cb M:Nat)(nv sv pv:aF)(ns:List (aX×aF))(ss pr L:List Nat)(w:aA):Prop where
 b:JK w3 w cb nv sv pv ns ss pr
 t:lH w7 w M L
 u:U w7 [cb] w [cb]
 fs:∀b,b∈sv.ownBlock.toList->hJ w7.heap<=b
 fp:∀b,b∈pv.ownBlock.toList->hJ w7.heap<=b
section
variable{w3 w7 w w':aA}{cb M:Nat}{nv sv pv sv' pv':aF}{ns:List (aX×aF)}{ss pr L:List Nat}{x:Nat}
theorem qh.on(h:qh w3 w7 cb M nv sv pv ns ss pr L w)(a:U w [] w' S'):qh w3 w7 cb M nv sv pv ns ss pr L w':=
 ⟨h.b.on a,h.t.on a,h.u.xB a X,h.fs,h.fp⟩
theorem qh.nh(h:qh w3 w7 cb M nv sv pv ns ss pr L w)(c:U w sv.ownBlock.toList w' sv'.ownBlock.toList)(hs:wY w3 w' sv' (ss++[x])):qh w3 w7 cb M nv sv' pv ns (ss++[x]) pr L (ey w' ⟨cb,1,K⟩ sv'):=by
 have g:=pX w' cb 1 sv';have e:=h.t.eF c (λd=>h.t.ne (h.b.s.Bx M d) rfl);exact⟨h.b.nh c hs,e.eF g (λd=>e.ne (eH (c.bS h.b.bS (λb a=>by rw[h.b.s.Bx b a];decide))) (eI d)),(h.u.xB c λb a=> .inr (h.fs b a)).xB g (λb a=> .inl a),λb a=>(c.fresh b a).elim (h.fs b) (λi=>jN h.u.size i),h.fp⟩
theorem qh.ni(h:qh w3 w7 cb M nv sv pv ns ss pr L w)(c:U w pv.ownBlock.toList w' pv'.ownBlock.toList)(l:gJ w3 w' pv' (pr++[x])):qh w3 w7 cb M nv sv pv' ns ss (pr++[x]) L (ey w' ⟨cb,2,K⟩ pv'):=by
 have e:=pX w' cb 2 pv';have g:=h.t.eF c (λd=>h.t.ne (h.b.p.Bx M d) rfl);exact⟨h.b.ni c l,g.eF e (λd=>g.ne (eH (c.bS h.b.bS (λb a=>by rw[h.b.p.Bx b a];decide))) (eI d)),(h.u.xB c λb a=> .inr (h.fp b a)).xB e (λb a=> .inl a),h.fs,λb a=>(c.fresh b a).elim (h.fp b) (λi=>jN h.u.size i)⟩
theorem qh.put(h:qh w3 w7 cb M nv sv pv ns ss pr L w)(d:U w [M] w' [M])(i:lH w7 w' M (L++[x])):qh w3 w7 cb M nv sv pv ns ss pr (L++[x]) w':=by
 have a:∀t,∀k,k∈[M]->lZ w k≠H t:=λt k a e=>by
  rw[show k=M by simpa using a,h.t.ty]at e;cases e
 exact⟨h.b.dg d λk c=>⟨a _ k c,a _ k c,a _ k c,a _ k c⟩,i,h.u.xB d λb g=> .inr ((show b=M by simpa using g)▸h.t.ge),h.fs,h.fp⟩
end
theorem Jy(hv av:aF)(ps:List (dU×aF))(q:bB)(w:aA)(h:B9 w hv av ps q)(iW:CM hv)(hs:fJ q=0)(n:mM q=oj):
  aH prog 27 #[.agg #[j3 q.name,hv,av]] w λe w'=>e=i5 (i8 #[EG,i6 i7 161])/\U w [] w' []:=by
 obtain⟨ha,P,rfl,-⟩:=h.head.len;obtain⟨L,o,rfl,-⟩:=h.aD.len;have g:=h.len;rw[g]at h|-;let⟨wa,C⟩:=E (e8 (e8 w (h8 #[j3 q.name,hY ha (O q.head) P,hY L (O q.aD) o] 25)) (h8 #[cH,cH,cH,J 0,cH] 78));have B:U w [] wa []:=C▸((U.refl w []).alloc _).alloc _;have k:rW wa w.heap.size #[j3 q.name,hY ha (O q.head) P,hY L (O q.aD) o] 25:=C▸kV ..;have W:rW wa (hJ w.heap+1) #[cH,cH,cH,J 0,cH] 78:=C▸kU ..;obtain⟨b0,b1,b2⟩:=Z3 k;let⟨_,ha6,Dx,pF,_,gV⟩:=f8 hs;have HG:=(vV hs);have Z0:O (aJ q)<=6:=by simp only[aJ,sN];omega
 have p:=Z λQ (hz:U w [] Q [])=>aJ9 _ _ ps q Q (h.on hz) iW hs;go_in;go_upto_region 2 with(go_at_call 46;apply(p.o _ B).cF;rintro e w2 ⟨ev,rfl,N,c⟩;obtain⟨R,V,rfl,-⟩:=N.len;have eM:=(B.dd c);have d:=Z (c.aC k X);have l:=Z (c.aC W X);have m:=Z (N.eE B.size));let⟨Bg,f⟩:=E (hJ w2.heap);let⟨wg,F⟩:=E (e8 w2 (h8 #[J (O (vars q):Int),hY R (O (aJ q)) V] 133));have j:=Za F;have Pb:=(eM.dd j);have G:=Ze F f;have d:=Z (j.aC d X);have l:=Z (j.aC l X);have r:=(m.on j);obtain⟨g0,g1⟩:=Z2 G;have a:=(QY _ (aJ q) (O (vars q)) wg r.rd HG);rw[show((run 0 bZ (bW (aJ q))).2.any λx=>decide (x.2≠0))=mM q from rfl]at a;rw[F,f];rw[n]at a;go_upto_region 6 with(go_at_call 47;apply a.cL;intro w3 c;have gZ:=(Pb.dd c);have i:=c.aC l X);obtain⟨e0,e1,e2,e3,e4⟩:=Z5 i;have ef:=aM i;have el:=iO (cV i);let⟨h5,cQ⟩:=Dd (x:=cH) (y:=cH) (z:=cH) (u:=J 0) (v:=cH) i;have gD:=(gZ.aZ cQ (λb S=>by simp at S;omega));exact ZM100
end
variable{tops:List Nat}{N:List aX}{low:Nat}
def Qe(N:List aX)(low:Nat)(tops:List Nat)(i:Nat):aX:={ep N i qc with lW:=decide (low<=i)||decide (i∈tops)}
def D9(N:List aX)(low:Nat)(tops:List Nat)(k:Nat):List aX:=(List.range (O N)).map λi=>if i<k then Qe N low tops i else ep N i qc
theorem nJ(N:List aX)(low:Nat)(tops:List Nat)(k:Nat):O (D9 N low tops k)=O N:=by simp[D9]
theorem tX{k:Nat}(a:i<O N):ep (D9 N low tops k) i qc=if i<k then Qe N low tops i else ep N i qc:=by
 unfold D9;rw[iB,Pm,List.getElem?_range a];rfl
theorem Yw(N:List aX)(low:Nat)(tops:List Nat):D9 N low tops 0=N:=by
 refine FZ (nJ _ _ _ _) λi a=> ?_;rw[nJ]at a;rw[tX a,bD Y]
theorem Yx{k:Nat}(c:k<O N):D9 N low tops (k+1)=(D9 N low tops k).set k (Qe N low tops k):=by
 refine FZ (by simp[nJ]) λi a=> ?_;rw[nJ]at a;rw[tX a,tL,nJ];by_cases e:k=i
 .subst e;rw[bR Y,bR ⟨rfl,c⟩]
 .by_cases h:i<k
  .rw[bR (show i<k+1 by omega),bD (λb:k=i/\_=>e b.1),tX a,bR h]
  .rw[bD (show¬i<k+1 by omega),bD (λb:k=i/\_=>e b.1),tX a,bD h]
theorem UL(N:List aX)(low:Nat)(tops:List Nat)(k:Nat):jT N (D9 N low tops k):=by
 unfold jT;apply List.ext_getElem (by simp[nJ]);intro i a c;rw[sN]at a;rw[List.getElem_map,List.getElem_map];have b:=tX (low:=low) (tops:=tops) (k:=k) a;rw[iB,kX (by rw[nJ];exact a),iB,kX a,NQ,NQ]at b;rw[b];split
 .unfold Qe;rw[iB,kX a];rfl
 .rfl
theorem Hy{b:sM}{s:cT}(h:∀x,x∈b.1->x.bU= -1):∀x,x∈(gB (-1) b l s).1->x.bU= -1:=λx a=>by
 unfold gB at a;split at a<;>(rcases EY.1 a with a|a<;>first|exact h x a|(rw[Yj.1 a]))
theorem XP{dg:Nat}:∀(n:Nat) (b:sM) (l:List ES) (c:sM) (k:List ES),(∀x,x∈b.1->x.bU= -1)->cX (-1) dg n b l=H (c,k)->∀x,x∈c.1->x.bU= -1
 |0,b,l,c,k,h,hp=>by
  unfold cX at hp;split at hp
  .injection hp with hp;injection hp with hp _;exact hp▸h
  .cases hp
 |n+1,b,l,c,k,h,hp=>by
  unfold cX at hp;split at hp
  .injection hp with hp;injection hp with hp _;exact hp▸h
  .split at hp
   .cases hp
   .exact XP n _ _ c k (Hy h) hp
theorem XN:∀(n:Nat) (b:sM) (l:List ES),(∀x,x∈b.1->x.bU= -1)->∀x,x∈(fC (-1) n b l).1.1->x.bU= -1
 |0,b,l,h=>h
 |n+1,b,l,h=>by
  unfold fC;cases next l 0 with
  |none=>exact h
  |some s=>exact XN n _ _ (Hy h)
theorem ar(es:List Nat):∀x,x∈(cN (-1) es).1->x.bU= -1:=λx a=>by
 obtain⟨i,_,rfl⟩:=BB.1 a;rfl
theorem rx{k:Nat}(h:∀x,x∈N->x.bU= -1):∀x,x∈D9 N low tops k->x.bU= -1:=λx c=>by
 obtain⟨i,a,rfl⟩:=BB.1 c;have a:=yD.1 a;have b:=h (ep N i qc) (by rw[iB,kX a];exact kt a);split
 .exact b
 .exact b
theorem ry(a:i<O N):(ep (D9 N low tops (O N)) i qc).lW=(decide (low<=i)||decide (i∈tops)):=by
 rw[tX a,bR a];rfl
theorem fb(N:List aX)(low:Nat)(tops:List Nat):oX (D9 N low tops (O N)) (O N)=oJ N low tops:=by
 have:=fd (low:=low) (tops:=tops) (UL N low tops (O N)) λi a=>ry a;rwa[nJ]at this
theorem ZM34{P:Prop}(h:P:=by
  have Pd:=Z (hN.cell (i:=k) (j:=6) IV D ({(ep ms k qc).1 with lW:=tv}) (j4 tv) (λj' uW=>by
   match j',uW with
   |0,_=>rfl
   |1,_=>rfl
   |2,_=>rfl
   |3,_=>rfl
   |4,_=>rfl
   |5,_=>rfl
   |6,_=>rfl) rfl)
  have ki:=Z (gH tv GA);have rT:=Z (VU (d:=qc) (x:=({(ep ms k qc).1 with lW:=tv}:aX)) IV);have Yb:=Z (hU.setCell (a:=Ad gn (k*7+6)) (.inl X) (j4 tv));subst tv;clear gH hN hU IV GA;go_wp2;go_roundg (O PQ-(k+1))
  .exact⟨k+1,_,aH6,rfl,eO,ki,Z (by rw[rT.o];exact zZ.o),Pd.o,Yb.o⟩
  omega):P:=h
def aOY(q:bB)(w:aA):Option (sM×List ES)->cg->aA->Prop
 |none,e,w'=>e=i5 (i8 #[EG,i6 i7 170])/\U w [] w' []
 |some _,e,w'=>∃v,e=i5 (i8 #[v,i6 i7 0])/\aKi w w' v (aB q).2/\U w [] w' []
theorem XS(hv av:aF)(ps:List (dU×aF))(q:bB)(w:aA)(h:B9 w hv av ps q)(iW:CM hv)(hw:Tz w)(hs:fJ q=0)(hcy:mM q=po){R:Option (sM×List ES)}(hR:cX (-1) (cO q) bZ (cN (-1) (aJ q)) (bW (aJ q))=R):
  aH prog 27 #[.agg #[j3 q.name,hv,av]] w λe w'=>aOY q w R e w':=by
 obtain⟨ha,hc,rfl,-⟩:=h.head.len;obtain⟨aa,ac,rfl,-⟩:=h.aD.len;have hlen:=h.len;rw[hlen]at h|-;have qs:=Z h;let⟨wa,dE⟩:=E (e8 (e8 w (h8 #[j3 q.name,hY ha (O q.head) hc,hY aa (O q.aD) ac] 25)) (h8 #[cH,cH,cH,J 0,cH] 78));have cR:U w [] wa []:=dE▸((U.refl w []).alloc _).alloc _;have kB:wa.heap[hJ w.heap]? =H (h8 #[j3 q.name,hY ha (O q.head) hc,hY aa (O q.aD) ac] 25 (0,0)):=by rw[<-dE];exact kV ..
 have eQ:wa.heap[hJ w.heap+1]? =H (h8 #[cH,cH,cH,J 0,cH] 78 (0,0)):=by rw[<-dE];exact kU ..
 obtain⟨b0,b1,b2⟩:=Z3 kB;have wU:=Z cR;have jG:=Z eQ;have UR:=Z kB;let⟨_,ha6,Dx,pF,_,gV⟩:=f8 hs;have HG:=Z (vV hs);have Z0:O (aJ q)<=6:=by simp only[aJ,sN];omega
 have HOF:=Z λwz (hz:U w [] wz [])=>aJ9 _ _ ps q wz (h.on hz) iW hs;clear h kB eQ cR iW gV;go_in;go_upto_region 2 with(go_at_call 46;apply(HOF.o _ wU.o).cF;rintro e w2 ⟨ev,rfl,hE,hU⟩;obtain⟨ea,ec,rfl,-⟩:=hE.len;have eM:=Z (wU.o.dd hU);have HC0:=Z (hU.aC UR.o X);have Cq:=Z (hU.aC jG.o X);have HE2:=Z (hE.eE wU.o.size);clear hU hE);let⟨Bg,pq⟩:=E (hJ w2.heap);let⟨wg,Gu⟩:=E (e8 w2 (h8 #[J (O (vars q):Int),hY ea (O (aJ q)) ec] 133));have VX:=Za Gu;have Pb:=Z (eM.o.dd VX);have hG0:=Ze Gu pq;have HG0:=Z hG0;have HC0:=Z (VX.aC HC0.o X);have Cq:=Z (VX.aC Cq.o X);have HEG:=Z (HE2.o.on VX);obtain⟨g0,g1⟩:=Z2 hG0;have HAC:=Z (QY _ (aJ q) (O (vars q)) wg HEG.o.rd HG.o);rw[show((run 0 bZ (bW (aJ q))).2.any λx=>decide (x.2≠0))=mM q from rfl]at HAC;rw[Gu,pq];clear VX Gu hG0 b0 b1 b2 eM HE2 pq UR jG;rw[hcy]at HAC;go_upto_region 7 with(go_at_call 47;apply HAC.o.cL;intro w3 hU;have gZ:=Z (Pb.o.dd hU);have DW:=Z (hU.aC Cq.o X);have HQ3:=Z (hU.aC HC0.o X);have HG3:=Z (hU.aC HG0.o X);have HE3:=Z (HEG.o.on hU);clear hU);clear HAC HEG HG0 HC0 Cq Pb g0 g1;have NO:=Z (hw.on gZ.o);have Bi:=Z hR;have Ls:0<O (aJ q):=by simp only[aJ,sN];exact(f8 hs).1
 let⟨bb,eh⟩:=E (hJ w3.heap);let⟨w4,qJ⟩:=E (e8 w3 (h8 #[cH,cH,cH] 141));have kQ:dT (U w3 [] w4 []):=Z (Za qJ);have JW:dT (JK w3 w4 bb cH cH cH [] [] []):=Z (by rw[<-qJ,<-eh];exact JK.wO (fV _) (bG.nil _ _) (λx hx=>by cases hx));have hG4:=kQ.o.aC HG3.o X;obtain⟨g0,g1⟩:=Z2 hG4;have HCY:=Z hcy;clear hw hR hcy hG4;go_upto_region 8 with(fail);clear qJ;go_wp2;go_loopg [51] (O (aJ q)) (λgg s51 wr=>∃(k:Nat) (nv sv pv:aF) (ns:List (aX×aF)),k<=O (aJ q)/\gg=O (aJ q)-k/\s51=J k/\JK w3 wr bb nv sv pv ns ((aJ q).take k) (List.range k)/\dT (ns.map (·.1)=(cN (-1) (aJ q)).1.take k)/\U w3 [] wr [])
 .exact⟨0,_,_,_,[],Y,rfl,rfl,JW.o,Z rfl,kQ.o⟩
 obtain⟨k,nv,sv,pv,ns,N,rfl,rfl,m,HNS,hU⟩:=hrel;by_cases aV:k<O (aJ q)
 .let⟨gx,ox,cx,Gw,hgx,I8⟩:=HE3.o.rd.aU aV;injection Gw with x1 x2 x3;clear x2 x3;subst x1;have x0:=hU.cell (I8 0 D) X;simp only[EN,wZ,pK]at x0;have om:=BH (HG.o.dM) k;have hG0:=hU.aC HG3.o X;have D3:=Z (fG (d:=0) aV);have CK:=Z (TF aV (-1));generalize hx:ep (aJ q) k 0=x at x0 om D3 CK;have hK:=m.bS;obtain⟨k0,P,k2⟩:=Z3 hK;obtain⟨sa,sc,rfl,-⟩:=m.s.len;have GB:O ((aJ q).take k)=k:=j7 VQ;generalize hES:(aJ q).take k=ES at m GB D3 P;have A6:=Z GB;have HU:=Z hU;have H1:=Z m;clear hx I8 hES GB m hU hK;go_upto_region 12 with(at_builtin;refine cK ku rfl _ _ rfl H1.o.s HU.o Yr [i6 kd (x:Int)] x Yr rfl (dH rfl) rfl (j7 A6.o) (by rw[A6.o];unfold bw;omega) ?_;rintro g5 c5 w5 nO cQ vU wV;have rS:=vU.bS H1.o.bS (λb r=>by rw[H1.o.s.Bx b r];decide);obtain⟨k0,P,k2⟩:=Z3 rS;have kf:=aM rS;have G7:=Z (H1.o.nh vU nO);have gD:=Z cQ;have yP:=Z rS;clear nO cQ vU wV rS);have aU6:=Z (show hJ w3.heap<=bb from H1.o.bge);have dK:=gD.o.aZ (pX w5 bb 1 (eB g5 0 (O ES+1) c5)) (λb r=>by rw[show b=bb by simpa using r];exact aU6.o);generalize iA:ey w5 (Ad bb 1) (eB g5 0 (O ES+1) c5)=w6 at dK G7|-;have lI:=Z dK;clear iA dK kf k0 P k2 yP gD H1 HU;have HNK:=Z (show O ns=k by
   have:=wJ O HNS.o;rw[sN,VQ,tH]at this;omega)
  obtain⟨pa,pc,hpv,-⟩:=G7.o.p.len;rw[List.length_range]at hpv;subst hpv;have hK:=G7.o.bS;obtain⟨k0,P,k2⟩:=Z3 hK;clear hK x0;refine ek 15 (eb P<|d7 k2) (λwd G C Q=> ?_);refine dw [0,1,2,3,4,5,6,7] ?_;refine Zo 8 λqL hK=> ?_;go_simp;go_at_call 49;apply(Y7 x wd (NO.o.on (lI.o.dd C)) (Xc om D)).cF;rintro e w7 ⟨u,rfl,hO,QD⟩;dsimp only;obtain⟨ua,uc,rfl,-⟩:=hO.len;replace Q:=QD.Of Q;have fM:=C.dd QD;have H7:=Z (G7.o.on fM);have NN:=Z (lI.o.dd fM);have HO7:=Z (hO.eE (lI.o.dd C).size);have tP:=Z (show∀b,gz (hY ua (O (cD x)) uc)=H b->gz (hY pa k pc)≠H b from λb r he'=>by
   have m:=hO.2 b r;have h2:=(G7.o.p.on C).1.lt b he';omega)
  clear hO QD fM G C G7 lI k0 P k2;refine j8 ?_;clear hK qL;refine I 9 ?_;refine Zo 10 λqL hK=> ?_;go_simp;go_at_call 48;have yw:=Ng bb _ _ _ _ ns _ (List.range k) ⟨1,k,cD x,0,0,-1,po⟩ w3 w7 0 H7.o HO7.o tP.o NN.o (j7 HNK.o) rfl;apply(show aH _ _ _ _ _ from yw).cF;rintro e w8 ⟨RY,rfl,hM,-,iE⟩;dsimp only;have hK:=hM.bS;obtain⟨k0,P,k2⟩:=Z3 hK;have Q:=dX P k2;have VN:=Z hM;have G6:=Z iE;clear hM iE hK yw H7 HO7 NN tP k0 P k2;refine j8 ?_;clear hK qL;refine Zo 11 λqL hK=> ?_;go_simp;have hH8:=Q;have oK:U w8 [] (e8 w8 (h8 #[J (O ns:Int)] 3)) []:=(U.refl w8 []).alloc _;replace Q:=oK.Of Q;refine j8 ?_;clear hK qL;refine Zo 12 λqL hK=> ?_;let⟨g9,c9,w9,dP,UC,sO,KZ,hg9⟩:=i9 (ty:=43) (news:=[J (O ns:Int)]) (T:=3) OI Y VN.o.p G6.o (fV _) G6.o.size (O ns) rfl (dH rfl) (λj hj=>rfl) (j7 List.length_range) (by rw[List.length_range];unfold bw;omega);rw[List.length_range]at dP UC;refine dJ _ _ rfl Yr Yr dP ?_;have Q:=hH8;have W0:=KZ.bS VN.o.bS (λb r=>by rw[VN.o.p.Bx b r];decide);obtain⟨k0,P,k2⟩:=Z3 W0;have bf:=aM W0;have Q:=dX P k2;have HM9:=Z (VN.o.ni KZ UC);have GI:=Z (sO.aZ (pX w9 bb 2 (eB g9 0 (k+1) c9)) (λb r=>by rw[show b=bb by simpa using r];exact aU6.o));clear dP UC sO KZ oK hH8 W0 hg9;refine j8 ?_;clear hK qL;refine Zo 13 λqL hK=> ?_;go_simp;refine j8 ?_;clear hK qL;refine I 14 ?_;refine Zo 15 λqL hK=> ?_;go_simp;refine MH ?_;clear hK qL;clear Q k0 P k2 bf;go_wp2;go_roundg (O (aJ q)-(k+1))
  .exact⟨k+1,_,_,_,_,aV,rfl,eO,by rw[D3.o,Yl];have:=HM9.o;rw[HNK.o]at this;exact this,Z (by rw[CK.o,R8,HNS.o];rfl),GI.o⟩
  omega
 .obtain rfl:k=O (aJ q):=Y;have Ch:re w3 wr bb (cN (-1) (aJ q)) (bW (aJ q)):=⟨nv,sv,pv,ns,aJ q,by rw[R9]at m;exact m,by rw[HNS.o,<-tH (-1) (aJ q),R9],by simp[cN],HG.o.dM,ER.aTr _⟩;have hh:cO q<2^32:=wM (AY _ _) (Cr D Y);have Sw:F2 (cO q) (cN (-1) (aJ q)) (bW (aJ q)) (O (aJ q)) 42:=F2.cN (-1) HG.o.dM (λe=>by rw[e]at Ls;exact dS Ls D) (nA (GL (f8 hs).2.1 (f8 hs).2.2.2.1));have hFI:=ze bb (hY ea (O (aJ q)) ec) (aJ q) (O (vars q)) (cO q) _ w3 wr NO.o HE3.o.rd HG.o hh Ch hU Sw Ls;rw[Bi.o]at hFI;have HU:=Z hU;have hG6:=hU.aC HG3.o X;obtain⟨g0,g1⟩:=Z2 hG6;have VM:=Z Sw;clear m Ch hU hG6 Sw;cases R with
  |none=>
   have HFI:=Z (show aH _ _ _ _ (λe w'=>e=i5 (i8 #[cH,j4 po])/\U w3 [] w' [])from hFI);clear hFI;go_wp2_with (go_at_call 50;apply HFI.o.cL;intro w6 dK;have kO:=dK.aC DW.o X;obtain⟨e0,e1,e2,e3,e4⟩:=Z5 kO;have ef:=aM kO;have el:=iO (cV kO);have HR6:=Z kO;have lI:=Z dK;clear dK kO);let⟨h5,cQ⟩:=Dd (x:=cH) (y:=cH) (z:=cH) (u:=J 0) (v:=cH) HR6.o;have gD:=Z ((gZ.o.dd lI.o).aZ cQ (λb r=>by simp at r;omega));clear h5 cQ;refine mD (aT (A:=⟨hJ w.heap+1,0,K⟩) (T:=78) rfl Yr (v:=EG) (by go_simp)) rfl ?_;exact⟨rfl,gD.o⟩
  |some p=>
   obtain⟨bF,lF⟩:=p;have HFI:=Z (show aH _ _ _ _ (λe w'=>∃x,e=i5 (i8 #[x,j4 oj])/\LI w3 w' x lF/\re w3 w' bb bF lF/\U w3 [] w' [])from hFI);clear hFI;go_upto_region 17 with(go_at_call 50;apply HFI.o.cF;rintro e w6 ⟨u6,rfl,lL,nP,dK⟩;obtain⟨la,lc,rfl,-⟩:=lL.len;have uL:=Z lL;have zO:=Z nP;have lI:=Z dK;clear dK lL nP);obtain⟨nv6,sv6,pv6,V,ss6,h6,aRj,a6k,a6g,a6h⟩:=zO.o.ex;have hK:=h6.bS;obtain⟨k0,P,k2⟩:=Z3 hK;obtain⟨na,nc,rfl,-⟩:=h6.n.len;have HMF:=Z (VM.o.cX (-1) bZ _ _ _ _ Bi.o).1;have H6:=Z h6;clear h6 hK;have l6:=iO (WC k0);have HCB:=Z (JK.wO lI.o.size H6.o.n H6.o.o);have cR:U w6 [] (e8 w6 (h8 #[hY na (O V) nc,cH,cH] 141)) []:=(U.refl w6 []).alloc _;go_region;have yh:=l6.1;clear l6;let⟨cb,U6⟩:=E (hJ w6.heap);let⟨w7,xM⟩:=E ((e8 w6 (h8 #[hY na (O V) nc,cH,cH] 141)).drew);have aOf:dT (U w6 [] w7 []):=Z (xM▸cR.drew);have HC7:dT (JK w3 w7 cb (hY na (O V) nc) cH cH V [] []):=Z (by rw[<-xM,<-U6];exact HCB.o.on (U.refl _ []).drew);have aYa:cb<hJ w7.heap:=by rw[<-xM,<-U6];show hJ w6.heap<hJ (w6.alloc _).heap;simp
   rw[xM,U6];rw[U6]at yh;have HBC:=Z yh;have a9E:=Z aYa;clear yh;have H7:=Z (H6.o.on aOf.o);have RH:=Z (uL.o.on aOf.o);have NN:=Z (lI.o.dd aOf.o);clear cR HCB H6 uL zO xM U6 k0 P k2;have vI:∀w:aA,(Instr.makeMap 147 K).run prog w= .ok (.map (H w.heap.size)) (w.alloc (.map #[] 0)):=λ_=>rfl;let⟨M,hM⟩:=E (hJ w7.heap);let⟨w8,wP⟩:=E (w7.alloc (.map #[] 0));have G6:dT (U w7 [] w8 []):=Z (Za wP);have HT8:dT (lH w7 w8 M []):=Z (by rw[<-wP,<-hM];exact lH.wO (fV _));go_wp2;clear vI wP hM;let⟨zK,hN⟩:=E ((lF.map λx=>ep bF.2 x.1 0));have Wu:=Z hN;have HTW:dT (qh w3 w7 cb M (hY na (O V) nc) cH cH V [] [] [] w8):=Z ⟨HC7.o.on G6.o,HT8.o,(U.refl w7 [cb]).xB G6.o X,λb r=>by simp[gz]at r,λb r=>by simp[gz]at r⟩;have HLF:dT (O lF<=6):=Z (jN HMF.o.ml Z0);have aUt:=Z aRj;clear hN aRj;go_loopg [106] (O lF) (λgg aL9 wr=>∃(k:Nat) (sv pv:aF),k<=O lF/\gg=O lF-k/\aL9=J k/\qh w3 w7 cb M (hY na (O V) nc) sv pv V ((lF.map (·.2)).take k) (zK.take k) (zK.take k) wr)
   .exact⟨0,_,_,Y,rfl,rfl,HTW.o⟩
   obtain⟨k,sv,pv,N,rfl,rfl,S⟩:=hrel;by_cases C0:k<O lF
   .let⟨hem,vH,oZ,hNk,Tc,aYd,yi⟩:=Gg HMF.o C0 (jN Z0 D) Wu.o;have aNG:=eH HC7.o.bS;obtain⟨gl,cl,Q5,-,-,GH,-,-⟩:=(show eJ _ _ _ _ _ _ from RH.o.1).block (show 0<O lF by omega);injection Q5 with x1 x2 x3;clear x2 x3;subst x1;obtain⟨gp,cp,hvp,-,-,Xs,-,-⟩:=(show eJ _ _ _ _ _ _ from H7.o.p.1).block (show 0<O bF.2 by rw[HMF.o.pm];omega);subst hvp;have aMa:gl∉[cb]:=λF=>by
     have m:=RH.o.ty (k:=gl) rfl;rw[show gl=cb by simpa using F,aNG]at m;exact dS m D
    have aDR:gp∉[cb]:=λF=>by
     have m:=H7.o.p.ty (k:=gp) rfl;rw[show gp=cb by simpa using F,aNG]at m;exact dS m D
    have aM9:bb∉[cb]:=λF=>by
     have m:=HBC.o;rw[show bb=cb by simpa using F]at m;exact Nat.lt_irrefl _ m
    have l0:=S.u.cell (GH k 0 C0 D) aMa;have l1:=S.u.cell (GH k 1 C0 D) aMa;have p0:=S.u.cell (Xs (ep lF k qc).1 0 (by rw[HMF.o.pm];exact hem) D) aDR;have q2:=S.u.cell (aL H7.o.bS (j:=2) rfl) aM9;have HP7:=Z (λwz (hz:U w7 [cb] wz [cb])=>hz.cell (Xs (ep lF k qc).1 0 (by rw[HMF.o.pm];exact hem) D) aDR);have HQ7:=Z (λwz (hz:U w7 [cb] wz [cb])=>hz.cell (aL H7.o.bS (j:=2) rfl) aM9);simp only[uZ,fN,wZ,pK]at l0 l1 p0 HP7;have In:=Z (fG (d:=0) (show k<O (lF.map (·.2)) by rw[sN];exact C0));have hd2:ep (lF.map (·.2)) k 0=(ep lF k qc).2:=by
     rw[iB,Pm,iB];simp[kX C0]
    rw[hd2]at In;have hpm:=HMF.o.pm;have CX:((ep lF k qc).1:Int)<(O bF.2:Int):=Y;generalize hy:ep lF k qc=y at l0 l1 p0 hem vH oZ In CX HP7;generalize ht:ep bF.2 y.1 0=t at p0 vH oZ HP7;generalize hLK:zK.take k=LK at oZ hNk S;let⟨SK,hSK⟩:=E ((lF.map (·.2)).take k);have hSl:O SK=k:=by rw[<-hSK,VQ,sN];omega
    rw[hSK]at In S;have D3:=Z oZ;have HNK:=Z hNk;have HSK:=Z hSl;have aU1:=Z S;obtain⟨sa,sc,rfl,-⟩:=S.b.s.len;obtain⟨pa,pc,rfl,-⟩:=S.b.p.len;have htm:t<=1000000:=Y;clear hd2 hy ht hLK hSK hSl S oZ hNk GH Xs aMa aDR aM9 hpm aNG;let⟨bBM,hX⟩:=E (hJ wr.heap);let⟨w9,Gv⟩:=E (e8 wr (h8 #[J (y.1:Int),i6 kd (y.2:Int)] 149));have sO:=Za Gv;have hX9:=Ze Gv hX;go_upto_region 22 with(fail);have Pc:=Z (aU1.o.on sO);have HX9:=Z hX9;obtain⟨x0,x1⟩:=Z2 hX9;have hK:=Pc.o.b.bS;obtain⟨k0,P,k2⟩:=Z3 hK;have OP:=Z (show hJ w3.heap<=cb from HC7.o.bge);clear Gv hX sO hX9 hK aU1 l0 l1 p0 q2;refine ek 11 (eb P<|d7 x1) (λwd G C Q=> ?_);have o:=Z (Pc.o.on C);have HXd:=Z (C.aC HX9.o X);have MF:=Z (NN.o.aZ o.o.u (λb r=>by rw[show b=cb by simpa using r];exact OP.o));clear G C Pc HX9 k0 P k2 x0 x1;refine dw [0,1,5,2,3,4,6] ?_;refine Zo 7 λqL hK=> ?_;go_simp;have hH8:=Q;have oK:U wd [] (e8 wd (h8 #[i6 kd (y.2:Int)] 134)) []:=(U.refl wd []).alloc _;replace Q:=oK.Of Q;refine j8 ?_;clear hK qL;refine Zo 8 λqL hK=> ?_;obtain⟨gA,cA,wA,dP,hLA,hUA,fj,-⟩:=i9 (ty:=131) (news:=[i6 kd (y.2:Int)]) (T:=134) ku Y o.o.b.s MF.o (fV _) MF.o.size y.2 rfl (dH rfl) (λj hj=>rfl) (j7 HSK.o) (by rw[HSK.o];unfold bw;omega);refine dJ _ _ rfl Yr Yr dP ?_;have Q:=hH8;have Lu:=o.o.b.s.ne o.o.b.bS D;have Dt:=o.o.b.s.ne HXd.o D;replace Q:=fj.Of Q (Lu) (Dt);have bf:=aM (fj.aC o.o.b.bS Lu);have mP:=Z (o.o.nh (sv':=eB gA 0 (O SK+1) cA) fj hLA);have HXA:=Z ((pX wA cb 1 (eB gA 0 (O SK+1) cA)).aC (fj.aC HXd.o Dt) (λF=>by
     have m:=eH (fj.aC o.o.b.bS Lu);rw[<-show bBM=cb by simpa using F,eH (fj.aC HXd.o Dt)]at m;exact dS m D))
    generalize hwB:ey wA (Ad cb 1) (eB gA 0 (O SK+1) cA)=wB at mP HXA;have HWB:=Z hwB;clear dP hLA hUA fj oK hH8 Lu Dt hwB o HXd MF;refine j8 ?_;clear hK qL;refine Zo 9 λqL hK=> ?_;go_simp;refine j8 ?_;clear hK qL;refine I 10 ?_;refine Zo 11 λqL hK=> ?_;go_simp;refine MH ?_;clear hK qL;rw[HWB.o];clear Q bf HWB;have hK:=mP.o.b.bS;obtain⟨k0,P,k2⟩:=Z3 hK;have hXA:=HXA.o;obtain⟨x0,x1⟩:=Z2 hXA;have p0:=HP7.o _ mP.o.u;have q2:=HQ7.o _ mP.o.u;clear hK hXA;go_upto_region 23 with(fail);refine ek 17 (eb k2<|eb q2<|eb x0<|d7 p0) (λwd G C Q=> ?_);have o:=Z (mP.o.on C);have HXd:=Z (C.aC HXA.o X);have MF:=Z (NN.o.aZ o.o.u (λb r=>by rw[show b=cb by simpa using r];exact OP.o));clear G C mP HXA k0 P k2 x0 x1 p0 q2;refine dw [0,1,5,9,10,2,6,3,4,7,8,11,12] ?_;refine Zo 13 λqL hK=> ?_;go_simp;have hH8:=Q;have oK:U wd [] (e8 wd (h8 #[It t] 3)) []:=(U.refl wd []).alloc _;replace Q:=oK.zh4 Q;refine j8 ?_;clear hK qL;refine Zo 14 λqL hK=> ?_;obtain⟨gC,cC,wC,dP,hLC,hUC,fh,-⟩:=i9 (ty:=43) (news:=[It t]) (T:=3) OI Y o.o.b.p MF.o (fV _) MF.o.size t rfl (dH rfl) (λj hj=>rfl) (j7 HNK.o) (by rw[HNK.o];unfold bw;omega);refine dJ _ _ rfl Yr Yr dP ?_;have Q:=hH8;have Lu:=o.o.b.p.ne o.o.b.bS D;have Dt:=o.o.b.p.ne HXd.o D;have hTC:=o.o.ni (pv':=eB gC 0 (O LK+1) cC) fh hLC;have aSo:=pX wC cb 2 (eB gC 0 (O LK+1) cC);have hold:∀b,b<hJ w7.heap->b∉(hY pa (O LK) pc).ownBlock.toList:=λb r F=>Nat.lt_irrefl _ (wM r (o.o.fp b F));have mZ:=hold bb (cV H7.o.bS);have pP:=hold gp (H7.o.p.1.lt gp rfl);replace Q:=fh.zh4 Q (Lu) (mZ) (Dt) (pP);have bf:=aM (fh.aC o.o.b.bS Lu);have mP:=Z hTC;have HXA:=Z (aSo.aC (fh.aC HXd.o Dt) (λF=>by
     have m:=eH (fh.aC o.o.b.bS Lu);rw[<-show bBM=cb by simpa using F,eH (fh.aC HXd.o Dt)]at m;exact dS m D))
    generalize hwE:ey wC (Ad cb 2) (eB gC 0 (O LK+1) cC)=wE at mP HXA;have HWE:=Z hwE;clear dP hLC hUC fh oK hH8 Lu Dt hwE o HXd MF hTC aSo hold mZ pP;refine j8 ?_;clear hK qL;refine Zo 15 λqL hK=> ?_;go_simp;refine j8 ?_;clear hK qL;refine I 16 ?_;refine Zo 17 λqL hK=> ?_;go_simp;refine MH ?_;clear hK qL;rw[HWE.o];clear Q bf HWE;have hXA:=HXA.o;obtain⟨x0,x1⟩:=Z2 hXA;have p0:=HP7.o _ mP.o.u;have q2:=HQ7.o _ mP.o.u;clear hXA;go_upto_region 24 with(fail);refine ek 11 (eb q2<|eb x0<|d7 p0) (λwd G C Q=> ?_);have o:=Z (mP.o.on C);clear G C mP x0 x1 p0 q2;have mS:=o.o.t.t6 htm;let⟨ct,DN⟩:=E (LK.count t);have aZN:ct<=7:=by
     have m:=List.count_le_length (a:=t) (l:=LK);rw[DN,HNK.o]at m;omega
    rw[DN]at mS;let⟨wF,dP,htF,hUF⟩:=o.o.t.put htm (j7 HNK.o) (c:=(ct:Int)+1) (by rw[DN]);have HTF:=Z (o.o.put hUF htF);clear DN htF hUF;refine dw [0,1,5,6,2,3,4,7,8] ?_;refine Zo 9 λqL hK=> ?_;go_simp;refine j8 ?_;clear hK qL;refine I 10 ?_;refine Zo 11 λqL hK=> ?_;have Xj:IntKind.i64.wrap ((ct:Int)+1)=(ct:Int)+1:=TA _ Y;try rw[Xj]
    go_simp;refine MH ?_;clear hK qL;clear Q mS dP aZN Xj;go_wp2;go_roundg (O lF-(k+1))
    .exact⟨k+1,_,_,C0,rfl,eO,by rw[In.o,D3.o];exact HTF.o⟩
    omega
   .obtain rfl:k=O lF:=Y;have hNl:O zK=O lF:=by rw[<-Wu.o,sN]
    have et1:(lF.map (·.2)).take (O lF)=lF.map (·.2):=zdH (j7 sN);have et2:zK.take (O lF)=zK:=zdH Y;rw[et1,et2]at S;have aD3:oB (lF.map (·.2)) (O (vars q)):=Ui HG.o Bi.o (nA HLF.o);have Cf:=List.length_pos_iff.2 HMF.o.ne;have aDT:F2 0 (bF.1,zK) (qB lF) (O lF) 42:=HMF.o.qB (bF.1,zK) (.inl rfl) Wu.o.symm;have aNJ:re w3 wr cb (bF.1,zK) (qB lF):=⟨_,sv,pv,V,lF.map (·.2),S.b,aUt.o,by rw[sN];exact hNl.symm,aD3.dM,ER.aTr _⟩;let⟨ES,hES⟩:=E (lF.map (·.2));have aSQ:O ES=O lF:=by rw[<-hES,sN]
    have aNt:qB lF=bW ES:=by rw[<-hES];rfl
    rw[hES]at S aD3;rw[aNt]at aDT aNJ;have aV3:=Z aNJ;have Ir:=Z aDT;have aVQ:=Z aSQ;have HES:=Z aNt;have HT:=Z S;have aFE:=Z λu wz (hu:CI wz u ES)=>XC u ES (O (vars q)) 0 wz hu aD3 D;obtain⟨sa,sc,rfl,-⟩:=S.b.s.len;have Tv:=NN.o.aZ S.u (λb r=>by rw[show b=cb by simpa using r];exact HC7.o.bge);have HUR:=Z Tv;have hG6:=Tv.aC HG3.o X;obtain⟨g0,g1⟩:=Z2 hG6;have hK:=S.b.bS;obtain⟨k0,P,k2⟩:=Z3 hK;have HG2:=Z aD3;clear et1 et2 hNl aDT aNJ hES aSQ aNt S aD3 Tv hG6 hK;go_upto_region 26 with(fail);refine ek 99 (eb g0<|d7 P) (λwd G C Q=> ?_);refine dw [0,2,1,3,4,5] ?_;refine Zo 6 λqL hK=> ?_;go_simp;go_at_call 52;refine(zr _ ES wd (HT.o.b.s.on C).rd (by rw[aVQ.o];exact Cf) (by rw[aVQ.o];have:=HLF.o;omega)).mono ?_;rintro e w9 ⟨u,rfl,hO,QD⟩;dsimp only;obtain⟨ua,uc,rfl,-⟩:=hO.len;replace Q:=QD.Of Q;have sO:=C.dd QD;have GI:=Z sO;have HO9:=Z hO;clear hO QD G C sO;refine j8 ?_;clear hK qL;refine I 7 ?_;refine Zo 8 λqL hK=> ?_;go_simp;go_at_call 51;apply(aFE.o _ w9 HO9.o.rd).cF;rintro e E1 ⟨u2,x2,rfl,hS,hL,QD⟩;dsimp only;replace Q:=QD.Of Q;have aDe:=hS.Vf;obtain⟨za,zc,rfl,-⟩:=hS.len;obtain⟨ra,rc,rfl,-⟩:=hL.len;have IL:=Z (GI.o.dd QD);have aU9:=Z hS;have aVD:=Z hL;clear hS hL QD GI;refine j8 ?_;clear hK qL;refine dw [9,10,13,11,14,12,15] ?_;refine aY dB ?_ _;try simp only[Act.put,RM,RJ,UT]
    clear Q k0 P k2 g0 g1 aDe;have Gt:eD (bW ES)<=bZ:=WI (nA Ir.o.wt);have aYQ:O (run 0 bZ (bW ES)).1<=300:=jN (PG bZ _ Gt Ir.o.nd Ir.o.sm) Gt;have HCS:=Z λn hn=>LX (dg:=0) Gt Ir.o.nd Ir.o.sm (n:=n) hn;have Lr:=Jr (dg:=0) bZ (bW ES);let⟨S2,Mc⟩:=E ((run 0 bZ (bW ES)).1);let⟨E2,hE2⟩:=E ((run 0 bZ (bW ES)).2);rw[Mc]at aYQ HCS Lr aU9|-;rw[hE2]at Lr aVD|-;let⟨R2,pT⟩:=E (fC (-1) bZ (bF.1,zK) (bW ES));have DX:=Z pT;have aJG:=Z Lr;have HWT:=Z Gt;have aKS:=HUR.o.dd IL.o;have aUY:=Z aKS;have a2Z:=Z (aV3.o.on IL.o);have aFC:=Z (HT.o.t.on IL.o);clear Mc hE2 pT Lr Gt aKS aFE HO9 HT aV3;go_wp2;go_loopg [165] (O S2) (λgg aX4 wr=>∃(k f:Nat) (b:sM),k<=O S2/\gg=O S2-k/\aX4=J k/\re w3 wr cb b (after (bW ES) (S2.take k))/\F2 0 b (after (bW ES) (S2.take k)) (O lF) 42/\eD (after (bW ES) (S2.take k))<=f/\dT (fC (-1) f b (after (bW ES) (S2.take k))=R2)/\lH w7 wr M zK/\U w3 [] wr []/\Nk w9 wr (hY za (O S2) zc) S2/\LI w9 wr (hY ra (O E2) rc) E2)
    .exact⟨0,bZ,(bF.1,zK),Y,rfl,rfl,a2Z.o,Ir.o,HWT.o,Z DX.o,aFC.o,aUY.o,aU9.o,aVD.o⟩
    obtain⟨k,f,b,N,rfl,rfl,W,gL,sG,qx,hTo,hU,Ek,OT⟩:=hrel;have hrc:=HCS.o k N;have I7:=Ga gL.nd gL.sm sG qx.o;by_cases aRs:k<O S2
    .rcases hrc with⟨m,_⟩|⟨_,s,hs2,hn,oZ⟩
     .omega
     rcases I7 with⟨m,_⟩|⟨g,s',rfl,Dz,hw',hP⟩
     .rw[hn]at m;cases m
     obtain rfl:s=s':=by rw[hn]at Dz;injection Dz
     have hsk:ep S2 k qc=s:=by rw[iB,hs2];rfl
     let⟨gS,oS,cS,hvS,hgS,hcS⟩:=Ek.rd.aU aRs;injection hvS with x1 x2 x3;clear x2 x3;subst x1;rw[hsk]at hcS;have s0:=hcS 0 D;have s1:=hcS 1 D;have s2:=hcS 2 D;have s3:=hcS 3 D;simp only[J0,pK]at s0 s1 s2 s3;generalize lX:after (bW ES) (S2.take k)=lk at W gL hn hw' hP;let⟨wx,Sh⟩:=E (e8 wr (h8 #[J s.aG,J s.bP,J s.eK,i6 kd s.cut] 156));have SL:=Za Sh;have hBx:=Zb Sh;obtain⟨x0,x1,x2,x3⟩:=Z4 hBx;clear hBx;have zC:=Z (Ql cb b lk s w3 wx NO.o (W.on SL) (hU.dd SL) gL (nA HLF.o) Cf hn);unfold jX at zC;have HTX:=Z (hTo.on SL);have HSX:=Z (Ek.on SL);have HLX:=Z (OT.on SL);have HMS:=Z (gL.step (-1) hn);have HWS:=Z hw';have HPS:=Z hP;have D3:=Z oZ;have Nw:=Z lX;clear hsk hcS hs2 hn Dz hw' hP oZ lX W gL sG hU hTo Ek OT hgS qx SL;go_wp2_with (go_at_call 53;apply zC.o.cL;rintro wy ⟨hF,hU,W⟩;have HF:=Z hF;have HU:=Z hU;have HB:=Z W;clear hF hU W);go_roundg (O S2-(k+1))
     .exact⟨k+1,g,gB (-1) b lk s,aRs,rfl,eO,by rw[D3.o,n9,Nw.o];exact HB.o,by rw[D3.o,n9,Nw.o];exact HMS.o,by rw[D3.o,n9,Nw.o];exact HWS.o,Z (by rw[D3.o,n9,Nw.o];exact HPS.o),HTX.o.zW HF.o,HU.o,HSX.o.aEQ HF.o D,HLX.o.aEQ HF.o D⟩
     omega
    .obtain rfl:k=O S2:=Y;have pF:after (bW ES) (S2.take (O S2))=E2:=by rw[R9];exact aJG.o
     rw[pF]at W gL I7 hrc;rcases hrc with⟨_,xm⟩|⟨m,_⟩;rotate_left
     .exact dS m (Nat.lt_irrefl _)
     have hRE:R2=(b,E2):=by
      rcases I7 with⟨_,h2⟩|⟨g,s',_,h2,_⟩
      .exact h2
      .rw[xm]at h2;cases h2
     obtain⟨nvE,svE,pvE,PQ,ssE,r,aRi,aYP,aYN,-⟩:=W.ex;have Th:=List.length_pos_iff.2 gL.ne;have hei:(ep E2 0 qc).1<O b.2:=by rw[gL.pm];exact gL.xb _ (BB.2 ⟨_,bM Th,rfl⟩)
     obtain⟨gr,cr,hvr,-,-,hcr,-,-⟩:=(show eJ _ _ _ _ _ _ from OT.1).block Th;injection hvr with x1 x2 x3;clear x2 x3;subst x1;obtain⟨gq,cq,hvq,-,-,hcq,-,-⟩:=(show eJ _ _ _ _ _ _ from r.p.1).block (show 0<O b.2 by omega);subst hvq;obtain⟨xa,xc,Gw,-⟩:=r.n.len;subst Gw;have r0:=hcr 0 0 Th D;have p0:=hcq (ep E2 0 qc).1 0 hei D;simp only[uZ,fN,Nat.zero_mul,wZ,pK,Nat.zero_add]at r0 p0;have aZT:=gL.pm;have Io:=Z (gL.ok.GV _ (by exact hei));generalize hee:(ep E2 0 qc).1=ei at r0 p0 hei Io;generalize U0:ep b.2 ei 0=dL at p0 Io;have hQ:=hU.aC HQ3.o X;obtain⟨q0,q1,q2⟩:=Z3 hQ;have hK:=r.bS;obtain⟨k0,P,k2⟩:=Z3 hK;have pg:(ei:Int)<(O b.2:Int):=Y;have pd:(0:Int)<(O E2:Int):=Y;have HEE:=Z hee;have a1P:=Z U0;have HRE:=Z hRE;have Bf:=Z (gZ.o.dd hU);have HU:=Z hU;have aEu:=Z λwz (hz:U w [] wz [])=>WL _ _ ps q wz (qs.o.on hz);have HBE:=Z r;have aUs:=Z aRi;have Nr:=Z hTo;have aFM:=Z gL;clear pF xm I7 W OT Ek hcr hcq aZT hee U0 hQ hK r hRE sG qx gL hU aRi aYP aYN hTo;go_upto_region 32 with(fail);go_cut [24] (λs24 wx=>∃(B:Nat) (va:Option cj) (vc:Nat),s24= Pt B/\wx.heap[B]? =H (h8 #[hY va (O (vars q)) vc,cH,hY xa (O PQ) xc,It dL,cH] 78 (0,0))/\vC w wx (hY va (O (vars q)) vc) (vars q)/\U wr [] wx []/\hJ wr.heap<=B)
     case first=>
      refine ek 18 (eb q0<|eb q1<|eb q2<|eb k0<|eb k2<|eb r0<|d7 p0) (λwd G C Q=> ?_);have qH:=Z C;clear G C k0 P k2 q0 q1 q2 r0 p0;refine dw [0,2,3,4,5,6,7,8,9,10,11,12,13,14,15] ?_;refine xA (i:=1) (j:=17) dB rfl rfl rfl rfl (λqL hK=> ?_) (λqL hK=> ?_)
      .go_simp;go_at_call 54;apply(aEu.o _ (Bf.o.dd qH.o)).cF;rintro e w2 ⟨u,rfl,hO,bH⟩;obtain⟨va,vc,rfl,-⟩:=hO.len;dsimp only;replace Q:=bH.zh7 Q;refine j8 ?_;clear hK qL;refine I 16 ?_;refine Zo 17 λqL hK=> ?_;go_simp;let⟨wz,Dv⟩:=E (e8 w2 (h8 #[cH,cH,cH,J 0,cH] 78));have pk:=Za Dv;have W:wz.heap[hJ w2.heap]? =H (h8 #[cH,cH,cH,J 0,cH] 78 (0,0)):=by rw[<-Dv];exact lK ..
       replace Q:=pk.zh7 Q;obtain⟨e0,e1,e2,e3,e4⟩:=Z5 W;have ef:=aM W;have hs1:=(qH.o.dd bH).size;rw[Dv];refine j8 ?_;clear hK qL;refine Zo 18 λqL hK=> ?_;go_simp;refine MH ?_;clear hK qL;let⟨h5,cQ⟩:=Dd (x:=hY va (O (vars q)) vc) (y:=cH) (z:=hY xa (O PQ) xc) (u:= It dL) (v:=cH) W;go_wp2;go_meet;exact⟨_,va,vc,rfl,h5,((hO.eE (Bf.o.dd qH.o).size).on pk).set W D cQ,(qH.o.dd (bH.dd pk)).aZ cQ (λk N=>by rw[show k=hJ w2.heap by simpa using N];exact hs1),hs1⟩
      .go_simp;let⟨wz,Dv⟩:=E (e8 wd (h8 #[cH,cH,cH,J 0,cH] 78));have pk:=Za Dv;have W:wz.heap[hJ wd.heap]? =H (h8 #[cH,cH,cH,J 0,cH] 78 (0,0)):=by rw[<-Dv];exact lK ..
       replace Q:=pk.zh7 Q;rw[Dv];refine j8 ?_;clear hK qL;refine Zo 1 λqL hK=> ?_;go_simp;go_at_call 54;apply(aEu.o _ ((Bf.o.dd qH.o).dd pk)).cF;rintro e w2 ⟨u,rfl,hO,bH⟩;obtain⟨va,vc,rfl,-⟩:=hO.len;dsimp only;replace Q:=bH.zh7 Q;have W:=bH.aC W X;obtain⟨e0,e1,e2,e3,e4⟩:=Z5 W;have ef:=aM W;refine j8 ?_;clear hK qL;refine I 16 ?_;refine Zo 18 λqL hK=> ?_;go_simp;refine MH ?_;clear hK qL;let⟨h5,cQ⟩:=Dd (x:=hY va (O (vars q)) vc) (y:=cH) (z:=hY xa (O PQ) xc) (u:= It dL) (v:=cH) W;go_wp2;go_meet;exact⟨_,va,vc,rfl,h5,(hO.eE ((Bf.o.dd qH.o).dd pk).size).set W D cQ,(qH.o.dd (pk.dd bH)).aZ cQ (λk N=>by rw[show k=hJ wd.heap by simpa using N];exact qH.o.size),qH.o.size⟩
     case rest=>
      obtain⟨Bp,va,vc,rfl,hP,hV,eA,hBp⟩:=hcut;have VL:dT (Be w3 wc (hY xa (O PQ) xc) PQ):=Z ⟨(HBE.o.on eA).n,(HBE.o.on eA).o⟩;have HT4:=Z (Nr.o.on eA);have aOg:=Z (HU.o.dd eA);have aEv:=Z (Bf.o.dd eA);have NK:=Z hV;have jx:=Z hP;have hQ4:=aOg.o.aC HQ3.o X;have HQ4:=Z hQ4;obtain⟨q0,q1,q2⟩:=Z3 hQ4;have HHV:=Z (f8 hs).2.2.2.2.2;have aYX:=jN (yL (xF (f8 hs).2.2.2.2.1) (f8 hs).2.2.2.2.2) Dx;have aV2:dT (hJ w3.heap<=Bp):=Z (jN HU.o.size hBp);have aJJ:dT (hJ w.heap<=Bp):=Z (jN Bf.o.size hBp);have a95:dT (hJ w.heap≠Bp):=Z λe=>by
       have m:=eH hQ4;rw[e,eH hP]at m;exact dS m D
      clear hP hV eA hBp hQ4 HBE Nr HU Bf aEu;go_wp2;go_loopg [193] (O q.head) (λgg aX3 wr=>∃(k:Nat) (ya:Option cj) (yc:Nat),k<=O q.head/\gg=O q.head-k/\aX3=J k/\wr.heap[Bp]? =H (h8 #[hY va (O (vars q)) vc,hY ya k yc,hY xa (O PQ) xc,It dL,cH] 78 (0,0))/\gJ wc wr (hY ya k yc) ((q.head.take k).map λh=>(vars q).idxOf h)/\U wc [Bp] wr [Bp])
      .exact⟨0,_,_,Y,rfl,rfl,jx.o,bG.nil _ _,U.refl _ _⟩
      obtain⟨k,ya,yc,N,rfl,rfl,hP,hL,hU⟩:=hrel;by_cases aH7:k<O q.head
      .let⟨g6,o6,OK,hv6,hg6,hc6⟩:=qs.o.head.aU aH7;have e0:=hU.cell (aEv.o.cell (hc6 0 Y) X) (show g6∉[Bp]from λF=>by
        have m:=aJJ.o;rw[show g6=Bp by simpa using F]at hg6;exact Nat.lt_irrefl _ (wM hg6 m))
       injection hv6 with x1 x2 x3;clear x2 x3;subst x1;simp only[xR,wZ,pK]at e0;have HX:=Z (show(q.head.take (k+1)).map (λh=>(vars q).idxOf h)=(q.head.take k).map (λh=>(vars q).idxOf h)++[(vars q).idxOf (ep q.head k bO)] by rw[fG (d:=bO) aH7,R8];rfl);have SA:=HHV.o _ (bM (d:=bO) aH7);have hLl:O ((q.head.take k).map λh=>(vars q).idxOf h)=k:=by rw[sN,VQ];omega
       let⟨L,OT⟩:=E (((q.head.take k).map λh=>(vars q).idxOf h));let⟨y,hy⟩:=E (ep q.head k bO);rw[OT]at HX hLl hL;rw[hy]at e0 HX SA;have HAI:=Z λwz (hz:II wz (hY va (O (vars q)) vc) (vars q))=>(BI _ (vars q) y wz hz).mono λe w' h=>dX (h.1.dd (by rw[W8 SA])) h.2;have CL:=Z hLl;have HV:=Z (NK.o.set jx.o D hU);obtain⟨p0,p1⟩:=Z2 hP;have HL:=Z hL;have HP:=Z hP;have HU:=Z hU;clear OT hy hc6 SA hLl hL hP hU;go_upto_region 36 with(fail);refine ek 9 (eb p0<|d7 p1) (λwd G C Q=> ?_);have HVd:=Z (HV.o.on C);have HLd:=Z (HL.o.on C);have HPd:=Z (C.aC HP.o X);have MF:=Z (HU.o.xB C X);clear G C HV HL HP HU p0 p1 e0;refine dw [0,2,4,1,3] ?_;refine Zo 5 λqL hK=> ?_;go_simp;go_at_call 30;apply(HAI.o wd HVd.o.rd).cF;rintro e w5 ⟨rfl,rfl⟩;dsimp only;refine j8 ?_;clear hK qL;refine Zo 6 λqL hK=> ?_;go_simp;have hH5:=Q;have oK:U wd [] (e8 wd (h8 #[J ((vars q).idxOf y:Int)] 3)) []:=(U.refl wd []).alloc _;replace Q:=oK.Of Q;refine j8 ?_;clear hK qL;refine Zo 7 λqL hK=> ?_;have aSq:=aEv.o.aZ MF.o (λb r=>by rw[show b=Bp by simpa using r];exact aJJ.o);let⟨g7,c7,w7',dP,wW,fM,uF,hg7⟩:=i9 (ty:=43) (news:=[J ((vars q).idxOf y:Int)]) (T:=3) OI Y HLd.o aSq aEv.o.size MF.o.size ((vars q).idxOf y) rfl (dH rfl) (λj hj=>rfl) (nA CL.o) (by have:=CL.o;unfold bw;omega);refine dJ _ _ rfl Yr Yr dP ?_;have Q:=hH5;have hnp:=HLd.o.ne HPd.o D;replace Q:=uF.Of Q (hnp) (hnp);have Md:=uF.aC HPd.o hnp;rw[CL.o]at wW|-;obtain⟨f0,f1⟩:=Z2 Md;have ff:=aM Md;have iE:=pX w7' Bp 1 (eB g7 0 (k+1) c7);have HP8:=Z (aE (i:=1) (eB g7 0 (k+1) c7) Md);have OY:=Z (wW.set Md D iE);have G6:=Z ((MF.o.xB uF (λb r=> .inr (HLd.o.2 b (eI r)))).xB iE (λb r=> .inl r));clear dP fM uF oK hH5 Md wW iE hnp aSq;refine j8 ?_;clear hK qL;refine I 8 ?_;refine Zo 9 λqL hK=> ?_;go_simp;refine MH ?_;clear hK qL;clear Q f0 f1 ff;go_wp2;go_roundg (O q.head-(k+1))
       .exact⟨k+1,_,_,aH7,rfl,eO,HP8.o,by rw[HX.o];exact OY.o,G6.o⟩
       omega
      .obtain rfl:k=O q.head:=Y;rw[R9]at hL;generalize hhd:q.head.map (λh=>(vars q).idxOf h)=hdl at hL;have hbl:O PQ=O b.1:=by rw[<-aUs.o,sN]
       have Ll:0<O PQ:=nA Io.o;have yi:O PQ<=41:=by rw[hbl];exact aFM.o.few
       obtain⟨gn,cn,hvn,-,-,-,-,-⟩:=(show eJ _ _ _ _ _ _ from VL.o.n.1).block Ll;injection hvn with x1 x2 x3;clear x2 x3;subst x1;have hBt:=eH jx.o;have hN:=VL.o.dg hU (λk N=>by rw[show k=Bp by simpa using N,hBt];decide);have S:=HT4.o.eF hU (λF=>HT4.o.ne hBt (eI F));have hV:=NK.o.set jx.o D hU;have a0w:=Z (aEv.o.aZ hU (λb r=>by rw[show b=Bp by simpa using r];exact aJJ.o));have aUX:=Z (aOg.o.dd (U.refl wc []));have V6:Bp∉[gn]:=λF=>by
        have m:=hN.n.ty (k:=gn) rfl;rw[<-show Bp=gn by simpa using F,eH hP]at m;exact dS m D
       have hMn:M∉[gn]:=λF=>S.ne (hN.n.ty (k:=gn) rfl) (eI F);have sS:=Z (hU.aC (aOg.o.aC DW.o X) (λF=>Nat.lt_irrefl _ (wM (cV DW.o) (by rw[show hJ w.heap+1=Bp by simpa using F];exact aV2.o))));have HBP:=Z V6;have HMN:=Z hMn;have Nt:=Z hN;have UN:=Z S;have Wi:=Z hV;have uK:=Z hP;have oI:=Z hL;have HHD:=Z hhd;have HBL:=Z hbl;obtain⟨p0,p1,p2,p3,p4⟩:=Z5 hP;clear hL hP hU hN S hV V6 hMn hbl hhd hBt;obtain⟨wq,rfl⟩:∃wq,wq=wr:=⟨_,rfl⟩;go_wp2;go_loopg [210] (O PQ) (λgg aX2 wr=>∃(k:Nat) (ms:List (aX×aF)),k<=O PQ/\gg=O PQ-k/\aX2=J k/\dT (ms.map (·.1)=D9 b.1 (O V) zK k)/\dT (ms.map (·.2)=PQ.map (·.2))/\Be w3 wr (eB gn 0 (O PQ) xc) ms/\U wq [gn] wr [gn])
       .exact⟨0,PQ,Y,rfl,rfl,Z (by rw[Yw];exact aUs.o),Z rfl,Nt.o,U.refl _ _⟩
       obtain⟨k,ms,N,rfl,rfl,D4,zZ,hN,hU⟩:=hrel;by_cases aH6:k<O PQ
       .have aY8:O ms=O PQ:=by have:=wJ O zZ.o;simpa using this
        have IV:k<O ms:=Y;have xy:k<O b.1:=by rw[<-HBL.o];exact aH6
        have uV:(ep ms k qc).1=ep b.1 k qc:=by rw[<-fY,D4.o,tX xy,bD (Nat.lt_irrefl k)]
        have gH:∀tv,(decide (O V<=k)||decide (k∈zK))=tv->(ms.set k (({(ep ms k qc).1 with lW:=tv}:aX),(ep ms k qc).2)).map (·.1)=D9 b.1 (O V) zK (k+1):=λtv h=>by
         rw[List.map_set,D4.o,Yx xy];congr 1;unfold Qe;rw[<-h,uV]
        have q2:=hU.cell p2 HBP.o;have mS:=(UN.o.eF hU HMN.o).t6 (i:=k) Y;have cf:=hN.n.1.free (g:=gn) rfl;have c6:=eX.cells (show eX oE qc 7 wr (eB gn 0 (O PQ) xc) ms from hN.n.rd) IV 6 D;simp only[Nat.zero_add]at c6;have hgz:=hN.n.1.lt gn rfl;have Xp:(k:Int)<(O PQ:Int):=Y;clear uV aY8 xy;by_cases xN:O V<=k
        .have wV:(O V:Int)<=(k:Int):=Y;obtain⟨tv,aCw⟩:∃tv,tv=oj:=⟨_,rfl⟩;have GA:(decide (O V<=k)||decide (k∈zK))=tv:=by rw[kI xN,aCw];rfl
         exact ZM34
        .have wV:¬(O V:Int)<=(k:Int):=Y;by_cases gV:k∈zK
         .have hc:=List.count_pos_iff.2 gV;have hc':(0:Int)<((zK.count k:Nat):Int):=Y;obtain⟨tv,aCw⟩:∃tv,tv=oj:=⟨_,rfl⟩;have GA:(decide (O V<=k)||decide (k∈zK))=tv:=by rw[kI gV,aCw,Bool.or_true]
          exact ZM34
         .have hc:=List.count_eq_zero_of_not_mem gV;rw[hc]at mS;obtain⟨tv,aCw⟩:∃tv,tv=po:=⟨_,rfl⟩;have GA:(decide (O V<=k)||decide (k∈zK))=tv:=by rw[jO gV,jO xN,aCw];rfl
          clear hc;exact ZM34
       .obtain rfl:k=O PQ:=Y;have IV:O ms=O PQ:=by have:=wJ O zZ.o;simpa using this
        have pG:ms.map (·.1)=D9 b.1 (O V) zK (O b.1):=by rw[D4.o,HBL.o]
        have aT5:lJ (ms.map (·.1)):=by rw[pG];exact aFM.o.ok.below.Ie (UL _ _ _ _)
        have MR:∀x,x∈ms.map (·.1)->x.bU= -1:=by
         rw[pG];refine rx ?_;have h0:=XP bZ _ _ bF lF (ar _) Bi.o;have m:=XN bZ (bF.1,zK) (bW ES) h0;rw[DX.o,HRE.o]at m;exact m
        have hP6:=hU.aC uK.o HBP.o;have a22:=Z (aDp Bp _ _ _ _ _ ms w3 wr hN hP6 Y Y aT5 MR);have a1i:=Z pG;have a8z:=Z zZ;clear pG aT5 MR hN;have RA:=Zc hP6 2;go_upto_region 44 with(go_at_call 55;apply a22.o.cL;rintro w6 ⟨dK,m2,qW,M7,Mh⟩;have lI:=Z dK;have HG1:=Z qW;have HG2:=Z M7;have Ye:=Z Mh;clear dK qW M7 Mh);have Md:=lI.o.aC hP6 HBP.o;obtain⟨f0,f1,f2,f3,f4⟩:=Z5 Md;have hHG:m2.map (·.1)=oJ b.1 (O V) zK:=by rw[HG1.o,IV,a1i.out,HBL.o];exact fb _ _ _
        have aMd:O m2=O PQ:=by have:=wJ O hHG;rw[sN,DJ]at this;rw[this,HBL.o]
        have aEI:lJ (m2.map (·.1)):=by rw[hHG];exact aFM.o.ok.below.Ie (C2 _ _ _)
        have SG:dL<O m2:=by rw[aMd,HBL.o];exact Io.o
        have xj:=ut Bp m2 Y aEI dL SG w6 (Ye.o.rd f2);generalize hOL:eS (m2.map (·.1)) (dL+1) dL=OL at xj;have a1Z:=Z xj;have Wt:=Z hOL;have HHG:=Z hHG;have a2U:=Z aEI;have a9A:=Z aMd;have HRL:=Z SG;clear hHG aMd aEI SG IV RA xj hOL;go_upto_region 45 with(go_at_call 56;apply a1Z.o.cF;rintro e w9 ⟨u,rfl,hO,sO⟩;obtain⟨oa,oc,rfl,-⟩:=hO.len;have hP9:=sO.aC Md X;obtain⟨f0,f1,f2,f3,f4⟩:=Z5 hP9;have ff:=aM hP9;have HP9:=Z hP9;have HO9:=Z hO;have GI:=Z sO;clear hO sO hP9);let⟨E1,BY⟩:=E (ey w9 (Ad Bp 4) (hY oa (O OL) oc));have lP:U w9 [Bp] E1 [Bp]:=BY▸pX w9 Bp 4 _;have aNY:E1.heap[Bp]? =H (h8 #[hY va (O (vars q)) vc,hY ya (O q.head) yc,eB gn 0 (O PQ) xc,It dL,hY oa (O OL) oc] 78 (0,0)):=by rw[<-BY,aE _ HP9.o];rfl
        have aYu:=Ye.o.n.ty (k:=gn) rfl;have aNT:hJ w.heap+1∉[gn]:=λF=>by
         have m:=eH sS.o;rw[show hJ w.heap+1=gn by simpa using F,Nt.o.n.ty (k:=gn) rfl]at m;exact dS m D
        have aNU:hJ w.heap+1≠Bp:=λe=>Nat.lt_irrefl _ (wM (cV DW.o) (by rw[e];exact aV2.o));have hR9:=GI.o.aC (lI.o.aC (hU.aC sS.o aNT) aNT) X;have FP:=lP.aC hR9 (λF=>aNU (eI F));let⟨h5,cQ⟩:=Dd (x:=hY va (O (vars q)) vc) (y:=hY ya (O q.head) yc) (z:=eB gn 0 (O PQ) xc) (u:= It dL) (v:=hY oa (O OL) oc) FP;have gD:=Z cQ;have HH5:=Z h5;have Pb:=Z (hU.dd lI.o);have Wq:=Z lP;have R4:=Z FP;have a8r:=Z aNY;obtain⟨p0,p1,p2,p3,p4⟩:=Z5 aNY;obtain⟨r0,r1,r2,r3,r4⟩:=Z5 FP;have rf:=aM FP;have a8j:=Z aNU;clear f0 f1 f2 f3 f4 h5 cQ hU lP aNY hR9 FP aNU aNT aYu hP6 Md;rw[BY];clear BY;repeat(first|go_values|go_skip|go_guarded|go_step|go_upon)
        refine mD (aT (A:=⟨hJ w.heap+1,0,K⟩) (T:=78) rfl Yr (v:= .agg #[hY va (O (vars q)) vc,hY ya (O q.head) yc,eB gn 0 (O PQ) xc,It dL,hY oa (O OL) oc]) (by go_simp)) rfl ?_;have St:(aB q).2=⟨vars q,hdl,m2.map (·.1),dL,OL⟩:=by
         unfold aB;rw[bD (by simp[hs]),bD (by rw[show((run 0 bZ (bW (aJ q))).2.any λx=>decide (x.2≠0))=mM q from rfl,HCY.o];simp),Bi.o];simp only[];rw[HES.o,Wu.o,DX.o,HRE.o];have I6:O bF.1=O V:=by rw[<-aUt.o,sN]
         simp only[HHD.o,HEE.o,a1P.o,I6];rw[<-HHG.o];have ho:eS (m2.map (·.1)) (O (m2.map (·.1))) dL=OL:=by
          rw[AG a2U.o dL (by rw[sN];exact HRL.o) _ (by rw[sN];exact HRL.o)];exact Wt.o
         rw[ho]
        obtain⟨gnx,cnx,Gw,hox,-,-,-,a8P,aKL⟩:=(show eJ _ _ _ _ _ _ from Nt.o.n.1).block Ll;injection Gw with x1 x2 x3;injection x1 with x1;injection x1 with x1;subst x1;have hnt:∀(k:Nat),k∈[Bp]->lZ w9 k≠H 92/\lZ w9 k≠H 3:=λk N=>by
         rw[show k=Bp by simpa using N,eH HP9.o];exact⟨D,D⟩
        have aY5:∀(k:Nat),k∈[hJ w.heap+1]->lZ E1 k≠H 92/\lZ E1 k≠H 3:=λk N=>by
         rw[show k=hJ w.heap+1 by simpa using N,eH R4.o];exact⟨D,D⟩
        have aTJ:=((Ye.o.on GI.o).dg Wq.out hnt).dg gD.o aY5;have aZ5:=(((Wi.o.eF Pb.o (λk N F=>Wi.o.ne aKL D (by rw[N,show k=gn by simpa using F];simp))).on GI.o).set HP9.o D Wq.out).set R4.o D gD.o;have aZs:=(((oI.o.eF Pb.o (λk N F=>oI.o.ne aKL D (by rw[N,show k=gn by simpa using F];simp))).on GI.o).set HP9.o D Wq.out).set R4.o D gD.o;have aZi:=(HO9.o.set HP9.o D Wq.out).set R4.o D gD.o;have aYv:hJ w.heap<=gn:=jN gZ.o.size (Ye.o.n.2 gn rfl);have V4:U w [] w6 []:=a0w.o.aZ Pb.o (λk N=>by rw[show k=gn by simpa using N];exact aYv);have aHQ:=((V4.dd GI.o).aZ Wq.out (λk N=>by rw[show k=Bp by simpa using N];exact aJJ.o)).aZ gD.o (λk N=>by rw[show k=hJ w.heap+1 by simpa using N];omega);exact⟨_,rfl,⟨⟨_,_,_,_,m2,by rw[St],by rw[St];exact aZ5,by rw[St];exact aZs.eE aEv.o.size,⟨aTJ.n.eE gZ.o.size,λx hx=>(aTJ.o x hx).eE gZ.o.size⟩,by rw[St],by rw[St];exact aZi.eE V4.size⟩⟩,aHQ⟩
theorem ZM43{P:Prop}(h:P:=by
  go_wp2_with (go_at_call 27;apply HM.cF;rintro e w2 ⟨v,rfl,hP⟩;have HU:=Z hP.eF;obtain⟨v0,v1,v2,v4,ns,rfl,o0,o1,o2,-,o4⟩:=(hP.ok (HC.dd h0)).1.ex;obtain⟨a0,c0,rfl,-⟩:=o0.len;obtain⟨a1,c1,rfl,-⟩:=o1.len;obtain⟨a2,c2,rfl,-⟩:=o2.n.len;obtain⟨a4,c4,rfl,-⟩:=o4.len);go_ret2;exact⟨by rw[HE5.o];rfl,cR.dd HU.o|>.alloc _⟩):P:=h
theorem ZM109{P:Prop}(h:P:=by
  rcases Int.lt_or_le 65536 cells with h|h
  .exact h
  .exact dS (by rw[tP.o,bD (by rw[h0];simp),bD Y]) HE.o):P:=h
theorem TI(h:fJ q=0)(a:mM q=po){x:sM×List ES}(c:cX (-1) (cO q) bZ (cN (-1) (aJ q)) (bW (aJ q))=H x):(aB q).1=0:=by
 unfold aB;unfold mM at a;rw[bD (by simp[h]),a,bD D];obtain⟨b,l⟩:=x;rw[c]
structure aUK(q:bB)(w:aA)(v:aF)(w':aA):Prop where
 eF:U w [] w' []
 ok:(aB q).1=0->aKi w w' v (aB q).2/\fJ q=0
 no:(aB q).1≠0->v=EG
theorem Fy(h:B9 w hv av ps q)(iW:CM hv)(i:Tz w):
  tR 27 #[.agg #[j3 q.name,hv,av]] w λe w'=>∃v,e=i5 (i8 #[v,i6 i7 (aB q).1])/\aUK q w v w':=by
 by_cases hs:fJ q=0
 .cases d:mM q with
  |true=>
   apply(Jy hv av ps q w h iW hs d).cF;rintro e w' ⟨rfl,c⟩;have a:=N7 hs d;exact⟨EG,by rw[a],c,λb=>dS (a▸b:(_:Int)=0) D,λ_=>rfl⟩
  |false=>
   cases g:cX (-1) (cO q) bZ (cN (-1) (aJ q)) (bW (aJ q))with
   |none=>
    apply(XS hv av ps q w h iW i hs d g).cF;rintro e w' ⟨rfl,c⟩;have a:=TJ hs d (-1) g;exact⟨EG,by rw[a],c,λb=>dS (a▸b:(_:Int)=0) D,λ_=>rfl⟩
   |some x=>
    apply(XS hv av ps q w h iW i hs d g).cF;rintro e w' ⟨v,rfl,j,c⟩;have a:=TI hs d g;exact⟨v,by rw[a],c,λ_=>⟨j,hs⟩,λb=>dS a b⟩
 .have l:=hs;apply(un hv av ps q w h iW hs).cF;rintro e w' ⟨rfl,c⟩;have a:=XL hs;exact⟨EG,by rw[a],c,λb=>dS (by rw[a]at b;exact b) l,λ_=>rfl⟩
def TD:iZ:=⟨λ_=>PS,0,0⟩
def kS(q:bB)(cells:Int):Int:=if(aB q).1≠0 then(aB q).1 else if cells<1\/65536<cells then 50 else 0
theorem Ju(hs:fJ q=0)(a:(aB q).1=0):qm q:=by
 obtain⟨l,g,c,d,-,-⟩:=f8 hs;have b:O (aJ q)=O q.aD:=by unfold aJ;simp
 have i:aJ q≠[]:=λe=>by rw[e]at b;simp at b;omega
 have j:=uj c i a hs;rw[b]at j;exact⟨a,j,M' c i a (GL g d) Y,g,c,d⟩
theorem aXP(P:DS):zJ P (λ_=>PS):=
 ⟨λv _=>⟨List.nodup_nil,λ_ r=>by simp[PS],λ_=>⟨List.nodup_nil,List.nodup_nil,λr=>by simp[PS]⟩,λ_=>rfl,λ_=>⟨rfl,rfl⟩⟩,
  λu v _=>by
   unfold dD;split
   .intro r;rfl
   .split<;>rfl,
  λv _=>RN _⟩
theorem Qd(cells:Int)(h:B9 w hv av ps q)(iW:CM hv)(r:Tz w)(u:kS q cells≠0):
  aH prog 14 #[.agg #[j3 q.name,hv,av],i6 i7 cells] w λe w'=>e=i5 (i8 #[h9 K,i6 i7 (kS q cells)])/\U w [] w' []:=by
 obtain⟨ha,y,rfl,-⟩:=h.head.len;obtain⟨x,l,rfl,-⟩:=h.aD.len;rw[h.len]at h|-;let⟨wa,j⟩:=E (e8 w (h8 #[j3 q.name,hY ha (O q.head) y,hY x (O q.aD) l] 25));have cR:=Za j;obtain⟨b0,B,b2⟩:=Z3 (Zb j);have HM:=(Fy (h.on cR) iW (r.on cR));let⟨c,g⟩:=E ((aB q).1);have A:kS q cells=if c≠0 then c else if cells<1\/65536<cells then 50 else 0:=by unfold kS;rw[g]
 rw[g]at HM;have tP:=Z A;have HE:=Z u;have HC:=Z g;go_in;by_cases h0:c=0
 .have z:(c==0)=oj:=j7 JY;by_cases b:cells<1
  .have p:decide (cells<1)=oj:=kI b;have HE5:dT (kS q cells=50):=Z (by rw[tP.o,bD (by rw[h0];simp),bR (.inl b)]);exact ZM43
  .have p:decide (cells<1)=po:=jO b;have i:65536<cells:=ZM109;have g2:decide (65536<cells)=oj:=kI i;have HE5:dT (kS q cells=50):=Z (by rw[tP.o,bD (by rw[h0];simp),bR (.inr i)]);exact ZM43
 .have z:(c==0)=po:=by rw[G9];exact h0
  have d:dT (kS q cells=c):=Z (by rw[tP.o,bR h0]);go_wp2_with (go_at_call 27;apply HM.cF;rintro e w2 ⟨v,rfl,hP⟩;have HU:=Z hP.eF;obtain rfl:=hP.no (λe=>h0 (HC.symm.dd e)));go_ret2;exact⟨by rw[d.o];rfl,cR.dd HU.o|>.alloc _⟩
theorem sq(es:List Nat):(bW es).map (·.2)=es:=by
 unfold bW;rw[List.map_map];apply List.ext_getElem
 .simp
 .intro i b a;simp[kX a]
theorem Mz(es:List Nat):xT es=yR (bW es):=Fb λv=>by
 rw[yE];unfold xT D7;rw[QJ,R9];conv=>lhs;rw[<-sq es]
 rw[List.any_map];simp only[Nat.zero_testBit,Bool.false_or];rfl
theorem aCG(hs:fJ q=0):
  (jZ (aJ q) (O (vars q))=po/\aB q=(161,qc))\/(jZ (aJ q) (O (vars q))=oj/\AR (aJ q) (O (vars q)) (cO q)=po/\aB q=(170,qc))\/
   (jZ (aJ q) (O (vars q))=oj/\AR (aJ q) (O (vars q)) (cO q)=oj/\(aB q).1=0/\∃bF lF,cX 0 (cO q) bZ (cN 0 (aJ q)) (bW (aJ q))=H (bF,lF)):=by
 obtain⟨v,w,-,-,-,-⟩:=f8 hs;have a:=vV hs;have l:O (aJ q)=O q.aD:=by unfold aJ;simp
 have r:aJ q≠[]:=λe=>by rw[e]at l;simp at l;omega
 have u:=NI a.xD a.hv a.hm r;have m:=Nb (head:=cO q) a.xD a.hv Y;rw[<-Mz]at m;have i:=λpa b=>TL (dg:=cO q) (pa:=pa) bZ b (bW (aJ q)) (lD a.hm) (pB _) (nC a.dM);cases j:jZ (aJ q) (O (vars q)) with
 |false=>
  refine .inl ⟨rfl,N7 hs ?_⟩;rw[j]at u;unfold mM;simpa using u.symm
 |true=>
  have d:=Am a.xD a.hv a.hm r j;have p:AR (aJ q) (O (vars q)) (cO q)=iG (run (cO q) bZ (bW (aJ q))).2 (cO q):=by
   unfold AR;rw[j,m,Bt]
  cases g:cX 0 (cO q) bZ (cN 0 (aJ q)) (bW (aJ q))with
  |none=>
   refine .inr (.inl ⟨rfl,?_,TJ hs d 0 g⟩);rw[p];exact(i 0 _).1 g
  |some x=>
   have c:iG (run (cO q) bZ (bW (aJ q))).2 (cO q)=oj:=by
    cases c:iG (run (cO q) bZ (bW (aJ q))).2 (cO q)with
    |true=>rfl
    |false=>rw[(i 0 _).2 c]at g;cases g
   refine .inr (.inr ⟨rfl,by rw[p,c],?_,x.1,x.2,rfl⟩);cases n:cX (-1) (cO q) bZ (cN (-1) (aJ q)) (bW (aJ q))with
   |none=>rw[(i (-1) _).1 n]at c;cases c
   |some y=>exact TI hs d n
structure aUI(q:bB)(w:aA)(v:aF)(w':aA):Prop where
 eF:U w [] w' []
 ok:(aB q).1=0->NJ w w' v (aB q).2
 no:(aB q).1≠0->v=P1
theorem XE(h:B9 w hv av ps q):
  tR 34 #[.agg #[j3 q.name,hv,av]] w λe w'=>∃v,e=i5 (i8 #[v,i6 i7 (aB q).1])/\aUI q w v w':=by
 by_cases hs:fJ q=0
 .rcases aCG hs with⟨d,a⟩|⟨d,g,a⟩|⟨d,g,a,bF,lF,i⟩
  .refine(Re hv av ps q w h hs (λh=>dS h (by rw[d];decide))).mono ?_;rintro e w' ⟨rfl,c⟩;exact⟨P1,by rw[a,d];rfl,c,λb=>dS (by rw[a]at b;exact b:(161:Int)=0) D,λ_=>rfl⟩
  .apply(Re hv av ps q w h hs (λ_=>g)).cF;rintro e w' ⟨rfl,c⟩;exact⟨P1,by rw[a,d];rfl,c,λb=>dS (by rw[a]at b;exact b:(170:Int)=0) D,λ_=>rfl⟩
  .apply(aCB hv av ps q w h hs d g bF lF i).cF;rintro e w' ⟨v,rfl,j,c⟩;exact⟨v,by rw[a],c,λ_=>j,λb=>dS a b⟩
 .apply(uh hv av ps q w h hs).cF;rintro e w' ⟨rfl,c⟩;have a:=XL hs;exact⟨P1,by rw[a],c,λb=>dS (by rw[a]at b;exact b) hs,λ_=>rfl⟩
variable{cap g:Nat}
structure aLH(w wr:aA)(bV:List Row)(b k:Nat):Prop where
 ex:∃bX:List aF,O bX=O bV/\bG ID undef 33 1 w wr (hY (H ⟨b,0,K⟩) (O bV) (O bV)) bX/\∀i,i<k->bG dR aP 65 3 w wr (ep bX i undef) (ep bV i [])
 eF:U w [] wr []
theorem aBz(h:qj w v bV)(hm:O bV<=1048576)(A:∀i,i<O bV->O (ep bV i [])<=1048576):
  aH prog 22 #[v] w λe w'=>∃u,e=i5 u/\RwO w w' u bV/\U w [] w' []:=by
 obtain⟨a,cap,rfl,s⟩:=h.len;generalize G:O bV=n at hm s|-;have V:=aQg.wO n n (fV _) Y s w;have Q:=aQg.yF n n (fV _) s w D;let⟨b,R⟩:=E (hJ w.heap);let⟨wa,N⟩:=E (e8 w (h8 (madeCells #[cH] (n*1)) 33));have cR:=Za N;rw[R,N]at Q V;have hO:bG ID undef 33 1 w wa (eB b 0 n n) (List.replicate n cH):=⟨by
  rw[Ym];refine eJ.congr Q λi j C hj=> ?_;obtain rfl:j=0:=Y;rw[iB,List.getElem?_replicate,bR C];rfl,λg hg=>by simp[gz]at hg;omega⟩
 have HM:dT (aLH w wa bV b 0):=Z ⟨⟨List.replicate n cH,by rw[G,Ym],G▸hO,λi C=>dS C (Yk i)⟩,cR⟩;have HR:=Z A;have p:=Z G;unfold bw at s;clear A Q hO cR G;go_in;go_wp2;clear V N;go_loopg [4] n (λgg s4 wr=>∃k:Nat,k<=n/\gg=n-k/\s4=J k/\aLH w wr bV b k)
 .exact⟨0,Y,rfl,rfl,HM⟩
 obtain⟨k,hk,CY,rfl,P⟩:=hrel;have OR:=Z CY;clear CY;by_cases t:k<n
 .obtain⟨⟨bX,l,c,d⟩,B⟩:=P;have q:k<O bV:=p.o▸t;let⟨g,o,cap',ra,rc,hv,c0,hR⟩:=(h.on B).aU q;rw[p.o]at hv;obtain rfl:=CT hv;have S:=(me hR (HR.o k q));generalize A:ep bV k []=r at c0 S;rw[p.o]at c l;have HE:=Z d;have f:=Z A;have y:=Z t;have CQ:(k:Int)<(n:Int):=Y;clear d A hR q t hk;go_wp2_with (go_at_call 44;apply S.cF;rintro e w2 ⟨u,rfl,Mg,F⟩;obtain⟨ua,uc,rfl,-⟩:=Mg.len;obtain⟨g2,gI,EZ,-,T,RA,z,L⟩:=eJ.block (c.on F).1 (l▸Nat.zero_lt_of_lt y);injection EZ with x1 x2 x3;injection x1 with x1;injection x1 with x1;subst x1;have bj:=RA k 0 (l▸y) D;rw[wZ,pK]at bj;have bf:=z k;have bl:=iO T;clear RA z T x2 x3);go_roundg (n-(k+1))
  .have W:=(c.on F).DB (i:=k) (j:=0) (l▸y) D (hY ua (O r) uc) (hY ua (O r) uc) (λj' uW=>by
    obtain rfl:j'=0:=Y;rw[bR rfl];rfl)
   rw[wZ,pK]at W;obtain⟨cur,jJ⟩:=L;have m:U w2 [b] (ey w2 (Ad b k) (hY ua (O r) uc)) [b]:=pX w2 b k _;refine⟨k+1,y,rfl,eO,⟨bX.set k (hY ua (O r) uc),by rw[VP,l,p.o],p.o▸W,λi C=> ?_⟩,(B.dd F).aZ m (λx hx=>by simp at hx;rw[hx];have:=R;omega)⟩;rw[iB,List.getElem?_set];by_cases e:k=i
   .subst e;rw[bR rfl,bR (l▸y),NQ,f.o];exact(Mg.eE B.size).set jJ D m
   .rw[bD e,<-iB];exact((HE.o i Y).on F).set jJ D m
  have:=OR.o;have:=y.o;omega
 .obtain rfl:k=n:=Y;have HC:=Z P;clear P;go_wp2;go_ret;obtain⟨⟨bX,l,c,d⟩,B⟩:=HC.o;rw[p.o]at c;exact⟨_,rfl,⟨bX,l,c,p.o▸d⟩,B⟩
structure Chg where
 add:Bool
 rel:dU
 rv:aF
 row:Row
def aES(c:Chg):Nat->aF
 |0=>j4 c.add
 |1=>j3 c.rel
 |_=>c.rv
def TN:Chg:=⟨po,bO,hY K 0 0,[]⟩
theorem aXM:wI prog 26 35 3 48 #[j4 po,j3 {data:=#[]},hY K 0 0]:=
 .PU (z:= .agg #[j4 po,j3 {data:=#[]},cH]) underlying26 dB rfl rfl
theorem mm(n:Int)(w:aA):aH prog 18 #[i6 i7 n] w λe w'=>e=i5 (.agg #[i6 i7 1,i6 i7 n,j3 bO])/\U w [] w' []:=by
 go_in;go_wp2;refine mD (gO (T:=65) (v:= .agg #[J 1,J n,j3 {data:=#[]}]) ⟨w,0,K⟩ rfl Yr (by go_simp)) rfl ?_;exact⟨rfl,(U.refl w []).alloc _⟩
structure ChO(w w':aA)(b:Nat)(add:Bool)(rel:dU)(u:aF)(r:Row):Prop where
 bS:w'.heap[b]? =H (h8 #[j4 add,j3 rel,u] 35 (0,0))
 ge:hJ w.heap<=b
 row:bG dR aP 65 3 w w' u r
 eF:U w [] w' []
theorem aI0{o:Nat}{rel:dU}(F:e7 w ⟨g,o,K⟩=H (j4 add))(V:e7 w ⟨g,o+1,K⟩=H (j3 rel))(L:e7 w ⟨g,o+2,K⟩=H rv)(B:eX dR aP 3 w rv r)(h:O r<=1048576):
  aH prog 20 #[hY (H ⟨g,o,K⟩) 1 cap] w λe w'=>∃b u,e=i5 (hY (H ⟨b,0,K⟩) 1 1)/\ChO w w' b add rel u r:=by
 obtain⟨P,rc,rfl,T⟩:=B.len;have v:=aXM.wO 1 1 (fV _) D D w;rw[show((1:Nat):Int)=1 from rfl,show madeCells #[j4 po,j3 {data:=#[]},cH] (1*3)=#[j4 po,j3 {data:=#[]},cH] by kernel_rfl]at v;let⟨b,j⟩:=E (hJ w.heap);let⟨wa,l⟩:=E (e8 w (h8 #[j4 po,j3 {data:=#[]},cH] 35));have a:=Za l;rw[j,l]at v;unfold bw at T;go_in;go_upto_region 3 with(fail);refine wp_loop_rounds 2 ?_;rw[rounds_succ];go_upto_region 5 with(fail);refine ek 20 (eb (a.cell F X)<|eb (a.cell V X)<|d7 (a.cell L X)) (λwd A i Q=> ?_);refine dw [0,1,2,3,7,8,12,13,4,9,14,5,10,15,6,11,16] ?_;refine Zo 17 λk hK=> ?_;go_simp;go_at_call 44;apply(((λw2 (G:U wa [] w2 [])=>me (B.on (a.dd G)) h)) wd i).cF;rintro e w2 ⟨u,rfl,p,c⟩;obtain⟨ua,uc,rfl,-⟩:=p.len;dsimp only;have d:=c.aC ((i.aC (Ze l j) X)) X;obtain⟨R,N,f⟩:=Q;have Q:=dX ((c).cell R X) (dX ((c).cell N X) ((c).cell f X));obtain⟨b0,b1,b2⟩:=Z3 d;have bf:=aM d;have bl:=iO (cV d);refine j8 ?_;clear hK k;refine dw [18,19] ?_;refine Zo 20 λk hK=> ?_;go_simp;refine MH ?_;clear hK k;go_wp2;rw[rounds_succ];go_wp2;go_ret;have n:=NY (x:=j4 add) (y:=j3 rel) (z:=hY ua (O r) uc) d;have C:=Nat.le_of_eq j;exact⟨b,_,rfl,n.1,C,((p.eE (jN a.size i.size)).set d D n.2),(a.dd (i.dd c)).aZ n.2 (λx q=>by simp at q;rw[q];exact C)⟩
def Ez(w:aA)(v:aF)(ls:List (List Row)):Prop:=
 ∃bX:List aF,O bX=O ls/\eX ID undef 1 w v bX/\∀i,i<O ls->qj w (ep bX i undef) (ep ls i [])
theorem Ez.on{ls:List (List Row)}(h:Ez w v ls)(a:U w [] w' S'):Ez w' v ls:=by
 obtain⟨bX,d,e,c⟩:=h;exact⟨bX,d,e.on a,λi b=>(c i b).on a⟩
theorem Ez.len{ls:List (List Row)}(h:Ez w v ls):∃a cap,v=hY a (O ls) cap/\O ls<=bw:=ZM128
theorem Ez.aU{ls:List (List Row)}(h:Ez w v ls){k:Nat}(hk:k<O ls):
  ∃g o cap ra rc,v=hY (H ⟨g,o,K⟩) (O ls) cap/\e7 w ⟨g,o+k,K⟩=H (hY ra (O (ep ls k [])) rc)/\qj w (hY ra (O (ep ls k [])) rc) (ep ls k []):=by
 exact ZM60
theorem MD{a b:List (List Row)}(ha:Ez w av a)(A:Ez w bv b)(hl:O a=O b):
  aH prog 12 #[av,bv] w λe w'=>e=i5 (j4 (decide (a=b)))/\U w [] w' []:=by
 obtain⟨aa,ac,rfl,v⟩:=ha.len;obtain⟨W,bc,rfl,g⟩:=A.len;unfold bw at v g;rw[hl]at v;let⟨n,l⟩:=E (O b);rw[l]at hl v g;rw[hl,l];have HL:=Z hl;have HN:=Z l;clear hl l;go_in;go_wp2;go_loopg [8] n (λS i wr=>U w [] wr []/\∃k:Nat,k<=n/\S=n-k/\i=J k/\(a=b↔a.drop k=b.drop k))
 .exact⟨U.refl _ _,0,Y,rfl,rfl,Iff.rfl⟩
 obtain⟨hU,k,V,rfl,rfl,ho⟩:=hrel;by_cases B:k<n
 .have u:k<O a:=by rw[HL.o];exact B
  have p:k<O b:=by rw[HN.o];exact B
  let⟨P,o,cap',N,rc,hv,c0,L⟩:=(ha.on hU).aU u;obtain rfl:=CT hv;let⟨T,o2,gI,rb,rd,hv,q,G⟩:=(A.on hU).aU p;obtain rfl:=CT hv;have HD:=(Mw (d:=[]) u p);have j:=Z (λn=>aBy (L.on ((U.refl wr []).drewN n)) (G.on ((U.refl wr []).drewN n)));let⟨x,F⟩:=E (ep a k []);let⟨y,C⟩:=E (ep b k []);rw[F]at c0 HD j;rw[C]at q HD j;clear F C u p L G;have CQ:(k:Int)<(n:Int):=Y;go_upto_region 4 with(fail);refine ee 99 (eb c0<|d7 q) (λQ=> ?_);clear c0 q;let⟨wd,m⟩:=E (wr.drew);have s:U wr [] wd []:=BC m;have z:=j.o 1;rw[show wr.drewN 1=wd from m]at z;rw[m]at Q|-;have f:=Z z;have R:=(hU.dd s);clear m s z j;refine dw [0,1,4,5,2,6,3,7] ?_;refine Zo 8 λt hK=> ?_;go_simp;go_at_call 24;apply f.o.cF;rintro e w2 ⟨rfl,r⟩;dsimp only;replace Q:=r.Of Q;have eM:=(R.dd r);clear r;refine j8 ?_;clear hK t;by_cases c:x=y
  .rw[kI c];have HXY:=Z c;clear c;refine I 9 ?_;exact ZM91
  .rw[jO c];have tP:=Z c;clear c;refine I 9 ?_;exact ZM124
 .exact ZM85
variable{lb:Nat}{wb:aA}
theorem ZM23{P:Prop}(h:P:=by
  refine I 8 ?_;refine Zo 9 λqL hK=> ?_;go_simp;let⟨w6,iA⟩:=E (e8 w5 (h8 #[j3 q.name,hY da (O q.head) dc,hY ea (O q.aD) ec,hY a0 (O (aB q).2.vars) c0,hY a1 (O (aB q).2.head) c1,hY a2 (O ns) c2,J (aB q).2.dL,hY a4 (O (aB q).2.tops) c4,It cells,eB lb 0 (O ns) (O ns),J 0,J 0,j4 po,cH,J 0] 48));have dK:=Za iA;have nP:=Zb iA;rw[iA];replace Q:=dK.zh8 Q;refine j8 ?_;clear hK qL;refine dw [10,11] ?_;refine aY dB ?_ _;clear Q;go_wp2;go_ret2;refine⟨w5,rfl,⟨⟨_,_,_,_,_,_,_,_,_,_,by rw[<-CK.o],nP,(HQO.on dK).eE gZ.size,((HRP.on (qH.dd (gD.dd dK))).eE cR.size),?_⟩,jN gZ.size gD.size⟩,gZ.dd (gD.dd dK)⟩;rw[<-CK.o];exact HTL.on dK):P:=h
theorem ZM44{P:Prop}(h:P:=by
  go_wp2_with (go_at_call 34;apply HM.cF;rintro e w2 ⟨v,rfl,hP⟩;have HU:=Z hP.eF;obtain⟨v0,v1,v2,v4,ns,rfl,o0,o1,o2,-,-,o4⟩:=(hP.ok (HC.dd h0)).ex;obtain⟨a0,c0,rfl,-⟩:=o0.len;obtain⟨a1,c1,rfl,-⟩:=o1.len;obtain⟨a2,c2,rfl,-⟩:=o2.len;obtain⟨a4,c4,rfl,-⟩:=o4.len);go_ret2;exact⟨by rw[HE5.o];rfl,cR.dd HU.o|>.alloc _⟩):P:=h
theorem Pq:wI prog 41 70 1 24 #[hY K 0 0]:= .PU (z:=cH) underlying41 dB rfl rfl
theorem Fc(c:eJ w (hY (H ⟨lb,0,K⟩) n n) 70 1 n λ_ j=>#[hY K 0 0].getD j undef)(hs:hJ w0.heap<=lb):bG ID undef 70 1 w0 w (hY (H ⟨lb,0,K⟩) n n) (List.replicate n (hY K 0 0)):=
 ⟨by
  rw[Ym];refine eJ.congr c λi j a d=> ?_;obtain rfl:j=0:=Y;rw[iB,List.getElem?_replicate,bR a];rfl,λg b=>by simp[gz]at b;omega⟩
theorem NJ.eE(h:NJ w0 w v p)(hs:hJ wb.heap<=hJ w0.heap):NJ wb w v p:=by
 obtain⟨v0,v1,v2,v4,ns,e,i,j,d,c,a,b⟩:=h.ex;exact⟨v0,v1,v2,v4,ns,e,i.eE hs,j.eE hs,d.eE hs,c,λx g=>(a x g).eE hs,b.eE hs⟩
structure aP7(w0 w:aA)(d:Nat)(q:bB)(cells:Nat):Prop where
 ex:∃hv av ps v0 v1 v2 v4 a c lv,v2=hY a (O (aB q).2.aK) c/\w.heap[d]? =H (h8 #[j3 q.name,hv,av,v0,v1,v2,i6 i7 (aB q).2.dL,v4,i6 i7 (cells:Int),lv,i6 i7 0,i6 i7 0,j4 po,hY K 0 0,i6 i7 0] 48 (0,0))/\
  wT w0 w hv av ps q.head q.aD/\NJ w0 w (.agg #[v0,v1,v2,i6 i7 (aB q).2.dL,v4]) (aB q).2/\bG ID undef 70 1 w0 w lv (List.replicate (O (aB q).2.aK) (hY K 0 0))
 ge:hJ w0.heap<=d
theorem zj(cells:Nat)(h:B9 w hv av ps q)(G:(aB q).1=0)(Lt:1<=cells/\cells<=65536)(hf:O (aB q).2.aK<=42):
  aH prog 15 #[.agg #[j3 q.name,hv,av],i6 i7 (cells:Int)] w λe w'=>∃d,e=i5 (i8 #[h9 (H ⟨d,0,K⟩),i6 i7 0])/\aP7 w w' d q cells/\U w [] w' []:=by
 obtain⟨ha,hc,rfl,-⟩:=h.head.len;obtain⟨aa,ac,rfl,-⟩:=h.aD.len;have g:=h.len;rw[g]at h|-;let⟨wa,k⟩:=E (e8 w (h8 #[j3 q.name,hY ha (O q.head) hc,hY aa (O q.aD) ac] 25));let⟨B,f⟩:=E (hJ w.heap);have cR:=Za k;have P:=Ze k f;obtain⟨b0,b1,b2⟩:=Z3 P;have HM:=(XE (h.on cR));have HC:=Z G;rw[G]at HM;have g1:decide ((cells:Int)<1)=po:=jO Y;have g2:decide (65536<(cells:Int))=po:=jO Y;have HBW:=Z f;clear g G Lt;go_in;go_upto_region 6 with(first
  |(go_at_call 34;apply HM.cF;rintro e w2 ⟨v,rfl,y⟩;have W:=Z y.eF;have HRP:=(y.ok HC);obtain⟨v0,v1,v2,v4,ns,rfl,V,o1,o2,o3,o5,R⟩:=(y.ok HC).ex;obtain⟨a0,c0,rfl,-⟩:=V.len;obtain⟨a1,c1,rfl,-⟩:=o1.len;obtain⟨a2,c2,rfl,-⟩:=o2.len;obtain⟨a4,c4,rfl,-⟩:=R.len;have zU:O ns=O (aB q).2.aK:=(by rw[<-o3,sN]);have CK:=Z zU;clear zU y V o1 o2 o3 R o5))
 let⟨w3,x⟩:=E (e8 w2 (h8 #[hY a0 (O (aB q).2.vars) c0,hY a1 (O (aB q).2.head) c1,hY a2 (O ns) c2,J (aB q).2.dL,hY a4 (O (aB q).2.tops) c4] 46));have z:=Za x;have F:=Zb x;let⟨p,V6⟩:=E (hJ w2.heap);rw[x,V6];rw[V6]at F;have r:=(W.dd z).aC P X;obtain⟨q0,q1,q2⟩:=Z3 r;obtain⟨p0,p1,T,p3,S⟩:=Z5 F;let⟨wd,N⟩:=E (w3.drew);have L:U w3 [] wd []:=BC N;have gZ:=(cR.dd (W.dd (z.dd L)));have qH:=(z.dd L);clear z F r b0 b1 b2 k f;have hn4:O ns<=42:=CK.o▸hf;refine ee 99 (eb q0<|eb q1<|eb q2<|eb p0<|eb p1<|eb T<|eb p3<|d7 S) (λQ=> ?_);clear q0 q1 q2 p0 p1 T p3 S;rw[N]at Q|-;clear N L x;refine dw [0,2,3,4,5,6] ?_;refine xA (i:=1) (j:=7) dB rfl rfl rfl rfl (λqL hK=> ?_) (λqL hK=> ?_)
 .go_simp;go_at_call 13;apply(M0 _ _ ps q wd (h.on gZ)).cF;rintro e w4 ⟨AO,av',Oj,rfl,a,b⟩;obtain⟨da,dc,rfl,-⟩:=a.head.len;obtain⟨ea,ec,u,-⟩:=a.aD.len;rw[a.len]at u;subst u;dsimp only;replace Q:=b.zh8 Q;refine j8 ?_;clear hK qL;have n:=Pq.wO (O ns) (O ns) (fV _) Y F4 w4;have m:=Pq.yF (O ns) (O ns) (fV _) F4 w4 D;let⟨w5,A⟩:=E (e8 w4 (h8 (madeCells #[cH] (O ns*1)) 70));have c:=Za A;let⟨lb,l⟩:=E (hJ w4.heap);rw[A,l]at n m;refine Zo 7 λqL hK=> ?_;go_simp;replace Q:=c.zh8 Q;have HQO:=(a.on c);have gD:=(b.dd c);refine j8 ?_;clear hK qL;have HTL:=(Fc (w0:=w) m (by rw[<-l];have:=gZ.size;have:=b.size;omega));clear a b A c l n m;exact ZM23
 .have n:=Pq.wO (O ns) (O ns) (fV _) Y F4 wd;have m:=Pq.yF (O ns) (O ns) (fV _) F4 wd D;let⟨w4,C⟩:=E (e8 wd (h8 (madeCells #[cH] (O ns*1)) 70));have b:=Za C;let⟨lb,l⟩:=E (hJ wd.heap);rw[C,l]at n m;go_simp;replace Q:=b.zh8 Q;refine j8 ?_;clear hK qL;refine Zo 1 λqL hK=> ?_;go_simp;go_at_call 13;apply(M0 _ _ ps q w4 (h.on (gZ.dd b))).cF;rintro e w5 ⟨AO,av',Oj,rfl,a,c⟩;obtain⟨da,dc,rfl,-⟩:=a.head.len;obtain⟨ea,ec,u,-⟩:=a.aD.len;rw[a.len]at u;subst u;dsimp only;replace Q:=c.zh8 Q;refine j8 ?_;clear hK qL;have HQO:=(a.eE b.size);have gD:=(b.dd c);have HTL:=((Fc (w0:=w) m (l▸gZ.size)).on c);clear a b C c l n m;exact ZM23
theorem gi(cells:Int)(h:B9 w hv av ps q)(p:kS q cells≠0):
  aH prog 15 #[.agg #[j3 q.name,hv,av],i6 i7 cells] w λe w'=>e=i5 (i8 #[h9 K,i6 i7 (kS q cells)])/\U w [] w' []:=by
 obtain⟨ha,u,rfl,-⟩:=h.head.len;obtain⟨r,l,rfl,-⟩:=h.aD.len;rw[h.len]at h|-;let⟨wa,j⟩:=E (e8 w (h8 #[j3 q.name,hY ha (O q.head) u,hY r (O q.aD) l] 25));have cR:=Za j;obtain⟨b0,z,b2⟩:=Z3 (Zb j);have HM:=(XE (h.on cR));let⟨c,g⟩:=E ((aB q).1);have y:kS q cells=if c≠0 then c else if cells<1\/65536<cells then 50 else 0:=by unfold kS;rw[g]
 rw[g]at HM;have tP:=Z y;have HE:=Z p;have HC:=Z g;go_in;by_cases h0:c=0
 .have x:(c !=0)=po:=by rw[bne_eq_false_iff_eq];exact h0
  by_cases b:cells<1
  .have n:decide (cells<1)=oj:=kI b;have HE5:dT (kS q cells=50):=Z (by rw[tP.o,bD (by rw[h0];simp),bR (.inl b)]);exact ZM44
  .have n:decide (cells<1)=po:=jO b;have i:65536<cells:=ZM109;have g2:decide (65536<cells)=oj:=kI i;have HE5:dT (kS q cells=50):=Z (by rw[tP.o,bD (by rw[h0];simp),bR (.inr i)]);exact ZM44
 .have x:(c !=0)=oj:=by rw[bne_iff_ne];exact h0
  have d:dT (kS q cells=c):=Z (by rw[tP.o,bR h0]);go_wp2_with (go_at_call 34;apply HM.cF;rintro e w2 ⟨v,rfl,hP⟩;have HU:=Z hP.eF;obtain rfl:=hP.no (λe=>h0 (HC.symm.dd e)));go_ret2;exact⟨by rw[d.o];rfl,cR.dd HU.o|>.alloc _⟩
variable{cs:Array aF}{al:List oL}{hl:List dU}{bt sz:Nat}{dN:aW}{hd ov':aF}{w6 wa wq:aA}
theorem wT.mV(h:wT w0 w hv av ps hl al)(c:w.heap[b]? =H (h8 cs 82 (0,0)))(a:U w [b] w' S'):wT w0 w' hv av ps hl al:=
 ⟨h.head.set c D a,h.aD.set c D a,h.len,λi d=>⟨(h.j5 i d).1,(h.j5 i d).2.set c D a⟩⟩
theorem aTv:jM prog 80 43 1 24:= .PU (z:=cH) underlying80 dB rfl
structure DT(w0 w:aA)(p:zY)(al:List oL)(ov:aF)(vG:List aF)(k:Nat):Prop where
 cY:bG ID undef 43 1 w0 w ov vG
 len:O vG=k
 j5:∀j,j<k->bG fN 0 3 1 w0 w (ep vG j undef) (oQ p (ep al j qc) j)
theorem DT.on{ov:aF}{k:Nat}(h:DT w0 w p al ov vG k)(a:U w [] w' S'):DT w0 w' p al ov vG k:=
 ⟨h.cY.on a,h.len,λj b=>(h.j5 j b).on a⟩
theorem DT.mV{ov:aF}{k:Nat}(h:DT w0 w p al ov vG k)(c:w.heap[b]? =H (h8 cs 82 (0,0)))(a:U w [b] w' S'):DT w0 w' p al ov vG k:=
 ⟨h.cY.set c D a,h.len,λj d=>(h.j5 j d).set c D a⟩
theorem DT.jL{α:Type}{f:α->Nat->aF}{d:α}{e:ap}{ov:aF}{k:Nat}{l:List α}(h:DT w0 w p al ov vG k)(b:bG f d e sz w0 w v l)(i:43≠e)(g:3≠e)(a:U w v.ownBlock.toList w' S'):DT w0 w' p al ov vG k:=
 ⟨h.cY.jL b i a,h.len,λj c=>(h.j5 j c).jL b g a⟩
theorem aHA(g:(aB q).1=0){k:Nat}(c:k<O q.aD){a:oL}(ha:ep q.aD k qc=a)(b:i<O (eU (aB q).2.aK k).vars):
  ep (eU (aB q).2.aK k).vars i 0<O (aB q).2.vars/\ep (aB q).2.vars (ep (eU (aB q).2.aK k).vars i 0) bO∈bY a/\
   (oQ (aB q).2 a k).take (i+1)=(oQ (aB q).2 a k).take i++[(bY a).idxOf (ep (aB q).2.vars (ep (eU (aB q).2.aK k).vars i 0) bO)]:=by
 have p:k<O (aJ q):=by unfold aJ;simpa using c
 let⟨n,e⟩:=KG g p;have m:ep (eU (aB q).2.aK k).vars i 0∈cD (ep (aJ q) k 0):=n▸bM b;obtain⟨-,v2⟩:=mG.1 m;have j:ep (aJ q) k 0=sV (vars q) (bY a):=by
  unfold aJ;rw[iB,Pm,kX c,Mr c ha];rfl
 rw[j,rD]at v2;simp only[Xb,RK]at v2;rw[e];refine⟨v2.1,v2.2,?_⟩;unfold oQ;rw[e,List.take_add_one,Pm,kX b,iB (l:=(eU (aB q).2.aK k).vars),kX b];rfl
theorem DT.vP{ov:aF}{k:Nat}(h:DT w0 w p al ov vG k)(a:U w ov.ownBlock.toList w' S')(b:bG ID undef 43 1 w0 w' ov' (vG++[u]))(c:bG fN 0 3 1 w0 w u (oQ p (ep al k qc) k)):DT w0 w' p al ov' (vG++[u]) (k+1):=by
 refine⟨b,by simp[h.len],λj d=> ?_⟩;rw[kC,h.len];by_cases e:j=k
 .rw[bR e,e];exact c.jL h.cY D a
 .rw[bD e];exact(h.j5 j Y).jL h.cY D a
def tg0(bt n β:Nat)(ρ:aW):aW:=λk=>if k=bt then β else if n<=k then β+1 else ρ k
theorem bG.rz{α:Type}{f:α->Nat->aF}{d:α}{e:ap}{l:List α}(h:bG f d e sz w0 w v l)(b:w.heap[bt]? =H (h8 cs 82 (0,0)))(c:e≠82)(hs:n<=hJ w0.heap):mK f d sz w (tg0 bt n β ρ) (β+1) v l:=
 ⟨h.rd,λ_ k g=>by
  have a:=eJ.cY h.1 g;have j:=h.2 k a;have i:k≠bt:=λe=>by subst e;exact h.ne b c (eI a)
  unfold tg0;rw[bD i,bR Y]⟩
theorem wT.qa{α:Type}{f:α->Nat->aF}{d:α}{e:ap}{l:List α}(h:wT w0 w hv av ps hl al)(b:bG f d e sz wb w v l)(m:9≠e)(j:52≠e)(g:67≠e)(a:U w v.ownBlock.toList w' S'):wT w0 w' hv av ps hl al:=
 ⟨h.head.jL b m a,h.aD.jL b j a,h.len,λi c=>⟨(h.j5 i c).1,(h.j5 i c).2.jL b g a⟩⟩
structure Bd(wa w6 wr:aA)(q:bB)(hd av v2 ov:aF)(ps:List (dU×aF))(ns:List (aX×aF))(vG:List aF):Prop where
 hd:bG xR bO 9 1 wa wr hd q.head
 qo:wT w6 wr (hY K 0 0) av ps [] q.aD
 nd:Be wa wr v2 ns
 od:DT w6 wr (aB q).2 q.aD ov vG (O q.aD)
theorem Bd.on{ov:aF}(h:Bd wa w6 w q hd av v2 ov ps ns vG)(a:U w [] w' S'):Bd wa w6 w' q hd av v2 ov ps ns vG:=
 ⟨h.hd.on a,h.qo.on a,⟨h.nd.n.on a,λx b=>(h.nd.o x b).on a⟩,h.od.on a⟩
theorem Bd.mV{ov:aF}(h:Bd wa w6 w q hd av v2 ov ps ns vG)(c:w.heap[b]? =H (h8 cs 82 (0,0)))(a:U w [b] w' S'):Bd wa w6 w' q hd av v2 ov ps ns vG:=
 ⟨h.hd.set c D a,h.qo.mV c a,⟨h.nd.n.set c D a,λx d=>(h.nd.o x d).set c D a⟩,h.od.mV c a⟩
theorem Bd.jL{ov:aF}(h:Bd wa w6 w q hd av v2 ov ps ns vG)(b:bG Uq 0 83 1 wq w v bs)(a:U w v.ownBlock.toList w' S'):Bd wa w6 w' q hd av v2 ov ps ns vG:=
 ⟨h.hd.jL b D a,h.qo.qa b D D D a,⟨h.nd.n.jL b D a,λx c=>(h.nd.o x c).jL b D a⟩,⟨h.od.cY.jL b D a,h.od.len,λj d=>(h.od.j5 j d).jL b D a⟩⟩
theorem a00:jM prog 79 83 1 8:= .PU (z:=h9 K) underlying79 dB rfl
theorem mK.later{α:Type}{f:α->Nat->aF}{d:α}{t:Nat}{l:List α}(b:mK f d sz wq dN t v l)(h:eX f d sz w v l)(c:∀k,k<hJ wq.heap->ρ k=dN k):mK f d sz w ρ t v l:=
 ⟨h,λhl k a=>(c k (Rd.bS b.1 hl a)).dd (b.2 hl k a)⟩
theorem aMB(β j:Nat):(∀c,c<80->nH β j+c≠β+1)/\(∀c,c<80->nH β j+c≠β):=⟨λc _=>by unfold nH;omega,λc _=>by unfold nH;omega⟩
structure aEo(wa w6 wq wr:aA)(dN ρ:aW)(β:Nat)(q:bB)(bt:Nat)(hd av v0 v1 v2 v4 ov nv:aF)(ps:List (dU×aF))(ns:List (aX×aF))(vG:List aF)(bs:List Nat)(cells i:Nat):Prop where
 bS:wr.heap[bt]? =H (h8 (gQ q (aB q).2 hd av v0 v1 v2 v4 nv ov cells 0 0) 82 (0,0))
 kp:Bd wa w6 wr q hd av v2 ov ps ns vG
 lst:oF Uq 0 83 1 wr ρ (β+1) nv bs
 len:O bs=i
 j5:∀j,j<i->o8 wr ρ (nH β j) (ep bs j 0) (eP (aB q).2 j) PS 0 0
 old:∀k,k<hJ wq.heap->ρ k=dN k
 fre:∀g,gz nv=H g->hJ wq.heap<=g
 eF:U wq [bt] wr [bt]
structure a0i(wq:aA)(dN:aW)(β:Nat)(q:bB)(hd av v2 ov:aF)(ps:List (dU×aF))(ns:List (aX×aF))(vG:List aF):Prop where
 qt:QT wq dN (β+1) hd av ps q
 aK:mK oE qc 7 wq dN (β+1) v2 ns
 mO:mK ID undef 1 wq dN (β+1) ov vG
 aGb:∀j,j<O q.aD->mK fN 0 1 wq dN (β+1) (ep vG j undef) (oQ (aB q).2 (ep q.aD j qc) j)
structure jj(w6 wr:aA)(q:bB)(bt:Nat)(hd v0 v1 v2 v4:aF)(cells k:Nat):Prop where
 ex:∃(xa:Option cj) (xc:Nat) (oa:Option cj) (oc:Nat) (psk:List (dU×aF)) (vG:List aF),wr.heap[bt]? =H (h8 (gQ q (aB q).2 hd (hY xa k xc) v0 v1 v2 v4 (hY K 0 0) (hY oa k oc) cells 0 0) 82 (0,0))/\
  wT w6 wr (hY K 0 0) (hY xa k xc) psk [] (q.aD.take k)/\DT w6 wr (aB q).2 q.aD (hY oa k oc) vG k
 eF:U w6 [bt] wr [bt]
theorem WO(β cells:Nat)(h:B9 w hv av ps q)(iW:CM hv)(hw:Tz w)(h0:(aB q).1=0)(Lt:1<=cells/\cells<=65536):
  aH prog 14 #[.agg #[j3 q.name,hv,av],i6 i7 (cells:Int)] w λe w'=>∃b bN,e=i5 (i8 #[h9 (H ⟨b,0,K⟩),i6 i7 0])/\U w [] w' []/\(∀k,k<hJ w.heap->bN k=ρ k)/\wG w' bN β b q cells TD 0 0:=by
 obtain⟨ha,hc,rfl,-⟩:=h.head.len;obtain⟨aa,ac,rfl,-⟩:=h.aD.len;have G:=h.len;rw[G]at h|-;obtain⟨wa,dE⟩:=E (e8 w (h8 #[j3 q.name,hY ha (O q.head) hc,hY aa (O q.aD) ac] 25));obtain⟨bq,CR⟩:=E (hJ w.heap);have cR:=Za dE;have kB:=Ze dE CR;obtain⟨b0,b1,b2⟩:=Z3 kB;have Yh:=Z kB;have wU:=Z cR;have HQ:=Z (h.on cR);have HM:=Z (Fy (h.on cR) iW (hw.on cR));have HC:=Z h0;rw[h0]at HM;have HCE:=Z Lt;have g1:decide ((cells:Int)<1)=po:=decide_eq_false Y;have g2:decide (65536<(cells:Int))=po:=decide_eq_false Y;have HBW:=Z CR;clear h iW hw G kB cR h0 Lt;go_enter func14,ntmps14;go_upto_region 2 with(go_at_call 27;refine HM.o.mono ?_;rintro e w2 ⟨v,rfl,hP⟩;have HU:=Z hP.eF;have JS:=Z (hP.ok HC.o).2;obtain⟨v0,v1,v2,v4,ns,rfl,o0,o1,o2,aRh,o4⟩:=(hP.ok HC.o).1.ex;obtain⟨a0,c0,rfl,-⟩:=o0.len;obtain⟨a1,c1,rfl,-⟩:=o1.len;obtain⟨a2,c2,rfl,-⟩:=o2.n.len;obtain⟨a4,c4,rfl,-⟩:=o4.len;have HO0:=Z o0;have HO1:=Z o1;have LP:=Z o2;have Ns:=Z o4;have aIw:=Z aRh;clear hP o0 o1 o2 o4 aRh);obtain⟨w3,iQ⟩:=E (e8 w2 (h8 #[hY a0 (O (aB q).2.vars) c0,hY a1 (O (aB q).2.head) c1,hY a2 (O ns) c2,i6 i7 ((aB q).2.dL:Int),hY a4 (O (aB q).2.tops) c4] 78));obtain⟨bp,V6⟩:=E (hJ w2.heap);have cU:=Za iQ;have hP3:=Ze iQ V6;rw[iQ,V6];have aTc:=cU.aC (HU.o.aC Yh.o X) X;obtain⟨p0,p1,p2,p3,p4⟩:=Z5 hP3;have HP3:=Z hP3;have aPU:=Z aTc;have gZ:=Z (HU.o.dd cU);have aUr:=Z (HO0.o.on cU);have aUq:=Z (HO1.o.on cU);have aUm:=Z (Ns.o.on cU);have aOu:dT (Be wa w3 (hY a2 (O ns) c2) ns):=Z (by
  have:=LP.o;exact⟨this.n.on cU,λx hx=>(this.o x hx).on cU⟩)
 clear hP3 aTc cU iQ HO0 HO1 LP Ns b0 b1 b2 HU;go_upto_region 7 with(fail);obtain⟨w4,qJ⟩:=E (e8 w3 (h8 #[j3 ⟨#[]⟩,hY K 0 0,hY K 0 0,hY a0 (O (aB q).2.vars) c0,hY a1 (O (aB q).2.head) c1,hY a2 (O ns) c2,i6 i7 ((aB q).2.dL:Int),hY a4 (O (aB q).2.tops) c4,It cells,hY K 0 0,hY K 0 0,i6 i7 0,i6 i7 0,j4 po,i6 i7 0] 82));obtain⟨bt,JC⟩:=E (hJ w3.heap);have eA:=Za qJ;have Hk:=Ze qJ JC;rw[qJ,JC];have HT4:=Z Hk;have kQ:=Z eA;have aTb:=eA.aC aPU.o X;obtain⟨b0,b1,b2⟩:=Z3 aTb;have r:dT (bq<bt/\bp<bt/\hJ wa.heap<=bt):=Z ⟨by have:=lt_of_block aPU.o;omega,by have:=lt_of_block HP3.o;omega,by have:=gZ.o.size;omega⟩;clear Hk eA qJ aTb JC V6 p0 p1 p2 p3 p4;refine ee 9 (eb b0<|d7 b1) (λQ=> ?_);obtain⟨wd,eY⟩:=E (w4.drew);have jW:U w4 [] wd []:=eY▸(U.refl w4 []).drew;rw[eY]at Q|-;have aUU:=Z jW;have qH:=Z (kQ.o.dd jW);clear eY jW b0 b1 b2;refine dw [0,1,3,2,4] ?_;refine Zo 5 λs hK=> ?_;go_simp;go_at_call 28;refine(zs _ q.head wd (HQ.o.head.on (gZ.o.dd qH.o)) (by have:=(f8 JS.o).2.2.1;have:=yL (xF (f8 JS.o).2.2.2.2.1) (f8 JS.o).2.2.2.2.2;omega)).mono ?_;rintro e w5 ⟨u,rfl,hO,cQ⟩;obtain⟨da,dc,rfl,-⟩:=hO.len;dsimp only;obtain⟨r8,r6⟩:=Q;have Q:=And.intro ((cQ).cell r8 X) ((cQ).cell r6 X);clear r8 r6;have gD:=Z (qH.o.dd cQ);have n:=(aUU.o.dd cQ).aC HT4.o X;have T:=Z n;have HHD:=Z (hO.eE (wb:=wa) (gZ.o.dd qH.o).size);obtain⟨t0,t1,t2⟩:=Z3 n;have tf:=aM n;have tl:=iO (lt_of_block n);clear cQ n hO;refine Zk hK Q ?_;clear hK s;refine I 6 ?_;refine Zo 7 λs hK=> ?_;go_simp;refine Zk hK Q ?_;clear hK s;refine I 8 ?_;refine Zo 9 λs hK=> ?_;go_simp;refine Zl hK ?_;clear hK s;clear Q t0 t1 t2 tf tl;obtain⟨w6,iA⟩:=E (ey (ey (ey w5 (Ad bt 0) (j3 q.name)) (Ad bt 1) (hY da (O q.head) dc)) (Ad bt 2) (hY K 0 0));have dK:U w5 [bt] w6 [bt]:=iA▸(((U.refl w5 [bt]).setCell (a:=Ad bt 0) (.inl X) _).setCell (a:=Ad bt 1) (.inl X) _).setCell (a:=Ad bt 2) (.inl X) _;have qv:dT (w6.heap[bt]? =H (h8 (gQ q (aB q).2 (hY da (O q.head) dc) (hY K 0 0) (hY a0 (O (aB q).2.vars) c0) (hY a1 (O (aB q).2.head) c1) (hY a2 (O ns) c2) (hY a4 (O (aB q).2.tops) c4) (hY K 0 0) (hY K 0 0) cells 0 0) 82 (0,0))):=Z (by
  rw[<-iA,aE _ (aE _ (aE _ T.o))];rfl)
 try rw[iA]
 have aPV:=Z (dK.aC (gD.o.aC HP3.o X) (by simp;have:=r.o;omega));have aPT:=Z (dK.aC (gD.o.aC aPU.o X) (by simp;have:=r.o;omega));have lI:dT (U wa [] w6 []):=Z ((gZ.o.dd gD.o).aZ dK (λb W=>by have:b=bt:=(by simpa using W);have:=r.o;omega));have HQ6:dT (jj w6 w6 q bt (hY da (O q.head) dc) (hY a0 (O (aB q).2.vars) c0) (hY a1 (O (aB q).2.head) c1) (hY a2 (O ns) c2) (hY a4 (O (aB q).2.tops) c4) cells 0):=
  Z ⟨⟨K,0,K,0,[],[],qv.o,⟨bG.nil _ _,bG.nil _ _,rfl,λi hi=>absurd hi X⟩,⟨bG.nil _ _,rfl,λj A=>absurd A (Nat.not_lt_zero j)⟩⟩,U.refl _ _⟩
 have jw:dT (bG xR bO 9 1 wa w6 (hY a0 (O (aB q).2.vars) c0) (aB q).2.vars/\gJ wa w6 (hY a1 (O (aB q).2.head) c1) (aB q).2.head/\Be wa w6 (hY a2 (O ns) c2) ns/\gJ wa w6 (hY a4 (O (aB q).2.tops) c4) (aB q).2.tops):=Z
  ⟨(aUr.out.on gD.o).set T.o D dK,(aUq.out.on gD.o).set T.o D dK,
   ⟨(aOu.out.n.on gD.o).set T.o D dK,λx hx=>((aOu.out.o x hx).on gD.o).set T.o D dK⟩,(aUm.out.on gD.o).set T.o D dK⟩
 have aVI:=Z (HHD.o.set T.o D dK);have aTa:=aPT.o;obtain⟨b0,b1,b2⟩:=Z3 aTa;have R3:=Z (f8 JS.o);clear aTa dK iA aUr aUq aOu aUm HHD T HT4 kQ gD qH aUU;go_upto_region 9 with(fail);go_loopg [47] (O q.aD) (λgg s47 wr=>∃k:Nat,k<=O q.aD/\gg=O q.aD-k/\s47=i6 i7 k/\jj w6 wr q bt (hY da (O q.head) dc) (hY a0 (O (aB q).2.vars) c0) (hY a1 (O (aB q).2.head) c1) (hY a2 (O ns) c2) (hY a4 (O (aB q).2.tops) c4) cells k)
 case atStart=>exact⟨0,Nat.zero_le _,rfl,rfl,HQ6.o⟩
 case round=>
  obtain⟨k,l,CY,rfl,hN⟩:=hrel;by_cases aV:k<O q.aD
  .obtain⟨⟨xa,xc,oa,oc,Xe,vG,C,hQ,fo⟩,p⟩:=hN;obtain⟨g,o,cap,ga,gc,hg,hv,m0,m1,hTm⟩:=HQ.o.o7 aV;injection hv with x1 x2 x3;subst x1 x3;have hUW:U wa [] wr []:=lI.o.aZ p (λb W=>by have:b=bt:=(by simpa using W);have:=r.o;omega);replace m0:=hUW.cell m0 X;replace m1:=hUW.cell m1 X;have HTM:=Z (hTm.on hUW);have mP:=Z hTm;have aT9:=p.aC aPT.o (by simp;have:=r.o;omega);have kh:=Z (bM (d:=qc) aV);have HX:=Z (fG (d:=qc) aV);have qC:=Z aV;obtain⟨x,hx⟩:=E (ep q.aD k qc);rw[hx]at m0 m1 HTM mP HX kh;have HXE:=Z hx;have HT:=Z C;have HQN:=Z hQ;have OW:=Z fo;have HU:=Z p;have Bf:=Z hUW;have OR:=Z CY;have a2R:=Z aT9;clear C hQ fo p hUW hTm hx CY x2 b0 b1 b2 aT9;go_upto_region 11 with(fail);obtain⟨wb,pE⟩:=E (e8 wr (h8 #[j3 x.rel,hY ga (O x.aS) gc] 52));obtain⟨bx,lR⟩:=E (hJ wr.heap);have m8:=Za pE;have hX:=Ze pE lR;rw[pE,lR];have hTb:=m8.aC HT.o X;have Ex:dT (hJ wr.heap=bx/\bt<bx):=Z ⟨lR,by have:=lt_of_block HT.o;omega⟩;have HXB:=Z hX;have Cl:=Z hTb;have D2:=Z m8;unfold gQ at hTb;have e2:=Zc hTb 2;obtain⟨f0,f1⟩:=Z2 hX;clear hX hTb m8 pE lR m0 m1;refine ee 17 (eb e2<|eb f0<|d7 f1) (λQ=> ?_);obtain⟨wd,eY⟩:=E (wb.drew);have jW:U wb [] wd []:=eY▸(U.refl wb []).drew;rw[eY]at Q|-;have qH:=Z (D2.o.dd jW);have aUV:=Z jW;clear eY jW e2 f0 f1;refine dw [0,1,6,8,2,7,9,3,4,5] ?_;refine Zo 10 λs hK=> ?_;go_simp;go_at_call 29;refine(ij _ x.aS wd (HTM.o.on qH.o) (by have:=R3.o.2.2.2.1 x kh.o;omega)).mono ?_;rintro e w7 ⟨u,rfl,hO,S⟩;obtain⟨ua,uc,rfl,-⟩:=hO.len;dsimp only;obtain⟨r8,r6,MK⟩:=Q;have Q:=And.intro ((S).cell r8 X) (And.intro ((S).cell r6 X) ((S).cell MK X));clear r8 r6 MK;have NN:=Z (qH.o.dd S);have aOd:=Z (aUV.o.dd S);have HO:=Z (hO.eE (wb:=w6) (Nat.le_trans HU.o.size qH.o.size));clear S hO;refine Zk hK Q ?_;clear hK s;refine I 11 ?_;refine Zo 12 λs hK=> ?_;go_simp;obtain⟨w8,wP⟩:=E (e8 w7 (h8 #[j3 x.rel,hY ua (O x.aS) uc] 52));have L:=Za wP;have N:w8.heap[hJ w7.heap]? =H (h8 [j3 x.rel,hY ua (O x.aS) uc].toArray 52 (0,0)):=by rw[<-wP];exact heap_alloc_new ..
   obtain⟨r8,r6,MK⟩:=Q;have Q:=And.intro ((L).cell r8 X) (And.intro ((L).cell r6 X) ((L).cell MK X));clear r8 r6 MK;rw[wP];refine Zk hK Q ?_;clear hK s;refine Zo 13 λs hK=> ?_;have F:=NN.o.dd L;have P:=HQN.o.on F;have CX:O Xe=k:=by rw[P.len,List.length_take];have:=qC.o;omega
   have hk6:=R3.o.2.1;have HHV:dT (∀(v:aF),v=hY xa (O Xe) xc->v=hY xa k xc):=Z (λv hv=>by rw[hv,CX]);obtain⟨v',w9,dP,UC,sO,R,a9,zu,rfl⟩:=jR (wb:=wa) (w:=w8) aKd Y 23 P.aD (Bf.o.dd F) lI.o.size (Nat.le_trans HU.o.size F.size) (E8 (f:=vW) (d:=qc) N rfl (x.rel,hY ua (O x.aS) uc) (λj A=>by
    match j,A with
    |0,_=>rfl
    |1,_=>rfl)) (λy hy j A=>by
    obtain rfl:=List.mem_singleton.1 hy;match j,A with
    |0,_=>rfl
    |1,_=>rfl) (by simp;omega) (by unfold bw;simp;omega)
   refine dJ _ _ rfl Yr Yr dP ?_;have Tx:=(aOd.o.dd L).aC Cl.o X;have Ma:=R.aC Tx (P.aD.ne Tx D);have hX8:=(aOd.o.dd L).aC HXB.o X;have aHo:bx∉(hY xa k xc).ownBlock.toList:=λhm=>by
    have:=eJ.lt HQN.o.aD.1 bx (by simpa using hm);have:=Ex.o.1;omega
   have aS7:=P.aD.ne Tx D;have hX9:=R.aC hX8 aHo;have hl9:O Xe+O [(x.rel,hY ua (O x.aS) uc)]=k+1:=by simp[CX]
   rw[hl9]at UC R|-;have Q:=And.intro (R.cell Q.1 aS7) (And.intro (R.cell Q.2.1 aHo) (R.cell Q.2.2 aHo));have HQ9:=Z (P.vP (x:=x) R UC (HO.o.on L));have aUl:=Z ((OW.o.on F).jL P.aD D D R);have aUW:dT (U w6 [bt] w9 [bt]):=Z ((HU.o.dd F.Gj).xB R (λb W=> .inr (P.aD.2 b (by simpa using W))));have Pc:=Z Ma;have HX9:=Z hX9;unfold gQ at Ma;have e2:=Zc Ma 2;have ef:=aM Ma;have el:=iO (lt_of_block Ma);clear dP UC sO R Tx Ma hX8 hX9 aHo aS7 hl9 HHV CX hk6 P F N L wP;refine Zk hK Q ?_;clear hK s;refine Zo 14 λs hK=> ?_;go_simp;refine Zk hK Q ?_;clear hK s;refine Zo 15 λs hK=> ?_;go_simp;refine Zk hK Q ?_;clear hK s;refine I 16 ?_;refine Zo 17 λs hK=> ?_;go_simp;refine Zl hK ?_;clear hK s;obtain⟨wz,Dv⟩:=E (ey w9 (Ad bt 2) (hY a9 (k+1) zu));have pk:U w9 [bt] wz [bt]:=Dv▸(U.refl w9 [bt]).setCell (a:=Ad bt 2) (.inl X) _;have NO:dT (wz.heap[bt]? =H (h8 (gQ q (aB q).2 (hY da (O q.head) dc) (hY a9 (k+1) zu) (hY a0 (O (aB q).2.vars) c0) (hY a1 (O (aB q).2.head) c1) (hY a2 (O ns) c2) (hY a4 (O (aB q).2.tops) c4) (hY K 0 0) (hY oa k oc) cells 0 0) 82 (0,0))):=Z (by
    rw[<-Dv,aE _ Pc.o];rfl)
   rw[Dv];have HQZ:=Z (HQ9.o.mV Pc.o pk);rw[<-HX.o]at HQZ;have aUk:=Z (aUl.o.mV Pc.o pk);have HUZ:=Z (aUW.o.dd pk);have HXZ:=Z (pk.aC HX9.o (by simp;have:=Ex.o;omega));have aIJ:=HUZ.o.aC aPV.o (by simp;have:=r.o;omega);have aV1:=Z aIJ;clear Dv pk HQ9 Pc aUl aUW HX9 Q e2 ef el HQN OW HU HTM Cl HXB D2 qH aUV NN aOd HO HT Bf a2R;have HWZ:dT (U wa [] wz []):=Z (lI.o.aZ HUZ.o (λb W=>by have:b=bt:=(by simpa using W);have:=r.o;omega));have HVZ:dT (eX xR bO 1 wz (hY a0 (O (aB q).2.vars) c0) (aB q).2.vars):=Z (jw.o.1.set qv.o D HUZ.o).rd;have HNZ:dT (eX oE qc 7 wz (hY a2 (O ns) c2) ns/\∀z,z∈ns->eX fN 0 1 wz z.2 z.1.vars):=Z ⟨(jw.o.2.2.1.n.set qv.o D HUZ.o).rd,λz hz=>((jw.o.2.2.1.o z hz).set qv.o D HUZ.o).rd⟩;have GC:k<O (aB q).2.aK:=Nat.lt_of_lt_of_le qC.o (Ju JS.o HC.o).wf.DA;obtain⟨ng,no,a6O,di,aRl⟩:=mn HNZ.o.1 aIw.o HNZ.o.2 Y;obtain⟨va,vc,hvr,-,-,n2,-,-,-,-⟩:=aRl k GC;injection di with y1 y2 y3;subst y1 y3;have zU:k<O ns:=Y;have hol:=M1 (aB q).2 x k;have HVR:=Z hvr;have a8v:=Z GC;obtain⟨V,hV⟩:=E ((eU (aB q).2.aK k).vars);rw[hV]at n2 HVR hol;have HVE:=Z hV;have Wt:=Z hol;have aSm:O V<=30:=by rw[<-hV];exact(Ju JS.o HC.o).wf.kx (Ju JS.o HC.o).wide GC
   have aUT:=Z aSm;have p0:=Zc aIJ 0;have p2:=Zc aIJ 2;clear aRl hvr GC y2 hV hol aSm aIJ;go_upto_region 14 with(fail);go_loopg [76,11] (O V) (λgg s76 s11 wy=>∃(i:Nat) (ra:Option cj) (rc:Nat),i<=O V/\gg=O V-i/\s76=i6 i7 i/\s11=hY ra i rc/\bG fN 0 3 1 wz wy (hY ra i rc) ((oQ (aB q).2 x k).take i)/\U wz [] wy [])
   case atStart=>exact⟨0,K,0,Nat.zero_le _,rfl,rfl,rfl,bG.nil _ _,U.refl _ _⟩
   case round=>
    obtain⟨i,ra,rc,hi,hgi,rfl,rfl,hL,p⟩:=hrel;by_cases YX:i<O V
    .obtain⟨vg,vo,a5f,Xk,-,hvc⟩:=eX.aU (HVR.o.on p) YX;have r0:=hvc 0 D;simp only[Nat.mul_one,Nat.add_zero,fN]at r0;injection Xk with x1 x2 x3;clear x2 x3;subst x1;obtain⟨l1,l2,l3⟩:=aHA HC.o qC.o HXE.o (i:=i) (by rw[HVE.o];exact YX);rw[HVE.o]at l1 l2 l3;obtain⟨z,hz⟩:=E (ep V i 0);rw[hz]at r0 l1 l2 l3;obtain⟨sg,so,a5n,hsv,-,hsc⟩:=eX.aU (HVZ.o.on p) l1;have s0:=hsc 0 D;simp only[Nat.mul_one,Nat.add_zero,xR]at s0;injection hsv with x1 x2 x3;clear x2 x3;subst x1;have HSG:dT (sg<hJ wz.heap):=Z (by
      obtain⟨sg',so',a2e,e,Ea,-⟩:=eX.aU HVZ.o l1;injection e with e1 e2 e3;injection e1 with e1;injection e1 with e1 e4 e5;omega)
     obtain⟨y,hy⟩:=E (ep (aB q).2.vars z bO);rw[hy]at s0 l2 l3;have HMY:=Z l2;have HSN:=Z l3;have HGI:=Z hgi;have HL:=Z hL;have HUI:=Z p;have hXr:=p.aC HXZ.o X;have hPr:=p.aC aV1.o X;obtain⟨f0,f1⟩:=Z2 hXr;have q0:=Zc hPr 0;clear hvc hz hsc hy l2 l3 hgi hL p hXr hPr;go_upto_region 16 with(fail);refine ee 11 (eb f0<|eb f1<|eb q0<|d7 s0) (λQ=> ?_);obtain⟨wd,eY⟩:=E (wr.drew);have jW:U wr [] wd []:=eY▸(U.refl wr []).drew;rw[eY]at Q|-;have qH:=Z jW;clear eY jW f0 f1 q0 s0 r0;refine dw [0,1,3,5,4,6,7] ?_;refine Zo 2 λs hK=> ?_;go_simp;go_at_call 31;refine(AT _ x.rel x.aS wd (mP.o.on (HWZ.o.dd (HUI.o.dd qH.o))) (by have:=R3.o.2.2.2.1 x kh.o;omega)).mono ?_;rintro e w7 ⟨u,rfl,hO,S⟩;obtain⟨ua,uc,rfl,-⟩:=hO.len;dsimp only;obtain⟨r8,r6,MK,Jm⟩:=Q;have Q:=And.intro ((S).cell r8 X) (And.intro ((S).cell r6 X) (And.intro ((S).cell MK X) ((S).cell Jm X)));clear r8 r6 MK Jm;have NN:=Z (qH.o.dd S);have HIX:=Z (BI _ _ y w7 hO.rd);clear S hO;refine Zk hK Q ?_;clear hK s;refine Zo 8 λs hK=> ?_;go_simp;go_at_call 30;refine HIX.o.mono ?_;rintro e w8 ⟨rfl,rfl⟩;dsimp only;have hai:Vx (bC x.aS []) y=((bY x).idxOf y:Int):=W8 HMY.o;rw[hai];obtain⟨c,hc⟩:=E ((bY x).idxOf y);rw[hc];have HCI:=Z hc;clear hai hc;refine Zk hK Q ?_;clear hK s;refine Zo 9 λs hK=> ?_;go_simp;obtain⟨w8,wP⟩:=E (e8 w7 (h8 #[It c] 3));have L:=Za wP;have N:w8.heap[hJ w7.heap]? =H (h8 [It c].toArray 3 (0,0)):=by rw[<-wP];exact heap_alloc_new ..
     obtain⟨r8,r6,MK,Jm⟩:=Q;have Q:=And.intro ((L).cell r8 X) (And.intro ((L).cell r6 X) (And.intro ((L).cell MK X) ((L).cell Jm X)));clear r8 r6 MK Jm;rw[wP];refine Zk hK Q ?_;clear hK s;refine Zo 10 λs hK=> ?_;have F:=NN.o.dd L;have CS:=HL.o.on F;have Lp:O ((oQ (aB q).2 x k).take i)=i:=by rw[List.length_take,Wt.o];omega
     have aD0:=aUT.o;obtain⟨v',w9,dP,UC,sO,R,a9,zu,rfl⟩:=jR (wb:=wz) (w:=w8) OI Y 43 CS (HUI.o.dd F) (Nat.le_refl _) (HUI.o.dd F).size (E8 (f:=fN) (d:=0) N rfl c (dH rfl)) (λy hy j A=>by
      obtain rfl:=List.mem_singleton.1 hy;rfl) (by simp;omega) (by unfold bw;simp;omega)
     refine dJ _ _ rfl Yr Yr dP ?_;have hl9:O ((oQ (aB q).2 x k).take i)+O [c]=i+1:=by simp[Lp]
     rw[hl9]at UC|-;rw[<-HCI.o,<-HSN.o]at UC;have HL9:=Z UC;have GI:=Z sO;have Q:=And.intro (R.cell Q.1 (CS.zW (lt_of_block HXZ.o))) (And.intro (R.cell Q.2.1 (CS.zW (lt_of_block HXZ.o))) (And.intro (R.cell Q.2.2.1 (CS.zW (lt_of_block aV1.o))) (R.cell Q.2.2.2 (CS.zW HSG.o))));clear dP UC sO R F CS Lp aD0 hl9 L N wP;refine Zk hK Q ?_;clear hK s;refine Zo 11 λs hK=> ?_;go_simp;refine Zl hK ?_;clear hK s;clear Q;have Xj:IntKind.i64.wrap ((i:Int)+1)=((i+1:Nat):Int):=by
      have:=aUT.o;rw[IntWalk.i64_in _ Y];omega
     go_wp2;go_roundg (O V-(i+1))
     case measure=>have:=HGI.o;omega
     case rel=>exact⟨i+1,a9,zu,Y,rfl,by go_num,rfl,HL9.o,GI.o⟩
    .obtain rfl:i=O V:=Y;have HLF:=Z hL;have hTr:=p.aC NO.o X;have MG:=Z hTr;have aFI:=Z (aUk.o.on p);have HQR:=Z (HQZ.o.on p);have HWR:=Z (HWZ.o.dd p);have HUR:=Z (HUZ.o.dd p.Gj);have HZS:=Z p.size;have hod:=aUk.o.len;unfold gQ at hTr;have e10:=Zc hTr 10;have hk6:=R3.o.2.1;clear hL p hTr p0 p2 n2;go_upto_region 19 with(at_builtin;refine AF aTv rfl _ _ rfl aFI.o.cY HWR.o lI.o.size HUR.o.size Yr [hY ra (O V) rc] (hY ra (O V) rc) Yr rfl (dH rfl) rfl Y (by unfold bw;omega) ?_;rintro g5 c5 w5 nO-fk-;have oI:=Z nO;have aEx:=Z fk;have n:=fk.aC MG.o (aFI.o.cY.ne MG.o D);have T:=Z n;unfold gQ at n;have t10:=Zc n 10;have tf:=aM n;have tl:=iO (lt_of_block n);clear nO fk n);obtain⟨wf,sG⟩:=E (ey w5 (Ad bt 10) (hY (H (Ad g5 0)) (k+1) c5));have wL:U w5 [bt] wf [bt]:=sG▸(U.refl w5 [bt]).setCell (a:=Ad bt 10) (.inl X) _;have hTf:wf.heap[bt]? =H (h8 (gQ q (aB q).2 (hY da (O q.head) dc) (hY a9 (k+1) zu) (hY a0 (O (aB q).2.vars) c0) (hY a1 (O (aB q).2.head) c1) (hY (H (Ad ng no)) (O ns) c2) (hY a4 (O (aB q).2.tops) c4) (hY K 0 0) (hY (H (Ad g5 0)) (k+1) c5) cells 0 0) 82 (0,0)):=by
      rw[<-sG,aE _ T.o];rfl
     have hLo:bG fN 0 3 1 w6 wr (hY ra (O V) rc) (oQ (aB q).2 (ep q.aD k qc) k):=by
      have h:=HLF.o.eE (wb:=w6) HUZ.o.size;rw[List.take_of_length_le (Nat.le_of_eq Wt.o)]at h;rw[HXE.o];exact h
     have Sz:=oI.o;rw[hod]at Sz;have hOf:=(aFI.o.vP aEx.o Sz hLo).mV T.o wL;have hQf:=(HQR.o.qa aFI.o.cY D D D aEx.o).mV T.o wL;have hUU:U w6 [bt] wf [bt]:=(HUR.o.xB aEx.o (λb W=> .inr (aFI.o.cY.2 b (by simpa using W)))).dd wL;have HNM:=Z (show jj w6 wf q bt (hY da (O q.head) dc) (hY a0 (O (aB q).2.vars) c0) (hY a1 (O (aB q).2.head) c1) (hY (H (Ad ng no)) (O ns) c2) (hY a4 (O (aB q).2.tops) c4) cells (k+1)from⟨⟨a9,zu,_,c5,_,_,hTf,hQf,hOf⟩,hUU⟩);rw[sG];clear sG wL hTf hLo Sz hOf hQf hUU t10 tf tl e10;go_wp2;go_roundg (O q.aD-(k+1))
     case measure=>have:=OR.o;omega
     case rel=>exact⟨k+1,Y,rfl,by go_num,HNM.o⟩
  .obtain rfl:k=O q.aD:=Y;obtain⟨⟨xa,xc,oa,oc,Xe,vG,C,hQ,fo⟩,p⟩:=hN;rw[List.take_length]at hQ;have hsa:=wU.o.size;have xh:=lI.o.size;have Ei:U wa [] wr []:=lI.o.aZ p (λb W=>by have:b=bt:=(by simpa using W);have:=r.o;omega);obtain⟨dN,nM⟩:=E (tg0 bt w.heap.size β ρ);have hhd:=(aVI.o.set qv.o D p);have HTG:dT (a0i wr dN β q (hY da (O q.head) dc) (hY xa (O q.aD) xc) (hY a2 (O ns) c2) (hY oa (O q.aD) oc) Xe ns vG):=Z (by
    subst nM;exact⟨⟨hhd.rz C D Y,hhd.Vf,hQ.aD.rz C D Y,hQ.len,λj A=>⟨(hQ.j5 j A).1,(hQ.j5 j A).2.rz C D Y⟩,HQ.o.dM⟩,(jw.o.2.2.1.n.set qv.o D p).rz C D Y,fo.cY.rz C D Y,λj A=>(fo.j5 j A).rz C D Y⟩)
   have HNM:dT (aEo wa w6 wr wr dN dN β q bt (hY da (O q.head) dc) (hY xa (O q.aD) xc) (hY a0 (O (aB q).2.vars) c0) (hY a1 (O (aB q).2.head) c1) (hY a2 (O ns) c2) (hY a4 (O (aB q).2.tops) c4) (hY oa (O q.aD) oc) (hY K 0 0) Xe ns vG [] cells 0):=Z
    ⟨C,⟨hhd,hQ,⟨jw.o.2.2.1.n.set qv.o D p,λz hz=>(jw.o.2.2.1.o z hz).set qv.o D p⟩,fo⟩,oF.nil _ _ _,rfl,λj A=>absurd A (Nat.not_lt_zero j),λ_ _=>rfl,λg hg=>(by cases hg),U.refl _ _⟩
   have aUd:dT (dN bt=β):=Z (by subst nM;exact if_pos rfl);have aOo:dT ((∀k,k<hJ w.heap->dN k=ρ k)):=Z (λk l=>by
    subst nM;unfold tg0;rw[if_neg (by have:=r.o;omega),if_neg Y])
   have aV0:=Z (p.aC aPV.o (by simp;have:=r.o;omega));have HWR:=Z Ei;have V6:=aV0.o;have zU:O ns=O (aB q).2.aK:=by rw[<-aIw.o,List.length_map]
   have CK:=Z zU;have aAM:=Z (Ju JS.o HC.o);obtain⟨p0,p1,p2,p3,p4⟩:=Z5 V6;clear C hQ fo p hsa xh Ei nM hhd V6 zU CY aV l b0 b1 b2 lI HQ6 aVI jw qv aPV aPT;go_upto_region 21 with(fail);obtain⟨wq,EK⟩:=E (wr);subst EK;go_loopg [106] (O ns) (λgg aL9 wy=>∃(i:Nat) (ρy:aW) (na:Option cj) (nc:Nat) (bs:List Nat),i<=O ns/\gg=O ns-i/\aL9=i6 i7 i/\aEo wa w6 wr wy dN ρy β q bt (hY da (O q.head) dc) (hY xa (O q.aD) xc) (hY a0 (O (aB q).2.vars) c0) (hY a1 (O (aB q).2.head) c1) (hY a2 (O ns) c2) (hY a4 (O (aB q).2.tops) c4) (hY oa (O q.aD) oc) (hY na i nc) Xe ns vG bs cells i)
   case atStart=>exact⟨0,dN,K,0,[],Nat.zero_le _,rfl,rfl,HNM.o⟩
   case round=>
    obtain⟨i,ρy,na,nc,bs,hi,hgi,rfl,B⟩:=hrel;by_cases YX:i<O ns
    .have HGI:=Z hgi;have HI:=Z YX;have JJ:=Z B;have gV:i<O (aB q).2.aK:=by rw[<-CK.o];exact YX
     have V6:=B.eF.aC aV0.o (by simp;have:=r.o;omega);have a94:=Z V6;have qw:=Z (aBo (v0:=hY a0 (O (aB q).2.vars) c0) (v1:=hY a1 (O (aB q).2.head) c1) (v4:=hY a4 (O (aB q).2.tops) c4) ⟨_,_,_,rfl⟩ ⟨_,_,_,rfl⟩ ⟨_,_,_,rfl⟩ B.kp.nd.n.rd aIw.o (λz hz=>(B.kp.nd.o z hz).rd) aAM.o.wf aAM.o.wide gV);have HSO:=Z (aAM.o.wf.aBq aAM.o.wide gV);obtain⟨p0,p1,p2,p3,p4⟩:=Z5 V6;clear hgi B gV V6;go_upto_region 24 with(first
      |(go_at_call 33;refine qw.o.mono ?_;rintro e w7 ⟨ka,kc,sa,sc,ua,uc,rfl,Om,GD,hl3,S⟩;have NN:=Z S;have HND:=Z (aGj (ρ:=up wr.heap.size (β+1) ρy) (nH β i) _ ka kc sa sc ua uc HSO.o Om GD hl3);clear Om GD hl3 S)
      |(go_at_call 32;refine HND.o.mono ?_;rintro e w8 ⟨nb,D6,rfl,L,ou,N⟩;have G6:=Z L;have HT8:=Z ou;have HN8:=Z N;clear L ou N))
     have F:=NN.o.dd G6.o;have pU:bA wr ρy (λ_=>False) w8 D6:=⟨F.os,F.tape,F.output,F.size,λk l _=>F.block k l X,λk l=>(HT8.o k (Nat.lt_of_lt_of_le l NN.o.size)).dd (eN l)⟩;have OY:=Z (JJ.o.lst.dg pU (λh=>h));have HK8:=Z (JJ.o.kp.on F);have HE8:=Z (λj A=>(JJ.o.j5 j A).dg pU (λ_ _ h=>h));have Wp:=Z F;have a1E:=Z pU.bT;have Tx:=F.aC JJ.o.bS X;have HB8:=Z Tx;unfold gQ at Tx;have e9:=Zc Tx 9;have G:=JJ.o.len;have h42:i<42:=by have:=HI.o;have:=CK.o;have:=aAM.o.few;omega
     clear F pU Tx p0 p1 p2 p3 p4;go_upto_region 25 with(at_builtin;refine AF a00 rfl _ _ rfl (OY.o.cY w8) (P7 w8) (Nat.le_refl _) (Nat.zero_le _) Yr [Pt nb] nb Yr rfl (dH rfl) rfl Y (by unfold bw;omega) ?_;rintro g5 c5 w5 nO-fk-;have oI:=Z nO;have aEx:=Z fk;have n:=fk.aC HB8.o ((OY.o.cY w8).ne HB8.o D);have T:=Z n;unfold gQ at n;have t9:=Zc n 9;have tf:=aM n;have tl:=iO (lt_of_block n);clear nO fk n);obtain⟨wf,sG⟩:=E (ey w5 (Ad bt 9) (hY (H (Ad g5 0)) (i+1) c5));have wL:U w5 [bt] wf [bt]:=sG▸(U.refl w5 [bt]).setCell (a:=Ad bt 9) (.inl X) _;have hTf:wf.heap[bt]? =H (h8 (gQ q (aB q).2 (hY da (O q.head) dc) (hY xa (O q.aD) xc) (hY a0 (O (aB q).2.vars) c0) (hY a1 (O (aB q).2.head) c1) (hY a2 (O ns) c2) (hY a4 (O (aB q).2.tops) c4) (hY (H (Ad g5 0)) (i+1) c5) (hY oa (O q.aD) oc) cells 0 0) 82 (0,0)):=by
      rw[<-sG,aE _ T.o];rfl
     have Sz:=oI.o;have hua:=aEx.o;rw[G]at Sz;have aHO:U w8 (hY na i nc).ownBlock.toList w5 (hY (H (Ad g5 0)) (i+1) c5).ownBlock.toList:=hua;obtain⟨pJ,JA⟩:=E (up w8.heap.size (β+1) D6);have kP:bA w8 D6 (λt=>t=β+1) w5 pJ:=JA▸OY.o.eW aHO rfl;have hLt:oF Uq 0 83 1 w5 pJ (β+1) (hY (H (Ad g5 0)) (i+1) c5) (bs++[nb]):=JA▸Sz.QX OY.o aHO;have aS6:bt<hJ wr.heap:=lt_of_block JJ.o.bS;have m:∀k,k<hJ wr.heap->pJ k=ρy k:=λk l=>(kP.bT k (Nat.lt_of_lt_of_le l Wp.o.size)).dd (a1E.o k l);have h5t:pJ bt=ρy bt:=m bt aS6;have HRY:ρy bt=β:=by
      rw[JJ.o.old bt (by have:=HNM.o.bS;exact lt_of_block this)];exact aUd.o
     have hMf:bA w5 pJ (λt=>t=β) wf pJ:=⟨wL.os,wL.tape,wL.output,wL.size,λk l hn=>wL.block k l (λhm=>hn (by have:k=bt:=(by simpa using hm);rw[this,h5t,HRY])),λ_ _=>rfl⟩;have uC:=λj:Nat=>aMB β j;have hEf:∀j,j<i+1->o8 wf pJ (nH β j) (ep (bs++[nb]) j 0) (eP (aB q).2 j) PS 0 0:=λj A=>by
      rw[kC,G];by_cases e:j=i
      .rw[if_pos e,e];exact(HN8.o.dg kP (uC i).1).dg hMf (uC i).2
      .rw[if_neg e];exact((HE8.o j Y).dg kP (uC j).1).dg hMf (uC j).2
     have hKf:Bd wa w6 wf q (hY da (O q.head) dc) (hY xa (O q.aD) xc) (hY a2 (O ns) c2) (hY oa (O q.aD) oc) Xe ns vG:=(HK8.o.jL (OY.o.cY w8) hua).mV T.o wL;have hLf:=hLt.eF wL (λg hg hm=>by
      have:g=bt:=by simpa using hm
      subst this;exact hLt.ne T.o D hg)
     have aMv:∀g,g∈(hY na i nc).ownBlock.toList->_<=g:=λg hg=>JJ.o.fre g (by simpa using hg);have hUU:=((JJ.o.eF.dd Wp.o.Gj).xB hua (λb W=> .inr (aMv b W))).dd wL;have HNX:=Z (aEo.mk hTf hKf hLf (by simp[G]) hEf (λk l=>(m k (Nat.lt_of_lt_of_le l JJ.o.eF.size)).dd (JJ.o.old k l)) (λg hg=>by
      rcases aHO.fresh g (by rw[hg];simp)with h'|h'
      .exact aMv g h'
      .exact Nat.le_trans (Nat.le_trans JJ.o.eF.size Wp.o.size) h') hUU)
     rw[sG];clear sG wL hTf Sz hua aHO JA kP hLt aS6 m h5t HRY hMf uC hEf hKf hLf aMv hUU t9 tf tl e9;go_wp2;go_roundg (O ns-(i+1))
     case measure=>have:=HGI.o;have:=HI.o;omega
     case rel=>exact⟨i+1,pJ,_,c5,_,by have:=HI.o;omega,rfl,by go_num,HNX.o⟩
    .obtain rfl:i=O ns:=Y;have JJ:=Z B;have HQS:=Z (lt_of_block HNM.o.bS);clear B hgi p0 p1 p2 p3 p4;go_wp2;go_ret2;have B:=JJ.o;have C:=HTG.o;have m:=B.old;have yg:O bs=O (aB q).2.aK:=B.len.dd CK.o;refine⟨bt,ρy,rfl,wU.o.dd (HWR.o.aZ B.eF (λb W=>by have:b=bt:=(by simpa using W);have:=r.o;omega)),λk l=>(m k (by have:=wU.o.size;have:=HWR.o.size;omega)).dd (aOo.o k l),?_⟩;refine⟨⟨⟨_,_,_,_,_,_,_,_,Xe,ns,vG,bs,B.bS,⟨⟨C.qt.head.later B.kp.hd.rd m,C.qt.cap,C.qt.aD.later B.kp.qo.aD.rd m,C.qt.len,λj A=>⟨(C.qt.j5 j A).1,(C.qt.j5 j A).2.later (B.kp.qo.j5 j A).2.rd m⟩,C.qt.dM⟩,
      C.aK.later B.kp.nd.n.rd m,aIw.o,λz hz=>(by obtain⟨a,c,e,-⟩:=(B.kp.nd.o z hz).len;exact⟨a,_,c,e⟩),C.mO.later B.kp.od.cY.rd m,B.kp.od.len,λj A=>(C.aGb j A).later (B.kp.od.j5 j A).rd m,B.lst.rd,yg,⟨⟨_,_,_,rfl⟩,⟨_,_,_,rfl⟩,⟨_,_,_,rfl⟩⟩⟩,
      λj A=>B.j5 j (by rw[CK.o];exact A)⟩,(m bt HQS.o).dd aUd.o⟩,aAM.o,aXP _,⟨Nat.le_refl _,Nat.zero_le _⟩,HCE.o⟩
variable{wr:aA}
theorem ZM8{P:Prop}(h:P:=by
  have JN:k<O Oj:=by rw[QE.len];exact aV
  obtain⟨ga,cap,nN,-,-,dx,-,⟨a07,ZA⟩⟩:=eJ.block QE.aD.1 (Nat.zero_lt_of_lt JN);injection nN with x1 x2 x3;subst x1;obtain⟨-,Q6⟩:=QE.j5 k aV;obtain⟨ta,tc,GA,-⟩:=Q6.len;have a1:=Ei.cell ZA D D (dx k 1 JN D);rw[show vW (ep Oj k qc) 1=(ep Oj k qc).2 from rfl,GA]at a1;rw[GA]at Q6;have i2:=Ei.cell Ew.o D D (aL Ew.o (j:=2) rfl);let⟨tl,YS⟩:=E ((ep q.aD k qc).aS);have htm:O tl<=1048576:=by rw[<-YS];exact jN (F8 aV) h.dM.aS
  rw[YS]at Q6 a1;have zT:∀g,gz (hY ta (O tl) tc)=H g->kM g=1:=λg hg=>by
   have hb:=(Eu.j5 k aV).2;rw[GA,YS]at hb;exact KW g (hb.2 g hg) (eJ.lt hb.1 g hg)
  have HCA:=(dX ZA (dx k 1 JN D));have CQ:(k:Int)<(O q.aD:Int):=Y;clear dx ZA JN x2 x3;go_upto_region 9 with(fail);clear a1 i2;go_loopg [58] (O tl) (λgg s58 wr2=>∃j:Nat,j<=O tl/\gg=O tl-j/\s58=J j/\If w4 wr2 kM 1)
  .exact⟨0,Y,rfl,rfl,Ei⟩
  obtain⟨j,hj,Ee,rfl,JP⟩:=hrel;have HGJ:=Z Ee;clear Ee;by_cases FJ:j<O tl
  .let⟨gt,aOP,bo,Xo,YW,YY,⟨cst,ZB⟩,DN⟩:=JP.has Q6.1 (Nat.zero_lt_of_lt FJ);injection bo with x1 x2 x3;subst x1;let⟨u0,c0⟩:=DN j 0 FJ D;let⟨u1,c1⟩:=DN j 1 FJ D;let⟨u2,c2⟩:=DN j 2 FJ D;let⟨u3,c3⟩:=DN j 3 FJ D;rw[pK]at c0;have a1:=JP.cell HCA.1 D D HCA.2;rw[show vW (ep Oj k qc) 1=(ep Oj k qc).2 from rfl,GA,YS]at a1;have i2:=JP.cell Ew.o D D (aL Ew.o (j:=2) rfl);have bl:=iO YW;have zM:=(JP.Jp (j:=j*4) ZB (.inl rfl) (zT gt Xo));have uW:(j:Int)<(O tl:Int):=Y;have HJ:=Z FJ;clear DN ZB Xo YW x2 x3 FJ hj;go_wp2;go_roundg (O tl-(j+1))
   .exact⟨j+1,HJ.o,rfl,eO,zM _ _ _ _⟩
   have:=HGJ.o;have:=HJ.o;omega
  .obtain rfl:j=O tl:=Y;go_wp2;go_roundg (O q.aD-(k+1))
   .exact⟨k+1,Y,rfl,eO,JP⟩
   have:=OR.o;omega):P:=h
theorem ZM33{P:Prop}(h:P:=by
  let⟨gt,aOP,bo,Xo,YW,YY,⟨cst,ZB⟩,DN⟩:=JP.has QE.head.1 (Nat.zero_lt_of_lt FJ);injection bo with x1 x2 x3;subst x1;let⟨u0,c0⟩:=DN j 0 FJ D;rw[wZ,pK]at c0;have i1:=JP.cell Ew.o D D (aL Ew.o (j:=1) rfl);have bl:=iO YW;have zM:=(λv=>JP.set (j:=j) ZB (.inr rfl) (KW gt (Eu.head.2 gt Xo) (eJ.lt Eu.head.1 gt Xo)) v);have uW:(j:Int)<(O q.head:Int):=Y;have HJ:=Z FJ;clear DN ZB Xo YW x2 x3 FJ hj;go_wp2;go_roundg (O q.head-(j+1))
  .exact⟨j+1,HJ.o,rfl,eO,zM _⟩
  have:=HGJ.o;have:=HJ.o;omega):P:=h
theorem ZM49{P:Prop}(h:P:=by
  rcases hT with⟨rfl,rfl⟩|⟨g,cap,cur,rfl,hg,hn,hm,hs,dF⟩
  .omega
  .let⟨An,h2,h3⟩:=h.fJ g cur e hg;refine⟨g,cap,rfl,rfl,cV h3,aM h3,⟨cur,hg⟩,λi j hi hj=> ?_⟩;have:=dF i j hi hj;have aV:=(Array.getElem?_eq_some_iff.1 this).1;exact⟨_,aL h3 (Array.getElem?_eq_getElem (h2▸aV))⟩):P:=h
theorem ZM67{P:Prop}(h:P:=by
  by_cases e:k=g
  .subst e;let⟨c2,h2,h3⟩:=h.fJ k An T' hk;exact⟨_,by rw[Array.size_setIfInBounds];exact h2,aE v h3⟩
  .rw[Iw wr (Ad g j) k v (λe'=>e e')];exact h.fJ k An T' hk):P:=h
structure If(w wr:aA)(ρ:aW)(t:Nat):Prop where
 eW:bA w ρ (λx=>x=t) wr ρ
 th:∀(k:Nat) (cs:Array aF) (T:ap),w.heap[k]? =H (h8 cs T (0,0))->T≠67->T≠9->wr.heap[k]? =w.heap[k]?
 fJ:∀(k:Nat) (cs:Array aF) (T:ap),w.heap[k]? =H (h8 cs T (0,0))->∃cs',cs'.size=cs.size/\wr.heap[k]? =H (h8 cs' T (0,0))
theorem If.refl(w:aA)(ρ:aW)(t:Nat):If w w ρ t:=⟨bA.refl _ _ _,λ_ _ _ _ _ _=>rfl,λk cs T h=>⟨cs,rfl,h⟩⟩
theorem If.set{t:Nat}(h:If w wr ρ t){T:ap}(b:w.heap[g]? =H (h8 cs T (0,0)))(c:T=67\/T=9)(i:ρ g=t)(v:aF):If w (ey wr ⟨g,j,K⟩ v) ρ t:=by
 let⟨n,m,d⟩:=h.fJ g cs T b;refine⟨h.eW.setCell (.inl i) v,λk An T' hk a n2=> ?_,λk An T' hk=> ?_⟩
 .have l:k≠g:=λe=>by
   subst e;rw[b]at hk;injection hk with hk;injection hk with _ hk;subst hk;rcases c with e|e
   .exact a e
   .exact n2 e
  rw[Iw wr (Ad g j) k v (λe=>l e)];exact h.th k An T' hk a n2
 .exact ZM67
theorem If.cell{t:Nat}(h:If w wr ρ t){k:Nat}{T:ap}(a:w.heap[k]? =H (h8 cs T (0,0)))(c:T≠67)(d:T≠9)(b:e7 w ⟨k,j,K⟩=H v):e7 wr ⟨k,j,K⟩=H v:=
 (World.cell?_of_block (h.th k cs T a c d)).dd b
theorem If.has{t:Nat}(h:If w wr ρ t){e:ap}{c:Nat->Nat->aF}(hT:eJ w v e sz n c)(a:0<n):
  ∃g cap,v=hY (H ⟨g,0,K⟩) n cap/\gz v=H g/\g<hJ wr.heap/\(∀j,wr.frozen? ⟨g,j,K⟩=po)/\(∃cs,w.heap[g]? =H (h8 cs e (0,0)))/\∀i j,i<n->j<sz->∃u,e7 wr ⟨g,i*sz+j,K⟩=H u:=by
 exact ZM49
theorem If.Jp{t:Nat}(h:If w wr ρ t){T:ap}(b:w.heap[g]? =H (h8 cs T (0,0)))(a:T=67\/T=9)(c:ρ g=t)(x0 x1 x2 x3:aF):
  If w (ey (ey (ey (ey wr ⟨g,j,K⟩ x0) ⟨g,j+1,K⟩ x1) ⟨g,j+2,K⟩ x2) ⟨g,j+3,K⟩ x3) ρ t:=
 (((h.set b a c x0).set b a c x1).set b a c x2).set b a c x3
theorem bA.aQq{S:Nat->Prop}(h:bA w ρ S w' bN)(b:∀k,k<hJ w.heap->¬S (ρ k)):bA w ρ eL w' bN:=⟨h.os,h.tape,h.output,h.size,λk a _=>h.block k a (b k a),h.bT⟩
theorem wG.dg{cells:Nat}{t:iZ}{S:Nat->Prop}(h:wG w ρ β b q cells t F G)(d:bA w ρ S w' bN)(a:∀x,β<=x->¬S x):wG w' bN β b q cells t F G:=
 ⟨h.bd.dg d (a _ (fV _)) (a _ Y) (λi c _ _=>a _ (by unfold nH;omega)),h.ok,h.Oi,h.num,h.cel⟩
theorem bA.aBe{S:Nat->Prop}(h:bA w ρ S w' bN)(b:∀k,k<hJ w.heap->¬S (ρ k)):U w [] w' []:=⟨h.os,h.tape,h.output,h.size,λk a _=>h.block k a (b k a),X⟩
def Iu(w:aA)(ρ:aW)(t d:Nat)(n:Nat):Prop:=∃cs a c,w.heap[d]? =H (h8 cs 48 (0,0))/\cs[5]? =H (hY a n c)/\ρ d=t
theorem Iu.dg{t d:Nat}{S:Nat->Prop}(h:Iu w ρ t d n)(b:bA w ρ S w' bN)(i:¬S t):Iu w' bN t d n:=by
 obtain⟨cs,a,c,g,j,e⟩:=h;exact⟨cs,a,c,b.aC g (e▸i),j,(b.bT d (cV g)).dd e⟩
theorem Kr(β cells:Nat)(h:B9 w hv av ps q)(hw:Tz w)(h0:(aB q).1=0)(Lt:1<=cells/\cells<=65536)(JL:∀k,k<hJ w.heap->ρ k=0)(hβ:10<=β):
  aH prog 6 #[.agg #[j3 q.name,hv,av],i6 i7 (cells:Int)] w λe w'=>∃b d bN,e=i5 (i8 #[h9 (H ⟨b,0,K⟩),h9 (H ⟨d,0,K⟩),j4 oj])/\bA w ρ eL w' bN/\wG w' bN β b q cells TD 0 0/\Iu w' bN 2 d (O (aB q).2.aK):=by
 obtain⟨ha,hc,rfl,-⟩:=h.head.len;obtain⟨aa,ac,rfl,-⟩:=h.aD.len;have p:=h.len;rw[p]at h|-;let⟨wa,dE⟩:=E (e8 w (h8 #[j3 q.name,hY ha (O q.head) hc,hY aa (O q.aD) ac] 25));let⟨bq,CR⟩:=E (hJ w.heap);have V:=Za dE;have kB:=Ze dE CR;obtain⟨b0,f,b2⟩:=Z3 kB;have HC:=Z h0;have aOo:=Z JL;have HBW:=Z CR;clear p h0 JL;go_in;go_upto_region 2 with(first
  |(go_at_call 13;apply(M0 _ _ ps q wa (h.on V)).cF;rintro e w1 ⟨AO,av',Oj,rfl,Q,cM⟩;obtain⟨da,dc,rfl,-⟩:=Q.head.len;obtain⟨ea,ec,e1,-⟩:=Q.aD.len;rw[Q.len]at e1;subst e1;have oN:=(V.dd cM)))
 let⟨wb,P⟩:=E (e8 w1 (h8 #[j3 q.name,hY da (O q.head) dc,hY ea (O q.aD) ec] 25));let⟨bi,A⟩:=E (hJ w1.heap);have R:=Za P;have o:=Ze P A;rw[P,A];obtain⟨N,i1,i2⟩:=Z3 o;have B:=(oN.dd R);have Eu:=(Q.on R);have u:=(((cM.dd R).aC kB X));have HN:=Z (WO (ρ:=up w.heap.size 1 ρ) β cells (Eu.qin h.dM) Eu.head.Vf (hw.on B) HC.o Lt);clear R b0 f b2 dE P A;go_upto_region 3 with(first
  |(go_at_call 14;apply HN.o.cF;rintro e w2 ⟨bt,fB,rfl,i,n,hT⟩;have aOt:=Z n;have b0:=i.cell (aL u (j:=0) rfl) X;have f:=i.cell (aL u (j:=1) rfl) X;have b2:=i.cell (aL u (j:=2) rfl) X;clear n))
 have HD:=(zj (w:=w2) cells (h.on (B.dd i)) HC.o Lt hT.ok.few);go_upto_region 4 with(first
  |(go_at_call 15;apply HD.cF;rintro e w3 ⟨d,rfl,hD,l⟩;have G:=(i.dd l).cell N X;have s:=(i.dd l).cell i1 X;have L:=(i.dd l).cell i2 X;have W:=l.cell b0 X;have b1':=l.cell f X;have b2':=l.cell b2 X;clear N i1 i2 b0 f b2))
 have R3:=(Rc _ _ _ _ Oj ps q w3 ((Eu.on (i.dd l)).qin h.dM) (h.on (B.dd (i.dd l))));go_upto_region 5 with(first
  |(go_at_call 16;apply R3.cL;intro w4 r;have N:=r.cell G X;have i1:=r.cell s X;have i2:=r.cell L X;clear G s L W b1' b2'))
 let⟨kM,lO⟩:=E (up w2.heap.size 2 fB);have y:bA w2 fB eL w4 kM:=lO▸(l.dd r).eW (S:=eL) 2 (λ_ h=>dS h X);have Hk:=hT.dg y zE;have z:∀k,k<hJ wb.heap->kM k=up w.heap.size 1 ρ k:=λk m=>(y.bT k (wM m i.size)).dd (aOt.o k m);have T:Iu w4 kM 2 d (O (aB q).2.aK):=by
  obtain⟨⟨EZ,av2,ps2,v0,v1,v2,v4,a,c,lv,e,hb,-⟩,wV⟩:=hD;refine⟨_,a,c,r.aC hb X,?_,by rw[<-lO];exact cJ wV⟩;rw[e];rfl
 have aEB:bA w ρ (λx=>x=1) w4 kM:=by
  have C:=B.dd (i.dd (l.dd r));exact⟨C.os,C.tape,C.output,C.size,λk m _=>C.block k m X,λk m=>(z k (wM m B.size)).dd (eN m)⟩
 have QE:=Eu.on (i.dd (l.dd r));have F:=(i.dd (l.dd r)).aC o X;have KW:∀g,hJ wa.heap<=g->g<hJ wb.heap->kM g=1:=λg h1 h2=>(z g h2).dd (cJ (jN V.size h1));have Ew:=Z F;have nU:=h.dM;have I6:=nU.aD;have hh6:=nU.head;clear lO y z F nU N;go_upto_region 6 with(fail);clear i1 i2;go_loopg [48] (O q.aD) (λgg s48 wr=>∃k:Nat,k<=O q.aD/\gg=O q.aD-k/\s48=J k/\If w4 wr kM 1)
 .exact⟨0,Y,rfl,rfl,If.refl _ _ _⟩
 obtain⟨k,m,CY,rfl,Ei⟩:=hrel;have OR:=Z CY;clear CY;by_cases aV:k<O q.aD
 .exact ZM8
 .obtain rfl:k=O q.aD:=Y;have i1:=Ei.cell Ew.o D D (aL Ew.o (j:=1) rfl);go_upto_region 15 with(fail);clear i1;go_loopg [75] (O q.head) (λgg s75 wr2=>∃j:Nat,j<=O q.head/\gg=O q.head-j/\s75=J j/\If w4 wr2 kM 1)
  .exact⟨0,Y,rfl,rfl,Ei⟩
  obtain⟨j,hj,Ee,rfl,JP⟩:=hrel;have HGJ:=Z Ee;clear Ee;by_cases FJ:j<O q.head
  .exact ZM33
  .obtain rfl:j=O q.head:=Y;go_wp2;refine mD (results_tmp3 rfl _ _ _) rfl ?_;have hS:∀x,β<=x->¬x=1:=λx hx=>Y;exact⟨bt,d,kM,rfl,(aEB.dd JP.eW).aQq (λk m=>by rw[aOo.o k m];decide),Hk.dg JP.eW hS,T.dg JP.eW D⟩
theorem Y2(cells:Int)(h:B9 w hv av ps q)(hw:Tz w)(he:kS q cells≠0):
  aH prog 6 #[.agg #[j3 q.name,hv,av],i6 i7 cells] w λe w'=>e=i5 (i8 #[h9 K,h9 K,j4 oj])/\U w [] w' []:=by
 obtain⟨ha,hc,rfl,-⟩:=h.head.len;obtain⟨aa,ac,rfl,-⟩:=h.aD.len;have d:=h.len;rw[d]at h|-;let⟨wa,T⟩:=E (e8 w (h8 #[j3 q.name,hY ha (O q.head) hc,hY aa (O q.aD) ac] 25));let⟨bq,CR⟩:=E (hJ w.heap);have L:=Za T;have kB:=Ze T CR;obtain⟨b0,C,b2⟩:=Z3 kB;have S:=Z he;have HBW:=Z CR;clear d he;go_in;go_upto_region 2 with(first
  |(go_at_call 13;apply(M0 _ _ ps q wa (h.on L)).cF;rintro e w1 ⟨AO,av',Oj,rfl,G,cM⟩;obtain⟨da,dc,rfl,-⟩:=G.head.len;obtain⟨ea,ec,e1,-⟩:=G.aD.len;rw[G.len]at e1;subst e1;have oN:=(L.dd cM)))
 let⟨wb,F⟩:=E (e8 w1 (h8 #[j3 q.name,hY da (O q.head) dc,hY ea (O q.aD) ec] 25));let⟨bi,m⟩:=E (hJ w1.heap);have o:=Za F;have u:=Ze F m;rw[F,m];obtain⟨B,i1,i2⟩:=Z3 u;have A:=(oN.dd o);have Eu:=(G.on o);have i:=(((cM.dd o).aC kB X));have HN:=Z (Qd cells (Eu.qin h.dM) Eu.head.Vf (hw.on A) S.o);generalize l:kS q cells=c at HN;have g1:(c==0)=po:=by rw[G9,<-l];exact S.o
 have s:=Z l;clear o b0 C b2 T F m l;go_upto_region 3 with(first
  |(go_at_call 14;apply HN.o.cL;intro w2 a;have b0:=a.cell (aL i (j:=0) rfl) X;have C:=a.cell (aL i (j:=1) rfl) X;have b2:=a.cell (aL i (j:=2) rfl) X))
 have HD:=(gi (w:=w2) cells (h.on (A.dd a)) S.o);rw[s.o]at HD;go_upto_region 4 with(first
  |(go_at_call 15;apply HD.cL;intro w3 b;have r:=(a.dd b).cell B X;have y:=(a.dd b).cell i1 X;have z:=(a.dd b).cell i2 X;have N:=b.cell b0 X;have R:=b.cell C X;have P:=b.cell b2 X;clear B i1 i2 b0 C b2))
 go_upto_region 5 with(first
  |(go_at_call 16;apply ((Rc _ _ _ _ Oj ps q w3 ((Eu.on (a.dd b)).qin h.dM) (h.on (A.dd (a.dd b))))).cL;intro w4 n;have B:=n.cell r X;have i1:=n.cell y X;have i2:=n.cell z X;clear r y z N R P))
 let⟨kM,f⟩:=E (up w.heap.size 1 (λ_=>0));have aEB:bA w (λ_=>0) (λx=>x=1) w4 kM:=f▸(A.dd (a.dd (b.dd n))).eW 1 (λ_ h=>dS h X);have QE:=Eu.on (a.dd (b.dd n));have p:=(a.dd (b.dd n)).aC u X;have KW:∀g,hJ wa.heap<=g->g<hJ wb.heap->kM g=1:=λg h1 _=>by rw[<-f];exact cJ (jN L.size h1)
 have Ew:=Z p;have V:=h.dM;have I6:=V.aD;have hh6:=V.head;clear f p V B;go_upto_region 6 with(fail);clear i1 i2;go_loopg [48] (O q.aD) (λgg Q wr=>∃k:Nat,k<=O q.aD/\gg=O q.aD-k/\Q=J k/\If w4 wr kM 1)
 .exact⟨0,Y,rfl,rfl,If.refl _ _ _⟩
 obtain⟨k,hk,CY,rfl,Ei⟩:=hrel;have OR:=Z CY;clear CY;by_cases aV:k<O q.aD
 .exact ZM8
 .obtain rfl:k=O q.aD:=Y;have i1:=Ei.cell Ew.o D D (aL Ew.o (j:=1) rfl);go_upto_region 15 with(fail);clear i1;go_loopg [75] (O q.head) (λgg W wr2=>∃j:Nat,j<=O q.head/\gg=O q.head-j/\W=J j/\If w4 wr2 kM 1)
  .exact⟨0,Y,rfl,rfl,Ei⟩
  obtain⟨j,hj,Ee,rfl,JP⟩:=hrel;have HGJ:=Z Ee;clear Ee;by_cases FJ:j<O q.head
  .exact ZM33
  .obtain rfl:j=O q.head:=Y;go_wp2;refine mD (results_tmp3 rfl _ _ _) rfl ?_;exact⟨rfl,(aEB.dd JP.eW).aBe (λk hk=>D)⟩
variable{most ub:Nat}{V0:Nat->List Row}{W:kH}
structure UM(w:aA)(ρ:aW)(β M n:Nat)(V0:Nat->List Row)(most:Nat):Prop where
 ex:∃m c,fW w 3 M m c/\c<=most/\∀i,i<n->∃bX:List aF,oF ID undef 33 1 w ρ (β+200+i) ((m (.int i7 (i:Int))).getD (hY K 0 0)) bX/\O bX=O (V0 i)/\
  ∀j,j<O (V0 i)->mK dR aP 3 w ρ (β+3) (bX.getD j undef) ((V0 i).getD j [])
 bT:ρ M=β+4
theorem UM.dg{M:Nat}{S:Nat->Prop}(h:UM w ρ β M n V0 most)(a:bA w ρ S w' bN)(u:¬S (β+4))(q:¬S (β+3))(g:∀i,i<n->¬S (β+200+i)):UM w' bN β M n V0 most:=by
 obtain⟨m,c,d,r,p⟩:=h.ex;refine⟨⟨m,c,d.dg a (h.bT▸u),r,λi b=> ?_⟩,(a.bT _ d.lt).dd h.bT⟩;let⟨bX,l,e,x⟩:=p i b;exact⟨bX,l.dg a (g i b),e,λj v=>(x j v).dg a q⟩
def kY(b:Nat)(dL:Nat)(u0 u1 u2 u4:aF)(add:Bool)(aQ cnt M:Nat):Array aF:=
 #[h9 (H ⟨b,0,K⟩),u0,u1,u2,i6 i7 (dL:Int),u4,j4 add,i6 i7 (aQ:Int),i6 i7 (cnt:Int),.map (H M)]
structure wD(w:aA)(ρ:aW)(β b ub M:Nat)(q:bB)(add:Bool)(aQ cnt:Nat):Prop where
 ex:∃u0 u1 u2 u4 ns,w.heap[ub]? =H (h8 (kY b (aB q).2.dL u0 u1 u2 u4 add aQ cnt M) 107 (0,0))/\mK oE qc 7 w ρ (β+1) u2 ns/\ns.map (·.1)=(aB q).2.aK/\(∀x,x∈ns->∃a n c,x.2=hY a n c)/\
  (∃a n c,u0=hY a n c)/\(∃a n c,u1=hY a n c)/\∃a n c,u4=hY a n c
 bT:ρ ub=β+2
theorem wD.dg{M:Nat}{aQ cnt:Nat}{S:Nat->Prop}(h:wD w ρ β b ub M q add aQ cnt)(a:bA w ρ S w' bN)(g:¬S (β+1))(i:¬S (β+2)):wD w' bN β b ub M q add aQ cnt:=by
 obtain⟨u0,u1,u2,u4,ns,c,e,d⟩:=h.ex;exact⟨⟨u0,u1,u2,u4,ns,a.aC c (h.bT▸i),e.dg a g,d⟩,(a.bT _ (cV c)).dd h.bT⟩
structure fF(w:aA)(ρ:aW)(β b ub M:Nat)(q:bB)(cells st ls:Nat)(add:Bool)(W:kH)(F G:Nat):Prop where
 bd:fR w ρ β b q cells st ls W.T F G
 ub:wD w ρ β b ub M q add W.aQ (W.count (O (aB q).2.aK))
 V0:UM w ρ β M (O (aB q).2.aK) W.touched (W.count (O (aB q).2.aK))
 ok:qm q
theorem fF.dg{M cells ls:Nat}{S:Nat->Prop}(h:fF w ρ β b ub M q cells st ls add W F G)(d:bA w ρ S w' bN)(a:∀c,c<5->¬S (β+c))(j:∀i,i<42->¬S (β+200+i))(l:∀i c,i<42->c<80->¬S (nH β i+c)):fF w' bN β b ub M q cells st ls add W F G:=by
 have m:=h.ok.few;exact⟨h.bd.dg d (a 0 Y) (a 1 Y) (λi c e g=>l i c Y g),h.ub.dg d (a 1 Y) (a 2 Y),h.V0.dg d (a 4 Y) (a 3 Y) (λi e=>j i Y),h.ok⟩
theorem fF.on{M cells ls:Nat}(h:fF w ρ β b ub M q cells st ls add W F G)(a:U w [] w' L'):fF w' ρ β b ub M q cells st ls add W F G:=
 h.dg (S:=eL) a.fK zE zE (λ_ _ _ _ h=>h)
variable{e s' τ:Nat}
def DoW(β aU x:Nat):Prop:=eZ (nH β aU) x\/x=β+2\/x=β+4\/x=β+200+aU
def LpW(β aU x:Nat):Prop:=x=β+2\/x=β+4\/x=β+200+aU
theorem MY(l ts:List Row)(x:Row):dO l (ts++[x])=if x∈dO l ts then dO l ts else dO l ts++[x]:=by
 unfold dO;rw[kr];rfl
theorem Jh(l ts a:List Row):dO l (ts++a)=dO (dO l ts) a:=by
 unfold dO;rw[kr]
def pY(W:kH)(T:iX)(aU:Nat)(l:List Row):kH:=⟨T,W.aQ,λi=>if i=aU then l else W.touched i⟩
theorem rB(W:kH)(T:iX){aU:Nat}(a:aU<n)(l:List Row):(pY W T aU l).count n+O (W.touched aU)=W.count n+O l:=W.SP T W.aQ a l
def aF4(w:aA)(ρ:aW)(β b ub M:Nat)(q:bB)(cells st ls:Nat)(add:Bool)(F G aU:Nat)(d:kH×List Row×Nat×Nat)(e:cg)(w':aA):Prop:=
 ∃bN fv tO,e=i5 (i8 #[fv,i6 i7 (d.2.2.1:Int),i6 i7 (d.2.2.2:Int)])/\bA w ρ (DoW β aU) w' bN/\fF w' bN β b ub M q cells st ls add d.1 F G/\(tO=β+3\/tO=nH β aU+97)/\iN w' bN tO (β+3) fv d.2.1
theorem Mx{P:DS}{w:kH}{aU:Nat}{n:gK}{m:SV}(h:jA add (P.spec aU) (w.T aU) sd r= .ok (n,m)):fU P add w aU sd r=(pY w (E5 w.T aU n) aU (dO (w.touched aU) m.touched),m.kK,O m.touched,0):=by
 unfold fU;rw[h];rfl
theorem py{P:DS}{w:kH}{aU:Nat}(h:jA add (P.spec aU) (w.T aU) sd r= .error e):fU P add w aU sd r=(w,[],0,e):=by
 unfold fU;rw[h]
theorem eZ.zW(h:eZ τ x):τ+1<=x/\x<τ+80:=by unfold eZ eG at h;omega
theorem fR.EF{cells ls:Nat}(h:fR w ρ β b q cells st ls T F G)(m:i<O (aB q).2.aK):
  ∃nb go oo co,e7 w ⟨b,9,K⟩=H (hY (H ⟨go,oo,K⟩) (O (aB q).2.aK) co)/\e7 w ⟨go,oo+i,K⟩=H (h9 (H ⟨nb,0,K⟩))/\o8 w ρ (nH β i) nb (eP (aB q).2 i) (T i) F G/\
   ∀w' bN n' (_:bA w ρ (eZ (nH β i)) w' bN) (_:O (aB q).2.aK<=42) (_:o8 w' bN (nH β i) nb (eP (aB q).2 i) n' F G),fR w' bN β b q cells st ls (E5 T i n') F G:=by
 obtain⟨hv,av,v0,v1,v2,v4,nv,ov,ps,ns,vG,bs,g,d,u⟩:=h.ex;obtain⟨go,oo,co,r,-,n⟩:=eX.aU d.nds.1 (i:=i) (d.ndn▸m);have c0:=n 0 D;simp only[wZ,pK,Uq]at c0;rw[d.ndn]at r;refine⟨ep bs i 0,go,oo,co,?_,c0,u i m,λw' bN n' a z v=> ?_⟩
 .have p:=g;unfold gQ at p;rw[<-r];exact aL p (j:=9) rfl
 .have f:=λx (A:eZ (nH β i) x)=>eZ.zW A;have B:¬eZ (nH β i) (β+1):=λl=>by have:=f _ l;unfold nH at this;omega
  refine⟨⟨hv,av,v0,v1,v2,v4,nv,ov,ps,ns,vG,bs,a.aC g (by rw[h.bT];exact λl=>by have:=f _ l;unfold nH at this;omega),d.dg a B,λj C=> ?_⟩,(a.bT _ (cV g)).dd h.bT⟩;by_cases e:j=i
  .subst e;rw[kZ];exact v
  .rw[nX _ _ e];exact(u j C).dg a (λc n=>vb (λy=>e y.symm) Y)
theorem wD.cells{M:Nat}{aQ cnt:Nat}(h:wD w ρ β b ub M q add aQ cnt):
  e7 w ⟨ub,0,K⟩=H (h9 (H ⟨b,0,K⟩))/\e7 w ⟨ub,6,K⟩=H (j4 add)/\e7 w ⟨ub,7,K⟩=H (i6 i7 (aQ:Int))/\e7 w ⟨ub,8,K⟩=H (i6 i7 (cnt:Int))/\e7 w ⟨ub,9,K⟩=H (.map (H M))/\ub<hJ w.heap/\w.frozen? ⟨ub,7,K⟩=po/\w.frozen? ⟨ub,8,K⟩=po:=by
 obtain⟨u0,u1,u2,u4,ns,a,-⟩:=h.ex;unfold kY at a;have c:=aM a;exact⟨aL a (j:=0) rfl,aL a (j:=6) rfl,aL a (j:=7) rfl,aL a (j:=8) rfl,aL a (j:=9) rfl,cV a,c 7,c 8⟩
theorem wD.K3{M:Nat}{aQ cnt:Nat}(h:wD w ρ β b ub M q add aQ cnt):wD (ey w ⟨ub,7,K⟩ (i6 i7 (s':Int))) ρ β b ub M q add s' cnt:=by
 obtain⟨u0,u1,u2,u4,ns,a,e,d⟩:=h.ex;have c:U w [ub] (ey w (Ad ub 7) (It s')) [ub]:=pX w ub 7 _;have i:bA w ρ (·=β+2) (ey w (Ad ub 7) (It s')) ρ:=c.p9 (λk g=> .inl ((show k=ub by simpa using g)▸h.bT));refine⟨⟨u0,u1,u2,u4,ns,?_,e.dg i Y,d⟩,h.bT⟩;rw[aE _ a];rfl
theorem wD.fP{M:Nat}{aQ cnt:Nat}(h:wD w ρ β b ub M q add aQ cnt):wD (ey w ⟨ub,8,K⟩ (i6 i7 (s':Int))) ρ β b ub M q add aQ s':=by
 obtain⟨u0,u1,u2,u4,ns,a,e,d⟩:=h.ex;have c:U w [ub] (ey w (Ad ub 8) (It s')) [ub]:=pX w ub 8 _;have i:bA w ρ (·=β+2) (ey w (Ad ub 8) (It s')) ρ:=c.p9 (λk g=> .inl ((show k=ub by simpa using g)▸h.bT));refine⟨⟨u0,u1,u2,u4,ns,?_,e.dg i Y,d⟩,h.bT⟩;rw[aE _ a];rfl
variable{er:Nat}
section
theorem ZM79{P:Prop}(h:P:=by
  go_ret3;have hT:=HH.Je hM rQ FN;rw[Fg]at hT;exact⟨dN,cH,β+3,rfl,(hM.aN (λ_=>W6)).alloc _,hT.on ((U.refl _ []).alloc _),.inl rfl,iN.nil _ _ _ _⟩):P:=h
theorem WN{add:Bool}{s:mC}{n:gK}(h:jA add s n sd r= .error e):e=191\/e=192\/e=31:=by
 cases add with
 |true=>
  simp only[jA,uN]at h;unfold KJ at h;repeat' split at h
  all_goals first|cases h;done|(injection h with h;subst h;simp)
 |false=>
  simp only[jA,UV,zF]at h;unfold sU at h;repeat' split at h
  all_goals first|cases h;done|(injection h with h;subst h;simp)
theorem Fg(W:kH)(aU:Nat):pY W (E5 W.T aU (W.T aU)) aU (W.touched aU)=W:=by
 cases W with
 |mk T s V0=>
  unfold pY E5;simp only[kH.mk.injEq,true_and];constructor
  .funext j;split
   .rename_i h;rw[h]
   .rfl
  .funext j;split
   .rename_i h;rw[h]
   .rfl
theorem P5(W:kH)(T:iX)(aU:Nat):(pY W T aU (W.touched aU)).touched=W.touched:=by
 unfold pY;funext j;simp only;split
 .rename_i h;rw[h]
 .rfl
theorem Fh(W:kH)(T:iX)(aU n:Nat):(pY W T aU (W.touched aU)).count n=W.count n:=by
 unfold kH.count;rw[P5]
section
variable{w w1:aA}{ρ dN:aW}{β b ub M cells st ls F G aU nb:Nat}{q:bB}{add:Bool}{W:kH}{n':gK}
theorem fF.Je(h:fF w ρ β b ub M q cells st ls add W F G)(a:bA w ρ (eZ (nH β aU)) w1 dN)(d:o8 w1 dN (nH β aU) nb (eP (aB q).2 aU) n' F G)(e:∀w' bN n' (_:bA w ρ (eZ (nH β aU)) w' bN) (_:O (aB q).2.aK<=42) (_:o8 w' bN (nH β aU) nb (eP (aB q).2 aU) n' F G),fR w' bN β b q cells st ls (E5 W.T aU n') F G):
  fF w1 dN β b ub M q cells st ls add (pY W (E5 W.T aU n') aU (W.touched aU)) F G:=by
 have zW:∀x,x<β+1000->¬eZ (nH β aU) x:=λx l c=>by have:=O2 c;omega
 refine⟨e _ _ _ a h.ok.few d,?_,?_,h.ok⟩
 .rw[Fh];exact h.ub.dg a (zW _ Y) (zW _ Y)
 .rw[P5,Fh];have j:=h.ok.few;exact h.V0.dg a (zW _ Y) (zW _ Y) (λi g=>zW _ Y)
end
theorem W6{β aU:Nat}(h:eZ (nH β aU) x):DoW β aU x:= .inl h
theorem PR{β aU:Nat}(h:x<β+1000)(d:x≠β+2)(c:x≠β+4)(b:x≠β+200+aU):¬DoW β aU x:=λa=>by
 rcases a with a|a|a|a
 .have:=O2 a;omega
 .exact d a
 .exact c a
 .exact b a
theorem aIT{w:aA}{ρ:aW}{β b ub M cells st ls F G aU tr:Nat}{q:bB}{W:kH}(sd:Bool)(h:fF w ρ β b ub M q cells st ls oj W F G)(m:aU<O (aB q).2.aK)(hv:mK dR aP 3 w ρ tr rv r)(i:¬eZ (nH β aU) tr)(j:pR (eP (aB q).2 aU) sd r)(l:if oj=oj then F+1<=G else G<=F)(y:G<1073741824)(a:KJ (eP (aB q).2 aU) (W.T aU) sd r= .error er):
  aH prog 40 #[h9 (H ⟨ub,0,K⟩),i6 i7 (aU:Int),i6 i7 (C7 sd),rv] w (aF4 w ρ β b ub M q cells st ls oj F G aU (fU (bJ (aB q).2) oj W aU sd r)):=by
 have hd:fU (bJ (aB q).2) oj W aU sd r=(W,[],0,er):=py (by show jA oj (eP (aB q).2 aU) _ _ _=_;simpa[jA]using a);have n:((er:Int)==0)=po:=by
  have:=WN (add:=oj) (s:=eP (aB q).2 aU) (by simpa[jA]using a);rw[show((0:Int))=((0:Nat):Int)from rfl,dA];exact jO Y
 rw[hd];let⟨nb,gn,on,A,u,v,d,FN⟩:=h.bd.EF m;obtain⟨z,x,-,-,-,-,-⟩:=h.ub.cells;have c:=Z (aCU (t:=β+3) sd d hv i j (eI l) Y (by unfold nH;omega));rw[a]at c;obtain⟨B,rc,rfl,-⟩:=hv.1.len;have eg:=enters_of func80 dB rfl;have g:(aU:Int)<(O (aB q).2.aK:Int):=Y;have HH:=Z h;go_in;go_wp2_with (go_at_call 80;apply c.cF;rintro e w1 ⟨dN,hM,rfl,p⟩;unfold zS;have rQ:=Z p);exact ZM79
theorem aE2{w:aA}{ρ:aW}{β b ub M cells st ls F G aU tr:Nat}{q:bB}{W:kH}(sd:Bool)(h:fF w ρ β b ub M q cells st ls po W F G)(m:aU<O (aB q).2.aK)(hv:mK dR aP 3 w ρ tr rv r)(i:¬eZ (nH β aU) tr)(j:pR (eP (aB q).2 aU) sd r)(l:if po=oj then F+1<=G else G<=F)(y:G<1073741824)(a:sU (eP (aB q).2 aU) (W.T aU) sd r= .error er):
  aH prog 40 #[h9 (H ⟨ub,0,K⟩),i6 i7 (aU:Int),i6 i7 (C7 sd),rv] w (aF4 w ρ β b ub M q cells st ls po F G aU (fU (bJ (aB q).2) po W aU sd r)):=by
 have hd:fU (bJ (aB q).2) po W aU sd r=(W,[],0,er):=py (by show jA po (eP (aB q).2 aU) _ _ _=_;simpa[jA]using a);have n:((er:Int)==0)=po:=by
  have:=WN (add:=po) (s:=eP (aB q).2 aU) (by simpa[jA]using a);rw[show((0:Int))=((0:Nat):Int)from rfl,dA];exact jO Y
 rw[hd];let⟨nb,gn,on,A,u,v,d,FN⟩:=h.bd.EF m;obtain⟨z,x,-,-,-,-,-⟩:=h.ub.cells;have c:=Z (mq (t:=β+3) sd d hv i j (eI l) Y (by unfold nH;omega));rw[a]at c;obtain⟨B,rc,rfl,-⟩:=hv.1.len;have eg:=enters_of func79 dB rfl;have g:(aU:Int)<(O (aB q).2.aK:Int):=Y;have HH:=Z h;go_in;go_wp2_with (go_at_call 79;apply c.cF;rintro e w1 ⟨dN,hM,rfl,p⟩;unfold zS;have rQ:=Z p);exact ZM79
end
theorem UM.t6{M:Nat}(h:UM w ρ β M n V0 most)(G:i<n)(V:n<=1000000):
  ∃a c,∃bX:List aF,M<hJ w.heap/\oF ID undef 33 1 w ρ (β+200+i) (hY a (O (V0 i)) c) bX/\O bX=O (V0 i)/\(∀j,j<O (V0 i)->mK dR aP 3 w ρ (β+3) (ep bX j undef) (ep (V0 i) j []))/\
   (∀w',w'.heap[M]? =w.heap[M]?->(Instr.lookup 105 (.map (H M)) (.int i7 (i:Int)) po).run prog w'= .ok (hY a (O (V0 i)) c) w')/\
   (∀w' bN (v':aF) (g:List aF) (l:List Row),bA w ρ (LpW β i) w' bN->w'.heap[M]? =w.heap[M]?->oF ID undef 33 1 w' bN (β+200+i) v' g->O g=O l->(∀j,j<O l->mK dR aP 3 w' bN (β+3) (ep g j undef) (ep l j []))->most<bw->
    ∃b,(Instr.mapUpdate 105 (.map (H M)) (.int i7 (i:Int)) v').run prog w'= .ok () b/\U w' [M] b [M]/\UM b bN β M n (λj=>if j=i then l else V0 j) (most+1)):=by
 obtain⟨m,c,d,hc,A⟩:=h.ex;let⟨bX,C,B,P⟩:=A i G;obtain⟨a,cap,e,-⟩:=C.len;rw[B]at e;have T:∀w,(zeroValue 70).run prog w= .ok cH w:=λ_=>by kernel_rfl
 refine⟨a,cap,bX,d.lt,by rw[<-e];exact C,B,P,λw' L=> ?_,λw' bN v' g l q y s hl Q W=> ?_⟩
 .rw[<-e];exact(d.qg L).t6 mH underlying105 (T w') (Maps.keyOf_int_mk underlying3 (yQ Y))
 .have r:fW w' 3 M m c:=d.qg y;let⟨b,F,v,z⟩:=r.put mH underlying105 Y (gH:= .int i7 (i:Int)) (kl:= .int i7 (i:Int)) (Maps.keyOf_int_mk underlying3 (yQ Y)) (by trivial) v';refine⟨b,F,z,⟨_,_,v,?_,λj x=> ?_⟩,(q.bT _ d.lt).dd h.bT⟩
  .split<;>omega
  .have p:bA w' bN (·=β+4) b bN:=z.p9 (λk u=> .inl (by rw[show k=M by simpa using u];exact(q.bT _ d.lt).dd h.bT));by_cases e2:j=i
   .subst e2;simp only[uN,Rq];exact⟨g,s.dg p Y,hl,λj x=>(Q j x).dg p Y⟩
   .simp only[e2,zF,Rq];let⟨vs,o,g2,g3⟩:=A j x;have f:¬(Lit.int i7 (j:Int))= .int i7 (i:Int):=λS=>e2 (Kt S);rw[bD f];have N:¬LpW β i (β+200+j):=by unfold LpW;omega
    have R:¬LpW β i (β+3):=by unfold LpW;omega
    exact⟨vs,(o.dg q N).dg p Y,g2,λk u=>((g3 k u).dg q R).dg p Y⟩
theorem ZH{x:Row}{a:Option cj}{l:List Row}{bX:List aF}(u:w.heap[bx]? =H (h8 #[xv] 33 (0,0)))(z:eX dR aP 3 w xv x)(hl:eX ID undef 1 w (hY a (O l) c) bX)(r:O bX=O l)(q:∀j,j<O l->eX dR aP 3 w (ep bX j undef) (ep l j [])):
  tR 83 #[hY a (O l) c,.func (.func 81) #[] #[h9 (H ⟨bx,0,K⟩)]] w λe w'=>e=i5 (j4 (decide (x∈l)))/\U w [] w' []:=by
 have p:∀i,i<O l->ep (l.zip bX) i ([],undef)=(ep l i [],ep bX i undef):=λi b=>by
  rw[iB,kX (j7 List.length_zip),NQ,List.getElem_zip,iB,kX b,iB,kX Y];rfl
 have g:O (l.zip bX)=O l:=j7 List.length_zip;have m:∀y,y∈l.zip bX->∃i,i<O l/\y=(ep l i [],ep bX i undef):=λy d=>by
  let⟨i,b,e⟩:=Pn d;rw[g]at b;refine⟨i,b,?_⟩;rw[<-p i b,iB,kX Y,NQ,e]
 have v:eX aIP ([],undef) 1 w (hY a (O l) c) (l.zip bX):=by
  unfold eX at hl|-;rw[g,<-r];rw[<-r]at hl;refine Rd.congr hl λi j b B=> ?_;rw[p i Y];rfl
 have A:(l.zip bX).any (λy=>decide (x=y.1))=decide (x∈l):=by
  rw[Bu,kq,RK];constructor
  .rintro⟨y,d,e⟩;obtain⟨i,b,rfl⟩:=m y d;rw[of_decide_eq_true e];exact bM b
  .intro h;let⟨i,b,e⟩:=Pn h;refine⟨ep (l.zip bX) i ([],undef),bM Y,kI ?_⟩;rw[p i b,iB,kX b,NQ,e]
 have h:=ez (hY a (O l) c) (l.zip bX) 81 #[Pt bx] (λy=>decide (x=y.1)) w (enters_of func81 dB rfl) v
  (λy d=>by obtain⟨i,b,rfl⟩:=m y d;obtain⟨a',c',e,-⟩:=(q i b).len;exact⟨a',_,c',e⟩)
  (λy d C n=>by
   obtain⟨i,b,rfl⟩:=m y d;exact aG1 (n.cell (aL u (j:=0) rfl) X) (z.on n) ((q i b).on n))
 rw[A]at h;exact h
theorem fF.vP{M cells ls aU:Nat}{l:List Row}{x:Row}(h:fF w ρ β b ub M q cells st ls add (pY W T aU l) F G)(c:aU<O (aB q).2.aK)(a:fR w' bN β b q cells st ls T F G)(g:wD w' bN β b ub M q add W.aQ ((pY W T aU (l++[x])).count (O (aB q).2.aK)))(d:UM w' bN β M (O (aB q).2.aK) (λj=>if j=aU then l++[x]else(pY W T aU l).touched j) ((pY W T aU l).count (O (aB q).2.aK)+1)):fF w' bN β b ub M q cells st ls add (pY W T aU (l++[x])) F G:=by
 refine⟨a,g,?_,h.ok⟩;have m:=rB W T c l;have i:=rB W T c (l++[x]);rw[F5,Xd]at i;have e:(pY W T aU (l++[x])).count (O (aB q).2.aK)=(pY W T aU l).count (O (aB q).2.aK)+1:=Y;rw[e];have e2:(λj=>if j=aU then l++[x]else(pY W T aU l).touched j)=(pY W T aU (l++[x])).touched:=by
  funext j;unfold pY;simp only;split
  .rfl
  .rfl
 rw[e2]at d;exact d
variable{mo:SV}
theorem ZM21{P:Prop}(h:P:=by
  obtain rfl:k=O mt:=by omega
  rw[List.take_length]at hl;obtain⟨m0,m1⟩:e7 wr ⟨bm,0,K⟩=H (hY fa (O fl) fc)/\e7 wr ⟨bm,1,K⟩=H (hY ta (O mt) tc):=by
   have hb:=L6.aC HBM.o.1 (by rw[HBM.o.2];exact yO (by omega) (by omega) (by omega));exact⟨aL hb (j:=0) rfl,aL hb (j:=1) rfl⟩
  have D3:=Z yn;have OX:=Z L6;have HL:=Z hl;clear yn L6 hl;go_upto_region 16 with(fail);go_quiet (fail);go_wp2;go_ret3;obtain⟨tO,ht,hf⟩:=HFV.o;subst OA Lm;refine⟨oC,_,tO,rfl,((HMw.o.dd (OX.o.aN (λ_=>aEp))).drewN _),?_,ht,(hf.dg OX.o (yO (by unfold nH at ht;omega) (by unfold nH at ht;omega) (by unfold nH at ht;omega)) (yO (by omega) (by omega) (by omega))).on ((U.refl _ []).drewN _)⟩;rw[<-HL.o];exact D3.o.on ((U.refl _ []).drewN _)):P:=h
theorem ZM39{P:Prop}(h:P:=by
  have Ud:bA w2 fB (LpW β aU) E1 D6:=(OX.o.dd (Mi.aN (λ_ h=> .inr h))).dd (QF.aN (λ_ h=> .inl h));have mP:=Z hTA;have aFL:=Z Ud;have hcw:IntKind.i64.wrap ((cnt:Int)+1)=(cnt:Int)+1:=IntWalk.i64_in _ (by omega);clear hTA Ud ZP Tk Sm QF lP aDl aCr SC Mi ZS Ma sO ZR Mk hO8 Q9 MO e1 aEw qH G6 OY OW OX;go_wp2;go_roundg (O mt-(k+1))
  case measure=>omega
  case rel=>exact⟨k+1,l++[x],D6,by omega,rfl,by go_num,In.o.symm,aFL.o,mP.o⟩):P:=h
theorem ZM51{P:Prop}(h:P:=by
  rw[decide_eq_true gV]at Nx;rw[if_pos gV]at In;clear gV;go_wp2_with (go_at_call 83;refine Nx.o.mono ?_;rintro e w3 ⟨rfl,cU⟩;have gZ:=Z cU;clear cU);go_roundg (O mt-(k+1))
  case measure=>omega
  case rel=>exact⟨k+1,l,oC,by omega,rfl,by go_num,In.o.symm,(OX.o.jH D2.o).jH gZ.o,Cl.o.on gZ.o⟩):P:=h
theorem yO{aU:Nat}(h:x≠β+2)(b:x≠β+4)(c:x≠β+200+aU):¬LpW β aU x:=λa=>a.elim h (λa=>a.elim b c)
theorem aEp{aU:Nat}(h:LpW β aU x):DoW β aU x:= .inr h
theorem D8(l ts:List Row)(k:Nat):O (dO l (ts.take k))<=O (dO l ts):=by
 have h:=(tT (ts.drop k) (dO l (ts.take k))).1;rw[<-Jh,List.take_append_drop]at h;exact h
theorem WT{α:Type}{l:List α}{d x:α}{k:Nat}(b:k<O l)(a:ep l k d=x):l.take (k+1)=l.take k++[x]:=by
 rw[List.take_add_one,kX b];rw[iB,kX b]at a;simp only[NQ]at a;rw[a];rfl
theorem aOI{M cells ls aU tr:Nat}(sd:Bool)(h:fF w ρ β b ub M q cells st ls oj W F G)(pF:aU<O (aB q).2.aK)(hv:mK dR aP 3 w ρ tr rv r)(oY:¬eZ (nH β aU) tr)(hr:pR (eP (aB q).2 aU) sd r)(pH:if oj=oj then F+1<=G else G<=F)(hG:G<1073741824)(hx:KJ (eP (aB q).2 aU) (W.T aU) sd r= .ok (n',mo))(R:(pY W (E5 W.T aU n') aU (dO (W.touched aU) mo.touched)).count (O (aB q).2.aK)<=1099511627776):
  aH prog 40 #[h9 (H ⟨ub,0,K⟩),i6 i7 (aU:Int),i6 i7 (C7 sd),rv] w (aF4 w ρ β b ub M q cells st ls oj F G aU (fU (bJ (aB q).2) oj W aU sd r)):=by
 have hd:fU (bJ (aB q).2) oj W aU sd r=(pY W (E5 W.T aU n') aU (dO (W.touched aU) mo.touched),mo.kK,O mo.touched,0):=Mx (by show jA oj (eP (aB q).2 aU) _ _ _=_;simpa[jA]using hx);rw[hd];clear hd;obtain⟨nb,gn,on,cn,b9,n0,hN,FN⟩:=h.bd.EF pF;obtain⟨k0,k6,-,-,-,-,-⟩:=h.ub.cells;have HN:=Z (aCU (t:=β+3) sd hN hv oY hr (by simpa using pH) (by omega) (by unfold nH;omega));rw[hx]at HN;obtain⟨ra,rc,rfl,-⟩:=hv.1.len;have eg:=enters_of func80 (by kernel_rfl) rfl;have aHr:(aU:Int)<(O (aB q).2.aK:Int):=by omega
 have HB:=Z FN;have HH:=Z h;have z:=Z pF;have y:=Z R;obtain⟨d,uX⟩:=E (E5 W.T aU n');rw[uX]at y|-;have sL:=Z uX;have h42:=h.ok.few;have HF:=Z h42;clear FN h hN hv hx R uX pF h42;go_enter func40,ntmps40;go_upto_region 5 with(go_at_call 80;refine HN.o.mono ?_;rintro e w1 ⟨dN,hM,mv,rfl,FQ,fv,tv,t1,t2,rfl,ht1,CP,Op,GA⟩;obtain⟨RO,c1,c2,c3⟩:=Op;obtain⟨UW,d1,d2,d3⟩:=GA;obtain⟨fa,fc,rfl,-⟩:=c2.1.len;obtain⟨ta,tc,rfl,-⟩:=d2.1.len;rw[c1]at c2|-;rw[d1]at d2|-;have HM:=Z hM;have rQ:=Z FQ;clear hM FQ);clear k0 k6 b9 n0 HN;obtain⟨fl,OA⟩:=E (mo.kK);obtain⟨mt,Lm⟩:=E (mo.touched);rw[OA]at c1 c2 c3|-;rw[Lm]at d1 d2 d3 y|-;have HT:=Z (HH.o.Je HM.o rQ.o HB.o);rw[sL.o]at HT;obtain⟨w2,pS⟩:=E (e8 w1 (h8 #[hY fa (O fl) fc,hY ta (O mt) tc] 197));have bH:=Za pS;have gT:=Zb pS;obtain⟨bm,JO⟩:=E (hJ w1.heap);rw[JO]at gT;have A:bA w1 dN (λ_=>False) w2 (up w1.heap.size (β+5) dN):=bH.eW (S:=λ_=>False) (β+5) (λ_ h=>absurd h (by simp));obtain⟨fB,YP⟩:=E (up w1.heap.size (β+5) dN);have vH:fB bm=β+5:=by rw[<-YP];exact cJ (by omega)
 rw[YP]at A;have Et:=Z (HT.o.dg A (λ_ _ h=>h) (λ_ _ h=>h) (λ_ _ _ _ h=>h));have HMw:=Z ((HM.o.aN (T:=DoW β aU) (λ_=>W6)).dd (A.aN (λ_ h=>h.elim)));have HFV:=Z (show∃tO,(tO=β+3\/tO=nH β aU+97)/\iN w2 fB tO (β+3) (hY fa (O fl) fc) fl from⟨t1,ht1,iN.dg ⟨RO,c1,c2,c3⟩ A (λh=>h) (λh=>h)⟩);have Nr:=Z (show t2≠β+2/\t2≠β+4/\t2≠β+200+aU from by unfold nH at CP;omega);have HD2:=Z (d2.dg A (λh=>h));have HD3:=Z (λi hi=>(d3 i hi).dg A (λh=>h));have HBM:=Z (And.intro gT vH);obtain⟨m0,m1⟩:=Z2 gT;rw[pS,JO];clear A YP vH bH pS gT c1 c2 c3 HT HM rQ HB HH JO ht1 CP;go_upto_region 8 with(fail);clear m0 m1;obtain⟨-,-,-,IV⟩:=HD2.o.1.len;rw[d1]at IV;unfold bw at IV;have eg2:=enters_of func81 (by kernel_rfl) rfl;go_loopg [57] (O mt) (λgg s57 wr=>∃(k:Nat) (l:List Row) (oC:aW),k<=O mt/\gg=O mt-k/\s57=i6 i7 k/\l=dO (W.touched aU) (mt.take k)/\bA w2 fB (LpW β aU) wr oC/\fF wr oC β b ub M q cells st ls oj (pY W d aU l) F G)
 case atStart=>exact⟨0,_,fB,Nat.zero_le _,rfl,rfl,rfl,bA.refl _ _ _,Et.o⟩
 case round=>
  obtain⟨k,l,oC,hk,rfl,rfl,hl,L6,yn⟩:=hrel;by_cases aV:k<O mt
  .obtain⟨gt,ot,ct,hv,-,hc⟩:=eX.aU (HD2.o.dg L6 (yO Nr.o.1 Nr.o.2.1 Nr.o.2.2)).1 (i:=k) (by rw[d1];exact aV);have N:=(HD3.o k aV).dg L6 (yO (by omega) (by omega) (by omega));obtain⟨P,V,oh,-⟩:=N.1.len;have c0:=hc 0 (by decide);simp only[Nat.mul_one,Nat.add_zero,ID]at c0;obtain⟨x,B⟩:=E (ep mt k []);rw[B]at N oh;rw[oh]at c0 N;injection hv with x1 x2 x3;clear x2 x3;subst x1;have Xm:dO (W.touched aU) (mt.take (k+1))=if x∈l then l else l++[x]:=by rw[WT aV B,MY,<-hl]
   have v:O l<=O (dO (W.touched aU) mt):=by rw[hl];exact D8 _ _ _
   obtain⟨wb,pE⟩:=E (e8 wr (h8 #[hY P (O x) V] 33));have u:=Za pE;have VZ:=Zb pE;have C:=yn.on u;obtain⟨k0,k6,-,k8,k9,klt,-,kf8⟩:=C.ub.cells;obtain⟨la,lc,lv,m,hO,p,g,mS,iP⟩:=yn.V0.t6 z.o (by have:=HF.o;omega);have oy:(pY W d aU l).touched aU=l:=if_pos rfl;rw[oy]at hO p g mS;have Nx:=Z (ZH VZ (N.1.on u) (hO.rd.1.on u) p (λj hj=>(g j hj).1.on u));have lX:=mS wb (u.block _ m (by simp));have x0:=Zc VZ 0;have OX:=Z L6;have D3:=Z yn;have Cl:=Z C;have D2:=Z u;have Ex:=Z VZ;have Nw:=Z (λw' (hu:U wr [] w' [])=>mS w' (hu.block _ m (by simp)));have o:=Z (And.intro m mS);have n:=Z (And.intro hO (And.intro p g));have aOs:=Z iP;have HRX:=Z (N.on u);have In:=Z Xm;have Wv:=Z v;clear L6 yn hc N oh B hl u VZ C hO p g mS iP Xm v m;by_cases gV:x∈l
   .exact ZM51
   .rw[decide_eq_false gV]at Nx;rw[if_neg gV]at In;clear gV;have c1:=rB W d z.o l;have c2:=rB W d z.o (dO (W.touched aU) mt);have c3:=rB W d z.o (l++[x]);have c4:=y.o;have c5:=D8 (W.touched aU) mt (k+1);have c6:=(pY W d aU l).YD z.o;rw[show(pY W d aU l).touched aU=l from if_pos rfl]at c6;rw[In.o,List.length_append,List.length_singleton]at c5;rw[List.length_append,List.length_singleton]at c3;obtain⟨cnt,R⟩:=E ((pY W d aU l).count (O (aB q).2.aK));have M9:cnt+1<=1099511627776:=by omega
    have I8:(pY W d aU (l++[x])).count (O (aB q).2.aK)=cnt+1:=by omega
    have oy:O l<=1099511627776:=by omega
    have HCX:=Z I8;have Pg:=Z R;rw[R]at k8;clear c1 c2 c3 c4 c5 c6 R I8;go_upto_region 12 with(go_at_call 83;refine Nx.o.mono ?_;rintro e w3 ⟨rfl,cU⟩;have k8:=cU.cell k8 (by simp);have k9:=cU.cell k9 (by simp);have x0:=cU.cell x0 (by simp);have lX:=Nw.o w3 (D2.o.dd cU);have gZ:=Z cU;clear cU);clear c0 k0 k6 k8;refine aO 99 (λw'=>e7 w' ⟨ub,9,K⟩=H (.map (H M))/\e7 w' ⟨hJ wr.heap,0,K⟩=H (hY P (O x) V)/\(Instr.lookup 105 (.map (H M)) (i6 i7 (aU:Int)) po).run prog w'= .ok (hY la (O l) lc) w') (by kernel_rfl) ⟨k9,x0,Nw.o _ (D2.o.dd (gZ.o.dd (U.refl w3 []).drew))⟩ (λQ=> ?_);clear k9 x0 lX;obtain⟨wd,eY⟩:=E (w3.drew);have qS:U w3 [] wd []:=eY▸(U.refl w3 []).drew;rw[eY]at Q|-;have qH:=Z (D2.o.dd (gZ.o.dd qS));have aEw:=Z (gZ.o.dd qS);clear eY qS;refine dw [0,4,6,1,2,3,5] ?_;refine Zo 7 λs hK=> ?_;go_simp;have oK:U wd [] (e8 wd (h8 #[hY P (O x) V] 33)) []:=(U.refl wd []).alloc _;obtain⟨r8,r6,MK⟩:=Q;refine Zk hK (And.intro (oK.cell r8 (by simp)) (And.intro (oK.cell r6 (by simp)) (Nw.o _ (qH.o.dd oK)))) ?_;clear hK s;refine Zo 8 λs hK=> ?_;have fo:=n.o.1.on qH.o;obtain⟨g8,c8,f,dP,CS,-,iE,-⟩:=i9 (ty:=70) (news:=[hY P (O x) V]) (T:=33) zi (by omega) (fo.cY wd) (P7 wd) (Nat.le_refl _) (Nat.zero_le _) (hY P (O x) V:aF) rfl (dH rfl) (λj hj=>rfl) (by rw[n.o.2.1];omega) (by rw[n.o.2.1];unfold bw;omega);rw[n.o.2.1]at dP CS;refine dJ _ _ rfl (by rfl) (by rfl) dP ?_;have Gx:ub∉(hY la (O l) lc).ownBlock.toList:=λhm=>by
     have:=n.o.1.PC ub hm;have:=Cl.o.ub.bT;omega
    have hMn:M∉(hY la (O l) lc).ownBlock.toList:=λhm=>by
     have:=n.o.1.PC M hm;have:=Cl.o.V0.bT;omega
    have Lv:hJ wr.heap∉(hY la (O l) lc).ownBlock.toList:=λhm=>by
     have:=n.o.1.lt wr.heap.size (by simpa using hm);omega
    have pU:f.heap[M]? =wr.heap[M]? :=(iE.block M (Nat.lt_of_lt_of_le o.o.1 qH.o.size) hMn).dd (qH.o.block M o.o.1 (by simp));have Q:=And.intro (iE.cell r8 Gx) (And.intro (iE.cell r6 Lv) (o.o.2 f pU));have OW:=Z fo;have OY:=Z CS;have G6:=Z iE;have VN:=Z pU;clear fo CS iE pU dP Gx hMn Lv r8 r6 MK oK;refine Zk hK Q ?_;clear hK s;refine I 9 ?_;refine aY (by kernel_rfl) ?_ _;clear Q;obtain⟨D6,MO⟩:=E (up wd.heap.size (β+200+aU) oC);have Mk:bA wd oC (·=β+200+aU) f (up wd.heap.size (β+200+aU) oC):=OW.o.eW (v':=hY (H ⟨g8,0,K⟩) (O l+1) c8) G6.o rfl;have hO8:=OY.o.QX OW.o G6.o;rw[MO]at Mk hO8;have ZR:bA wr oC (λt=>t=β+4\/t=β+200+aU) f D6:=(qH.o.fK).dd (Mk.aN (λ_ h=> .inr h));have Q9:=n.o.2.1;obtain⟨L,aR8,sO,Ma⟩:=aOs.o f D6 _ (lv++([hY P (O x) V]:List aF)) (l++[x]) (ZR.aN (λ_ h=> .inr h)) VN.o hO8 (by simp[Q9]) (λj hj=>by
     rw[kC,kC,Q9];by_cases e:j=O l
     .rw[if_pos e,if_pos e];exact HRX.o.dg ((aEw.out.fK).dd Mk) (by omega)
     .rw[if_neg e,if_neg e];rw[List.length_append,List.length_singleton]at hj;exact(n.o.2.2 j (by omega)).dg ZR (by omega)) (by rw[Pg.o];unfold bw;omega)
    rw[Pg.o]at Ma;have ZS:bA f D6 (·=β+4) L D6:=sO.p9 (λk hk=> .inl (by rw[show k=M by simpa using hk];exact Ma.bT));have Mi:bA wr oC (λt=>t=β+4\/t=β+200+aU) L D6:=ZR.dd (ZS.aN (λ_ h=> .inl h));have aCr:=D3.o.ub.dg ZR (by omega) (by omega);have SC:=D3.o.ub.dg Mi (by omega) (by omega);have aDl:=D3.o.bd.dg Mi (by omega) (by omega) (λi c _ _=>by unfold nH;have:=z.o;have:=HF.o;omega);obtain⟨-,-,-,-,r9,-,-,-⟩:=aCr.cells;obtain⟨-,-,-,q8,q9,qlt,-,qf8⟩:=SC.cells;have e1:(pY W d aU l).aQ=W.aQ:=rfl;rw[Pg.o]at q8 SC;rw[e1]at SC;obtain⟨E1,BY⟩:=E (ey L ⟨ub,8,K⟩ (i6 i7 ((cnt:Int)+1)));have lP:U L [ub] E1 [ub]:=BY▸(U.refl L [ub]).setCell (a:=⟨ub,8,K⟩) (.inl (by simp)) _;have QF:bA L D6 (·=β+2) E1 D6:=lP.p9 (λk hk=> .inl (by rw[show k=ub by simpa using hk];exact SC.bT));have Sm:wD E1 D6 β b ub M q oj W.aQ (cnt+1):=by rw[<-BY];exact SC.fP (s':=cnt+1)
    have ZP:=Ma.dg QF (by omega) (by omega) (λi _=>by omega);have Tk:=aDl.dg QF (by omega) (by omega) (λi c _ _=>by unfold nH;omega);have hTA:fF E1 D6 β b ub M q cells st ls oj (pY W d aU (l++[x])) F G:=D3.o.vP z.o Tk (by rw[HCX.o];exact Sm) (by rw[Pg.o];exact ZP);exact ZM39
  .exact ZM21
theorem aIU{M cells ls aU tr:Nat}(sd:Bool)(h:fF w ρ β b ub M q cells st ls po W F G)(pF:aU<O (aB q).2.aK)(hv:mK dR aP 3 w ρ tr rv r)(oY:¬eZ (nH β aU) tr)(hr:pR (eP (aB q).2 aU) sd r)(pH:if po=oj then F+1<=G else G<=F)(hG:G<1073741824)(hx:sU (eP (aB q).2 aU) (W.T aU) sd r= .ok (n',mo))(R:(pY W (E5 W.T aU n') aU (dO (W.touched aU) mo.touched)).count (O (aB q).2.aK)<=1099511627776):
  aH prog 40 #[h9 (H ⟨ub,0,K⟩),i6 i7 (aU:Int),i6 i7 (C7 sd),rv] w (aF4 w ρ β b ub M q cells st ls po F G aU (fU (bJ (aB q).2) po W aU sd r)):=by
 have hd:fU (bJ (aB q).2) po W aU sd r=(pY W (E5 W.T aU n') aU (dO (W.touched aU) mo.touched),mo.kK,O mo.touched,0):=Mx (by show jA po (eP (aB q).2 aU) _ _ _=_;simpa[jA]using hx);rw[hd];clear hd;obtain⟨nb,gn,on,cn,b9,n0,hN,FN⟩:=h.bd.EF pF;obtain⟨k0,k6,-,-,-,-,-⟩:=h.ub.cells;have HN:=Z (mq (t:=β+3) sd hN hv oY hr (by simpa using pH) (by omega) (by unfold nH;omega));rw[hx]at HN;obtain⟨ra,rc,rfl,-⟩:=hv.1.len;have eg:=enters_of func79 (by kernel_rfl) rfl;have aHr:(aU:Int)<(O (aB q).2.aK:Int):=by omega
 have HB:=Z FN;have HH:=Z h;have z:=Z pF;have y:=Z R;obtain⟨d,uX⟩:=E (E5 W.T aU n');rw[uX]at y|-;have sL:=Z uX;have h42:=h.ok.few;have HF:=Z h42;clear FN h hN hv hx R uX pF h42;go_enter func40,ntmps40;go_upto_region 5 with(go_at_call 79;refine HN.o.mono ?_;rintro e w1 ⟨dN,hM,mv,rfl,FQ,fv,tv,t1,t2,rfl,ht1,CP,Op,GA⟩;obtain⟨RO,c1,c2,c3⟩:=Op;obtain⟨UW,d1,d2,d3⟩:=GA;obtain⟨fa,fc,rfl,-⟩:=c2.1.len;obtain⟨ta,tc,rfl,-⟩:=d2.1.len;rw[c1]at c2|-;rw[d1]at d2|-;have HM:=Z hM;have rQ:=Z FQ;clear hM FQ);clear k0 k6 b9 n0 HN;obtain⟨fl,OA⟩:=E (mo.kK);obtain⟨mt,Lm⟩:=E (mo.touched);rw[OA]at c1 c2 c3|-;rw[Lm]at d1 d2 d3 y|-;have HT:=Z (HH.o.Je HM.o rQ.o HB.o);rw[sL.o]at HT;obtain⟨w2,pS⟩:=E (e8 w1 (h8 #[hY fa (O fl) fc,hY ta (O mt) tc] 197));have bH:=Za pS;have gT:=Zb pS;obtain⟨bm,JO⟩:=E (hJ w1.heap);rw[JO]at gT;have A:bA w1 dN (λ_=>False) w2 (up w1.heap.size (β+5) dN):=bH.eW (S:=λ_=>False) (β+5) (λ_ h=>absurd h (by simp));obtain⟨fB,YP⟩:=E (up w1.heap.size (β+5) dN);have vH:fB bm=β+5:=by rw[<-YP];exact cJ (by omega)
 rw[YP]at A;have Et:=Z (HT.o.dg A (λ_ _ h=>h) (λ_ _ h=>h) (λ_ _ _ _ h=>h));have HMw:=Z ((HM.o.aN (T:=DoW β aU) (λ_=>W6)).dd (A.aN (λ_ h=>h.elim)));have HFV:=Z (show∃tO,(tO=β+3\/tO=nH β aU+97)/\iN w2 fB tO (β+3) (hY fa (O fl) fc) fl from⟨t1,ht1,iN.dg ⟨RO,c1,c2,c3⟩ A (λh=>h) (λh=>h)⟩);have Nr:=Z (show t2≠β+2/\t2≠β+4/\t2≠β+200+aU from by unfold nH at CP;omega);have HD2:=Z (d2.dg A (λh=>h));have HD3:=Z (λi hi=>(d3 i hi).dg A (λh=>h));have HBM:=Z (And.intro gT vH);obtain⟨m0,m1⟩:=Z2 gT;rw[pS,JO];clear A YP vH bH pS gT c1 c2 c3 HT HM rQ HB HH JO ht1 CP;go_upto_region 8 with(fail);clear m0 m1;obtain⟨-,-,-,IV⟩:=HD2.o.1.len;rw[d1]at IV;unfold bw at IV;have eg2:=enters_of func81 (by kernel_rfl) rfl;go_loopg [57] (O mt) (λgg s57 wr=>∃(k:Nat) (l:List Row) (oC:aW),k<=O mt/\gg=O mt-k/\s57=i6 i7 k/\l=dO (W.touched aU) (mt.take k)/\bA w2 fB (LpW β aU) wr oC/\fF wr oC β b ub M q cells st ls po (pY W d aU l) F G)
 case atStart=>exact⟨0,_,fB,Nat.zero_le _,rfl,rfl,rfl,bA.refl _ _ _,Et.o⟩
 case round=>
  obtain⟨k,l,oC,hk,rfl,rfl,hl,L6,yn⟩:=hrel;by_cases aV:k<O mt
  .obtain⟨gt,ot,ct,hv,-,hc⟩:=eX.aU (HD2.o.dg L6 (yO Nr.o.1 Nr.o.2.1 Nr.o.2.2)).1 (i:=k) (by rw[d1];exact aV);have N:=(HD3.o k aV).dg L6 (yO (by omega) (by omega) (by omega));obtain⟨P,V,oh,-⟩:=N.1.len;have c0:=hc 0 (by decide);simp only[Nat.mul_one,Nat.add_zero,ID]at c0;obtain⟨x,B⟩:=E (ep mt k []);rw[B]at N oh;rw[oh]at c0 N;injection hv with x1 x2 x3;clear x2 x3;subst x1;have Xm:dO (W.touched aU) (mt.take (k+1))=if x∈l then l else l++[x]:=by rw[WT aV B,MY,<-hl]
   have v:O l<=O (dO (W.touched aU) mt):=by rw[hl];exact D8 _ _ _
   obtain⟨wb,pE⟩:=E (e8 wr (h8 #[hY P (O x) V] 33));have u:=Za pE;have VZ:=Zb pE;have C:=yn.on u;obtain⟨k0,k6,-,k8,k9,klt,-,kf8⟩:=C.ub.cells;obtain⟨la,lc,lv,m,hO,p,g,mS,iP⟩:=yn.V0.t6 z.o (by have:=HF.o;omega);have oy:(pY W d aU l).touched aU=l:=if_pos rfl;rw[oy]at hO p g mS;have Nx:=Z (ZH VZ (N.1.on u) (hO.rd.1.on u) p (λj hj=>(g j hj).1.on u));have lX:=mS wb (u.block _ m (by simp));have x0:=Zc VZ 0;have OX:=Z L6;have D3:=Z yn;have Cl:=Z C;have D2:=Z u;have Ex:=Z VZ;have Nw:=Z (λw' (hu:U wr [] w' [])=>mS w' (hu.block _ m (by simp)));have o:=Z (And.intro m mS);have n:=Z (And.intro hO (And.intro p g));have aOs:=Z iP;have HRX:=Z (N.on u);have In:=Z Xm;have Wv:=Z v;clear L6 yn hc N oh B hl u VZ C hO p g mS iP Xm v m;by_cases gV:x∈l
   .exact ZM51
   .rw[decide_eq_false gV]at Nx;rw[if_neg gV]at In;clear gV;have c1:=rB W d z.o l;have c2:=rB W d z.o (dO (W.touched aU) mt);have c3:=rB W d z.o (l++[x]);have c4:=y.o;have c5:=D8 (W.touched aU) mt (k+1);have c6:=(pY W d aU l).YD z.o;rw[show(pY W d aU l).touched aU=l from if_pos rfl]at c6;rw[In.o,List.length_append,List.length_singleton]at c5;rw[List.length_append,List.length_singleton]at c3;obtain⟨cnt,R⟩:=E ((pY W d aU l).count (O (aB q).2.aK));have M9:cnt+1<=1099511627776:=by omega
    have I8:(pY W d aU (l++[x])).count (O (aB q).2.aK)=cnt+1:=by omega
    have oy:O l<=1099511627776:=by omega
    have HCX:=Z I8;have Pg:=Z R;rw[R]at k8;clear c1 c2 c3 c4 c5 c6 R I8;go_upto_region 12 with(go_at_call 83;refine Nx.o.mono ?_;rintro e w3 ⟨rfl,cU⟩;have k8:=cU.cell k8 (by simp);have k9:=cU.cell k9 (by simp);have x0:=cU.cell x0 (by simp);have lX:=Nw.o w3 (D2.o.dd cU);have gZ:=Z cU;clear cU);clear c0 k0 k6 k8;refine aO 99 (λw'=>e7 w' ⟨ub,9,K⟩=H (.map (H M))/\e7 w' ⟨hJ wr.heap,0,K⟩=H (hY P (O x) V)/\(Instr.lookup 105 (.map (H M)) (i6 i7 (aU:Int)) po).run prog w'= .ok (hY la (O l) lc) w') (by kernel_rfl) ⟨k9,x0,Nw.o _ (D2.o.dd (gZ.o.dd (U.refl w3 []).drew))⟩ (λQ=> ?_);clear k9 x0 lX;obtain⟨wd,eY⟩:=E (w3.drew);have qS:U w3 [] wd []:=eY▸(U.refl w3 []).drew;rw[eY]at Q|-;have qH:=Z (D2.o.dd (gZ.o.dd qS));have aEw:=Z (gZ.o.dd qS);clear eY qS;refine dw [0,4,6,1,2,3,5] ?_;refine Zo 7 λs hK=> ?_;go_simp;have oK:U wd [] (e8 wd (h8 #[hY P (O x) V] 33)) []:=(U.refl wd []).alloc _;obtain⟨r8,r6,MK⟩:=Q;refine Zk hK (And.intro (oK.cell r8 (by simp)) (And.intro (oK.cell r6 (by simp)) (Nw.o _ (qH.o.dd oK)))) ?_;clear hK s;refine Zo 8 λs hK=> ?_;have fo:=n.o.1.on qH.o;obtain⟨g8,c8,f,dP,CS,-,iE,-⟩:=i9 (ty:=70) (news:=[hY P (O x) V]) (T:=33) zi (by omega) (fo.cY wd) (P7 wd) (Nat.le_refl _) (Nat.zero_le _) (hY P (O x) V:aF) rfl (dH rfl) (λj hj=>rfl) (by rw[n.o.2.1];omega) (by rw[n.o.2.1];unfold bw;omega);rw[n.o.2.1]at dP CS;refine dJ _ _ rfl (by rfl) (by rfl) dP ?_;have Gx:ub∉(hY la (O l) lc).ownBlock.toList:=λhm=>by
     have:=n.o.1.PC ub hm;have:=Cl.o.ub.bT;omega
    have hMn:M∉(hY la (O l) lc).ownBlock.toList:=λhm=>by
     have:=n.o.1.PC M hm;have:=Cl.o.V0.bT;omega
    have Lv:hJ wr.heap∉(hY la (O l) lc).ownBlock.toList:=λhm=>by
     have:=n.o.1.lt wr.heap.size (by simpa using hm);omega
    have pU:f.heap[M]? =wr.heap[M]? :=(iE.block M (Nat.lt_of_lt_of_le o.o.1 qH.o.size) hMn).dd (qH.o.block M o.o.1 (by simp));have Q:=And.intro (iE.cell r8 Gx) (And.intro (iE.cell r6 Lv) (o.o.2 f pU));have OW:=Z fo;have OY:=Z CS;have G6:=Z iE;have VN:=Z pU;clear fo CS iE pU dP Gx hMn Lv r8 r6 MK oK;refine Zk hK Q ?_;clear hK s;refine I 9 ?_;refine aY (by kernel_rfl) ?_ _;clear Q;obtain⟨D6,MO⟩:=E (up wd.heap.size (β+200+aU) oC);have Mk:bA wd oC (·=β+200+aU) f (up wd.heap.size (β+200+aU) oC):=OW.o.eW (v':=hY (H ⟨g8,0,K⟩) (O l+1) c8) G6.o rfl;have hO8:=OY.o.QX OW.o G6.o;rw[MO]at Mk hO8;have ZR:bA wr oC (λt=>t=β+4\/t=β+200+aU) f D6:=(qH.o.fK).dd (Mk.aN (λ_ h=> .inr h));have Q9:=n.o.2.1;obtain⟨L,aR8,sO,Ma⟩:=aOs.o f D6 _ (lv++([hY P (O x) V]:List aF)) (l++[x]) (ZR.aN (λ_ h=> .inr h)) VN.o hO8 (by simp[Q9]) (λj hj=>by
     rw[kC,kC,Q9];by_cases e:j=O l
     .rw[if_pos e,if_pos e];exact HRX.o.dg ((aEw.out.fK).dd Mk) (by omega)
     .rw[if_neg e,if_neg e];rw[List.length_append,List.length_singleton]at hj;exact(n.o.2.2 j (by omega)).dg ZR (by omega)) (by rw[Pg.o];unfold bw;omega)
    rw[Pg.o]at Ma;have ZS:bA f D6 (·=β+4) L D6:=sO.p9 (λk hk=> .inl (by rw[show k=M by simpa using hk];exact Ma.bT));have Mi:bA wr oC (λt=>t=β+4\/t=β+200+aU) L D6:=ZR.dd (ZS.aN (λ_ h=> .inl h));have aCr:=D3.o.ub.dg ZR (by omega) (by omega);have SC:=D3.o.ub.dg Mi (by omega) (by omega);have aDl:=D3.o.bd.dg Mi (by omega) (by omega) (λi c _ _=>by unfold nH;have:=z.o;have:=HF.o;omega);obtain⟨-,-,-,-,r9,-,-,-⟩:=aCr.cells;obtain⟨-,-,-,q8,q9,qlt,-,qf8⟩:=SC.cells;have e1:(pY W d aU l).aQ=W.aQ:=rfl;rw[Pg.o]at q8 SC;rw[e1]at SC;obtain⟨E1,BY⟩:=E (ey L ⟨ub,8,K⟩ (i6 i7 ((cnt:Int)+1)));have lP:U L [ub] E1 [ub]:=BY▸(U.refl L [ub]).setCell (a:=⟨ub,8,K⟩) (.inl (by simp)) _;have QF:bA L D6 (·=β+2) E1 D6:=lP.p9 (λk hk=> .inl (by rw[show k=ub by simpa using hk];exact SC.bT));have Sm:wD E1 D6 β b ub M q po W.aQ (cnt+1):=by rw[<-BY];exact SC.fP (s':=cnt+1)
    have ZP:=Ma.dg QF (by omega) (by omega) (λi _=>by omega);have Tk:=aDl.dg QF (by omega) (by omega) (λi c _ _=>by unfold nH;omega);have hTA:fF E1 D6 β b ub M q cells st ls po (pY W d aU (l++[x])) F G:=D3.o.vP z.o Tk (by rw[HCX.o];exact Sm) (by rw[Pg.o];exact ZP);exact ZM39
  .exact ZM21
theorem gj{M cells ls aU tr:Nat}(sd:Bool)(h:fF w ρ β b ub M q cells st ls add W F G)(d:aU<O (aB q).2.aK)(hv:mK dR aP 3 w ρ tr rv r)(g:¬eZ (nH β aU) tr)(i:pR (eP (aB q).2 aU) sd r)(e:if add=oj then F+1<=G else G<=F)(c:G<1073741824)(j:(fU (bJ (aB q).2) add W aU sd r).1.count (O (aB q).2.aK)<=1099511627776):
  tR 40 #[h9 (H ⟨ub,0,K⟩),i6 i7 (aU:Int),i6 i7 (C7 sd),rv] w (aF4 w ρ β b ub M q cells st ls add F G aU (fU (bJ (aB q).2) add W aU sd r)):=by
 cases add with
 |true=>
  cases a:KJ (eP (aB q).2 aU) (W.T aU) sd r with
  |error er=>exact aIT sd h d hv g i e c a
  |ok p=>
   obtain⟨n',m⟩:=p;rw[Mx (P:=bJ (aB q).2) (add:=oj) (by show jA oj (eP (aB q).2 aU) _ _ _=_;simpa[jA]using a)]at j;exact aOI sd h d hv g i e c a j
 |false=>
  cases a:sU (eP (aB q).2 aU) (W.T aU) sd r with
  |error er=>exact aE2 sd h d hv g i e c a
  |ok p=>
   obtain⟨n',m⟩:=p;rw[Mx (P:=bJ (aB q).2) (add:=po) (by show jA po (eP (aB q).2 aU) _ _ _=_;simpa[jA]using a)]at j;exact aIU sd h d hv g i e c a j
variable{fl:List Row}
theorem ro{s:mC}{n:gK}{m:SV}(d:ON s)(i:pR s sd r)(w:s.aG=3->∀x∈n.eV,dI x/\O x=s.inW)(h:jA add s n sd r= .ok (n',m)):∀x∈m.kK,dI x/\O x=s.bL:=by
 obtain⟨j,l,z⟩:=i;have y:=d.aG;have v:s.aG≠2->s.bL=s.inW:=λe=>by unfold mC.bL;rw[bD e]
 have u:s.aG=2->s.bL=O s.dg:=λe=>by unfold mC.bL;rw[bR e]
 have A:s.aG=2->sd=po->dI (dG r s.dg)/\O (dG r s.dg)=s.bL:=λe a=>by
  have g:=d.dg;rw[bR e]at g;subst a;refine⟨j.dG (nA d.inW) (λc p=>by rw[l];exact g.1.2 c p),?_⟩;rw[uT,u e]
 have q:s.aG≠2->sd=po->dI r/\O r=s.bL:=λe a=>by
  grind
 grind [jA,KJ,sU]
def EV(p:zY)(aU:Nat)(fl:List Row):Prop:=∀x∈fl,dI x/\O x=(eP p aU).bL
theorem EV.aLc{m:Nat}(b:gY V m p){aU up:Nat}(a:(bJ p).cW aU=H up)(h:EV p aU fl){x:Row}(c:x∈fl):pR (eP p up) ((bJ p).isSide aU) x:=by
 let⟨d,e⟩:=h x c;let⟨w1,w2⟩:=b.aLR a;exact⟨d,e▸w1,w2⟩
theorem o8.lp{s:mC}{n:gK}(h:o8 w ρ τ b s n F G)(d:s.aG=3):∀x∈n.eV,dI x/\O x=s.inW:=by
 obtain⟨lb,rb,iv,-,-,a⟩:=h;rcases a with⟨e,-⟩|⟨g,-⟩|⟨-,kb,sb,db,-,c⟩
 .omega
 .omega
 .exact c.eV.good
theorem Ak{m:Nat}(b:gY V m p)(c:V<=30){aU:Nat}(a:aU<O p.aK)(d:pR (eP p aU) sd r)(i:(eP p aU).aG=3->∀x∈(W.T aU).eV,dI x/\O x=(eP p aU).inW):EV p aU (fU (bJ p) add W aU sd r).2.1:=by
 unfold fU;cases h:jA add ((bJ p).spec aU) (W.T aU) sd r with
 |error e=>intro x g;cases g
 |ok q=>obtain⟨n',m⟩:=q;exact ro (b.aBq c a) d i h
theorem yy{P:DS}{aU:Nat}{l:List Row}{next:List Row}{R:kH×List Row}(h:jK P add aU sd (r::l) W next=R)(d:aU<n):
  jK P add aU sd l {(fU P add W aU sd r).1 with aQ:=W.aQ+1+if sd then(fU P add W aU sd r).2.2.1 else 0} (next++(fU P add W aU sd r).2.1)=R/\
  (fU P add W aU sd r).1.count n<=R.1.count n/\W.aQ+1+(if sd then(fU P add W aU sd r).2.2.1 else 0)<=R.1.aQ/\O (next++(fU P add W aU sd r).2.1)<=O R.2/\(fU P add W aU sd r).1.aQ=W.aQ:=by
 have b:=SO (P:=P) (add:=add) W aU sd r;rw[jK]at h;simp only at h;rw[b]at h;obtain⟨a,b2,e,c,-,-,-⟩:=uY (P:=P) (add:=add) d sd l {(fU P add W aU sd r).1 with aQ:=W.aQ+1+if sd then(fU P add W aU sd r).2.2.1 else 0} (next++(fU P add W aU sd r).2.1);rw[h]at a b2 c;exact⟨h,c,a,b2,b⟩
theorem aXa{up:Nat}(h:(bJ p).cW i=H up):i<O p.aK/\(eU p.aK i).bU=(up:Int):=by
 grind [bJ]
theorem aX9(a:i<O p.aK)(h:(bJ p).cW i=K):(eU p.aK i).bU<0:=by
 grind [bJ]
variable{tO2:Nat}
def FlT(β t:Nat):Prop:=t=β+3\/(β+100<=t/\t<β+200)\/∃j,j<42/\t=nH β j+97
theorem FlT.aRA{t aU:Nat}(h:FlT β t)(ha:aU<42):¬DoW β aU t:=by
 intro hd;rcases h with rfl|⟨b,c⟩|⟨j,a,rfl⟩
 .exact PR Y Y Y Y hd
 .exact PR Y Y Y Y hd
 .rcases hd with hd|hd|hd|hd
  .have:=hd.zW;unfold nH at this;omega
  .unfold nH at hd;omega
  .unfold nH at hd;omega
  .unfold nH at hd;omega
def zP(β x:Nat):Prop:=(β+1000<=x/\x<β+10000)\/x=β+2\/x=β+4\/(β+100<=x/\x<β+300)
theorem DoW.cl{aU:Nat}(ha:aU<42)(h:DoW β aU x):zP β x:=by
 rcases h with h|h|h|h
 .have:=h.zW;unfold nH at this;unfold zP;omega
 .unfold zP;omega
 .unfold zP;omega
 .unfold zP;omega
def RwT(w:aA)(ρ:aW)(tO t:Nat)(v:aF)(bV:List Row):Prop:=
 ∃bX:List aF,O bX=O bV/\oF ID undef 33 1 w ρ tO v bX/\∀i,i<O bV->mK dR aP 3 w ρ t (ep bX i undef) (ep bV i [])
theorem RwT.rws{t:Nat}(h:RwT w ρ tO t v bV):iN w ρ tO t v bV:=by
 obtain⟨bX,b,c,a⟩:=h;exact⟨bX,b,c.rd,a⟩
theorem RwT.dg{t:Nat}{S:Nat->Prop}(h:RwT w ρ tO t v bV)(a:bA w ρ S w' bN)(b:¬S tO)(d:¬S t):RwT w' bN tO t v bV:=by
 obtain⟨bX,g,j,e⟩:=h;exact⟨bX,g,j.dg a b,λi c=>(e i c).dg a d⟩
theorem RwT.nil(w:aA)(ρ:aW)(tO t:Nat):RwT w ρ tO t (hY K 0 0) []:=⟨[],rfl,oF.nil _ _ _,λi a=>dS a (Yk i)⟩
theorem RwT.len{t:Nat}(h:RwT w ρ tO t v bV):∃a cap,v=hY a (O bV) cap/\O bV<=bw:=ZM128
theorem iN.len{t:Nat}(h:iN w ρ tO t v bV):∃a cap,v=hY a (O bV) cap/\O bV<=bw:=ZM128
theorem iN.aU{t:Nat}(h:iN w ρ tO t v bV){k:Nat}(hk:k<O bV):
  ∃g o cap ra rc,v=hY (H ⟨g,o,K⟩) (O bV) cap/\e7 w ⟨g,o+k,K⟩=H (hY ra (O (ep bV k [])) rc)/\mK dR aP 3 w ρ t (hY ra (O (ep bV k [])) rc) (ep bV k []):=by
 obtain⟨bX,h1,a,h3⟩:=h;obtain⟨g,o,cap,e,-,hc⟩:=eX.aU a.1 (i:=k) Y;exact ZM162
theorem Qv{t:Nat}{l m:List Row}(hl:RwT w ρ tO t v l)(C:iN w ρ tO2 t u m)(P:O l+O m<=1099511627776)(A:tO≠t):
  ∀{ops:Array Oper} {rest:List Oper} {o:Oper} {a:Act} {bBP:Exit->Act->aA->Prop} (_:o.guard=K) (s y:Operand) (_:o.op= .call {callee:= .builtin .append,args:=#[s,y],argTypes:=#[70,70]}) (_:a.eval s=v) (_:a.eval y=u)
   (_:∀g cap w' bN,bA w ρ (·=tO) w' bN->RwT w' bN tO t (hY g (O l+O m) cap) (l++m)->wpList prog ops bBP rest (a.put o.dst (hY g (O l+O m) cap)) w'),wpList prog ops bBP (o::rest) a w:=by
 intro ops rest o a bBP B s y f hs F hK;obtain⟨h,b,n,N⟩:=hl;obtain⟨L,c,k2,z⟩:=C;refine iY zi Y B s y f (n.cY w) (P7 w) (fV _) (RN _) k2.1 (λx G j R=> ?_) hs F (by rw[b,c];omega) (by rw[b,c];unfold bw;omega) ?_
 .let⟨i,d,e⟩:=Pn G;obtain⟨a',c',e2,-⟩:=(z i Y).len;rw[iB,kX d,NQ,e]at e2;rw[e2];rfl
 .intro g cap w' r Q p;rw[b,c]at r p|-;have q:bA w ρ (·=tO) w' (up w tO ρ):=n.eW p rfl;refine hK g cap w' _ q ⟨h++L,by simp[b,c],r.QX n p,λi d=> ?_⟩;rw[F5]at d;rw[L8,L8,b];split
  .rename_i k;exact(N i k).dg q (λe=>A e.symm)
  .exact(z _ Y).dg q (λe=>A e.symm)
end Go.Proofs.YtbcooplfakebmaaGreatDoor
