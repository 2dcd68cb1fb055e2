/- Part of the proof that the tied card of a law of the tree holds; no condition is added. -/
import Derived.Test.YtbcooplfakebmaaGreatDoorM1
namespace Go.Proofs.YtbcooplfakebmaaGreatDoor
set_option maxHeartbeats 4000000
set_option maxRecDepth 100000
set_option linter.all false
open Go.RowKit Go.Maps Go.Proofs.Tryz Tryz
open _root_.Array renaming size→hJ
open _root_.Bool renaming false→po,true→oj
open _root_.Go.Ending renaming returned→i5
open _root_.Go.IntKind renaming i64→i7,u32→kd,u8→lr
open _root_.Go.Obj renaming cells→h8
open _root_.Go.Value renaming bool→j4,int→i6,ownBlock→gz,pointer→h9,slice→hY,string→j3,tuple→i8
open _root_.Go.World renaming alloc→e8,cell?→e7,setCell→ey
open _root_.Inhabited renaming default→qc
open _root_.List renaming getD→ep,length→O
open _root_.Option renaming none→K,some→H
open Go renaming World→aA,Value→aF,Calls→aH,TypeId→ap,maxLen→bw,Addr→cj
open Go.RowKit renaming Hid→dT
theorem ZM161{P:Prop}(h:P:=by
  go_wp2;go_wp2;go_roundg (O l-(j+1))
  .exact⟨hU.drewN _,j+1,L,Y,rfl,eO,HL.on ((U.refl _ _).drewN _),Y,by rw[HXS,RF.o,Option.or_none,HH.o]⟩
  omega):P:=h
theorem ZM42{P:Prop}(h:P:=by
  refine dJ _ _ rfl Yr Yr dP ?_;have Q:=dX (fM.cell Q.1 (HL.zW (by show g<_;exact HG))) (fM.cell Q.2 (HL.zW (by show g<_;exact HG)));have uL:=Z lL;clear dP lL fM hN Si oK;refine Zk hK Q<|I 14 ?_;refine aY dB ?_ _;try simp only[Act.put,RM,RJ,UT]
  go_wp2;go_roundg (O l-(j+1))
  .exact⟨dK,j+1,_,Y,rfl,eO,uL,by simp;omega,by rw[HXS,jm.o,M8,HH.o,Option.or_assoc]⟩
  omega):P:=h
theorem ZM45{P:Prop}(h:P:=by
  let⟨x,hx⟩:=E (ep l k qc);let⟨y,hy⟩:=E (ep l j qc);rw[hx]at e0 e1 HTx;rw[hy]at f0 f1 HTy;rw[hx,hy]at hb;clear hx hy;clear zH;go_wp2;go_quiet (fail);exact ZM161):P:=h
theorem ZM78{P:Prop}(h:P:=by
  exact ZM161):P:=h
theorem ZM88{P:Prop}(h:P:=by
  obtain rfl:j=O l:=Y;go_wp2;go_roundg (O l-(k+1))
  .exact⟨hU,k+1,L,Y,rfl,eO,HL,Y,by rw[HH.o,mX,Option.or_assoc]⟩
  omega):P:=h
theorem ZM149{P:Prop}(h:P:=by
  exact⟨hU,0,L,Y,rfl,rfl,HL,Y,by rw[HH.o,LU,Option.or_none]⟩):P:=h
def J0(s:cT):Nat->aF
 |0=>i6 i7 (s.aG:Int)
 |1=>i6 i7 (s.bP:Int)
 |2=>i6 i7 (s.eK:Int)
 |_=>i6 kd (s.cut:Int)
abbrev LJ(w0 w:aA)(v:aF)(l:List cT):Prop:=bG J0 qc 185 4 w0 w v l
theorem W5:jM prog 181 185 4 32:= .PU (z:= .agg #[J 0,J 0,J 0,i6 kd 0]) underlying181 dB rfl
theorem L9{a b c d:aF}{f:Nat->aF}(g:a=f 0)(l:b=f 1)(m:c=f 2)(i:d=f 3):∀j,j<4->ep [a,b,c,d] j undef=f j:=λj e=>by
 match j,e with
 |0,_=>exact g
 |1,_=>exact l
 |2,_=>exact m
 |3,_=>exact i
theorem X2{x:cT}:∀y,y∈[x]->∀j,j<4->(J0 y j).oneCell'=oj:=λ_ _ j a=>by
 match j,a with
 |0,_=>rfl
 |1,_=>rfl
 |2,_=>rfl
 |3,_=>rfl
theorem NZ(v:aF)(l:List ES)(dg:Nat)(w:aA)(h:Ik w v l)(hs:jS l)(hl:O l<=7)(P:dg<2^32)(hd:(nK l).Nodup):
  aH prog 70 #[v,i6 kd dg] w λe w'=>∃u L,e=i5 u/\LJ w w' u L/\L.head? =next l dg/\O L<=200/\U w [] w' []:=by
 obtain⟨ad,cap,rfl,-⟩:=h.len;have qs:dT (next l dg=(jI (O l) (GO l dg)).or ((jI (O l) λi=>jI (O l) (pL l i)).or (jI (O l) λi=>jI (O l) (rX l i)))):=Z (by unfold next;rw[Di,Dj,XW]);have A:=Z hs;have HK:=Z P;clear hs P;go_in;go_wp2;go_loopg [5,6] (O l) (λg p i wr=>U w [] wr []/\∃(k:Nat) (L:List cT),k<=O l/\g=O l-k/\i=J k/\LJ w wr p L/\O L<=k/\L.head? =jI k (GO l dg))
 .exact⟨U.refl _ _,0,[],Y,rfl,rfl,bG.nil _ _,X,rfl⟩
 obtain⟨hU,k,L,P,rfl,rfl,b,a,m⟩:=hrel;obtain⟨a3,R,rfl,-⟩:=b.len;have HL:=Z b;have HH:=Z m;clear b m;by_cases n:k<O l
 .let⟨g,o,cap',hv,_,e0,e1⟩:=(h.on hU).qb n;injection hv with h1 h2 h3;subst h1 h3;clear h2;simp only[uZ]at e0 e1;have HT:=(A.aU k);have V:=Z (mX k (GO l dg));have HO:=(uq A (ep l k qc).1);have HC:dT (fD (fD (ep l k qc).2 dg) (BN l (ep l k qc).1)=sP l dg (ep l k qc)):=Z rfl;have mP:dT (GO l dg k=if sP l dg (ep l k qc)≠0 then H ⟨1,(ep l k qc).1,0,sP l dg (ep l k qc)⟩else K):=Z rfl;have G:=(O' (eB g o (O l) cap) l k wr (h.on hU) A hl n hd);let⟨x,hx⟩:=E (ep l k qc);rw[hx]at e0 e1 HT HO HC mP G;clear hx;let⟨oo,hoo⟩:=E (BN l x.1);rw[hoo]at HO HC G;let⟨c,hc⟩:=E (sP l dg x);rw[hc]at HC mP;clear hoo hc;go_wp2_with fail;apply(FG x.2 dg HT HK _).cF;rintro e w2 ⟨rfl,rfl⟩;go_wp2_with fail;apply G.cF;rintro e w2 ⟨rfl,rfl⟩;go_wp2_with fail;apply(FG (fD x.2 dg) oo (Kv HT) HO _).cF;rintro e w2 ⟨rfl,rfl⟩;rw[HC.o];by_cases S:c=0
  .have hb:((c:Int)!=0)=po:=by rw[S];rfl
   have V:dT (jI (k+1) (GO l dg)=L.head?):=Z (by rw[V.o,mP.o,bD (eI S),HH.o];simp);clear S;go_wp2;go_roundg (O l-(k+1))
   .exact⟨hU,k+1,L,Y,rfl,eO,HL,Y,V.symm⟩
   omega
  .have hb:((c:Int)!=0)=oj:=by rw[bne,show((c:Int)==0)=decide (c=0)from dA c 0,jO S];rfl
   have V:dT (jI (k+1) (GO l dg)=(L++[(⟨1,x.1,0,c⟩:cT)]).head?):=Z (by rw[V.o,mP.o,bR S,M8,HH.o]);clear S;go_wp2_with (at_builtin;refine cK W5 rfl _ _ rfl HL hU Yr [J 1,J (x.1:Int),J 0,i6 kd (c:Int)] ⟨1,x.1,0,c⟩ Yr rfl (L9 rfl rfl rfl rfl) rfl Y F4 ?_;rintro g2 gI w3 pV cU- -;have nR:=Z pV;clear pV);go_roundg (O l-(k+1))
   .exact⟨cU,k+1,_,Y,rfl,eO,nR,by simp;omega,V.symm⟩
   omega
 .obtain rfl:k=O l:=Y;let⟨T,hT⟩:=E (jI (O l) (GO l dg));rw[hT]at HH qs;clear hT;go_wp2;go_loopg [5,8,9] (O l) (λg p i _ wr=>U w [] wr []/\∃(k:Nat) (L:List cT),k<=O l/\g=O l-k/\i=J k/\LJ w wr p L/\O L<=7+7*k/\L.head? =T.or (jI k λi=>jI (O l) (pL l i)))
  .exact ZM149
  clear a HL HH;obtain⟨hU,k,L,P,rfl,rfl,b,a,m⟩:=hrel;obtain⟨a3,R,rfl,-⟩:=b.len;have HL:=Z b;have HH:=Z m;clear b m;by_cases n:k<O l
  .go_wp2;go_loopg [5,9] (O l) (λg p i wr=>U w [] wr []/\∃(j:Nat) (L:List cT),j<=O l/\g=O l-j/\i=J j/\LJ w wr p L/\O L<=7+7*k+j/\L.head? =(T.or (jI k λi=>jI (O l) (pL l i))).or (jI j (pL l k)))
   .exact ZM149
   clear a HL HH;obtain⟨hU,j,L,hj,rfl,rfl,b,a,m⟩:=hrel;obtain⟨a3,R,rfl,-⟩:=b.len;have HL:=Z b;have HH:=Z m;clear b m;by_cases QA:j<O l
   .let⟨g,o,cap',hv,_,e0,e1⟩:=(h.on hU).qb n;let⟨_,_,_,C,_,f0,f1⟩:=(h.on hU).qb QA;rw[hv]at C;injection C with h1 h2 h3;injection h1 with h1;injection h1 with h1 h4;subst h1 h4;injection hv with h1 h2 h5;subst h1 h5;clear h2 h3;simp only[uZ]at e0 e1 f0 f1;have HG:dT (g<hJ w.heap):=Z (by let⟨_,_,_,W,IW,_,_⟩:=h.qb n;injection W with h1 _ _;injection h1 with h1;injection h1 with h1 _;rw[h1];exact IW);have HXS:=(mX j (pL l k));have HTx:=(A.aU k);have HTy:=(A.aU j);by_cases Xq:k<j
    .have g1:decide ((k:Int)<(j:Int))=oj:=kI Y;have g1':(k:Int)<(j:Int):=Y;by_cases zH:(ep l k qc).2=(ep l j qc).2
     .have jm:dT (pL l k j=H ⟨2,(ep l j qc).1,(ep l k qc).1,0⟩):=Z (by unfold pL;rw[bR ⟨Xq,zH⟩]);have hb:(((ep l k qc).2:Int)==((ep l j qc).2:Int))=oj:=by rw[dA];exact kI zH
      let⟨x,hx⟩:=E (ep l k qc);let⟨y,hy⟩:=E (ep l j qc);rw[hx]at e0 e1 HTx;rw[hy]at f0 f1 HTy;rw[hx,hy]at jm hb;clear hx hy;clear zH;go_wp2;go_quiet (fail);go_wp2;refine Yp λwq F=> ?_;have z:dT (U wr [] wq []):=Z (by rw[F];exact(U.refl _ _).drewN _);clear F;refine ee 99 (eb (z.cell f0 X)<|d7 (z.cell e0 X)) (λQ=> ?_);refine dw [0,1,2,3,4,5,6,7,8,9,10,11] ?_;refine Zo 12 λqL hK=> ?_;go_simp;let⟨q,Si⟩:=E ((e8 wq (h8 #[J 2,J (y.1:Int),J (x.1:Int),i6 kd 0] 185)).drew);have oK:U wr [] q []:=Si▸(z.alloc _).drew;have hN:rW q wq.heap.size [J 2,J (y.1:Int),J (x.1:Int),i6 kd 0].toArray 185:=by rw[<-Si];exact lK ..
      have Q:=dX (oK.cell f0 X) (oK.cell e0 X);rw[Si];refine Zk hK Q<|Zo 13 λqL hK=> ?_;obtain⟨v',w6,dP,lL,dK,fM,a6,OK,rfl⟩:=jR (wb:=w) (w:=q) W5 Y 181 (HL.on oK) (hU.dd oK) (fV _) (hU.dd oK).size (E8 (f:=J0) (d:=qc) hN rfl ⟨2,y.1,x.1,0⟩ (L9 rfl rfl rfl rfl)) X2 (by simp;omega) (by unfold bw;simp;omega);exact ZM42
     .have RF:dT (pL l k j=K):=Z (by unfold pL;rw[bD (λh=>zH h.2)]);have hb:(((ep l k qc).2:Int)==((ep l j qc).2:Int))=po:=by rw[dA];exact jO zH
      exact ZM45
    .have RF:dT (pL l k j=K):=Z (by unfold pL;rw[bD (λh=>Xq h.1)]);have g1:decide ((k:Int)<(j:Int))=po:=jO Y;go_wp2;go_quiet (fail);exact ZM78
   .exact ZM88
  .obtain rfl:k=O l:=Y;let⟨T2,hT2⟩:=E ((jI (O l) λi=>jI (O l) (pL l i)));rw[hT2]at HH qs;clear hT2;go_wp2;go_loopg [5,10,11] (O l) (λg p i _ wr=>U w [] wr []/\∃(k:Nat) (L:List cT),k<=O l/\g=O l-k/\i=J k/\LJ w wr p L/\O L<=56+7*k/\L.head? =(T.or T2).or (jI k λi=>jI (O l) (rX l i)))
   .exact ZM149
   clear a HL HH;obtain⟨hU,k,L,P,rfl,rfl,b,a,m⟩:=hrel;obtain⟨a3,R,rfl,-⟩:=b.len;have HL:=Z b;have HH:=Z m;clear b m;by_cases n:k<O l
   .go_wp2;go_loopg [5,11] (O l) (λg p i wr=>U w [] wr []/\∃(j:Nat) (L:List cT),j<=O l/\g=O l-j/\i=J j/\LJ w wr p L/\O L<=56+7*k+j/\L.head? =((T.or T2).or (jI k λi=>jI (O l) (rX l i))).or (jI j (rX l k)))
    .exact ZM149
    clear a HL HH;obtain⟨hU,j,L,hj,rfl,rfl,b,a,m⟩:=hrel;obtain⟨a3,R,rfl,-⟩:=b.len;have HL:=Z b;have HH:=Z m;clear b m;by_cases QA:j<O l
    .let⟨g,o,cap',hv,_,e0,e1⟩:=(h.on hU).qb n;let⟨_,_,_,C,_,f0,f1⟩:=(h.on hU).qb QA;rw[hv]at C;injection C with h1 h2 h3;injection h1 with h1;injection h1 with h1 h4;subst h1 h4;injection hv with h1 h2 h5;subst h1 h5;clear h2 h3;simp only[uZ]at e0 e1 f0 f1;have HG:dT (g<hJ w.heap):=Z (by let⟨_,_,_,W,IW,_,_⟩:=h.qb n;injection W with h1 _ _;injection h1 with h1;injection h1 with h1 _;rw[h1];exact IW);have HXS:=(mX j (rX l k));have HTx:=(A.aU k);have HTy:=(A.aU j);by_cases zH:(ep l k qc).2=(ep l j qc).2
     .have RF:dT (rX l k j=K):=Z (by unfold rX;rw[bD (λh=>h.1 zH)]);have hb:(((ep l k qc).2:Int)!=((ep l j qc).2:Int))=po:=by rw[bne,dA,kI zH];rfl
      exact ZM45
     .have hb:(((ep l k qc).2:Int)!=((ep l j qc).2:Int))=oj:=by rw[bne,dA,jO zH];rfl
      cases t:part (ep l k qc).2 (ep l j qc).2 with
      |true=>
       have jm:dT (rX l k j=H ⟨3,(ep l k qc).1,(ep l j qc).1,0⟩):=Z (by unfold rX;rw[bR ⟨zH,t⟩]);clear zH;let⟨x,hx⟩:=E (ep l k qc);let⟨y,hy⟩:=E (ep l j qc);rw[hx]at e0 e1 HTx;rw[hy]at f0 f1 HTy;rw[hx,hy]at jm hb;have Du:=hx;have r:=hy;clear hx hy;rw[Du,r]at t;have N:dT (∀B:aA,tR 108 #[i6 kd (x.2:Int),i6 kd (y.2:Int)] B λe w'=>e=i5 (j4 oj)/\w'=B):=Z λB=>(GK x.2 y.2 HTx HTy B).mono λe w' h=>⟨by rw[h.1,t],h.2.symm⟩;clear Du r;go_wp2;go_quiet ((go_at_call 108;exact Calls.quiet_of_same (N.o _)));go_wp2;refine Yp λwq F=> ?_;have z:dT (U wr [] wq []):=Z (by rw[F];exact(U.refl _ _).drewN _);clear F;refine ee 99 (eb (z.cell e0 X)<|d7 (z.cell f0 X)) (λQ=> ?_);refine dw [0,1,2,3,4,5,6,7,8,9,10,11] ?_;refine Zo 12 λqL hK=> ?_;go_simp;let⟨q,Si⟩:=E ((e8 wq (h8 #[J 3,J (x.1:Int),J (y.1:Int),i6 kd 0] 185)).drew);have oK:U wr [] q []:=Si▸(z.alloc _).drew;have hN:rW q wq.heap.size [J 3,J (x.1:Int),J (y.1:Int),i6 kd 0].toArray 185:=by rw[<-Si];exact lK ..
       have Q:=dX (oK.cell e0 X) (oK.cell f0 X);rw[Si];refine Zk hK Q<|Zo 13 λqL hK=> ?_;obtain⟨v',w6,dP,lL,dK,fM,a6,OK,rfl⟩:=jR (wb:=w) (w:=q) W5 Y 181 (HL.on oK) (hU.dd oK) (fV _) (hU.dd oK).size (E8 (f:=J0) (d:=qc) hN rfl ⟨3,x.1,y.1,0⟩ (L9 rfl rfl rfl rfl)) X2 (by simp;omega) (by unfold bw;simp;omega);exact ZM42
      |false=>
       have RF:dT (rX l k j=K):=Z (by unfold rX;rw[bD (λh=>by rw[t]at h;exact dS h.2 D)]);clear zH;let⟨x,hx⟩:=E (ep l k qc);let⟨y,hy⟩:=E (ep l j qc);rw[hx]at e0 e1 HTx;rw[hy]at f0 f1 HTy;rw[hx,hy]at hb;have Du:=hx;have r:=hy;clear hx hy;rw[Du,r]at t;have N:dT (∀B:aA,tR 108 #[i6 kd (x.2:Int),i6 kd (y.2:Int)] B λe w'=>e=i5 (j4 po)/\w'=B):=Z λB=>(GK x.2 y.2 HTx HTy B).mono λe w' h=>⟨by rw[h.1,t],h.2.symm⟩;clear Du r;go_wp2;go_quiet ((go_at_call 108;exact Calls.quiet_of_same (N.o _)));exact ZM78
    .exact ZM88
   .obtain rfl:k=O l:=Y;go_wp2;go_loopg [5,12,13] (O l) (λg p i _ wr=>U w [] wr []/\∃(k:Nat) (L:List cT),k<=O l/\g=O l-k/\i=J k/\LJ w wr p L/\O L<=105+7*k/\L.head? =next l dg)
    .exact⟨hU,0,L,Y,rfl,rfl,HL,Y,by rw[HH.o,qs.o,Option.or_assoc]⟩
    clear a HL HH;obtain⟨hU,k,L,P,rfl,rfl,b,a,m⟩:=hrel;obtain⟨a3,R,rfl,-⟩:=b.len;have HL:=Z b;have HH:=Z m;clear b m;by_cases n:k<O l
    .go_wp2;go_loopg [5,13] k (λg p i wr=>U w [] wr []/\∃(j:Nat) (L:List cT),j<=k/\g=k-j/\i=J j/\LJ w wr p L/\O L<=105+7*k+j/\L.head? =next l dg)
     .exact⟨hU,0,L,Y,rfl,rfl,HL,Y,HH⟩
     clear a HL HH;obtain⟨hU,j,L,hj,rfl,rfl,b,a,m⟩:=hrel;obtain⟨a3,R,rfl,-⟩:=b.len;have HL:=Z b;have HH:=Z m;clear b m;by_cases yX:j<k
     .have QA:j<O l:=Y;let⟨g,o,cap',hv,_,e0,e1⟩:=(h.on hU).qb n;let⟨_,_,_,C,_,f0,f1⟩:=(h.on hU).qb QA;rw[hv]at C;injection C with h1 h2 h3;injection h1 with h1;injection h1 with h1 h4;subst h1 h4;injection hv with h1 h2 h5;subst h1 h5;clear h2 h3;simp only[uZ]at e0 e1 f0 f1;have HG:dT (g<hJ w.heap):=Z (by let⟨_,_,_,W,IW,_,_⟩:=h.qb n;injection W with h1 _ _;injection h1 with h1;injection h1 with h1 _;rw[h1];exact IW);have HTx:=(A.aU k);have HTy:=(A.aU j);by_cases zH:(ep l k qc).2=(ep l j qc).2
      .have jm:=Z (te yX n zH dg);have hb:(((ep l k qc).2:Int)==((ep l j qc).2:Int))=oj:=by rw[dA];exact kI zH
       let⟨x,hx⟩:=E (ep l k qc);let⟨y,hy⟩:=E (ep l j qc);rw[hx]at e0 e1 HTx;rw[hy]at f0 f1 HTy;rw[hx,hy]at hb;clear hx hy;clear zH;go_wp2;go_quiet (fail);go_wp2;refine Yp λwq F=> ?_;have z:dT (U wr [] wq []):=Z (by rw[F];exact(U.refl _ _).drewN _);clear F;refine ee 99 (eb (z.cell f0 X)<|d7 (z.cell e0 X)) (λQ=> ?_);refine dw [0,1,2,3,4,5,6,7,8,9,10,11] ?_;refine Zo 12 λqL hK=> ?_;go_simp;let⟨q,Si⟩:=E ((e8 wq (h8 #[J 2,J (y.1:Int),J (x.1:Int),i6 kd 0] 185)).drew);have oK:U wr [] q []:=Si▸(z.alloc _).drew;have hN:rW q wq.heap.size [J 2,J (y.1:Int),J (x.1:Int),i6 kd 0].toArray 185:=by rw[<-Si];exact lK ..
       have Q:=dX (oK.cell f0 X) (oK.cell e0 X);rw[Si];refine Zk hK Q<|Zo 13 λqL hK=> ?_;obtain⟨v',w6,dP,lL,dK,fM,a6,OK,rfl⟩:=jR (wb:=w) (w:=q) W5 Y 181 (HL.on oK) (hU.dd oK) (fV _) (hU.dd oK).size (E8 (f:=J0) (d:=qc) hN rfl ⟨2,y.1,x.1,0⟩ (L9 rfl rfl rfl rfl)) X2 (by simp;omega) (by unfold bw;simp;omega);refine dJ _ _ rfl Yr Yr dP ?_;have Q:=dX (fM.cell Q.1 (HL.zW (by show g<_;exact HG))) (fM.cell Q.2 (HL.zW (by show g<_;exact HG)));have uL:=Z lL;clear dP lL fM hN Si oK;refine Zk hK Q<|I 14 ?_;refine aY dB ?_ _;try simp only[Act.put,RM,RJ,UT]
       go_wp2;go_roundg (k-(j+1))
       .exact⟨dK,j+1,_,Y,rfl,eO,uL,by simp;omega,by rw[M8,HH.o];have h:=jm.o;cases hn:next l dg with|none=>rw[hn]at h;cases h|some s=>rfl⟩
       omega
      .have hb:(((ep l k qc).2:Int)==((ep l j qc).2:Int))=po:=by rw[dA];exact jO zH
       let⟨x,hx⟩:=E (ep l k qc);let⟨y,hy⟩:=E (ep l j qc);rw[hx]at e0 e1 HTx;rw[hy]at f0 f1 HTy;rw[hx,hy]at hb;clear hx hy;clear zH;go_wp2;go_quiet (fail);go_wp2;go_wp2;go_roundg (k-(j+1))
       .exact⟨hU.drewN _,j+1,L,Y,rfl,eO,HL.on ((U.refl _ _).drewN _),Y,HH⟩
       omega
     .go_wp2;go_roundg (O l-(k+1))
      .exact⟨hU,k+1,L,Y,rfl,eO,HL,Y,HH⟩
      omega
    .go_wp2;go_ret;exact⟨_,L,rfl,HL,HH,Y,hU⟩
variable{a:Act}{ops:Array Oper}{bBP:Exit->Act->aA->Prop}{S S':List Nat}{news:List aF}{bytes cap g i j n sz:Nat}{P:Program}{v:aF}{wb:aA}
section
def lZ(w:aA)(k:Nat):Option ap:=match w.heap[k]?with|some (h8 _ t _)=>H t|_=>K
section
variable{w w' w0:aA}{k b:Nat}{t e:ap}{cs:Array aF}
theorem eH(h:w.heap[k]? =H (h8 cs t (0,0))):lZ w k=H t:=by unfold lZ;rw[h]
theorem bG.ty{α:Type}{f:α->Nat->aF}{d:α}{l:List α}(h:bG f d e sz w0 w v l)(b:gz v=H k):lZ w k=H e:=by
 rcases h.1 with⟨rfl,_⟩|⟨g,cap,cur,rfl,a,_⟩<;>grind [gz,eH]
theorem bG.Bx{α:Type}{f:α->Nat->aF}{d:α}{l:List α}(h:bG f d e sz w0 w v l):∀k,k∈v.ownBlock.toList->lZ w k=H e:=λk a=>h.ty (eI a)
theorem bG.dg{α:Type}{f:α->Nat->aF}{d:α}{l:List α}(h:bG f d e sz w0 w v l)(a:U w S w' S')(g:∀k,k∈S->lZ w k≠H e):bG f d e sz w0 w' v l:=
 h.eF a λ_ c b=>g _ b (h.ty c)
theorem U.bS(a:U w S w' S')(h:w.heap[b]? =H (h8 cs t (0,0)))(d:∀k,k∈S->lZ w k≠H t):w'.heap[b]? =H (h8 cs t (0,0)):=
 a.aC h λc=>d b c (eH h)
theorem bG.ge{α:Type}{f:α->Nat->aF}{d:α}{l:List α}(h:bG f d e sz w0 w v l):∀k,k∈v.ownBlock.toList->hJ w0.heap<=k:=λk a=>h.2 k (eI a)
theorem i9{α:Type}{f:α->Nat->aF}{d:α}{l:List α}{t:ap}(B:jM P t e sz bytes)(i:0<sz)(ty:ap)(C:bG f d e sz w0 w v l)(A:U wb [] w [])(r:hJ wb.heap<=hJ w0.heap)(n:hJ w0.heap<=hJ w.heap){T:ap}(x:α)(hl:O news=sz)(G:∀j,j<sz->ep news j undef=f x j)(Q:∀j,j<sz->(f x j).oneCell'=oj)(z:(O l+1)*bytes<=140737488355328)(F:O l+1<=bw):
  ∃g cap w',(Builtin.append_ #[t,t] ty #[v,hY (H ⟨w,0,K⟩) 1 1]).run P (e8 w (h8 news.toArray T))= .ok (hY (H ⟨g,0,K⟩) (O l+1) cap) w'/\bG f d e sz w0 w' (hY (H ⟨g,0,K⟩) (O l+1) cap) (l++[x])/\U wb [] w' []/\
   U w v.ownBlock.toList w' [g]/\hJ w0.heap<=g:=by
 have a:U w [] (e8 w (h8 news.toArray T)) []:=(U.refl w []).alloc _;obtain⟨v',w6,p,b,k,q,a6,u,rfl⟩:=jR (m:=[x]) B i ty (C.on a) (A.dd a) r (jN n a.size) (E8 (f:=f) (d:=d) (lK w _) hl x G) (λy h=>by grind) (eI z) (eI F);obtain⟨g,cap',hv,L⟩:∃g c,hY a6 (O l+O [x]) u=eB g 0 (O l+1) c/\hJ w0.heap<=g:=by
  rcases b.1 with⟨hv,i⟩|⟨g,cap,cur,hv,_⟩
  .simp at i
  .refine⟨g,cap,by rw[hv];simp,b.2 g (by rw[hv];rfl)⟩
 rw[hv]at p b q;refine⟨g,cap',w6,p,b,k,?_,L⟩;have N:U w v.ownBlock.toList (e8 w (h8 news.toArray T)) v.ownBlock.toList:=(a.aN (T:=v.ownBlock.toList) X).to λ_ o=> .inl o;exact N.dd q
theorem AF{α:Type}{f:α->Nat->aF}{d:α}{l:List α}{t:ap}(F:jM P t e sz bytes){rest:List Oper}{o:Oper}(G:o.guard=K)(s y:Operand)(W:o.op= .call {callee:= .builtin .append,args:=#[s,y],argTypes:=#[t,t]})(m:bG f d e sz w0 w v l)(C:U wb [] w [])(q:hJ wb.heap<=hJ w0.heap)(L:hJ w0.heap<=hJ w.heap)(hs:a.eval s=v)(news:List aF)(x:α)(qL:a.eval y=hY (H ⟨w,0,K⟩) 1 1)(hl:O news=sz)(T:∀j,j<sz->ep news j undef=f x j)(V:news.all Value.oneCell'=oj)(B:(O l+1)*bytes<=140737488355328)(S:O l+1<=bw)(h:∀g cap w',bG f d e sz w0 w' (hY (H ⟨g,0,K⟩) (O l+1) cap) (l++[x])->U wb [] w' []->U w v.ownBlock.toList w' [g]->hJ w0.heap<=g->
   wpList P ops bBP rest (a.put o.dst (hY (H ⟨g,0,K⟩) (O l+1) cap)) w'):wpList P ops bBP (o::rest) a (e8 w (h8 news.toArray e)):=by
 obtain⟨i,z,R,u,hz,Q,Xt,A⟩:=F.ex;refine qP w G s y t W e i z sz bytes R u hz Q Xt A v (O l) _ m.1 hs news qL hl V B S ?_;rintro v' w' qs n b ⟨g,cap,rfl⟩;have r:hJ w0.heap<=g:=by
  rcases b g rfl with c|c
  .exact m.2 g c
  omega
 have N:bG f d e sz w0 w' (eB g 0 (O l+1) cap) (l++[x]):=bG.wN qs T (λg' IW=>by grind [gz]);have qd:U w v.ownBlock.toList w' [g]:=((U.refl w v.ownBlock.toList).grown n (λk b=> .inl (by rw[b];simp))).to (λk p=>by
  simp at p;subst p;rcases b k rfl with c|c<;>grind)
 exact h g cap w' N (C.grown n (λk b=> .inr (jN q (m.2 k b)))).nil qd r
theorem bG.DB{α:Type}{f:α->Nat->aF}{d:α}{l:List α}(h:bG f d e sz w0 w (hY (H ⟨g,0,K⟩) n cap) l)(m:i<O l)(b:j<sz)(x:α)(u:aF)(p:∀a,a<sz->f x a=if a=j then u else f (ep l i d) a):
  bG f d e sz w0 (ey w ⟨g,i*sz+j,K⟩ u) (hY (H ⟨g,0,K⟩) n cap) (l.set i x):=by
 obtain⟨a',cap',hv,_⟩:=h.len;injection hv with h1 h2 h3;subst h1 h2 h3;refine⟨?_,h.2⟩;rw[VP];refine (h.1.set rfl i j b u).congr λv a q r=> ?_;grind
end
end
variable{u z:aF}{w:aA}
theorem ZM50{P:Prop}(h:P:=by
  go_wp2_with (go_at_call 64;apply Cp.cL;intro w3 cU;have sH:=cU.aC RD X;obtain⟨e0,e1,e2,e3,e4⟩:=Z5 sH;have ef:=aM sH;have gZ:=(Pb.dd cU));refine mD (aLd (A:=⟨hJ w.heap+1,0,K⟩) (T:=46) (v:=P1) rfl Yr Yr (by go_simp)) rfl ?_;exact⟨rfl,gZ.aZ (Dd sH).2 (λb hb=>by simp at hb;omega)⟩):P:=h
abbrev P1:aF:= .agg #[hY K 0 0,hY K 0 0,hY K 0 0,i6 i7 0,hY K 0 0]
theorem Dd{B:Nat}{a b c d e x y:aF}{t:ap}(h:w.heap[B]? =H (h8 #[a,b,c,d,e] t (0,0))):
  (ey (ey (ey (ey (ey w ⟨B,0,K⟩ x) ⟨B,1,K⟩ y) ⟨B,2,K⟩ z) ⟨B,3,K⟩ u) ⟨B,4,K⟩ v).heap[B]? =H (h8 #[x,y,z,u,v] t (0,0))/\U w [B] (ey (ey (ey (ey (ey w ⟨B,0,K⟩ x) ⟨B,1,K⟩ y) ⟨B,2,K⟩ z) ⟨B,3,K⟩ u) ⟨B,4,K⟩ v) [B]:=
 ⟨by rw[aE _ (aE _ (aE _ (aE _ (aE _ h))))];rfl,((((pX w B 0 x).setCell (a:=Ad B 1) (.inl X) y).setCell (a:=Ad B 2) (.inl X) z).setCell (a:=Ad B 3) (.inl X) u).setCell (a:=Ad B 4) (.inl X) v⟩
theorem uh(hv av:aF)(ps:List (dU×aF))(q:bB)(w:aA)(h:B9 w hv av ps q)(hs:fJ q≠0):
  aH prog 34 #[.agg #[j3 q.name,hv,av]] w λe w'=>e=i5 (i8 #[P1,i6 i7 (fJ q)])/\U w [] w' []:=by
 obtain⟨ha,l,rfl,-⟩:=h.head.len;obtain⟨i,g,rfl,-⟩:=h.aD.len;rw[h.len]at h|-;let⟨wa,j⟩:=E (e8 (e8 w (h8 #[j3 q.name,hY ha (O q.head) l,hY i (O q.aD) g] 25)) (h8 #[cH,cH,cH,J 0,cH] 46));have n:U w [] wa []:=j▸((U.refl w []).alloc _).alloc _;have r:rW wa w.heap.size #[j3 q.name,hY ha (O q.head) l,hY i (O q.aD) g] 25:=by rw[<-j];exact kV ..
 have x:rW wa (hJ w.heap+1) #[cH,cH,cH,J 0,cH] 46:=by rw[<-j];exact kU ..
 obtain⟨b0,C,b2⟩:=Z3 r;skip
 have d:(fJ q !=0)=oj:=by rw[bne_iff_ne];exact hs
 have p:dT (tR 63 #[.agg #[j3 q.name,hY ha (O q.head) l,hY i (O q.aD) g]] wa λe w'=>e=i5 (i8 #[.agg #[J 0,cH],i6 kd 0,J (fJ q)])/\U wa [] w' []):=Z (aG3 _ _ ps q wa (h.on n) hs);generalize y:fJ q=s at d p|-;go_in;go_wp2_with (go_at_call 63;apply p.cL;intro w2 m;have c:=m.aC x X;obtain⟨e0,B,e2,F,z⟩:=Z5 c;have G:=aM c;have a:=iO (cV c);have u:=(n.dd m));refine mD (aLd (A:=⟨hJ w.heap+1,0,K⟩) (T:=46) (v:=P1) rfl Yr Yr (by go_simp)) rfl ?_;exact⟨rfl,(u.aZ (Dd c).2 (λb d=>by simp at d;omega)).alloc _⟩
theorem Re(hv av:aF)(ps:List (dU×aF))(q:bB)(w:aA)(h:B9 w hv av ps q)(hs:fJ q=0)(m:jZ (aJ q) (O (vars q))=oj->AR (aJ q) (O (vars q)) (cO q)=po):
  aH prog 34 #[.agg #[j3 q.name,hv,av]] w λe w'=>e=i5 (i8 #[P1,i6 i7 (if jZ (aJ q) (O (vars q)) then 170 else 161)])/\U w [] w' []:=by
 obtain⟨ha,x,rfl,-⟩:=h.head.len;obtain⟨p,n,rfl,-⟩:=h.aD.len;rw[h.len]at h|-;let⟨wa,j⟩:=E (e8 (e8 w (h8 #[j3 q.name,hY ha (O q.head) x,hY p (O q.aD) n] 25)) (h8 #[cH,cH,cH,J 0,cH] 46));have i:U w [] wa []:=j▸((U.refl w []).alloc _).alloc _;have z:rW wa w.heap.size #[j3 q.name,hY ha (O q.head) x,hY p (O q.aD) n] 25:=j▸kV ..;have C:rW wa (hJ w.heap+1) #[cH,cH,cH,J 0,cH] 46:=j▸kU ..;obtain⟨b0,R,b2⟩:=Z3 z;skip
 let⟨_,G,Dx,W,_,_⟩:=f8 hs;have L:O (aJ q)<=6:=by simp only[aJ,sN];omega
 have c:cO q<2^32:=wM (AY _ _) (Cr D Y);generalize a:jZ (aJ q) (O (vars q))=A at m|-;go_in;go_upto_region 4 with(first|(go_at_call 63;apply ((aCC _ _ ps q wa (h.on i) hs)).cF;rintro e w2 ⟨ev,rfl,u,r⟩;obtain⟨y,B,rfl,-⟩:=u.len;have d:=r.aC C X;obtain⟨e0,e1,e2,e3,e4⟩:=Z5 d;have ef:=aM d;have S:=iO (cV d);have N:=Z (u.eE i.size)));let⟨P,l⟩:=E (e8 w2 (h8 #[J (O (vars q)),hY y (O (aJ q)) B] 133));have g:=Za l;have RD:=g.aC d X;obtain⟨g0,V⟩:=Z2 (Zb l);obtain⟨e0,e1,e2,e3,e4⟩:=Z5 RD;have ef:=aM RD;have Cp:=(QU _ (aJ q) (O (vars q)) (cO q) P (N.rd.on g) ((vV hs)) L c);have Pb:=(((i.dd r)).dd g);rw[l];cases A with
 |false=>
  rw[a]at Cp;exact ZM50
 |true=>
  rw[a,m rfl]at Cp;exact ZM50
variable{bF:sM}{pa:Int}{l lF:List ES}{zK es tops:List Nat}{N b0 ms:List aX}{e low dL:Nat}{q:bB}
theorem uz{dg:Nat}(hd:(nK l).Nodup){s:cT}(h:next l dg=H s)(c:s.aG=1):s.eK=0:=by
 unfold next at h;cases a:oR l dg with
 |some x=>
  rw[a]at h;obtain rfl:x=s:=eI h;unfold oR at a;cases b:l.find? λx=>sP l dg x !=0 with
  |none=>grind
  |some y=>grind
 |none=>
  rw[a,Option.none_or]at h;cases b:mF l with
  |some x=>
   grind [EH]
  |none=>
   grind [BP]
theorem aCV{dg:Nat}(hd:(nK l).Nodup)(hs:jS l){s:cT}(h:next l dg=H s):s.cut<2^32:=by
 by_cases d:s.aG=1
 .unfold next at h;cases a:oR l dg with
  |some x=>
   rw[a]at h;obtain rfl:x=s:=eI h;unfold oR at a;cases b:l.find? λx=>sP l dg x !=0 with
   |none=>grind
   |some y=>
    rw[b]at a;injection a with a;subst a;exact Og (jN (AL _ _) (AL _ _)) (hs _ (List.mem_of_find?_eq_some b))
  |none=>
   rw[a,Option.none_or]at h;cases b:mF l with
   |some x=>
    grind [EH]
   |none=>
    grind [BP]
 .rw[(((iK hd h).mem).2.2 d).2.2];omega
theorem ud{k:Nat}(h:k<n):(List.range k++List.replicate (n-k) 0).set k k=List.range (k+1)++List.replicate (n-(k+1)) 0:=by
 rw[List.set_append_right _ _ X,List.length_range,Nat.sub_self,Yl,zcV];congr 1;obtain⟨m,a⟩:∃m,n-k=m+1:=⟨n-k-1,Y⟩;grind
theorem xF{l:List dU}(h:nQ l=po):l.Nodup:=by
 rw[List.Nodup,List.pairwise_iff_getElem];intro i j d a b c;unfold nQ at h;rw[List.any_eq_false]at h;have:=h j (eI a);grind [List.mem_iff_getElem]
theorem yL:∀{l m:List dU},l.Nodup->(∀x,x∈l->x∈m)->O l<=O m
 |[],_,_,_=>RN _
 |x::l,m,hd,h=>by
  rw[Fa]at hd;have b:=h x (rg ..);have c:=yL (l:=l) (m:=m.erase x) hd.2 λy a=>(List.mem_erase_of_ne (show y≠x from λe=>hd.1 (e▸a))).2 (h y (RL _ a));grind
theorem Gc{dg f:Nat}{b c:sM}{k:List ES}(h:cX pa dg f b l=H (c,k)):
  (iG l dg=oj/\c=b/\k=l)\/(iG l dg=po/\∃g s,f=g+1/\next l dg=H s/\cX pa dg g (gB pa b l s) (make l s)=H (c,k)):=by
 cases a:iG l dg with
 |true=>
  have:cX pa dg f b l=H (b,l):=by cases f<;>(unfold cX;rw[bR a])
  grind
 |false=>
  refine .inr ⟨rfl,?_⟩;cases f with
  |zero=>grind [cX]
  |succ g=>
   grind [cX]
theorem TF{k:Nat}(h:k<O es)(pa:Int):(cN pa es).1.take (k+1)=(cN pa es).1.take k++[⟨1,k,cD (ep es k 0),0,0,pa,po⟩]:=by
 grind [cN,List.take_add_one]
theorem tH(pa:Int)(es:List Nat):O (cN pa es).1=O es:=by simp[cN]
def DC(l:List ES)(k:Nat):List ES:=(List.range (O l)).map λi=>if i<k then(i,(ep l i qc).2)else ep l i qc
theorem sC(l:List ES)(k:Nat):O (DC l k)=O l:=by simp[DC]
theorem XG{k:Nat}(a:i<O l):ep (DC l k) i qc=if i<k then(i,(ep l i qc).2)else ep l i qc:=by
 grind [DC]
theorem Zw(l:List ES):DC l 0=l:=by
 grind [List.ext_getElem,sC,DC]
theorem Ft(l:List ES):DC l (O l)=qB l:=by
 grind [DC,qB,bW,List.map_congr_left]
theorem XF(l:List ES)(k i:Nat):(DC l k)[i]? =if i<O l then H (if i<k then(i,(ep l i qc).2)else ep l i qc)else K:=by
 grind [DC]
theorem Zx{k:Nat}(a:k<O l):DC l (k+1)=(DC l k).set k (k,(ep l k qc).2):=by
 apply List.ext_getElem?;grind [XF,sC]
theorem PL{dg:Nat}:∀(n:Nat) (b:sM) (l:List ES) (c:sM) (k:List ES),(∀x,x∈b.1->x.lW=po)->cX pa dg n b l=H (c,k)->∀x,x∈c.1->x.lW=po
 |n,b,l,c,k,h,e=>by
  rcases Gc e with⟨_,rfl,rfl⟩|⟨_,g,s,rfl,d,e⟩
  .exact h
  .refine PL g _ _ c k (λx a=> ?_) e;unfold gB at a;split at a
   .rcases EY.1 a with a|a
    .exact h x a
    .rw[Yj.1 a]
   .rcases EY.1 a with a|a
    .exact h x a
    .rw[Yj.1 a]
theorem Kz(pa:Int)(es:List Nat):∀x,x∈(cN pa es).1->x.lW=po:=λx a=>by
 grind [cN]
def IK(b:List aX)(tops:List Nat)(ns:List aX):Prop:=jT b ns/\∀i,i<O ns->(ep ns i qc).lW=decide (i∈tops)
theorem IK.start{b:List aX}(h:∀x,x∈b->x.lW=po):IK b [] b:=⟨jT.refl _,λi a=>by
 grind⟩
theorem tL{l:List aX}{x:aX}:ep (l.set i x) e qc=if i=e/\i<O l then x else ep l e qc:=by
 grind
theorem IK.vP{b ns:List aX}(h:IK b tops ns){t:Nat}(c:t<O ns):IK b (tops++[t]) (ns.set t {ep ns t qc with lW:=oj}):=by
 refine⟨h.1.dd ?_,λi a=> ?_⟩
 .unfold jT;apply List.ext_getElem
  .simp
  grind [core]
 .rw[VP]at a;rw[tL];by_cases e:t=i
  .grind
  .rw[if_neg (λh=>e h.1),h.2 i a];simp[Ne.symm e]
theorem map_set{α β:Type}(f:α->β)(l:List α)(i:Nat)(x:α):(l.set i x).map f=(l.map f).set i (f x):=by rw[List.map_set]
theorem VU{α β:Type}{l:List (α×β)}{x:α}{d:α×β}(a:i<O l):(l.set i (x,(ep l i d).2)).map (·.2)=l.map (·.2):=by
 apply List.ext_getElem
 .simp
 grind
theorem Ga{f:Nat}{b:sM}(hd:(nK l).Nodup)(hs:jS l)(d:eD l<=f){R:sM×List ES}(h:fC pa f b l=R):
  (next l 0=K/\R=(b,l))\/∃g s,f=g+1/\next l 0=H s/\eD (make l s)<=g/\fC pa g (gB pa b l s) (make l s)=R:=by
 cases a:next l 0 with
 |none=>
  refine .inl ⟨rfl,?_⟩;rw[<-h];cases f with
  |zero=>rfl
  |succ g=>unfold fC;rw[a]
 |some s=>
  have c:=o9 hs (iK hd a);cases f with
  |zero=>omega
  |succ g=>
   grind [fC]
theorem TK{pa:Int}:∀(n:Nat) (b:sM) (l:List ES),∃vP,(fC pa n b l).1.1=b.1++vP/\∀x,x∈vP->x.lW=po
 |0,b,l=>⟨[],by simp[fC],X⟩
 |n+1,b,l=>by
  unfold fC;cases next l 0 with
  |none=>simp_all
  |some s=>
   let⟨vP,a,c⟩:=TK (pa:=pa) n (gB pa b l s) (make l s);grind [gB]
theorem WI(h:eD l<=42):eD l<=bZ:=by unfold bZ;omega
def Um(N:List aX)(low i:Nat):aX:={ep N i qc with bU:=nF N i,lW:=(ep N i qc).lW||decide (low<=i)}
def A4(N:List aX)(low k:Nat):List aX:=(List.range (O N)).map λi=>if i<k then Um N low i else ep N i qc
theorem sD(N:List aX)(low k:Nat):O (A4 N low k)=O N:=by simp[A4]
theorem C9(N:List aX)(low k i:Nat):(A4 N low k)[i]? =if i<O N then H (if i<k then Um N low i else ep N i qc)else K:=by
 grind [A4]
theorem Ac{k:Nat}(a:i<O N):ep (A4 N low k) i qc=if i<k then Um N low i else ep N i qc:=by
 grind [C9]
theorem fz(N:List aX)(low:Nat):A4 N low 0=N:=by
 apply List.ext_getElem?;grind [C9]
theorem gb{k:Nat}(a:k<O N):A4 N low (k+1)=(A4 N low k).set k (Um N low k):=by
 apply List.ext_getElem?;grind [C9,sD]
theorem zg(h:∀i,i<O N->i<low->(ep N i qc).lW=decide (i∈tops)):A4 N low (O N)=oJ N low tops:=by
 grind [A4,oJ,List.map_congr_left,Um]
def vN(N:List aX)(i j:Nat):Int:=(List.range j).foldl (λp j=>if dV (ep N j qc) i then(j:Int)else p) (-1)
theorem E9(N:List aX)(i j:Nat):vN N i (j+1)=if dV (ep N j qc) i then(j:Int)else vN N i j:=by
 grind [vN,List.range_succ]
def aC4(N:List aX)(low k j:Nat):aX:={ep N k qc with bU:=vN N k j,lW:=(ep N k qc).lW||decide (low<=k)}
def A0(N:List aX)(low k j:Nat):List aX:=(A4 N low k).set k (aC4 N low k j)
theorem vf{k:Nat}(a:k<O N):A0 N low k (O N)=A4 N low (k+1):=by rw[gb a];rfl
theorem Kx(N:List aX)(low k j:Nat):O (A0 N low k j)=O N:=by unfold A0;rw[VP,sD]
theorem gu{k:Nat}(a:i<O N):core (ep (A0 N low k j) i qc)=core (ep N i qc):=by
 unfold A0;rw[tL,sD];by_cases h:k=i/\k<O N
 .rw[bR h];obtain⟨rfl,_⟩:=h;rfl
 .rw[bD h,Ac a];split
  .rfl
  .rfl
theorem Rr{k:Nat}(a:i<O N)(c:Nat):dV (ep (A0 N low k j) i qc) c=dV (ep N i qc) c:=by
 rw[AN,gu a,<-AN]
theorem ru{vP:List aX}(h:IK b0 tops ms):∀i,i<O (ms++vP)->i<O b0->(ep (ms++vP) i qc).lW=decide (i∈tops):=λi _ hl=>by
 have a:i<O ms:=h.1.len▸hl;rw[iB,zbE a,<-iB];exact h.2 i a
theorem aC1{k:Nat}(a:k<O N)(h:ms=(A4 N low k).set k {ep N k qc with lW:=(ep N k qc).lW||decide (low<=k)}):
  ms.set k {ep ms k qc with bU:= -1}=A0 N low k 0:=by
 subst h;rw[List.set_set,tL,bR ⟨rfl,by grind [sD]⟩];rfl
theorem aC2{k:Nat}(a:k<O N)(b:dV (ep N j qc) k=oj):
  (A0 N low k j).set k {ep (A0 N low k j) k qc with bU:=(j:Int)}=A0 N low k (j+1):=by
 grind [A0,List.set_set,sD,aC4,E9]
theorem aC3{k:Nat}(a:dV (ep N j qc) k=po):A0 N low k j=A0 N low k (j+1):=by
 grind [A0,aC4,E9]
theorem aCH(hs:fJ q=0)(c:mM q=po){b:sM}(a:cX 0 (cO q) bZ (cN 0 (aJ q)) (bW (aJ q))=H (bF,lF))(e:(lF.map λx=>ep bF.2 x.1 0)=zK)(m:IK bF.1 zK ms)(g:fC 0 bZ (ms,zK) (qB lF)=(b,l))(p:dL=ep b.2 ((ep l 0 qc).1) 0)(d:lJ b.1)(j:dL<O b.1):
  A4 b.1 (O bF.1) (O b.1)=oJ b.1 (O bF.1) zK/\lJ (oJ b.1 (O bF.1) zK)/\
   aB q=(0,⟨vars q,q.head.map λh=>(vars q).idxOf h,oJ b.1 (O bF.1) zK,dL,eS (oJ b.1 (O bF.1) zK) (dL+1) dL⟩):=by
 refine⟨zg λi r hl=> ?_,d.Ie (C2 _ _ _),?_⟩
 .obtain⟨vP,n,-⟩:=TK (pa:=0) bZ (ms,zK) (qB lF);grind [ru]
 .exact ul hs c 0 a m.1 (e▸g) (by rw[e]) p d j
theorem Am(hs:∀s,s∈aJ q->s<2^O (vars q))(hv:O (vars q)<=30)(hl:O (aJ q)<=7)(a:aJ q≠[])(h:jZ (aJ q) (O (vars q))=oj):mM q=po:=by
 grind [NI,mM]
variable{cs:Array aF}{tl:List Nat}{b gn nc:Nat}{p:zY}{xv:aF}{w' w0 w7 wr:aA}
section
structure MkB(q:bB)(w:aA)(B1 Bg:Nat)(hv av ev vv:aF)(wx:aA):Prop where
 up:U w [] wx []
 q0:wx.heap[hJ w.heap]? =H (h8 #[j3 q.name,hv,av] 25 (0,0))
 r0:wx.heap[B1]? =H (h8 #[hY K 0 0,hY K 0 0,hY K 0 0,i6 i7 0,hY K 0 0] 46 (0,0))
 g0:wx.heap[Bg]? =H (h8 #[i6 i7 (O (vars q)),ev] 133 (0,0))
 e0:wY w wx ev (aJ q)
 v0:vC w wx vv (vars q)
def MkT(w:aA)(B1:Nat)(wx:aA)(k:Nat):Prop:=hJ w.heap<=k/\k≠B1/\(lZ wx k=H 3\/lZ wx k=H 177\/lZ wx k=H 187\/lZ wx k=H 46)
section
variable{q:bB}{w:aA}{B1 Bg:Nat}{hv av ev vv:aF}{wx wy:aA}
theorem MkB.eF(h:MkB q w B1 Bg hv av ev vv wx)(c:U wx S wy S')(d:∀k,k∈S->MkT w B1 wx k):MkB q w B1 Bg hv av ev vv wy:=by
 have ne:∀t,t≠3->t≠177->t≠187->t≠46->∀k,k∈S->lZ wx k≠H t:=λt l m i g k j a=>by
  rcases(d k j).2.2 with h|h|h|h<;>rw[h]at a<;>injection a with a
  .exact l a.symm
  .exact m a.symm
  .exact i a.symm
  .exact g a.symm
 exact⟨h.up.aZ c λb e=>(d b e).1,c.bS h.q0 (ne _ D D D D),c.aC h.r0 λn=>(d B1 n).2.1 rfl,c.bS h.g0 (ne _ D D D D),
  h.e0.dg c (ne _ D D D D),h.v0.dg c (ne _ D D D D)⟩
theorem MkB.on(h:MkB q w B1 Bg hv av ev vv wx)(a:U wx [] wy S'):MkB q w B1 Bg hv av ev vv wy:=h.eF a X
theorem MkT.cY{α:Type}{f:α->Nat->aF}{d:α}{l:List α}(h:bG f d e sz w wx v l)(c:gz v≠H B1)(b:e=3\/e=177\/e=187\/e=46):∀k,k∈v.ownBlock.toList->MkT w B1 wx k:=λk a=>by
 refine⟨h.ge k a,λe=>c GJ,?_⟩;have:=h.Bx k a;rw[this];rcases b with rfl|rfl|rfl|rfl<;>simp
theorem MkB.neR{α:Type}{f:α->Nat->aF}{d:α}{l:List α}(h:MkB q w B1 Bg hv av ev vv wx)(b:bG f d e sz w0 wx v l)(a:e≠46):gz v≠H B1:=eJ.ne b.1 h.r0 a
end
theorem MkT.bS{w wx:aA}{B1:Nat}(h:wx.heap[b]? =H (h8 cs 46 (0,0)))(c:hJ w.heap<=b)(d:b≠B1):∀k,k∈[b]->MkT w B1 wx k:=λk a=>by
 obtain rfl:k=b:=eI a;exact⟨c,d,.inr (.inr (.inr (eH h)))⟩
theorem W8{l:List dU}{s:dU}(h:s∈l):Vx l s=(l.idxOf s:Int):=bR h
structure NJ(w0 w:aA)(v:aF)(p:zY):Prop where
 ex:∃v0 v1 v2 v4 ns,v= .agg #[v0,v1,v2,i6 i7 p.dL,v4]/\vC w0 w v0 p.vars/\gJ w0 w v1 p.head/\ET w0 w v2 ns/\ns.map (·.1)=p.aK/\(∀x,x∈ns->gJ w0 w x.2 x.1.vars)/\gJ w0 w v4 p.tops
structure Ph(q:bB)(w:aA)(B1 Bg:Nat)(hv av ev vv:aF)(Bp gp pc:Nat)(hd:aF)(hl:List Nat)(wx:aA)(nv:aF)(ns:List (aX×aF))(pr:List Nat):Prop where
 m:MkB q w B1 Bg hv av ev vv wx
 p:wx.heap[Bp]? =H (h8 #[vv,hd,nv,i6 i7 0,hY K 0 0] 46 (0,0))
 h:gJ w wx hd hl
 dW:gz hd≠H gp
 n:ET w wx nv ns
 o:OV w wx gp ns
 r:gJ w wx (hY (H ⟨gp,0,K⟩) (O pr) pc) pr
section
variable{q:bB}{w:aA}{B1 Bg:Nat}{hv av ev vv:aF}{Bp gp pc:Nat}{hd:aF}{hl:List Nat}{wx wy:aA}{nv RY:aF}{ns ns':List (aX×aF)}{pr pr':List Nat}
theorem Ph.on(h:Ph q w B1 Bg hv av ev vv Bp gp pc hd hl wx nv ns pr)(a:U wx [] wy S'):Ph q w B1 Bg hv av ev vv Bp gp pc hd hl wy nv ns pr:=
 ⟨h.m.on a,a.aC h.p X,h.h.on a,h.dW,h.n.on a,h.o.on a,h.r.on a⟩
theorem Ph.vK(h:Ph q w B1 Bg hv av ev vv Bp gp pc hd hl wx nv ns pr)(b:U wx (gp::nv.ownBlock.toList) wy S')(j:hJ w.heap<=Bp):
  MkB q w B1 Bg hv av ev vv wy/\wy.heap[Bp]? =H (h8 #[vv,hd,nv,i6 i7 0,hY K 0 0] 46 (0,0))/\gJ w wy hd hl:=by
 have i:∀k,k∈gp::nv.ownBlock.toList->MkT w B1 wx k:=λk c=>by
  rcases AU.1 c with rfl|c
  .exact MkT.cY h.r (h.m.neR h.r D) (.inl rfl) _ (by simp[gz])
  .exact MkT.cY h.n (h.m.neR h.n D) (.inr (.inl rfl)) _ c
 refine⟨h.m.eF b i,b.aC h.p λa=> ?_,h.h.eF b λg d a=> ?_⟩
 .rcases AU.1 a with e|a
  .exact eJ.ne h.r.1 h.p D (by rw[e];rfl)
  .exact h.n.ne h.p D a
 .rcases AU.1 a with e|a
  .exact h.dW (by rw[d,e])
  .exact eJ.J7 h.h.1 h.n.1 D g d (eI a)
theorem Ph.put(h:Ph q w B1 Bg hv av ev vv Bp gp pc hd hl wx nv ns pr)(n:U wx (gp::nv.ownBlock.toList) wy S')(c:hJ w.heap<=Bp)(m:Bp≠B1)(p:ET w wy RY ns')(d:OV w wy gp ns')(j:gJ w wy (hY (H ⟨gp,0,K⟩) (O pr') pc) pr'):
  Ph q w B1 Bg hv av ev vv Bp gp pc hd hl (ey wy ⟨Bp,2,K⟩ RY) RY ns' pr':=by
 let⟨l,a,g⟩:=h.vK n c;have b:=pX wy Bp 2 RY;refine⟨l.eF b (MkT.bS a c m),aE (i:=2) RY a,g.set a D b,h.dW,p.set a D b,λx e=>⟨((d x e).1).set a D b,(d x e).2⟩,j.set a D b⟩
theorem Ph.GV(h:Ph q w B1 Bg hv av ev vv Bp gp pc hd hl wx nv ns pr)(j:hJ w.heap<=Bp)(d:i<O pr)(x:Nat):Ph q w B1 Bg hv av ev vv Bp gp pc hd hl (ey wx ⟨gp,i,K⟩ (i6 i7 x)) nv ns (pr.set i x):=by
 have b:U wx [gp] (ey wx (Ad gp i) (J x)) [gp]:=pX wx gp i _;have e:U wx (gp::nv.ownBlock.toList) (ey wx (Ad gp i) (J x)) []:=(b.aN (T:=gp::nv.ownBlock.toList) (λk a=>by simp at a;simp[a])).to X;let⟨p,u,m⟩:=h.vK e j;have l:=h.r.lw d x;simp only[fN]at l;exact⟨p,u,m,h.dW,h.n.eF b (λg v c=>eJ.J7 h.r.1 h.n.1 D gp rfl (by simp at c;rw[v,c])),h.o.eF h.n b (λk a=> .inl (eI a)),GJ⟩
end
theorem Ph.zR{q:bB}{w:aA}{B1 Bg:Nat}{hv av ev vv:aF}{Bp gp pc:Nat}{hd:aF}{hl:List Nat}{wx:aA}{nv:aF}{ns:List (aX×aF)}{pr:List Nat}(h:Ph q w B1 Bg hv av ev vv Bp gp pc hd hl wx nv ns pr){t:ap}(c:lZ wx b=H t)(d:t≠3)(e:t≠177):b∉gp::nv.ownBlock.toList:=λa=>by
 rcases AU.1 a with rfl|a
 .have:=h.r.ty (k:=b) rfl;grind
 .have:=h.n.Bx _ a;grind
theorem Ph.ov{q:bB}{w:aA}{B1 Bg:Nat}{hv av ev vv:aF}{Bp gp pc:Nat}{hd:aF}{hl:List Nat}{wx:aA}{nv:aF}{ns:List (aX×aF)}{pr:List Nat}(h:Ph q w B1 Bg hv av ev vv Bp gp pc hd hl wx nv ns pr)(c:U wx (gp::nv.ownBlock.toList) w7 S'){x:aX}(b:gJ wx w7 xv x.vars):OV w w7 gp (ns++[(x,xv)]):=λy a=>by
 rcases EY.1 a with a|a
 .exact h.o.eF h.n c (λk d=>(AU.1 d).imp id λh=>by simpa using h) y a
 .obtain rfl:=Yj.1 a;exact⟨b.eE h.m.up.size,λe=>by have g:=b.2 gp e;have i:=h.r.1.lt gp rfl;omega⟩
theorem Ph.zW{q:bB}{w:aA}{B1 Bg:Nat}{hv av ev vv:aF}{Bp gp pc:Nat}{hd:aF}{hl:List Nat}{wx wy:aA}{nv:aF}{ns:List (aX×aF)}{pr:List Nat}(h:Ph q w B1 Bg hv av ev vv Bp gp pc hd hl wx nv ns pr)(a:U wx S wy S'){M:Nat}(j:hJ w.heap<=M)(i:∀k,k∈S->M<=k/\lZ wx k=H 3)(y:B1<M)(u:gp<M)(A:∀g,gz hd=H g->g<M)(z:∀x,x∈ns->∀g,gz x.2=H g->g<M):Ph q w B1 Bg hv av ev vv Bp gp pc hd hl wy nv ns pr:=by
 have ne:∀t,t≠3->∀k,k∈S->lZ wx k≠H t:=λt v k d l=>by
  grind
 refine⟨h.m.eF a λk d=>⟨jN j (i k d).1,GJ,.inl (i k d).2⟩,a.bS h.p (ne _ D),h.h.eF a λg b e=> ?_,h.dW,h.n.dg a (ne _ D),λx c=>⟨((h.o x c).1).eF a λg b e=> ?_,(h.o x c).2⟩,h.r.eF a λg b e=> ?_⟩
 .grind
 .grind
 grind [gz]
theorem Ph.mark{q:bB}{w:aA}{B1 Bg:Nat}{hv av ev vv:aF}{Bp gp pc:Nat}{hd:aF}{hl:List Nat}{wx:aA}{ns:List (aX×aF)}{pr:List Nat}(h:Ph q w B1 Bg hv av ev vv Bp gp pc hd hl wx (hY (H ⟨gn,0,K⟩) n nc) ns pr)(m:hJ w.heap<=Bp){t:Nat}(i:t<O ns):
  Ph q w B1 Bg hv av ev vv Bp gp pc hd hl (ey wx ⟨gn,t*7+6,K⟩ (j4 oj)) (hY (H ⟨gn,0,K⟩) n nc) (ns.set t ({(ep ns t qc).1 with lW:=oj},(ep ns t qc).2)) pr:=by
 have a:U wx [gn] (ey wx (Ad gn (t*7+6)) (j4 oj)) [gn]:=pX wx gn (t*7+6) _;have l:U wx (gp::(eB gn 0 n nc).ownBlock.toList) (ey wx (Ad gn (t*7+6)) (j4 oj)) []:=(a.aN (T:=gp::(eB gn 0 n nc).ownBlock.toList) (λk b=>by grind [gz])).to X;let⟨y,z,p⟩:=h.vK l m;have B:=h.n.DB (j:=6) i D ({(ep ns t qc).1 with lW:=oj},(ep ns t qc).2) (j4 oj) (λv A=>by
  match v,A with
  |0,_=>rfl
  |1,_=>rfl
  |2,_=>rfl
  |3,_=>rfl
  |4,_=>rfl
  |5,_=>rfl
  |6,_=>rfl)
 have e:=h.o.eF h.n a (λk b=> .inr (by simp at b;rw[b];rfl));refine⟨y,z,p,h.dW,B,λx c=> ?_,h.r.eF a λg u d=>eJ.J7 h.r.1 h.n.1 D g u (by simp at d;rw[d];rfl)⟩;rcases List.mem_or_eq_of_mem_set c with c|rfl
 .exact e x c
 .exact e (ep ns t qc) (bM i)
theorem Ph.left{q:bB}{w:aA}{B1 Bg:Nat}{hv av ev vv:aF}{Bp gp pc:Nat}{hd:aF}{hl:List Nat}{wx wy:aA}{nv:aF}{ns:List (aX×aF)}{pr:List Nat}(h:Ph q w B1 Bg hv av ev vv Bp gp pc hd hl wx nv ns pr)(a:U wx S wy S')(d:∀k,k∈S->hJ w.heap<=k/\lZ wx k=H 187):Ph q w B1 Bg hv av ev vv Bp gp pc hd hl wy nv ns pr:=by
 have ne:∀t,t≠187->∀k,k∈S->lZ wx k≠H t:=λt g k c i=>by
  grind
 refine⟨h.m.eF a λk c=>⟨(d k c).1,λe=> ?_,.inr (.inr (.inl (d k c).2))⟩,a.bS h.p (ne _ D),h.h.dg a (ne _ D),h.dW,h.n.dg a (ne _ D),λx b=>⟨((h.o x b).1).dg a (ne _ D),(h.o x b).2⟩,h.r.dg a (ne _ D)⟩;have g:=(d k c).2;rw[e,eH h.m.r0]at g;grind
theorem Gg{dg:Nat}{b:sM}{m k:Nat}(h:F2 dg b l m 42)(g:k<O l)(i:m<=7)(c:(l.map λx=>ep b.2 x.1 0)=zK):
  (ep l k qc).1<m/\ep b.2 (ep l k qc).1 0<O b.1/\zK.take (k+1)=zK.take k++[ep b.2 (ep l k qc).1 0]/\O (zK.take k)=k/\k<7/\O l<=7/\O b.1<=41:=by
 have a:(ep l k qc).1<m:=h.xb _ (BB.2 ⟨_,bM g,rfl⟩);have hl:=h.ml;refine⟨a,h.ok.GV _ (h.pm▸a),?_,GJ,Y,Y,h.few⟩;have e:k<O (l.map λx=>ep b.2 x.1 0):=by grind
 rw[<-c,fG (d:=0) e];grind
structure aLG(b:sM)(l:List ES)(k m:Nat)(s:cT):Prop where
 aXp:s.aG=1\/s.aG=2\/s.aG=3
 bP:s.bP<m
 eK:s.eK<m
 a05:s.aG≠1->s.cut=0
 cut:s.cut<2^32
 aU:BG s∈nK l
 b41:O b.1<=41
 GV:∀x,x∈b.2->x<64
 l7:O l<=7
 w0:0<eD l
 wt:eD (make l s)<eD l
theorem F2.aER{dg k m:Nat}{b:sM}{s:cT}(h:F2 dg b l m 42)(j:next l k=H s)(c:0<m)(v:m<=7):aLG b l k m s:=by
 have n:=iK h.nd j;obtain⟨d,e,a⟩:=n.mem;have q:=h.few;have g:=h.xb _ e;refine⟨d,g,?_,λu=>(a u).2.2,aCV h.nd h.sm j,?_,q,λx w=> ?_,jN h.ml v,NR h.ne,o9 h.sm n⟩
 .by_cases p:s.aG=1
  .rw[uz h.nd j p];exact c
  .exact h.xb _ (a p).1
 .grind [BG]
 .obtain⟨i,r,rfl⟩:=Pn w;have:=h.ok.GV i r;grind
theorem Hw{nv lv:aF}{gp pc m:Nat}{ns:List (aX×aF)}{b:sM}{s:cT}{k:Nat}(n:ET w0 wr nv ns)(i:gJ w0 wr (hY (H ⟨gp,0,K⟩) (O b.2) pc) b.2)(hl:Ik wr lv l)(d:U w0 [] wr [])(g:ns.map (·.1)=b.1){dg:Nat}(c:F2 dg b l m 42)(a:aLG b l k m s)(p:m<=7):
  tR 71 #[nv,hY (H ⟨gp,0,K⟩) m pc,lv,.agg #[i6 i7 s.aG,i6 i7 s.bP,i6 i7 s.eK,i6 kd s.cut]] wr λe w'=>
   ∃u x,e=i5 u/\ET w0 w' u (ns++[(nB 0 b.2 l s,x)])/\gJ w0 w' (hY (H ⟨gp,0,K⟩) (O (gB 0 b l s).2) pc) (gB 0 b l s).2/\gJ wr w' x (nB 0 b.2 l s).vars/\U wr (gp::nv.ownBlock.toList) w' (gp::u.ownBlock.toList)/\U w0 [] w' []/\(ns++[(nB 0 b.2 l s,x)]).map (·.1)=(gB 0 b l s).1:=by
 have q:O ns=O b.1:=by rw[<-g,sN]
 have j:=c.pm;have:=ug nv lv gp pc ns b.2 l s w0 wr n i hl c.sm c.nd a.l7 Y (nA a.b41) a.GV a.aXp (nA a.bP) (nA a.eK) a.a05 a.cut a.aU d;rw[j]at this;apply this.cF;grind [aE8]
structure IN(q:bB)(w:aA)(B1 Bg:Nat)(hv av ev vv:aF)(Bp:Nat)(hd:aF)(hl:List Nat)(dL:Nat)(wx:aA)(nv:aF)(ns:List (aX×aF)):Prop where
 m:MkB q w B1 Bg hv av ev vv wx
 p:wx.heap[Bp]? =H (h8 #[vv,hd,nv,i6 i7 dL,hY K 0 0] 46 (0,0))
 h:gJ w wx hd hl
 n:ET w wx nv ns
 o:∀x,x∈ns->gJ w wx x.2 x.1.vars
section
variable{q:bB}{w:aA}{B1 Bg:Nat}{hv av ev vv:aF}{Bp gp pc:Nat}{hd:aF}{hl:List Nat}{dL:Nat}{wx wy:aA}{nv:aF}{ns:List (aX×aF)}{pr:List Nat}
theorem Ph.Un(h:Ph q w B1 Bg hv av ev vv Bp gp pc hd hl wx nv ns pr)(c:hJ w.heap<=Bp)(b:Bp≠B1)(dL:Nat):IN q w B1 Bg hv av ev vv Bp hd hl dL (ey wx ⟨Bp,3,K⟩ (i6 i7 dL)) nv ns:=by
 have a:=pX wx Bp 3 (J dL);exact⟨h.m.eF a (MkT.bS h.p c b),aE (i:=3) _ h.p,h.h.set h.p D a,h.n.set h.p D a,λx d=>(h.o x d).1.set h.p D a⟩
theorem IN.on(h:IN q w B1 Bg hv av ev vv Bp hd hl dL wx nv ns)(a:U wx [] wy S'):IN q w B1 Bg hv av ev vv Bp hd hl dL wy nv ns:=
 ⟨h.m.on a,a.aC h.p X,h.h.on a,h.n.on a,λx b=>(h.o x b).on a⟩
theorem IN.aU(h:IN q w B1 Bg hv av ev vv Bp hd hl dL wx nv ns):LF wx ns:=λx a=>(h.o x a).rd
theorem IN.set(h:IN q w B1 Bg hv av ev vv Bp hd hl dL wx (hY (H ⟨gn,0,K⟩) n nc) ns)(l:i<O ns)(r:j<7)(x:aX)(C:x.vars=(ep ns i qc).1.vars)(u:aF)(c:∀b,b<7->oE (x,(ep ns i qc).2) b=if b=j then u else oE (ep ns i qc) b):
  IN q w B1 Bg hv av ev vv Bp hd hl dL (ey wx ⟨gn,i*7+j,K⟩ u) (hY (H ⟨gn,0,K⟩) n nc) (ns.set i (x,(ep ns i qc).2)):=by
 have a:U wx [gn] (ey wx (Ad gn (i*7+j)) u) [gn]:=pX wx gn (i*7+j) _;have g:=h.n.ty (k:=gn) rfl;have ne:∀t,t≠177->∀k,k∈[gn]->lZ wx k≠H t:=λt A k d v=>by
  grind
 have B:∀x,x∈ns->gJ w (ey wx (Ad gn (i*7+j)) u) x.2 x.1.vars:=λx c=>(h.o x c).dg a (ne _ D);refine⟨h.m.eF a λk d=> ?_,a.bS h.p (ne _ D),h.h.dg a (ne _ D),h.n.DB l r _ u c,λy z=> ?_⟩
 .obtain rfl:k=gn:=eI d;refine⟨h.n.2 k rfl,λe=> ?_,.inr (.inl g)⟩;rw[e,eH h.m.r0]at g;grind
 grind
theorem IN.aL5(h:IN q w B1 Bg hv av ev vv Bp hd hl dL wx (hY (H ⟨gn,0,K⟩) n nc) ns)(b:i<O ns)(t:Bool):
  IN q w B1 Bg hv av ev vv Bp hd hl dL (ey wx ⟨gn,i*7+6,K⟩ (j4 t)) (hY (H ⟨gn,0,K⟩) n nc) (ns.set i ({(ep ns i qc).1 with lW:=t},(ep ns i qc).2)):=
 h.set (j:=6) b D {(ep ns i qc).1 with lW:=t} rfl (j4 t) λc a=>by
  match c,a with
  |0,_=>rfl
  |1,_=>rfl
  |2,_=>rfl
  |3,_=>rfl
  |4,_=>rfl
  |5,_=>rfl
  |6,_=>rfl
theorem IN.vL(h:IN q w B1 Bg hv av ev vv Bp hd hl dL wx (hY (H ⟨gn,0,K⟩) n nc) ns)(b:i<O ns)(p:Int):
  IN q w B1 Bg hv av ev vv Bp hd hl dL (ey wx ⟨gn,i*7+5,K⟩ (i6 i7 p)) (hY (H ⟨gn,0,K⟩) n nc) (ns.set i ({(ep ns i qc).1 with bU:=p},(ep ns i qc).2)):=
 h.set (j:=5) b D {(ep ns i qc).1 with bU:=p} rfl (J p) λc a=>by
  match c,a with
  |0,_=>rfl
  |1,_=>rfl
  |2,_=>rfl
  |3,_=>rfl
  |4,_=>rfl
  |5,_=>rfl
  |6,_=>rfl
end
theorem NJ.on{w:aA}(h:NJ w0 w v p)(a:U w [] w' S'):NJ w0 w' v p:=by
 obtain⟨v0,v1,v2,v4,ns,rfl,d,i,j,e,c,b⟩:=h.ex;exact⟨v0,v1,v2,v4,ns,rfl,d.on a,i.on a,j.on a,e,λx g=>(c x g).on a,b.on a⟩
theorem IN.done{q:bB}{w:aA}{B1 Bg:Nat}{hv av ev vv:aF}{Bp:Nat}{hd:aF}{hl:List Nat}{dL:Nat}{wx:aA}{nv:aF}{ns:List (aX×aF)}(h:IN q w B1 Bg hv av ev vv Bp hd hl dL wx nv ns)(m:hJ w.heap<=B1)(L:hJ w.heap<=Bp)(G:Bp≠B1)(F:gJ w wx u tl):
  ∃a,ey wx ⟨Bp,4,K⟩ u=a/\a.heap[Bp]? =H (h8 #[vv,hd,nv,i6 i7 dL,u] 46 (0,0))/\a.heap[B1]? =H (h8 #[hY K 0 0,hY K 0 0,hY K 0 0,i6 i7 0,hY K 0 0] 46 (0,0))/\
   NJ w (ey (ey (ey (ey (ey a ⟨B1,0,K⟩ vv) ⟨B1,1,K⟩ hd) ⟨B1,2,K⟩ nv) ⟨B1,3,K⟩ (i6 i7 dL)) ⟨B1,4,K⟩ u) (.agg #[vv,hd,nv,i6 i7 dL,u]) ⟨vars q,hl,ns.map (·.1),dL,tl⟩/\
   U w [] (ey (ey (ey (ey (ey a ⟨B1,0,K⟩ vv) ⟨B1,1,K⟩ hd) ⟨B1,2,K⟩ nv) ⟨B1,3,K⟩ (i6 i7 dL)) ⟨B1,4,K⟩ u) []:=by
 have g:=pX wx Bp 4 u;have j:=g.aC h.m.r0 (eI G.symm);let⟨k,r⟩:=Dd (x:=vv) (y:=hd) (z:=nv) (u:=J dL) (v:=u) j;have cY:∀{α:Type} {f:α->Nat->aF} {d:α} {sz e:Nat} {v:aF} {l:List α},bG f d e sz w wx v l->e≠46->bG f d e sz w (ey (ey (ey (ey (ey ((ey wx (Ad Bp 4) u)) (Ad B1 0) vv) (Ad B1 1) hd) (Ad B1 2) nv) (Ad B1 3) (J dL)) (Ad B1 4) u) v l:=λC A=>(C.set h.p A g).set j A r;exact⟨_,rfl,aE (i:=4) u h.p,j,⟨vv,hd,nv,u,ns,rfl,cY h.m.v0 D,cY h.h D,cY h.n D,rfl,λx B=>cY (h.o x B) D,cY F D⟩,
  (h.m.up.aZ g λb c=>by simp at c;omega).aZ r λb c=>by simp at c;omega⟩
end
theorem ZM118{P:Prop}(h:P:=by
  have:=oI.o;rw[HN.o]at this;cases L with
  |nil=>cases this
  |cons x r=>exact⟨r,by simpa using this⟩):P:=h
theorem xG{a:Nat}(h:a+1<b):a<=b:=by omega
theorem M3{a:Nat}(h:a+1<b):b≠a+1:=by omega
theorem aGT{m:Nat}(h:(m:Int)<100):100-(m+1)<100-m:=by omega
theorem aGW{m a:Nat}(h:m+a<=36)(k:b<a):m+1+b<=36:=by omega
theorem aGl{k:Nat}(h:k<7):(k+1)*8<=140737488355328:=by omega
theorem aGp{k:Nat}(h:k<7):k+1<=bw:=by unfold bw;omega
theorem lm{k:Nat}(h:k<n):n-(k+1)<n-k:=by omega
theorem ne0{α:Type}(x:α)(l:List α):((O (x::l):Int)==0)=po:=by rw[G9];simp;omega
theorem aRo{m a:Nat}(h:m+a<=36)(b:0<a):(m:Int)<100:=by omega
theorem aCB(hv av:aF)(ps:List (dU×aF))(q:bB)(w:aA)(h:B9 w hv av ps q)(hs:fJ q=0)(hA:jZ (aJ q) (O (vars q))=oj)(hC:AR (aJ q) (O (vars q)) (cO q)=oj)(bF:sM)(lF:List ES)(hph:cX 0 (cO q) bZ (cN 0 (aJ q)) (bW (aJ q))=H (bF,lF)):
  aH prog 34 #[.agg #[j3 q.name,hv,av]] w λe w'=>∃pv,e=i5 (i8 #[pv,i6 i7 0])/\NJ w w' pv (aB q).2/\U w [] w' []:=by
 obtain⟨ha,hc,rfl,-⟩:=h.head.len;obtain⟨aa,ac,rfl,-⟩:=h.aD.len;have hlen:=h.len;rw[hlen]at h|-;have p:=Z h;clear h hlen;let⟨wa,dE⟩:=E (e8 (e8 w (h8 #[j3 q.name,hY ha (O q.head) hc,hY aa (O q.aD) ac] 25)) (h8 #[cH,cH,cH,J 0,cH] 46));have cR:U w [] wa []:=dE▸((U.refl w []).alloc _).alloc _;have kB:rW wa w.heap.size #[j3 q.name,hY ha (O q.head) hc,hY aa (O q.aD) ac] 25:=by rw[<-dE];exact kV ..
 have eQ:rW wa (hJ w.heap+1) #[cH,cH,cH,J 0,cH] 46:=by rw[<-dE];exact kU ..
 obtain⟨b0,b1,b2⟩:=Z3 kB;have wU:=Z cR;have jG:=Z eQ;have UR:=Z kB;clear cR eQ kB;let⟨_,ha6,Dx,pF,_,_⟩:=f8 hs;have HG:=Z (vV hs);have Z0:O (aJ q)<=6:=by simp only[aJ,sN];omega
 have JS:=Z (aCC _ _ ps q wa (p.o.on wU.o) hs);have hh:cO q<2^32:=wM (AY _ _) (Cr D Y);have HPH:=Z hph;have HHV:=Z (f8 hs).2.2.2.2.2;have aYX:O q.head<=30:=jN (yL (xF (f8 hs).2.2.2.2.1) (f8 hs).2.2.2.2.2) Dx;have vI:=aGL.wO (O (aJ q)) (O (aJ q)) (fV _) Y F4;simp only[wZ]at vI;have HWE:=Z (GL (f8 hs).2.1 (f8 hs).2.2.2.1);have Ls:0<O (aJ q):=by simp only[aJ,sN];exact(f8 hs).1
 have HCY:=Z (Am HG.o.xD HG.o.hv (jN Z0 D) (λe=>by rw[e]at Ls;exact dS Ls D) hA);clear hph pF;go_in;go_upto_region 4 with(first|(go_at_call 63;apply JS.o.cF;rintro e w2 ⟨ev,rfl,hE,bH⟩;obtain⟨ea,ec,rfl,-⟩:=hE.len;have eM:=Z (wU.o.dd bH);have aOh:=Z bH;have HE:=Z (hE.eE wU.o.size);clear bH hE));let⟨Bg,pq⟩:=E (hJ w2.heap);let⟨wg,Gu⟩:=E (e8 w2 (h8 #[J (O (vars q)),hY ea (O (aJ q)) ec] 133));have VX:=Za Gu;have hG0:=Ze Gu pq;have hQ0:=(aOh.o.dd VX).aC UR.o X;obtain⟨g0,g1⟩:=Z2 hG0;obtain⟨q0,q1,q2⟩:=Z3 hQ0;have Cp:=Z (QU _ (aJ q) (O (vars q)) (cO q) wg (HE.o.rd.on VX) HG.o Z0 hh);rw[hA,hC]at Cp;have HG0:=Z hG0;have Pb:=Z (eM.o.dd VX);have aIo:=Z (aOh.o.dd VX);have HE:=Z (HE.o.on VX);rw[Gu,pq];clear VX Gu hG0 hQ0 pq hA hC;go_upto_region 10 with(first
  |(go_at_call 65;apply(RW _ _ ps q _ (p.o.on (Pb.o.dd gZ.o))).cF;rintro e w4 ⟨vv,rfl,hO,eA⟩;obtain⟨va,vc,rfl,-⟩:=hO.len;have kQ:=Z (gZ.o.dd eA);have HO:=Z hO;clear eA hO)
  |(go_at_call 64;apply Cp.o.cL;intro w3 cU;let⟨q0,q1,q2⟩:=cU.R7 q0 q1 q2;have gZ:=Z cU;clear cU))
 let⟨Bp,hBp⟩:=E (hJ w4.heap);let⟨wp,hwp⟩:=E (e8 w4 (h8 #[hY va (O (vars q)) vc,cH,cH,J 0,cH] 46));have hUp:=Za hwp;have hP0:=Ze hwp hBp;have yk:=kQ.o.dd hUp;have HM:dT (MkB q w (hJ w.heap+1) Bg (hY ha (O q.head) hc) (hY aa (O q.aD) ac) (hY ea (O (aJ q)) ec) (hY va (O (vars q)) vc) wp):=Z ⟨Pb.o.dd yk,(aIo.o.dd yk).aC UR.o X,(aIo.o.dd yk).aC jG.o X,yk.aC HG0.o X,HE.o.on yk,(HO.o.on hUp).eE (Pb.o.dd gZ.o).size⟩;have mZ:hJ w.heap+1<Bp:=by
  have G:=cV jG.o;have h2:=(aIo.o.dd kQ.o).size;omega
 have HP0:=Z hP0;rw[hwp,hBp];clear hUp hwp hP0 yk q0 q1 q2 g0 g1 b0 b1 b2 JS Cp eM aOh Pb aIo HE HO gZ kQ UR jG wU HG0 dE hBp;go_wp2;go_loopg [12] (O q.head) (λg i wr=>∃(k:Nat) (xa:Option cj) (xc:Nat),k<=O q.head/\g=O q.head-k/\i=J k/\MkB q w (hJ w.heap+1) Bg (hY ha (O q.head) hc) (hY aa (O q.aD) ac) (hY ea (O (aJ q)) ec) (hY va (O (vars q)) vc) wr/\
  rW wr Bp #[hY va (O (vars q)) vc,hY xa k xc,cH,J 0,cH] 46/\gJ w wr (hY xa k xc) ((q.head.take k).map λh=>(vars q).idxOf h))
 .exact⟨0,K,0,Y,rfl,rfl,HM.o,HP0.o,bG.nil _ _⟩
 obtain⟨k,xa,xc,hk,rfl,rfl,hM,hP,o⟩:=hrel;by_cases F:k<O q.head
 .let⟨g6,o6,OK,hv6,hg6,hc6⟩:=p.o.head.aU F;have e0:=hM.up.cell (hc6 0 Y) X;obtain rfl:=CT hv6;simp only[xR,wZ,pK]at e0;have HX:=Z (show(q.head.take (k+1)).map (λh=>(vars q).idxOf h)=(q.head.take k).map (λh=>(vars q).idxOf h)++[(vars q).idxOf (ep q.head k bO)] by rw[fG (d:=bO) F,R8];rfl);have SA:=HHV.o _ (bM (d:=bO) F);have hLl:O ((q.head.take k).map λh=>(vars q).idxOf h)=k:=by rw[sN,VQ];omega
  let⟨L,OT⟩:=E (((q.head.take k).map λh=>(vars q).idxOf h));let⟨y,hy⟩:=E (ep q.head k bO);rw[OT]at HX hLl o;rw[hy]at e0 HX SA;have HAI:=Z λV (hz:II V (hY va (O (vars q)) vc) (vars q))=>(jd _ (vars q) y V hz).mono λe w' h=>dX (h.1.dd (by rw[W8 SA])) h.2;have CL:=Z hLl;obtain⟨p0,p1⟩:=Z2 hP;have b1:=Zc hM.q0 1;have HL:=Z o;have HP:=Z hP;have HM:=Z hM;clear OT hy hc6 SA hLl o hP hM;go_upto_region 13 with(fail);refine ee 13 (eb p0<|eb p1<|eb b1<|d7 e0) (λQ=> ?_);refine dw [0,2,4,6,1,3,5,7,8] ?_;refine Zo 9 λqL hK=> ?_;go_simp;go_at_call 66;apply(HAI.o wr.drew (HM.o.v0.rd.on (U.refl wr []).drew)).cF;rintro e w5 ⟨rfl,N⟩;dsimp only;have N:U wr [] w5 []:=(U.refl wr []).drew.dd N;replace Q:=N.zh4 Q;refine j8 ?_;clear hK qL;refine Zo 10 λqL hK=> ?_;go_simp;have hH5:=Q;have oK:U w5 [] (e8 w5 (h8 #[J ((vars q).idxOf y:Int)] 3)) []:=(U.refl w5 []).alloc _;replace Q:=oK.zh4 Q;refine j8 ?_;clear hK qL;refine Zo 11 λqL hK=> ?_;have nO:=HL.o.on N;have tU:=HM.o.on N;have Me:=N.aC HP.o X;let⟨g7,c7,w7,dP,wW,fM,P,hg7⟩:=i9 (ty:=43) (news:=[J ((vars q).idxOf y:Int)]) (T:=3) OI Y nO tU.up (fV _) tU.up.size ((vars q).idxOf y) rfl (dH rfl) (λj hj=>rfl) (by have:=CL.o;omega) (by have:=CL.o;unfold bw;omega);refine dJ _ _ rfl Yr Yr dP ?_;have Q:=hH5;replace Q:=P.zh4 Q (nO.ne Me D) (nO.ne Me D) (nO.ne tU.q0 D) (nO.zW hg6);have Md:=P.aC Me (nO.ne Me D);have F1:=tU.eF P (MkT.cY nO (tU.neR nO D) (.inl rfl));rw[CL.o]at wW|-;obtain⟨f0,f1⟩:=Z2 Md;have ff:=aM Md;have HP7:=Z Md;have IM:=Z F1;have RH:=Z wW;clear Md F1 wW;clear dP fM P nO tU Me oK hH5;refine j8 ?_;clear hK qL;refine I 12 ?_;refine Zo 13 λqL hK=> ?_;go_simp;refine MH ?_;clear hK qL;have hP8:=aE (i:=1) (eB g7 0 (k+1) c7) HP7.o;have iE:=pX w7 Bp 1 (eB g7 0 (k+1) c7);have pU:=IM.o.eF iE (MkT.bS HP7.o Y Y);have CS:=RH.o.set HP7.o D iE;go_wp2;go_roundg (O q.head-(k+1))
  .exact⟨k+1,H (Ad g7 0),c7,Y,rfl,eO,pU,hP8,by rw[HX.o];exact CS⟩
  omega
 .obtain rfl:k=O q.head:=Y;rw[R9]at o;let⟨hl,hhl⟩:=E (q.head.map (λh=>(vars q).idxOf h));rw[hhl]at o;have HHL:=Z hhl;have g1:=Zc hM.g0 1;have b1:=Zc hM.q0 1;let⟨gp,hgp⟩:=E (hJ wr.heap);let⟨wm,hwm⟩:=E (e8 wr (h8 (madeCells #[J 0] (O (aJ q))) 3));have hUm:=Za hwm;have hR:gJ w wm (eB gp 0 (O (aJ q)) (O (aJ q))) (List.replicate (O (aJ q)) 0):=by
   have hT:=aGL.yF (O (aJ q)) (O (aJ q)) (fV _) F4 wr Y;simp only[wZ]at hT;rw[hwm,hgp]at hT;refine⟨?_,λg hg=>by simp[gz]at hg;have:=hM.up.size;omega⟩;exact ZM117
  have HF:dT (Ph q w (hJ w.heap+1) Bg (hY ha (O q.head) hc) (hY aa (O q.aD) ac) (hY ea (O (aJ q)) ec) (hY va (O (vars q)) vc) Bp gp (O (aJ q)) (hY xa (O q.head) xc) hl wm cH [] (List.replicate (O (aJ q)) 0)):=Z
   ⟨hM.on hUm,hUm.aC hP X,o.on hUm,(λe=>by have:=o.1.lt gp e;omega),bG.nil _ _,λx hx=>(by cases hx),by rw[Ym];exact hR⟩
  have HWM:=Z hwm;have HGP:=Z hgp;clear hM hP o hUm hR HM HP0 hhl hwm hgp;go_upto_region 15 with(fail);rw[HWM.o,HGP.o];clear g1 b1;go_wp2;go_loopg [14] (O (aJ q)) (λg i wr=>∃(k:Nat) (ya:Option cj) (S:Nat) (ns:List (aX×aF)),k<=O (aJ q)/\g=O (aJ q)-k/\i=J k/\ns.map (·.1)=(cN 0 (aJ q)).1.take k/\
   Ph q w (hJ w.heap+1) Bg (hY ha (O q.head) hc) (hY aa (O q.aD) ac) (hY ea (O (aJ q)) ec) (hY va (O (vars q)) vc) Bp gp (O (aJ q)) (hY xa (O q.head) xc) hl wr (hY ya k S) ns (List.range k++List.replicate (O (aJ q)-k) 0))
  .exact⟨0,K,0,[],Y,rfl,rfl,rfl,HF.o⟩
  obtain⟨k,ya,S,ns,hk,rfl,rfl,GC,C⟩:=hrel;have zU:O ns=k:=by
   have:=wJ O GC;rw[sN,VQ,tH]at this;omega
  by_cases F:k<O (aJ q)
  .have HX:=Z (TF F 0);have HNS:=Z GC;let⟨g6,o6,OK,hv6,e0⟩:=C.m.e0.rd.DR F;obtain rfl:=CT hv6;simp only[EN]at e0;have Hg:=HG.o.dM _ (bM (d:=0) F);let⟨y,hy⟩:=E (ep (aJ q) k 0);rw[hy]at e0 HX Hg;have CK:=Z zU;have HRS:=Z (ud F);have CX:O (List.range k++List.replicate (O (aJ q)-k) 0)=O (aJ q):=by simp;omega
   let⟨pr,hpr⟩:=E (List.range k++List.replicate (O (aJ q)-k) 0);rw[hpr]at C HRS CX;obtain⟨p0,p1,p2⟩:=Z3 C.p;have g1:=Zc C.m.g0 1;have Iq:=Z CX;have HF:=Z C;clear hy C GC zU hpr CX;go_upto_region 18 with(fail);refine ee 13 (eb p2<|eb g1<|d7 e0) (λQ=> ?_);refine dw [0,2,3,5,1,4,6,7] ?_;refine Zo 8 λqL hK=> ?_;go_simp;go_at_call 67;apply(Fw _ _ Hg).cF;rintro e w5 ⟨u,rfl,Gy,N⟩;dsimp only;obtain⟨ua,uc,rfl,-⟩:=Gy.len;have N:U wr [] w5 []:=(U.refl wr []).drew.dd N;replace Q:=N.zh3 Q;refine j8 ?_;clear hK qL;refine I 9 ?_;refine Zo 10 λqL hK=> ?_;go_simp;have hH5:=Q;have oK:U w5 [] (e8 w5 (h8 #[J 1,J k,hY ua (O (cD y)) uc,J 0,J 0,J 0,j4 po] 177)) []:=(U.refl w5 []).alloc _;replace Q:=oK.zh3 Q;refine j8 ?_;clear hK qL;refine Zo 11 λqL hK=> ?_;have a:=HF.o.on N;have Ce:ET w w5 (hY ya (O ns) S) ns:=by rw[CK.o];exact a.n
   let⟨g7,c7,w7,dP,wW,fM,P,hg7⟩:=i9 (ty:=44) (news:=[J 1,J k,hY ua (O (cD y)) uc,J 0,J 0,J 0,j4 po]) (T:=177) px Y a.n a.m.up (fV _) a.m.up.size
    (⟨1,k,cD y,0,0,0,po⟩,hY ua (O (cD y)) uc) rfl (RV rfl rfl rfl rfl rfl rfl rfl) (by intro j hj;rcases j with _|_|_|_|_|_|_|j<;>first|rfl|omega) (by have:=CK.o;omega) (by have:=CK.o;unfold bw;omega)
   refine dJ _ _ rfl Yr Yr dP ?_;have Q:=hH5;have aRk:g6∉(hY ya k S).ownBlock.toList:=λhm=>eJ.J7 a.n.1 a.m.e0.1 D _ (eI hm) rfl;replace Q:=P.zh3 Q (a.n.ne a.p D) (a.n.ne a.m.g0 D) (aRk);have Md:=P.aC a.p (a.n.ne a.p D);have W:=a.r.jL a.n D P;have Ed:=HF.o.r.1.lt gp rfl;have ho7:OV w w7 gp (ns++[(⟨1,k,cD y,0,0,0,po⟩,hY ua (O (cD y)) uc)]):=λx hx=>by
    rcases EY.1 hx with hx|hx
    .exact a.o.eF a.n P (λk hk=> .inr (eI hk)) x hx
    .obtain rfl:=Yj.1 hx;exact⟨(Gy.jL a.n D P).eE HF.o.m.up.size,λe=>by have h5:hJ wr.heap<=gp:=Gy.2 gp e;omega⟩
   have Ou:=a.put ((P.aN (T:=gp::(hY ya k S).ownBlock.toList) (λk hk=>RL _ hk)).to (T:=[]) X) Y Y wW ho7 W;have r7:=(show eJ _ _ _ _ _ _ from W.1).cell (i:=k) (j:=0) (by rw[Iq.o];exact F) Y;rw[wZ,pK]at r7;have rf7:=W.1.free (g:=gp) rfl k;have FK:gp≠Bp:=λe=>eJ.ne W.1 Md D (by rw[<-e];rfl);have f2:=Zc Md 2;have ff:=aM Md;rw[CK.o]at Ou|-;have HF8:=Z Ou;clear dP fM P wW W a ho7 Ou Md Gy Ce oK hH5 aRk N;refine j8 ?_;clear hK qL;refine I 12 ?_;refine Zo 13 λqL hK=> ?_;go_simp;refine MH ?_;clear hK qL;go_wp2;have yr:=HF8.o.GV Y (i:=k) (by rw[Iq.o];exact F) k;rw[HRS.o]at yr;go_roundg (O (aJ q)-(k+1))
   .exact⟨k+1,_,_,_,Y,rfl,eO,by rw[R8,HNS.o,HX.o];rfl,yr⟩
   omega
  .obtain rfl:k=O (aJ q):=Y;have Q9:(cN 0 (aJ q)).1.take (O (aJ q))=(cN 0 (aJ q)).1:=by rw[zdH];rw[tH];exact fV _
   have hrg:List.range (O (aJ q))++List.replicate (O (aJ q)-O (aJ q)) 0=(cN 0 (aJ q)).2:=by rw[Nat.sub_self];simp[cN]
   rw[Q9]at GC;rw[hrg]at C;obtain⟨g0,g1⟩:=Z2 C.m.g0;have HF:=Z C;have HNS:=Z GC;clear GC C Q9 hrg zU;go_upto_region 21 with(go_at_call 68;apply(J' _ (aJ q) _ _ HF.o.m.e0.rd Y).cF;rintro e w5 ⟨u,rfl,Ua,N⟩;obtain⟨la,lc,rfl,-⟩:=Ua.len;have T4:=Z Ua;have gD:=Z N;clear Ua N);go_wp2;go_loopg [15,16,17] 100 (λg s15 s16 s17 wr=>∃(m f:Nat) (la:Option cj) (lc:Nat) (ya:Option cj) (S:Nat) (b:sM) (l:List ES) (ns:List (aX×aF)),m+eD l<=36/\g=100-m/\s16=J m/\s15=hY la (O l) lc/\
    LL w wr (hY la (O l) lc) l/\ns.map (·.1)=b.1/\
    Ph q w (hJ w.heap+1) Bg (hY ha (O q.head) hc) (hY aa (O q.aD) ac) (hY ea (O (aJ q)) ec) (hY va (O (vars q)) vc) Bp gp (O (aJ q)) (hY xa (O q.head) xc) hl wr (hY ya (O b.1) S) ns b.2/\
    F2 (cO q) b l (O (aJ q)) 42/\cX 0 (cO q) f b l=H (bF,lF))
   .refine⟨0,bZ,la,lc,ya,S,cN 0 (aJ q),bW (aJ q),ns,by rw[Nat.zero_add];exact HWE.o,rfl,rfl,rfl,T4.o.eE HF.o.m.up.size,HNS.o,?_,?_,HPH.o⟩
    .rw[tH];exact HF.o.on gD.o
    .exact F2.cN 0 HG.o.dM (λe=>by rw[e]at Ls;cases Ls) (by have:=HWE.o;omega)
   obtain⟨m,f,la,lc,ya,S,b,l,ns,hmw,rfl,rfl,rfl,o,GC,C,z,hp1⟩:=hrel;have Ol:O l<=7:=jN z.ml (jN Z0 D);have hwp:=NR z.ne;have aRp:(m:Int)<100:=aRo hmw hwp;have HAL:=Z λV (hz:U wr [] V [])=>aCD _ l (cO q) V (o.rd.on hz) z.sm Ol hh;rcases Gc hp1 with⟨hwi,rfl,rfl⟩|⟨hwi,f',s,rfl,hn,hp2⟩
   .rw[hwi]at HAL;have HNT:=Z (PL _ _ _ _ _ (Kz 0 (aJ q)) HPH.o);have zU:O ns=O bF.1:=by rw[<-GC,sN]
    have HNS:=Z GC;have VM:=Z z;have CK:=Z zU;have p2:=Zc C.p 2;let⟨M,hMe⟩:=E (hJ wr.heap);have HMW:=Z (show hJ w.heap<=M by rw[<-hMe];exact C.m.up.size);have a2Y:=Z (show hJ w.heap+1<M by rw[<-hMe];exact cV C.m.r0);have aVK:=Z (show gp<M by rw[<-hMe];exact C.r.1.lt gp rfl);have aVH:=Z (show∀g,gz (hY xa (O q.head) xc)=H g->g<M by rw[<-hMe];exact λg hg=>C.h.1.lt g hg);have HXM:=Z (show∀x,x∈ns.map (·.2)->∀g,gz x=H g->g<M by
     rw[<-hMe];intro x hx g hg;obtain⟨y,hy,rfl⟩:=BB.1 hx;exact(C.o y hy).1.1.lt g hg)
    have HME:=Z hMe;have HF:=Z C;have HL:=Z o;clear GC z C o hp1 hMe zU;let⟨zK,aN3⟩:=E ((lF.map λx=>ep bF.2 x.1 0));have hNl:O zK=O lF:=by rw[<-aN3,sN]
    have Wu:=Z aN3;have aOx:=Z hNl;clear aN3 hNl;go_upto_region 30 with(go_at_call 69;apply(HAL.o _ (U.refl _ _)).cL;rintro w5 rfl);go_upto_region 32 with(fail);obtain⟨wo,rfl⟩:∃wo:aA,wo=wr:=⟨_,rfl⟩;go_loopg [19,20] (O lF) (λg s19 s20 wx=>∃(k:Nat) (na:Option cj) (nc:Nat) (Xf:List (aX×aF)),k<=O lF/\g=O lF-k/\s20=J k/\s19=hY na k nc/\
     Ph q w (hJ w.heap+1) Bg (hY ha (O q.head) hc) (hY aa (O q.aD) ac) (hY ea (O (aJ q)) ec) (hY va (O (vars q)) vc) Bp gp (O (aJ q)) (hY xa (O q.head) xc) hl wx (hY ya (O bF.1) S) Xf bF.2/\
     bG fN 0 3 1 wo wx (hY na k nc) (zK.take k)/\LL w wx (hY la (O lF) lc) (DC lF k)/\IK bF.1 (zK.take k) (Xf.map (·.1))/\Xf.map (·.2)=ns.map (·.2)/\M<=hJ wx.heap)
    .exact⟨0,K,0,ns,Y,rfl,rfl,rfl,HF.o,bG.nil _ _,by rw[Zw];exact HL.o,by rw[HNS.o];exact IK.start HNT.o,rfl,by rw[<-HME.o];exact fV _⟩
    obtain⟨k,na,nc,Xf,hk,rfl,rfl,rfl,hF4,Ci,RC,L6,aHV,qN⟩:=hrel;by_cases F:k<O lF
    .let⟨hem,vH,oZ,hNk,Tc,aYd,yi⟩:=Gg VM.o F (jN Z0 D) Wu.o;have xo:O Xf=O bF.1:=by have:=L6.1.len;rw[sN]at this;exact this.symm
     obtain⟨gl,cl,Q5,-,-,GH,-,-⟩:=(show eJ _ _ _ _ _ _ from RC.1).block (by rw[sC];exact Og (RN _) F);obtain⟨gn,cn,hvn,-,-,hcn,-,-⟩:=(show eJ _ _ _ _ _ _ from hF4.n.1).block (by rw[xo];exact Og (RN _) vH);injection Q5 with x1 x2 x3;injection hvn with y1 y2 y3;subst x1 y1;clear x2 x3 y2 y3;have HRN:=Z (Zx F);have l0:=GH k 0 (by rw[sC];exact F) D;rw[XG F,bD (Nat.lt_irrefl k),pK]at l0;simp only[uZ]at l0;have hrg:ep (DC lF k) k qc=ep lF k qc:=by rw[XG F,bD (Nat.lt_irrefl k)]
     let⟨y,hy⟩:=E (ep lF k qc);rw[hy]at l0 hem vH oZ HRN hrg;have HRG:=Z hrg;clear hrg;have r0:=(show eJ _ _ _ _ _ _ from hF4.r.1).cell (i:=y.1) (j:=0) (by rw[VM.o.pm];exact hem) D;rw[wZ,pK]at r0;simp only[fN]at r0;let⟨t,ht⟩:=E (ep bF.2 y.1 0);rw[ht]at r0 vH oZ;let⟨LK,hLK⟩:=E (zK.take k);rw[hLK]at oZ hNk Ci L6;clear hLK;have D3:=Z oZ;have HNK:=Z hNk;have HY:=Z hy;have hwo:hJ wo.heap<=hJ wr.heap:=by rw[HME.o];exact qN
     have aXx:hJ w.heap<=hJ wo.heap:=by rw[HME.o];exact HMW.o
     have JC:(k+1)*8<=140737488355328:=aGl Tc;have hmx:k+1<=bw:=aGp Tc;have p2:=Zc hF4.p 2;have a0o:=Z (show∀x,x∈Xf->∀g,gz x.2=H g->g<M from λx hx g hg=>HXM.o x.2 (by rw[<-aHV];exact BB.2 ⟨x,hx,rfl⟩) g hg);have HF4:=Z hF4;have VL:=Z Ci;have DY:=Z RC;have OX:=Z L6;have a1M:=Z aHV;have ke:=Z xo;clear hF4 Ci RC L6 aHV xo;clear ht hy GH hcn oZ hNk;go_upto_region 35 with(at_builtin;refine AF OI rfl _ _ rfl VL.o HF4.o.m.up aXx hwo Yr [It t] t Yr rfl (dH rfl) rfl (by rw[HNK.o];exact JC) (by rw[HNK.o];exact hmx) ?_;rintro g2 c2 w5 Uc-N-;have Nt:=Z Uc;have gD:=Z N;clear Uc N);have a:=HF4.o.zW gD.o HMW.o (λb hb=>⟨by rw[<-HME.o];exact VL.o.ge b hb,VL.o.Bx b hb⟩) a2Y.o aVK.o aVH.o a0o.o;have nO:=DY.o.dg gD.o (λb hb=>by rw[VL.o.Bx b hb];decide);rw[HNK.o]at Nt|-;have p2:=Zc a.p 2;have l0:=gD.o.cell l0 (λhm=>dS (VL.o.Bx _ hm) (by rw[DY.o.ty (k:=gl) rfl];decide));have r0:=gD.o.cell r0 (λhm=>by have G:=VL.o.ge _ hm;have h2:=aVK.o;rw[HME.o]at G;exact Nat.lt_irrefl _ (wM h2 G));obtain⟨gn',cn',aYB,-,-,hc5,nf,-⟩:=(show eJ _ _ _ _ _ _ from a.n.1).block (by rw[ke.o];exact Og (RN _) vH);injection aYB with z1 z2 z3;injection z1 with z1;injection z1 with z1;subst z1;clear z2 z3;have n6:=hc5 t 6 (by rw[ke.o];exact vH) D;clear hc5;have Bq:=Z a;have oI:=Z nO;clear a nO;refine ee 99 (eb p2<|eb l0<|d7 r0) (λQ=> ?_);refine dw [0,2,3,4,1,5,6,7,8,9,10,11] ?_;refine Zo 12 λqL hK=> ?_;go_simp;have dK:U w5 [gn] (ey w5 (Ad gn (t*7+6)) (j4 oj)) [gn]:=pX w5 gn (t*7+6) _;have htn:=Bq.o.n.ty (k:=gn) rfl;have nb1:Bp∉[gn]:=λhm=>by
      have G:=eH Bq.o.p;rw[show Bp=gn by simpa using hm,htn]at G;exact dS G D
     have nb2:gl∉[gn]:=λhm=>by
      have G:=oI.o.ty (k:=gl) rfl;rw[show gl=gn by simpa using hm,htn]at G;exact dS G D
     have nb3:gp∉[gn]:=λhm=>by
      have G:=Bq.o.r.ty (k:=gp) rfl;rw[show gp=gn by simpa using hm,htn]at G;exact dS G D
     have Q:e7 (ey w5 (Ad gn (t*7+6)) (j4 oj)).drew (Ad Bp 2)=H (eB gn 0 (O bF.1) S)/\e7 (ey w5 (Ad gn (t*7+6)) (j4 oj)).drew (Ad gl (k*2))=H (J y.1)/\e7 (ey w5 (Ad gn (t*7+6)) (j4 oj)).drew (Ad gp (y.1))=H (J t):=⟨dK.cell p2 nb1,dK.cell l0 nb2,dK.cell r0 nb3⟩;refine j8 ?_;clear hK qL;refine aY dB ?_ _;try simp only[Act.put,RM,RJ,UT]
     have c:=Bq.o.mark (xG mZ) (t:=t) (by rw[ke.o];exact vH);have lL:=oI.o.eF dK (λg hg hm=>nb2 (by
      obtain rfl:gl=g:=by simpa[gz]using hg
      exact hm))
     have Mh:=Nt.o.eF dK (λg hg hm=>by
      have G:=Nt.o.ty hg;rw[show g=gn by simpa using hm,htn]at G;exact dS G D)
     have l0:=Q.2.1;have lf:=lL.1.free (g:=gl) rfl;have lf:(ey w5 (Ad gn (t*7+6)) (j4 oj)).drew.frozen? (Ad gl (k*2))=po:=lf (k*2);have c:=c.on (U.refl _ []).drew;have lL:=lL.drew;have Mh:=Mh.drew;have xh:hJ wr.heap<=hJ (ey w5 (Ad gn (t*7+6)) (j4 oj)).drew.heap:=jN gD.o.size dK.size;let⟨w6,iA⟩:=E ((ey w5 (Ad gn (t*7+6)) (j4 oj)).drew);rw[iA]at l0 lf c lL Mh xh|-;have HF6:=Z c;have uL:=Z lL;have Ye:=Z Mh;have js:=Z xh;clear c lL Mh xh;clear iA Q dK nb1 nb2 nb3 p2 r0 n6 nf;go_wp2;have fM:U w6 [gl] (ey w6 (Ad gl (k*2)) (J k)) [gl]:=pX w6 gl (k*2) _;have pp:=HF6.o.left fM (λb hb=>by
      obtain rfl:b=gl:=eI hb;exact⟨uL.o.2 b rfl,uL.o.ty rfl⟩)
     have wW:=uL.o.DB (i:=k) (j:=0) (by rw[sC];exact F) D (k,y.2) (J k) (λj' uW=>by
      rw[HRG.o];match j',uW with
      |0,_=>rfl
      |1,_=>rfl)
     rw[<-HRN.o]at wW;have hN7:=Ye.o.dg fM (λb hb=>by
      obtain rfl:b=gl:=eI hb;rw[uL.o.ty (k:=b) rfl];decide)
     have aRn:=OX.o.vP (t:=t) (by rw[sN,ke.o];exact vH);rw[<-D3.o]at aRn hN7;go_roundg (O lF-(k+1))
     .exact⟨k+1,H (Ad g2 0),c2,Xf.set t ({(ep Xf t qc).1 with lW:=oj},(ep Xf t qc).2),F,rfl,eO,rfl,pp,hN7,wW,by rw[map_set,<-fY];exact aRn,(VU (by rw[ke.o];exact vH)).dd a1M.o,jN (jN qN js.o) fM.size⟩
     exact lm F
    .obtain rfl:k=O lF:=Nat.le_antisymm hk (Nat.le_of_not_lt F);have oZ:zK.take (O lF)=zK:=by rw[zdH];rw[aOx.o];exact fV _
     rw[oZ]at Ci L6;rw[Ft]at RC;have Cf:0<O lF:=List.length_pos_iff.2 VM.o.ne;have aMk:O lF<=7:=jN VM.o.ml (jN Z0 D);have aHz:bG fN 0 3 1 wo wr (hY na (O zK) nc) zK:=by rw[aOx.o];exact Ci
     obtain⟨gw,cw,hvw,-,-,-,-,-⟩:=(show eJ _ _ _ _ _ _ from aHz.1).block (by rw[aOx.o];exact Cf);injection hvw with x1 x2 x3;subst x1 x3;have hgw:=aHz.2 gw rfl;have xo:O Xf=O bF.1:=by have:=L6.1.len;rw[sN]at this;exact this.symm
     have a:Ph q w (hJ w.heap+1) Bg (hY ha (O q.head) hc) (hY aa (O q.aD) ac) (hY ea (O (aJ q)) ec) (hY va (O (vars q)) vc) Bp gw nc (hY xa (O q.head) xc) hl wr (hY ya (O bF.1) S) Xf zK:=
      ⟨hF4.m,hF4.p,hF4.h,λe=>by have G:=aVH.o gw e;rw[<-HME.o]at G;exact Nat.lt_irrefl _ (wM G hgw),hF4.n,
       λx hx=>⟨(hF4.o x hx).1,λe=>by have G:=HXM.o x.2 (by rw[<-aHV];exact BB.2 ⟨x,hx,rfl⟩) gw e;rw[<-HME.o]at G;exact Nat.lt_irrefl _ (wM G hgw)⟩,
       aHz.eE (by rw[HME.o];exact HMW.o)⟩
     have aUy:dT (F2 0 (Xf.map (·.1),zK) (qB lF) (O lF) 42):=Z (VM.o.qB (Xf.map (·.1),zK) (.inr L6.1) Wu.o.symm);let⟨R,hR⟩:=E (fC 0 bZ (Xf.map (·.1),zK) (qB lF));have Xz:=Z (show eD (qB lF)<=bZ from WI (by have:=aUy.o.wt;exact jN (Nat.le_add_left _ _) this));have hla:O (qB lF)=O lF:=by rw[<-Ft,sC]
     have EW:=Z hla;have DY:=Z (show LL w wr (hY la (O (qB lF)) lc) (qB lF) by rw[hla];exact RC);have Bq:=Z a;have HR:=Z hR;have a1g:=Z L6;have ke:=Z xo;clear a hR L6 xo;clear hF4 Ci aHz RC oZ x2 hgw hla;go_wp2;go_loopg [15,21] (eD (qB lF)) (λg s15 s21 wx=>∃(f:Nat) (la:Option cj) (lc:Nat) (ya:Option cj) (S:Nat) (b:sM) (l:List ES) (ns:List (aX×aF)),g=eD l/\s15=hY la (O l) lc/\
      LL w wx (hY la (O l) lc) l/\ns.map (·.1)=b.1/\
      Ph q w (hJ w.heap+1) Bg (hY ha (O q.head) hc) (hY aa (O q.aD) ac) (hY ea (O (aJ q)) ec) (hY va (O (vars q)) vc) Bp gw nc (hY xa (O q.head) xc) hl wx (hY ya (O b.1) S) ns b.2/\
      F2 0 b l (O lF) 42/\eD l<=f/\fC 0 f b l=R)
     .exact⟨bZ,la,lc,ya,S,(Xf.map (·.1),zK),qB lF,Xf,rfl,by rw[EW.o],DY.o,rfl,by rw[sN,ke.o];exact Bq.o,aUy.o,Xz.o,HR.o⟩
     obtain⟨f,la,lc,ya,S,b,l,ns,rfl,rfl,o,GC,C,z,sG,hp1⟩:=hrel;have Ol:O l<=7:=jN z.ml aMk;rcases Ga z.nd z.sm sG hp1 with⟨hn,hRe⟩|⟨f',s,rfl,hn,hwl,hp2⟩
     .subst hRe;have Bh:=Z λV (hz:U wr [] V [])=>NZ _ l 0 V (o.rd.on hz) z.sm Ol D z.nd;have yi:O b.1<=41:=z.few;have aMl:0<O l:=List.length_pos_iff.2 z.ne;obtain⟨gl,cl,Q5,-,-,GH,-,-⟩:=(show eJ _ _ _ _ _ _ from o.1).block aMl;injection Q5 with x1 x2 x3;subst x1;clear x2 x3;have l0:=GH 0 0 aMl D;simp only[uZ,Nat.zero_mul,pK]at l0;have hem:(ep l 0 qc).1<O lF:=z.xb _ (BB.2 ⟨_,bM aMl,rfl⟩);have SG:ep b.2 (ep l 0 qc).1 0<O b.1:=z.ok.GV _ (by rw[z.pm];exact hem);let⟨y,hy⟩:=E ((ep l 0 qc).1);rw[hy]at l0 hem SG;have r0:=(show eJ _ _ _ _ _ _ from C.r.1).cell (i:=y) (j:=0) (by rw[z.pm];exact hem) D;rw[wZ,pK]at r0;simp only[fN]at r0;let⟨dL,U0⟩:=E (ep b.2 y 0);rw[U0]at r0 SG;have Io:=Z (show dL=ep b.2 ((ep l 0 qc).1) 0 by rw[hy,U0]);have a2T:=Z z.ok.below;have jz:=Z hn;have p3:=Zc C.p 3;have zU:O ns=O b.1:=by rw[<-GC,sN]
      have HF:=Z C;have HNS:=Z GC;have CK:=Z zU;clear C GC zU;clear o z GH hy U0 hn hp1 sG Xz;go_upto_region 38 with(go_at_call 70;apply(Bh.o _ (U.refl _ _)).cF;rintro e w5 ⟨u,L,rfl,Ua,nO,-,N⟩;obtain⟨sa,sc,rfl,-⟩:=Ua.len;have T4:=Z Ua;have gD:=Z N;have oI:=Z nO;clear Ua N nO);obtain rfl:L=[]:=by
       have G:=oI.o;rw[jz.o]at G;exact List.head?_eq_none_iff.1 G
      let⟨l0,r0⟩:=gD.o.zc2 l0 r0;have a:=HF.o.on gD.o;have p3:=Zc a.p 3;have pf:=aM a.p;have Bq:=Z a;clear a;go_upto_region 42 with(fail);have hFN:=Bq.o.Un (xG mZ) (M3 mZ) dL;let⟨w6,iA⟩:=E (ey w5 (Ad Bp 3) (J dL));rw[iA]at hFN|-;have HFN:=Z hFN;have Ll:0<O b.1:=Og (RN _) SG;obtain⟨gn,cn,hvn,-,-,-,-,-⟩:=(show eJ _ _ _ _ _ _ from HFN.o.n.1).block (by rw[CK.o];exact Ll);injection hvn with x1 x2 x3;subst x1;clear l0 r0 p3 pf iA hFN x2 x3 Bh HF gD T4 oI Bq;let⟨n,dW⟩:=E (O b.1);rw[dW]at SG yi HFN CK Ll;have tP:=Z dW;clear dW;go_upto_region 43 with(fail);go_loopg [22,23] n (λg s22 s23 wx=>∃(k:Nat) (IT:List (aX×aF)),k<=n/\g=n-k/\s22=J k/\
       IN q w (hJ w.heap+1) Bg (hY ha (O q.head) hc) (hY aa (O q.aD) ac) (hY ea (O (aJ q)) ec) (hY va (O (vars q)) vc) Bp (hY xa (O q.head) xc) hl dL wx (eB gn 0 n S) IT/\
       IT.map (·.1)=A4 b.1 (O bF.1) k)
      .exact⟨0,ns,Y,rfl,rfl,HFN.o,by rw[fz];exact HNS.o⟩
      obtain⟨k,IT,hk,rfl,rfl,c,I6⟩:=hrel;have aDP:O IT=n:=by
       have:=wJ O I6;rw[sN,sD,tP.o]at this;exact this
      obtain⟨p0,p1,p2,p3,p4⟩:=Z5 c.p;by_cases F:k<n
      .have xy:k<O b.1:=by rw[tP.o];exact F
       have hx6:(ep IT k qc).1=ep b.1 k qc:=by rw[<-fY,I6,Ac xy,bD (Nat.lt_irrefl k)]
       have n6:=(show eJ _ _ _ _ _ _ from by have:=c.n.1;rw[aDP]at this;exact this).cell (i:=k) (j:=6) F D;have nf:=c.n.1.free (g:=gn) rfl;simp only[oE]at n6;rw[hx6]at n6;let⟨x,hx⟩:=E (ep b.1 k qc);rw[hx]at n6 hx6;have HX:=Z hx;have Pa:=Z hx6;have Ye:=Z I6;have HF6:=Z c;have aOy:=Z aDP;clear hx hx6 I6 c aDP;go_upto_region 45 with(fail);go_cut [22] (λs22 wx=>s22=J k/\wx=(ey wr (Ad gn (k*7+6)) (j4 (x.lW||decide (O bF.1<=k)))).drew)
       case first=>
        cases Xh:x.lW with
        |true=>
         rw[Xh]at n6;have Oz:=Z Xh;clear Xh;go_region;go_wp2;go_meet;exact⟨rfl,by rw[Oz.o,Bool.true_or]⟩
        |false=>
         rw[Xh]at n6;have Oz:=Z Xh;clear Xh;by_cases xN:O bF.1<=k
         .go_region;go_wp2;go_meet;exact⟨rfl,by rw[Oz.o,Bool.false_or,kI xN]⟩
         .have a39:=Nat.lt_of_not_le xN;go_region;go_wp2;go_meet;exact⟨rfl,by rw[Oz.o,Bool.false_or,jO xN]⟩
       case rest=>
        obtain⟨rfl,rfl⟩:=hcut;have pp:=(HF6.o.aL5 (i:=k) (by rw[aOy.o];exact F) (x.lW||decide (O bF.1<=k))).on (U.refl _ []).drew;have hn7:(IT.set k ({(ep IT k qc).1 with lW:=x.lW||decide (O bF.1<=k)},(ep IT k qc).2)).map (·.1)=(A4 b.1 (O bF.1) k).set k {ep b.1 k qc with lW:=(ep b.1 k qc).lW||decide (O bF.1<=k)}:=by
         rw[map_set,Ye.o,Pa.o,HX.o]
        have Ol:O (IT.set k ({(ep IT k qc).1 with lW:=x.lW||decide (O bF.1<=k)},(ep IT k qc).2))=n:=by rw[VP];exact aOy.o
        generalize (IT.set k ({(ep IT k qc).1 with lW:=x.lW||decide (O bF.1<=k)},(ep IT k qc).2))=ns7 at pp hn7 Ol;generalize (ey wr (Ad gn (k*7+6)) (j4 (x.lW||decide (O bF.1<=k)))).drew=w7 at pp|-;clear p0 p1 p2 p3 p4 n6 nf;obtain⟨p0,p1,p2,p3,p4⟩:=Z5 pp.p;have nf:=pp.n.1.free (g:=gn) rfl;have n5:=(show eJ _ _ _ _ _ _ from by have:=pp.n.1;rw[Ol]at this;exact this).cell (i:=k) (j:=5) F D;simp only[oE]at n5;have HF7:=Z pp;clear pp HF6 Ye aOy HX Pa;go_upto_region 47 with(fail);have Ou:=HF7.o.vL (i:=k) (by rw[Ol];exact F) (-1);have hn8:(ns7.set k ({(ep ns7 k qc).1 with bU:= -1},(ep ns7 k qc).2)).map (·.1)=A0 b.1 (O bF.1) k 0:=by
         rw[map_set,<-fY];exact aC1 xy hn7
        generalize (ns7.set k ({(ep ns7 k qc).1 with bU:= -1},(ep ns7 k qc).2))=ns8 at Ou hn8;generalize (ey w7 (Ad gn (k*7+5)) (J (-1)))=w8 at Ou|-;have HF8:=Z Ou;have HN8:=Z hn8;clear p0 p1 p2 p3 p4 nf n5 Ou hn8 HF7 hn7 Ol;go_upto_region 48 with(fail);go_loopg [23] n (λg s23 wx=>∃(j:Nat) (ns9:List (aX×aF)),j<=n/\g=n-j/\s23=J j/\
         IN q w (hJ w.heap+1) Bg (hY ha (O q.head) hc) (hY aa (O q.aD) ac) (hY ea (O (aJ q)) ec) (hY va (O (vars q)) vc) Bp (hY xa (O q.head) xc) hl dL wx (eB gn 0 n S) ns9/\
         ns9.map (·.1)=A0 b.1 (O bF.1) k j)
        .exact⟨0,ns8,Y,rfl,rfl,HF8.o,HN8.o⟩
        obtain⟨j,ns9,hj,rfl,rfl,yr,xp⟩:=hrel;have hl9:O ns9=n:=by
         have:=wJ O xp;rw[sN,Kx,tP.o]at this;exact this
        obtain⟨p0,p1,p2,p3,p4⟩:=Z5 yr.p;by_cases EL:j<n
        .have hjN:j<O b.1:=by rw[tP.o];exact EL
         have Ef:=I' va xa K (O (vars q)) (O q.head) 0 vc xc 0 (eB gn 0 n S) dL ns9 j k wr yr.n.rd yr.aU (by rw[hl9];exact EL);rw[<-fY,xp,Rr hjN]at Ef;have UQ:=Z Ef;have HF9:=Z yr;have HN9:=Z xp;let⟨B,hB⟩:=E (dV (ep b.1 j qc) k);rw[hB]at UQ;have HB:=Z hB;clear Ef yr xp hB;cases B with
         |true=>
          go_upto_region 50 with(fail);go_wp2_with (go_at_call 73;apply UQ.o.cL;intro E1 lP;have ZU:=HF9.o.on lP;have p2:=Zc ZU.p 2;have nf:=ZU.n.1.free (g:=gn) rfl;have n5:=(show eJ _ _ _ _ _ _ from by have:=ZU.n.1;rw[hl9]at this;exact this).cell (i:=k) (j:=5) F D;simp only[oE]at n5;have aPO:=Z ZU;clear lP ZU);go_roundg (n-(j+1))
          .exact⟨j+1,_,EL,rfl,eO,aPO.o.vL (i:=k) (by rw[hl9];exact F) j,by rw[map_set,<-fY,HN9.o];exact aC2 xy HB.o⟩
          omega
         |false=>
          go_upto_region 50 with(fail);go_wp2_with (go_at_call 73;apply UQ.o.cL;intro E1 lP;have ZU:=HF9.o.on lP;have p2:=Zc ZU.p 2;have nf:=ZU.n.1.free (g:=gn) rfl;have n5:=(show eJ _ _ _ _ _ _ from by have:=ZU.n.1;rw[hl9]at this;exact this).cell (i:=k) (j:=5) F D;simp only[oE]at n5;have aPO:=Z ZU;clear lP ZU);go_roundg (n-(j+1))
          .exact⟨j+1,ns9,EL,rfl,eO,aPO.o,by rw[HN9.o];exact aC3 HB.o⟩
          omega
        .obtain rfl:j=n:=Nat.le_antisymm hj (Nat.le_of_not_lt EL);go_wp2;go_roundg (j-(k+1))
         .exact⟨k+1,ns9,F,rfl,eO,yr,by rw[xp,<-tP.o];exact vf xy⟩
         exact lm F
      .obtain rfl:k=n:=Nat.le_antisymm hk (Nat.le_of_not_lt F);let⟨aMw,Lv,CX⟩:=aCH hs HCY.o HPH.o Wu.o a1g.o HR.o Io.o a2T.o (by rw[tP.o];exact SG);rw[tP.o]at aMw;rw[aMw]at I6;generalize oJ b.1 (O bF.1) zK=p at Lv CX I6;have hor:=H' va xa K (O (vars q)) (O q.head) 0 vc xc 0 (eB gn 0 k S) dL IT (by rw[aDP];exact yi) (by rw[I6];exact Lv) dL (by rw[aDP];exact SG) wr c.n.rd c.aU;rw[I6]at hor;let⟨OL,hOL⟩:=E (eS p (dL+1) dL);rw[hOL]at hor;have HOR:=Z hor;have Wt:=Z hOL;have HF6:=Z c;have Ye:=Z I6;have Iq:=Z CX;clear hor hOL I6 CX Lv aMw c;go_upto_region 53 with(go_at_call 74;apply HOR.o.cF;rintro e w7 ⟨u,rfl,hO,fM⟩;obtain⟨oa,oc,rfl,-⟩:=hO.len;have pp:=HF6.o.on fM;have pf:=aM pp.p;have p4':=Zc pp.p 4;have HF7:=Z pp;have HO:=Z (hO.eE HF6.o.m.up.size);clear hO fM pp);let⟨w9,Gv,hp9,hr9,aRb,hu9⟩:=HF7.o.done (Nat.le_succ _) (xG mZ) (M3 mZ) HO.o;rw[Gv];obtain⟨d0,d1,d2,d3,d4⟩:=Z5 hp9;obtain⟨r0,r1,r2,r3,r4⟩:=Z5 hr9;have rf:=aM hr9;have a1W:=Z aRb;have GI:=Z hu9;clear Gv hp9 hr9 aRb hu9 pf p4' p0 p1 p2 p3 p4;repeat(first|go_values|go_skip|go_guarded|go_step|go_upon)
       refine mD (aT (A:=⟨hJ w.heap+1,0,K⟩) (T:=46) rfl Yr (v:= .agg #[hY va (O (vars q)) vc,hY xa (O q.head) xc,eB gn 0 k S,J dL,hY oa (O OL) oc]) (by go_simp)) rfl ?_;have hpq:(aB q).2=⟨vars q,hl,IT.map (·.1),dL,OL⟩:=by
        rw[Iq.o,Ye.o,HHL.o,Wt.o]
       exact⟨_,rfl,by rw[hpq];exact a1W.o,GI.o⟩
     .have hf:=z.aER hn Cf aMk;have zM:=Z λV (hz:U wr [] V [])=>Hw (C.on hz).n (C.on hz).r (o.rd.on hz) (C.on hz).m.up GC z hf aMk;have OX:=Z λV (hz:U wr [] V [])=>LZ _ l s V (o.rd.on hz) z.sm Ol hf.cut;have Bh:=Z λV (hz:U wr [] V [])=>NZ _ l 0 V (o.rd.on hz) z.sm Ol D z.nd;have JJ:=Z (z.step 0 hn);have HFC:=Z hf;have R3:=Z z.sm;have HN:=Z hn;have qx:=Z hp2;have HWL:=Z hwl;have HNS:=Z GC;have HF:=Z C;have HL:=Z o;clear z hn hp1 hp2 GC hwl C o hf;go_upto_region 38 with(first
       |(go_at_call 70;apply(Bh.o _ (U.refl _ _)).cF;rintro e w5 ⟨u,L,rfl,Ua,nO,-,N⟩;obtain⟨sa,sc,rfl,-⟩:=Ua.len;have T4:=Z Ua;have gD:=Z N;have oI:=Z nO;clear Ua N nO))
      obtain⟨rst,aM1⟩:∃r,L=s::r:=ZM118;subst aM1;obtain⟨gs,cs0,hvs,hog,Ed,xO,-,-⟩:=(show eJ _ _ _ _ _ _ from T4.o.1).block (Nat.zero_lt_succ _);injection hvs with x1 x2 x3;subst x1;have Xm:=T4.o.ty (k:=gs) rfl;have aMb:=ne0 s rst;have s0:=xO 0 0 (Nat.zero_lt_succ _) D;have s1:=xO 0 1 (Nat.zero_lt_succ _) D;have s2:=xO 0 2 (Nat.zero_lt_succ _) D;have s3:=xO 0 3 (Nat.zero_lt_succ _) D;simp only[Nat.zero_mul,Nat.zero_add,pK,List.getD_cons_zero,J0]at s0 s1 s2 s3;have a:=HF.o.on gD.o;have p2:=Zc a.p 2;have aDX:0<O (s::rst):=Nat.zero_lt_succ _;let⟨n1,VW⟩:=E (O (s::rst));rw[VW]at aMb aDX|-;have Bq:=Z a;have In:=Z Xm;clear xO hog x2 x3 a T4 oI Xm VW Ed;go_upto_region 39 with(fail);refine ee 9 (eb p2<|eb s0<|eb s1<|eb s2<|d7 s3) (λQ=> ?_);refine dw [0,2,3,4,1,5,6] ?_;refine Zo 7 λqL hK=> ?_;go_simp;go_at_call 71;have jW:U w5 [] w5.drew []:=(U.refl w5 []).drew;have c:=Bq.o.on jW;apply(zM.o _ gD.o.drew).cF;rintro e w7 ⟨u,x,rfl,hn7,W,hx7,P,fM,dj⟩;dsimp only;have SD:lZ w5.drew gs=H 185:=In.o;replace Q:=P.zh5 Q (c.zR (eH c.p) D D) (c.zR SD D D) (c.zR SD D D) (c.zR SD D D) (c.zR SD D D);let⟨h71,h72,h73⟩:=c.vK P (xG mZ);have Ou:=c.put P (xG mZ) (M3 mZ) hn7 (c.ov P hx7) W;have lL:=(HL.o.on gD.o).on jW;have wW:=lL.dg P (λk hk he=>by
       exact c.zR he D D hk)
      obtain⟨ua,uc,rfl,-⟩:=hn7.len;have uD:O (ns++[(nB 0 b.2 l s,x)])=O (gB 0 b l s).1:=by rw[<-dj,sN]
      rw[uD]at Ou|-;have f2:=Zc h72 2;have ff:=aM h72;have FK:gs≠Bp:=λe=>by
       have G:=eH c.p;rw[<-e,SD]at G;exact dS G D
      have iE:=pX w7 Bp 2 (hY ua (O (gB 0 b l s).1) uc);have CS:=wW.set h72 D iE;let⟨nb,Cd⟩:=E (O (gB 0 b l s).1);rw[Cd]at Ou CS iE|-;have s0:=iE.cell Q.2.1 (eI FK);have s1:=iE.cell Q.2.2.1 (eI FK);have s2:=iE.cell Q.2.2.2.1 (eI FK);have s3:=iE.cell Q.2.2.2.2 (eI FK);have HF8:=Z Ou;have OY:=Z CS;have HNB:=Z Cd;have aOw:=Z dj;let⟨w8,wP⟩:=E (ey w7 (Ad Bp 2) (hY ua nb uc));rw[wP]at HF8 OY s0 s1 s2 s3;have HW8:=Z wP;clear h71 h72 h73 Ou lL wW CS iE P fM hn7 W hx7 c SD jW Cd dj uD wP Bq HF HL zM Bh;refine j8 ?_;clear hK qL;refine I 8 ?_;refine Zo 9 λqL hK=> ?_;go_simp;refine MH ?_;clear hK qL;rw[HW8.o];clear Q f2 ff p2;have hHM:=OX;clear OX;have OX:=Z (LZ _ l s w8 OY.o.rd R3.o Ol HFC.o.cut);clear hHM;unfold jX at OX;go_wp2_with (go_at_call 72;apply OX.o.cF;rintro e w9 ⟨u9,rfl,hO9,sO⟩;obtain⟨la9,lc9,rfl,-⟩:=hO9.len;have HO9:=Z hO9;have GI:=Z sO;clear hO9 sO);go_roundg (eD (make l s))
      .exact⟨f',la9,lc9,ua,uc,gB 0 b l s,make l s,_,rfl,rfl,HO9.o.eE HF8.o.m.up.size,aOw.o,by rw[HNB.o];exact HF8.o.on GI.o,JJ.o,HWL.o,qx.o⟩
      exact HFC.o.wt
   .rw[hwi]at HAL;have hf:=z.aER hn Ls (jN Z0 D);have zM:=Z λV (hz:U wr [] V [])=>Hw (C.on hz).n (C.on hz).r (o.rd.on hz) (C.on hz).m.up GC z hf (jN Z0 D);have OX:=Z λV (hz:U wr [] V [])=>LZ _ l s V (o.rd.on hz) z.sm Ol hf.cut;have Bh:=Z λV (hz:U wr [] V [])=>NZ _ l (cO q) V (o.rd.on hz) z.sm Ol hh z.nd;have JJ:=Z (z.step 0 hn);have HFC:=Z hf;have R3:=Z z.sm;have HN:=Z hn;have qx:=Z hp2;have HNS:=Z GC;have HF:=Z C;have HL:=Z o;clear z hn hp1 hp2 GC C o hf;go_upto_region 25 with(first
     |(go_at_call 70;apply(Bh.o _ (U.refl _ _)).cF;rintro e w5 ⟨u,L,rfl,Ua,nO,-,N⟩;obtain⟨sa,sc,rfl,-⟩:=Ua.len;have T4:=Z Ua;have gD:=Z N;have oI:=Z nO;clear Ua N nO)
     |(go_at_call 69;apply(HAL.o _ (U.refl _ _)).cL;rintro w5 rfl))
    obtain⟨rst,aM1⟩:∃r,L=s::r:=ZM118;subst aM1;obtain⟨gs,cs0,hvs,hog,Ed,xO,-,-⟩:=(show eJ _ _ _ _ _ _ from T4.o.1).block (Nat.zero_lt_succ _);injection hvs with x1 x2 x3;subst x1;have Xm:=T4.o.ty (k:=gs) rfl;have aMb:=ne0 s rst;have s0:=xO 0 0 (Nat.zero_lt_succ _) D;have s1:=xO 0 1 (Nat.zero_lt_succ _) D;have s2:=xO 0 2 (Nat.zero_lt_succ _) D;have s3:=xO 0 3 (Nat.zero_lt_succ _) D;simp only[Nat.zero_mul,Nat.zero_add,pK,List.getD_cons_zero,J0]at s0 s1 s2 s3;have a:=HF.o.on gD.o;have p2:=Zc a.p 2;have aDX:0<O (s::rst):=Nat.zero_lt_succ _;let⟨n1,VW⟩:=E (O (s::rst));rw[VW]at aMb aDX|-;have Bq:=Z a;have In:=Z Xm;clear xO hog x2 x3 a T4 oI Xm VW Ed;go_upto_region 27 with(fail);refine ee 9 (eb p2<|eb s0<|eb s1<|eb s2<|d7 s3) (λQ=> ?_);refine dw [0,2,3,4,1,5,6] ?_;refine Zo 7 λqL hK=> ?_;go_simp;go_at_call 71;have jW:U w5 [] w5.drew []:=(U.refl w5 []).drew;have c:=Bq.o.on jW;apply(zM.o _ gD.o.drew).cF;rintro e w7 ⟨u,x,rfl,hn7,W,hx7,P,fM,dj⟩;dsimp only;have SD:lZ w5.drew gs=H 185:=In.o;replace Q:=P.zh5 Q (c.zR (eH c.p) D D) (c.zR SD D D) (c.zR SD D D) (c.zR SD D D) (c.zR SD D D);let⟨h71,h72,h73⟩:=c.vK P (xG mZ);have Ou:=c.put P (xG mZ) (M3 mZ) hn7 (c.ov P hx7) W;have lL:=(HL.o.on gD.o).on jW;have wW:=lL.dg P (λk hk he=>by
     exact c.zR he D D hk)
    obtain⟨ua,uc,rfl,-⟩:=hn7.len;have uD:O (ns++[(nB 0 b.2 l s,x)])=O (gB 0 b l s).1:=by rw[<-dj,sN]
    rw[uD]at Ou|-;have f2:=Zc h72 2;have ff:=aM h72;have FK:gs≠Bp:=λe=>by
     have G:=eH c.p;rw[<-e,SD]at G;exact dS G D
    have iE:=pX w7 Bp 2 (hY ua (O (gB 0 b l s).1) uc);have CS:=wW.set h72 D iE;let⟨nb,Cd⟩:=E (O (gB 0 b l s).1);rw[Cd]at Ou CS iE|-;have s0:=iE.cell Q.2.1 (eI FK);have s1:=iE.cell Q.2.2.1 (eI FK);have s2:=iE.cell Q.2.2.2.1 (eI FK);have s3:=iE.cell Q.2.2.2.2 (eI FK);have HF8:=Z Ou;have OY:=Z CS;have HNB:=Z Cd;have aOw:=Z dj;let⟨w8,wP⟩:=E (ey w7 (Ad Bp 2) (hY ua nb uc));rw[wP]at HF8 OY s0 s1 s2 s3;have HW8:=Z wP;clear h71 h72 h73 Ou lL wW CS iE P fM hn7 W hx7 c SD jW Cd dj uD wP Bq HF HL zM Bh;refine j8 ?_;clear hK qL;refine I 8 ?_;refine Zo 9 λqL hK=> ?_;go_simp;refine MH ?_;clear hK qL;rw[HW8.o];clear Q f2 ff p2;have hHM:=OX;clear OX;have OX:=Z (LZ _ l s w8 OY.o.rd R3.o Ol HFC.o.cut);clear hHM;unfold jX at OX;go_wp2_with (go_at_call 72;apply OX.o.cF;rintro e w9 ⟨u9,rfl,hO9,sO⟩;obtain⟨la9,lc9,rfl,-⟩:=hO9.len;have HO9:=Z hO9;have GI:=Z sO;clear hO9 sO);go_roundg (100-(m+1))
    .exact⟨m+1,f',la9,lc9,ua,uc,gB 0 b l s,make l s,_,aGW hmw HFC.o.wt,rfl,eO,rfl,HO9.o.eE HF8.o.m.up.size,aOw.o,by rw[HNB.o];exact HF8.o.on GI.o,JJ.o,qx.o⟩
    exact aGT aRp
variable{L':List Nat}
section
abbrev aW:=Nat->Nat
structure bA(w:aA)(ρ:aW)(S:Nat->Prop)(w':aA)(bN:aW):Prop where
 os:w'.os=w.os
 tape:w'.tape=w.tape
 output:w'.output=w.output
 size:hJ w.heap<=hJ w'.heap
 block:∀k,k<hJ w.heap->¬S (ρ k)->w'.heap[k]? =w.heap[k]?
 bT:∀k,k<hJ w.heap->bN k=ρ k
def up(n t:Nat)(ρ:aW):aW:=λk=>if n<=k then t else ρ k
theorem eN{t k:Nat}{ρ:aW}(h:k<n):up n t ρ k=ρ k:=bD Y
theorem cJ{t k:Nat}{ρ:aW}(h:n<=k):up n t ρ k=t:=bR h
section
variable{w w' w1 w2:aA}{ρ bN dN fB:aW}{S T:Nat->Prop}
theorem bA.refl(w:aA)(ρ:aW)(S:Nat->Prop):bA w ρ S w ρ:=⟨rfl,rfl,rfl,fV _,λ_ _ _=>rfl,λ_ _=>rfl⟩
theorem bA.dd(h:bA w ρ S w1 dN)(k:bA w1 dN S w2 fB):bA w ρ S w2 fB where
 os:=k.os.dd h.os
 tape:=k.tape.dd h.tape
 output:=k.output.dd h.output
 size:=jN h.size k.size
 block:=λi a b=>(k.block i (wM a h.size) (h.bT i a▸b)).dd (h.block i a b)
 bT:=λi a=>(k.bT i (wM a h.size)).dd (h.bT i a)
theorem bA.aN(h:bA w ρ S w' bN)(hs:∀t,S t->T t):bA w ρ T w' bN:=⟨h.os,h.tape,h.output,h.size,λk a c=>h.block k a (λb=>c (hs _ b)),h.bT⟩
theorem bA.drew(h:bA w ρ S w' bN):bA w ρ S w'.drew bN:=⟨h.os,h.tape,h.output,h.size,h.block,h.bT⟩
theorem bA.drewN(h:bA w ρ S w' bN)(n:Nat):bA w ρ S (w'.drewN n) bN:=⟨h.os,h.tape,h.output,h.size,h.block,h.bT⟩
theorem bA.BL(h:bA w ρ S w' bN)(t:Nat)(b:hJ w.heap<=n):bA w ρ S w' (up n t bN):=
 ⟨h.os,h.tape,h.output,h.size,h.block,λk a=>(eN (wM a b)).dd (h.bT k a)⟩
theorem bA.alloc(h:bA w ρ S w' bN)(o:Obj):bA w ρ S (w'.alloc o) bN:=
 ⟨h.os,h.tape,h.output,jN h.size X,λk a b=>(Below.heap_alloc w' o k (wM a h.size)).dd (h.block k a b),h.bT⟩
theorem bA.setCell(h:bA w ρ S w' bN){a:cj}(ha:S (ρ a.block)\/hJ w.heap<=a.block)(v:aF):bA w ρ S (ey w' a v) bN:=
 ⟨h.os,h.tape,h.output,jN h.size X,λk b c=>(Iw w' a k v (λe=>by grind)).dd (h.block k b c),h.bT⟩
theorem U.eW{L:List Nat}(h:U w L w' L')(t:Nat)(b:∀k,k∈L->S (ρ k)\/hJ w.heap<=k):bA w ρ S w' (up w t ρ):=
 ⟨h.os,h.tape,h.output,h.size,λk a d=>h.block k a (λc=>(b k c).elim d (λe=>Y)),λk a=>eN a⟩
theorem U.p9{L:List Nat}(h:U w L w' L')(a:∀k,k∈L->S (ρ k)\/hJ w.heap<=k):bA w ρ S w' ρ:=
 ⟨h.os,h.tape,h.output,h.size,λk b d=>h.block k b (λc=>(a k c).elim d (λe=>Y)),λ_ _=>rfl⟩
theorem U.fK(h:U w [] w' L'):bA w ρ S w' ρ:=⟨h.os,h.tape,h.output,h.size,λk a _=>h.block k a X,λk a=>rfl⟩
theorem bA.aC(h:bA w ρ S w' bN){k:Nat}{o:Obj}(a:w.heap[k]? =H o)(b:¬S (ρ k)):w'.heap[k]? =H o:=(h.block k (cV a) b).dd a
theorem bA.cell(h:bA w ρ S w' bN){a:cj}{v:aF}(b:e7 w a=H v)(c:¬S (ρ a.block)):e7 w' a=H v:=
 (World.cell?_of_block (h.block a.block (WC b) c)).dd b
theorem bA.jH(h:bA w ρ S w1 dN)(k:U w1 [] w2 L'):bA w ρ S w2 dN:=h.dd k.fK
end
def mK{α:Type}(f:α->Nat->aF)(d:α)(sz:Nat)(w:aA)(ρ:aW)(t:Nat)(v:aF)(l:List α):Prop:=
 eX f d sz w v l/\(0<O l->∀k,Value.mN v=H k->ρ k=t)
def oF{α:Type}(f:α->Nat->aF)(d:α)(e:ap)(sz:Nat)(w:aA)(ρ:aW)(t:Nat)(v:aF)(l:List α):Prop:=
 eJ w v e sz (O l) (λi j=>f (ep l i d) j)/\∀g,gz v=H g->ρ g=t
section
variable{α:Type}{f:α->Nat->aF}{d:α}{e:ap}{sz:Nat}{w w':aA}{ρ bN:aW}{t:Nat}{v:aF}{l:List α}{S:Nat->Prop}
theorem Rd.bS{c:Nat->Nat->aF}(h:Rd w v sz n c)(a:0<n){k:Nat}(b:Value.mN v=H k):k<hJ w.heap:=by
 obtain⟨g,o,cap,rfl,d,_⟩:=h.aU a;grind [Value.mN]
theorem Rd.move{c:Nat->Nat->aF}(h:Rd w v sz n c)(b:bA w ρ S w' bN)(q:0<n->∀k,Value.mN v=H k->¬S (ρ k)):Rd w' v sz n c:=by
 rcases h with h|⟨g,o,cap,rfl,a,l,m,e⟩
 .exact .inl h
 .exact .inr ⟨g,o,cap,rfl,a,l,wM m b.size,λi j d p=>b.cell (e i j d p) (q a g rfl)⟩
theorem mK.dg(h:mK f d sz w ρ t v l)(c:bA w ρ S w' bN)(e:¬S t):mK f d sz w' bN t v l:=
 ⟨Rd.move h.1 c (λb k a=>by rw[h.2 b k a];exact e),λb k a=>(c.bT k (Rd.bS h.1 b a)).dd (h.2 b k a)⟩
theorem mK.on(h:mK f d sz w ρ t v l)(a:U w [] w' L'):mK f d sz w' ρ t v l:=⟨h.1.on a,h.2⟩
theorem mK.nil(w:aA)(ρ:aW)(t:Nat):mK f d sz w ρ t (hY K 0 0) []:=⟨eX.nil w,λh=>dS h (Nat.lt_irrefl 0)⟩
theorem mK.len(h:mK f d sz w ρ t v l):∃a cap,v=hY a (O l) cap/\O l<=bw:=eX.len h.1
theorem eX.jU(h:eX f d sz w v l)(c:0<O l->∀k,Value.mN v=H k->n<=k)(t:Nat)(ρ:aW):mK f d sz w (Go.Proofs.YtbcooplfakebmaaGreatDoor.up n t ρ) t v l:=⟨h,λa k b=>cJ (c a k b)⟩
theorem eJ.cY{c:Nat->Nat->aF}(h:eJ w v e sz n c){k:Nat}(a:Value.mN v=H k):gz v=H k:=by
 rcases h with⟨rfl,_⟩|⟨g,cap,cur,rfl,_⟩
 .cases a
 .exact a
theorem oF.rd(h:oF f d e sz w ρ t v l):mK f d sz w ρ t v l:=⟨eJ.rd h.1,λ_ k a=>h.2 k (eJ.cY h.1 a)⟩
theorem oF.dg(h:oF f d e sz w ρ t v l)(b:bA w ρ S w' bN)(c:¬S t):oF f d e sz w' bN t v l:=
 ⟨eJ.aC h.1 (λg a=>b.block g (eJ.lt h.1 g a) (h.2 g a▸c)),λg a=>(b.bT g (eJ.lt h.1 g a)).dd (h.2 g a)⟩
theorem oF.on(h:oF f d e sz w ρ t v l)(a:U w [] w' L'):oF f d e sz w' ρ t v l:=⟨h.1.eF a (λ_ _=>X),h.2⟩
theorem oF.nil(w:aA)(ρ:aW)(t:Nat):oF f d e sz w ρ t (hY K 0 0) []:=⟨eJ.nil _ _ _ _,λg a=>by cases a⟩
theorem oF.len(h:oF f d e sz w ρ t v l):∃a cap,v=hY a (O l) cap/\O l<=bw:=eJ.len h.1
theorem bG.jU(h:bG f d e sz w0 w v l)(t:Nat)(ρ:aW):oF f d e sz w (Go.Proofs.YtbcooplfakebmaaGreatDoor.up w0.heap.size t ρ) t v l:=⟨h.1,λg a=>cJ (h.2 g a)⟩
end
end
variable{bBN:DataW aF}{kl:Lit}{m':Lit->Option aF}{c':Nat}{ρ bN:aW}
section
def aJ5(v:aF):Option (DataW aF×List MemPlace):=H (.held v,[])
structure fW(w:aA)(k:ap)(M:Nat)(m:Lit->Option aF)(c:Nat):Prop where
 ex:∃bBN,w.ownsMap prog k aJ5 M c bBN/\Maps.size bBN=c/\∀l,(m l=K->Maps.has bBN l=po)/\∀v,m l=H v->Maps.has bBN l=oj/\∀z,bBN.atKey l z= .held v
open Classical in
noncomputable def Rq(m:Lit->Option aF)(k:Lit)(v:aF):Lit->Option aF:=λl=>if l=k then H v else m l
open Classical in
noncomputable def vj(m:Lit->Option aF)(k:Lit):Lit->Option aF:=λl=>if l=k then K else m l
section
variable{w w':aA}{k e t:ap}{M:Nat}{m:Lit->Option aF}{c:Nat}
theorem PM{R:aF->Option (DataW aF×List MemPlace)}(h:w.ownsMap prog k R M n bBN):w.ownsMap prog k R M (Maps.size bBN) bBN:=by
 obtain⟨es,a,b,F,hs,rfl⟩:=h;exact⟨es,a,b,F,by simp[Maps.size,length_sorted],rfl⟩
theorem fW.lt(h:fW w k M m c):M<hJ w.heap:=by
 obtain⟨bBN,a,_⟩:=h.ex;exact a.lt
theorem fW.qg(h:fW w k M m c)(b:w'.heap[M]? =w.heap[M]?):fW w' k M m c:=by
 obtain⟨bBN,⟨es,a,e,g⟩,d⟩:=h.ex;exact⟨bBN,⟨es,a,b.dd e,g⟩,d⟩
theorem fW.eF(h:fW w k M m c)(a:U w S w' S')(b:M∉S):fW w' k M m c:=h.qg (a.block M h.lt b)
theorem fW.dg{S:Nat->Prop}(h:fW w k M m c)(a:bA w ρ S w' bN)(b:¬S (ρ M)):fW w' k M m c:=h.qg (a.block M h.lt b)
theorem fW.wO(w:aA)(k:ap):fW (w.alloc (.map #[] 0)) k w.heap.size (λ_=>K) 0:=
 ⟨.map [],World.ownsMap_made w _ _ _,rfl,λl=>⟨λ_=>rfl,λv h=>by cases h⟩⟩
theorem fW.aGk(h:fW w k M m c){T:ap}{x:Nat×Nat}:w.heap[M]?≠H (h8 cs T x):=by
 obtain⟨bBN,⟨es,a,b,e⟩,d⟩:=h.ex;rw[b];intro h;cases h
theorem fW.ne(h:fW w k M m c){T:ap}{x:Nat×Nat}(a:w.heap[b]? =H (h8 cs T x)):M≠b:=λe=>h.aGk (e▸a)
theorem fW.t6(h:fW w k M m c)(f:Keyed prog k)(l:prog.underlying t=H (.map k e))(n:(zeroValue e).run prog w= .ok z w){gH:aF}(i:keyOf prog k gH=H kl):
  (Instr.lookup t (.map (H M)) gH po).run prog w= .ok ((m kl).getD z) w:=by
 obtain⟨bBN,j,_,d⟩:=h.ex;let⟨v,ps,b,a⟩:=j.lookup f l n (zd:= .held z) (zp:=[]) rfl i;unfold aJ5 at a;simp only[Option.some.injEq,Prod.mk.injEq]at a;cases g:m kl with
 |none=>
  rw[Maps.atKey_of_not_has ((d kl).1 g)]at a;have:v=z:=by injection a.1
  rw[b,this];rfl
 |some y=>
  rw[((d kl).2 y g).2]at a;have:v=y:=by injection a.1
  rw[b,this];rfl
theorem UE{w w':aA}{M:Nat}(b:w.grownBy w' (H M)):U w [M] w' [M]:=(U.refl w [M]).grown b (λk a=> .inl (by rw[Option.some.injEq]at a;simp[a]))
theorem fW.put(h:fW w k M m c)(f:Keyed prog k)(A:prog.underlying t=H (.map k e))(B:c<bw){gH:aF}(x:keyOf prog k gH=H kl)(hl:WideAt.IsKeyLit kl)(val:aF):
  ∃w',(Instr.mapUpdate t (.map (H M)) gH val).run prog w= .ok () w'/\fW w' k M (Rq m kl val) (if(m kl).isSome then c else c+1)/\U w [M] w' [M]:=by
 obtain⟨bBN,p,u,a⟩:=h.ex;let⟨w',q,g,r⟩:=p.store f A B (val:=val) (d:= .held val) (ps:=[]) x rfl;have i:=p.tidy f;have hs:=Maps.size_put (k:=kl) i (DataW.held val);have j:Maps.has bBN kl=(m kl).isSome:=by
  cases n:m kl with
  |none=>exact(a kl).1 n
  |some y=>exact((a kl).2 y n).1
 rw[j,u]at hs;refine⟨w',q,⟨bBN.put kl (.held val),hs▸PM g,hs,λl=> ?_⟩,UE r.grown⟩;unfold Rq;by_cases b:l=kl
 .subst b;simp only[uN];refine⟨(λh=>by cases h),λv hv=> ?_⟩;injection hv with hv;subst hv;exact⟨Maps.has_put_same i.isMap hl _,λz=>Maps.atKey_put_same i.isMap hl _ z⟩
 .simp only[b,zF];rw[Maps.has_put_other b];refine⟨(a l).1,λv hv=>⟨((a l).2 v hv).1,λz=> ?_⟩⟩;rw[Maps.atKey_put_other b];exact((a l).2 v hv).2 z
theorem fW.del(h:fW w k M m c)(f:Keyed prog k)(x:prog.underlying t=H (.map k e)){gH:aF}(r:keyOf prog k gH=H kl)(ty:ap):
  ∃w',(Builtin.delete_ #[t,k] ty #[.map (H M),gH]).run prog w= .ok (i8 #[]) w'/\fW w' k M (vj m kl) (if(m kl).isSome then c-1 else c)/\U w [M] w' [M]:=by
 obtain⟨bBN,j,q,a⟩:=h.ex;let⟨w',n,d,p⟩:=j.drop f x r ty;have hs:=Maps.size_del (k:=kl) (j.tidy f);have g:Maps.has bBN kl=(m kl).isSome:=by
  cases i:m kl with
  |none=>exact(a kl).1 i
  |some y=>exact((a kl).2 y i).1
 rw[g,q]at hs;have hs:Maps.size (bBN.del kl)=if(m kl).isSome then c-1 else c:=by split at hs<;>split<;>simp_all<;>omega
 refine⟨w',n,⟨bBN.del kl,hs▸PM d,hs,λl=> ?_⟩,UE p.grown⟩;unfold vj;by_cases b:l=kl
 .subst b;simp only[uN];exact⟨λ_=>Maps.has_del_same,(λv hv=>by cases hv)⟩
 .simp only[b,zF];rw[Maps.has_del_other b];refine⟨(a l).1,λv hv=>⟨((a l).2 v hv).1,λz=> ?_⟩⟩;rw[Maps.atKey_del_other b];exact((a l).2 v hv).2 z
theorem fW.congr(h:fW w k M m c)(b:∀l,m' l=m l)(a:c'=c):fW w k M m' c':=by
 subst a;obtain rfl:m'=m:=funext b;exact h
end
section
variable(w:aA){ops:Array Oper}{rest:List Oper}{o:Oper}{a:Act}{bBP:Exit->Act->aA->Prop}
end
end

section
inductive Pl(V:Type) where
 |empty|wS
 |jQ (v:V) (k:List Nat) (n:Int)
section
variable{V:Type}
def Pl.vE :Pl V->Option (List Nat)
 | .jQ _ k _=>H k
 |_=>K
def Pl.lU:Pl V->Bool
 | .jQ .. =>oj
 |_=>po
def Pl.sW:Pl V->Bool
 | .wS=>oj
 |_=>po
def Pl.aLs :Pl V->Option Int
 | .jQ _ _ n=>H n
 |_=>K
def t6(T:Nat->Pl V)(L:Nat)(k:List Nat):Nat->Nat->Option Nat->Option Nat×Option Nat
 |0,_,fr=>(K,fr)
 |r+1,i,fr=>match T i with
  | .empty=>(K,fr.or (H i))
  | .wS=>t6 T L k r ((i+1)%L) (fr.or (H i))
  | .jQ _ k' _=>if k'=k then(H i,H i)else t6 T L k r ((i+1)%L) fr
def QZ(T:Nat->Pl V)(L a p:Nat):Prop:=∃d,d<L/\p=(a+d)%L/\∀e,e<d->T ((a+e)%L)≠ .empty
def lQ(T:Nat->Pl V):Nat->Nat
 |0=>0
 |n+1=>lQ T n+if(T n).lU then 1 else 0
def uH(T:Nat->Pl V):Nat->Nat
 |0=>0
 |n+1=>uH T n+if(T n).sW then 1 else 0
structure Nh(hs:List Nat->Nat->Nat)(T:Nat->Pl V)(L:Nat):Prop where
 pos:0<L
 start:∀k,hs k L<L
 apart:∀i j k,i<L->j<L->(T i).vE =H k->(T j).vE =H k->i=j
 aLl:∀p k,p<L->(T p).vE =H k->QZ T L (hs k L) p
 room:lQ T L+uH T L<L
def xZ(T:Nat->Pl V)(L:Nat)(m:List Nat->Option Int):Prop:=
 ∀k,(∀n,m k=H n->∃p,p<L/\(T p).vE =H k/\(T p).aLs =H n)/\(m k=K->∀p,p<L->(T p).vE≠H k)
def mV(T:Nat->Pl V)(p:Nat)(x:Pl V):Nat->Pl V:=λj=>if j=p then x else T j
theorem j9(T:Nat->Pl V)(p:Nat)(x:Pl V):mV T p x p=x:=bR rfl
theorem fO(T:Nat->Pl V){p:Nat}(x:Pl V)(h:j≠p):mV T p x j=T j:=bD h
theorem UI{T:Nat->Pl V}{p:Nat}{x:Pl V}:∀{n:Nat},n<=p->lQ (mV T p x) n=lQ T n
 |0,_=>rfl
 |n+1,h=>by unfold lQ;rw[UI Y,fO _ _ Y]
theorem UJ{T:Nat->Pl V}{p:Nat}{x:Pl V}:∀{n:Nat},n<=p->uH (mV T p x) n=uH T n
 |0,_=>rfl
 |n+1,h=>by unfold uH;rw[UJ Y,fO _ _ Y]
theorem CE{T:Nat->Pl V}{p:Nat}{x:Pl V}:∀{n:Nat},p<n->lQ (mV T p x) n+(if(T p).lU then 1 else 0)=lQ T n+if x.lU then 1 else 0
 |n+1,h=>by
  unfold lQ;by_cases e:p=n
  .subst e;rw[UI (fV _),j9];omega
  .have:=CE (T:=T) (x:=x) (show p<n by omega);rw[fO _ _ Y];omega
theorem CF{T:Nat->Pl V}{p:Nat}{x:Pl V}:∀{n:Nat},p<n->uH (mV T p x) n+(if(T p).sW then 1 else 0)=uH T n+if x.sW then 1 else 0
 |n+1,h=>by
  unfold uH;by_cases e:p=n
  .subst e;rw[UJ (fV _),j9];omega
  .have:=CF (T:=T) (x:=x) (show p<n by omega);rw[fO _ _ Y];omega
theorem EO{T:Nat->Pl V}:∀{L:Nat},lQ T L+uH T L<L->∃p,p<L/\T p= .empty
 |n+1,h=>by
  unfold lQ uH at h;cases b:T n with
  |empty=>exact⟨n,Y,b⟩
  |wS=>
   rw[b]at h;simp[Pl.lU,Pl.sW]at h;let⟨p,c,a⟩:=EO (L:=n) (T:=T) Y;exact⟨p,Y,a⟩
  |jQ v k m=>
   rw[b]at h;simp[Pl.lU,Pl.sW]at h;let⟨p,c,a⟩:=EO (L:=n) (T:=T) Y;exact⟨p,Y,a⟩
theorem Va{T:Nat->Pl V}:∀{L p:Nat},p<L->(T p).lU=oj->0<lQ T L
 |n+1,p,h,hu=>by
  unfold lQ;by_cases e:p=n
  .grind
  .have:=Va (T:=T) (show p<n by omega) hu;omega
theorem Ap{T:Nat->Pl V}:∀{L p:Nat},p<L->(T p).sW=oj->0<uH T L
 |n+1,p,h,hu=>by
  unfold uH;by_cases e:p=n
  .grind
  .have:=Ap (T:=T) (show p<n by omega) hu;omega
theorem TC{p:Pl V}{k:List Nat}(h:p.vE =H k):p.lU=oj:=by cases p<;>simp_all [Pl.vE,Pl.lU]
theorem PD{a d L:Nat}(b:0<L):((a+d)%L+1)%L=(a+(d+1))%L:=by rw[Nat.mod_add_mod];rfl
theorem a02{a p L:Nat}(ha:a<L)(b:p<L):∃d,d<L/\p=(a+d)%L:=by
 rcases WB p a with h|h
 .exact⟨L-a+p,Y,by rw[show a+(L-a+p)=L+p by omega,Nat.add_mod_left,Nat.mod_eq_of_lt b]⟩
 .exact⟨p-a,Y,by rw[show a+(p-a)=p by omega,Nat.mod_eq_of_lt b]⟩
theorem aE3{a d L:Nat}(hd:d<L)(l:e<L)(h:(a+d)%L=(a+e)%L):d=e:=by
 have j:0<L:=Y;have g:=Nat.div_add_mod (a+d) L;have m:=Nat.div_add_mod (a+e) L;rw[h]at g;rcases Nat.lt_trichotomy ((a+d)/L) ((a+e)/L)with i|b|c
 .have:L*((a+d)/L+1)<=L*((a+e)/L):=Nat.mul_le_mul_left _ i;grind
 .rw[b]at g;omega
 .have:L*((a+e)/L+1)<=L*((a+d)/L):=Nat.mul_le_mul_left _ c;grind
theorem Rv{T:Nat->Pl V}{L a d:Nat}{k:List Nat}(i:0<L)(b:(T ((a+d)%L)).vE =H k)(m:∀e,e<d->T ((a+e)%L)≠ .empty)(g:∀e,e<d->(T ((a+e)%L)).vE≠H k):
  ∀(r e:Nat) (fr:Option Nat),e<=d->d<e+r->t6 T L k r ((a+e)%L) fr=(H ((a+d)%L),H ((a+d)%L))
 |0,e,fr,h1,h2=>Y
 |r+1,e,fr,h1,h2=>by
  unfold t6;by_cases q:e=d
  .subst q;cases c:T ((a+e)%L)with
   |empty=>rw[c]at b;cases b
   |wS=>rw[c]at b;cases b
   |jQ v k' n=>
    rw[c]at b;simp only[Pl.vE,Option.some.injEq]at b;simp[b]
  .have l:e<d:=Y;have j:=g e l;have ih:=λfr=>Rv i b m g r (e+1) fr Y Y;cases c:T ((a+e)%L)with
   |empty=>exact dS c (m e l)
   |wS=>simp only[];rw[PD i];exact ih _
   |jQ v k' n=>
    rw[c]at j;have:k'≠k:=λp=>j (by simp[Pl.vE,p]);simp only[this,zF];rw[PD i];exact ih _
theorem Gn{T:Nat->Pl V}{L a d:Nat}{k:List Nat}(j:0<L)(hd:T ((a+d)%L)= .empty)(w:∀e,e<d->T ((a+e)%L)≠ .empty)(g:∀e,e<d->(T ((a+e)%L)).vE≠H k):
  ∀(r e:Nat) (fr:Option Nat),e<=d->d<e+r->(∀f,fr=H f->∃c,c<e/\f=(a+c)%L/\(T f).lU=po)->
   ∃c,c<=d/\t6 T L k r ((a+e)%L) fr=(K,H ((a+c)%L))/\(T ((a+c)%L)).lU=po
 |0,e,fr,h1,h2,_=>Y
 |r+1,e,fr,h1,h2,i=>by
  unfold t6;by_cases y:e=d
  .subst y;rw[hd];cases fr with
   |none=>exact⟨e,fV _,rfl,by rw[hd];rfl⟩
   |some f=>
    grind
  .have u:e<d:=Y;have p:=g e u;have ih:=λfr i=>Gn j hd w g r (e+1) fr Y Y i;cases l:T ((a+e)%L)with
   |empty=>exact dS l (w e u)
   |wS=>
    simp only[];rw[PD j];refine ih _ λf h=> ?_;cases fr with
    |none=>
     obtain rfl:(a+e)%L=f:=eI h;exact⟨e,Y,rfl,by rw[l];rfl⟩
    |some q=>
     obtain rfl:q=f:=eI h;let⟨c,A,b,m⟩:=i q rfl;exact⟨c,Y,b,m⟩
   |jQ v k' n=>
    rw[l]at p;have:k'≠k:=λx=>p (by simp[Pl.vE,x]);simp only[this,zF];rw[PD j];refine ih _ λf h=> ?_;let⟨c,A,b,m⟩:=i f h;exact⟨c,Y,b,m⟩
variable{hs:List Nat->Nat->Nat}{T:Nat->Pl V}{L:Nat}
theorem Nh.hit(h:Nh hs T L){p:Nat}{k:List Nat}(c:p<L)(b:(T p).vE =H k):t6 T L k L (hs k L) K=(H p,H p):=by
 obtain⟨d,hd,rfl,i⟩:=h.aLl p k c b;have:=Rv (a:=hs k L) (d:=d) h.pos b i (λe j g=>by
  have:=h.apart _ _ _ (Nat.mod_lt _ h.pos) c g b;have:=aE3 Y hd this;omega) L 0 K (RN _) Y
 rwa[pK,Nat.mod_eq_of_lt (h.start k)]at this
theorem Nh.aC0(h:Nh hs T L){k:List Nat}(r:∀p,p<L->(T p).vE≠H k):∃f,f<L/\t6 T L k L (hs k L) K=(K,H f)/\(T f).lU=po/\QZ T L (hs k L) f:=by
 let⟨p,n,g⟩:=EO h.room;let⟨l,v,b⟩:=a02 (h.start k) n;have j:∃d,d<L/\T ((hs k L+d)%L)= .empty/\∀e,e<d->T ((hs k L+e)%L)≠ .empty:=by
  have x:T ((hs k L+l)%L)= .empty:=b▸g;clear b g n;induction l using Nat.strongRecOn with
  |_ d ih=>
   grind
 obtain⟨d,hd,i,q⟩:=j;let⟨c,y,m,u⟩:=Gn (a:=hs k L) h.pos i q (λe g=>r _ (Nat.mod_lt _ h.pos)) L 0 K (RN _) Y (λf w=>by cases w);rw[Nat.add_zero,Nat.mod_eq_of_lt (h.start k)]at m;exact⟨_,Nat.mod_lt _ h.pos,m,u,c,Y,rfl,λe g=>q e Y⟩
theorem QZ.fill{T':Nat->Pl V}{a p:Nat}(h:QZ T L a p)(j:∀i,T i≠ .empty->T' i≠ .empty):QZ T' L a p:=by
 obtain⟨d,hd,c,g⟩:=h;exact⟨d,hd,c,λe b=>j _ (g e b)⟩
theorem Nh.lay(h:Nh hs T L){k:List Nat}(y:∀p,p<L->(T p).vE≠H k){f:Nat}(d:f<L)(z:(T f).lU=po)(r:QZ T L (hs k L) f)(A:(T f).sW=oj\/lQ T L+uH T L+1<L)(v:V)(n:Int):
  Nh hs (mV T f (.jQ v k n)) L:=by
 have e:∀i,T i≠ .empty->mV T f (.jQ v k n) i≠ .empty:=λi c=>by
  grind [mV]
 refine⟨h.pos,h.start,λi j k' c q a b=> ?_,λp k' u a=> ?_,?_⟩
 .by_cases m:i=f
  .grind [j9,fO,Pl.vE]
  .rw[fO _ _ m]at a;by_cases l:j=f
   .grind [j9,Pl.vE]
   .rw[fO _ _ l]at b;exact h.apart i j k' c q a b
 .by_cases g:p=f
  .subst g;rw[j9]at a;simp only[Pl.vE,Option.some.injEq]at a;subst a;exact r.fill e
  .rw[fO _ _ g]at a;exact(h.aLl p k' u a).fill e
 .have a:=CE (T:=T) (x:=Pl.jQ v k n) d;have b:=CF (T:=T) (x:=Pl.jQ v k n) d;have w:=h.room;grind [Pl.sW]
theorem Nh.drop(h:Nh hs T L){p:Nat}(l:p<L){v:V}{k:List Nat}{n:Int}(w:T p= .jQ v k n):Nh hs (mV T p .wS) L:=by
 have d:∀i,T i≠ .empty->mV T p .wS i≠ .empty:=λi a=>by
  grind [mV]
 have c:∀i k',(mV T p .wS i).vE =H k'->(T i).vE =H k':=λi k' a=>by
  by_cases e:i=p
  .subst e;rw[j9]at a;cases a
  grind [fO]
 refine⟨h.pos,h.start,λi j k' a m b g=>h.apart i j k' a m (c _ _ b) (c _ _ g),λq k' r b=>(h.aLl q k' r (c _ _ b)).fill d,?_⟩;have b:=CE (T:=T) (x:=Pl.wS) l;have g:=CF (T:=T) (x:=Pl.wS) l;have u:=h.room;grind [Pl.lU]
theorem G0{L:Nat}:∀n,lQ (λ_=>(Pl.empty:Pl V)) n=0/\uH (λ_=>(Pl.empty:Pl V)) n=0
 |0=>⟨rfl,rfl⟩
 |n+1=>by
  let⟨a,b⟩:=G0 (L:=L) n;unfold lQ uH;rw[a,b];exact⟨rfl,rfl⟩
theorem Nh.fresh(hs:List Nat->Nat->Nat){L:Nat}(b:0<L)(a:∀k,hs k L<L):Nh hs (λ_=>(Pl.empty:Pl V)) L:=
 ⟨b,a,(λi j k _ _ h=>by cases h),(λp k _ h=>by cases h),by let⟨d,c⟩:=G0 (V:=V) (L:=L) L;omega⟩
theorem xZ.lay{m:List Nat->Option Int}(h:xZ T L m){f:Nat}(c:f<L)(q:(T f).lU=po)(v:V)(k:List Nat)(n:Int)(i:∀p,p<L->(T p).vE≠H k):
  xZ (mV T f (.jQ v k n)) L (λk'=>if k'=k then H n else m k'):=λk'=>by
 by_cases e:k'=k
 .subst e;simp only[uN];exact⟨λn' a=>by injection a with a;subst a;exact⟨f,c,by rw[j9];rfl,by rw[j9];rfl⟩,λh=>by cases h⟩
 .simp only[e,zF];refine⟨λn' a=> ?_,λa p b=> ?_⟩
  .let⟨p,b,j,l⟩:=(h k').1 n' a;have:p≠f:=λg=>by
    grind [TC]
   exact⟨p,b,by grind [fO],by grind [fO]⟩
  .by_cases d:p=f
   .grind [j9,Pl.vE]
   .rw[fO _ _ d];exact(h k').2 a p b
theorem xZ.drop{m:List Nat->Option Int}(h:xZ T L m)(i:Nh hs T L){p:Nat}(l:p<L){v:V}{k:List Nat}{n:Int}(j:T p= .jQ v k n):
  xZ (mV T p .wS) L (λk'=>if k'=k then K else m k'):=λk'=>by
 by_cases e:k'=k
 .subst e;simp only[uN];refine⟨(λd c=>by cases c),λ_ q b=> ?_⟩;by_cases a:q=p
  .subst a;rw[j9];intro h;cases h
  .rw[fO _ _ a];intro g;exact a (i.apart q p k' b l g (by rw[j];rfl))
 .simp only[e,zF];refine⟨λd c=> ?_,λc q b=> ?_⟩
  .let⟨q,b,g,u⟩:=(h k').1 d c;have:q≠p:=λr=>by
    grind [Pl.vE]
   exact⟨q,b,by grind [fO],by grind [fO]⟩
  .by_cases a:q=p
   .subst a;rw[j9];intro h;cases h
   .rw[fO _ _ a];exact(h k').2 c q b
theorem xZ.fresh(L:Nat):xZ (λ_=>(Pl.empty:Pl V)) L (λ_=>K):=λk=>⟨(λn h=>by cases h),(λ_ p _ h=>by cases h)⟩
end
end
abbrev Row:=List MU
def tm(v:MU):Prop:= -9223372036854775808<=v.num/\v.num<=9223372036854775807
def Uk(v:MU):Prop:=iH v=oj/\tm v
def iC(r:Row):Bool:=decide (O r<=30)&&r.all iH
def dI(r:Row):Prop:=iC r=oj/\∀v∈r,tm v
def kL(n:Nat):List Nat:=[n/72057594037927936%256,n/281474976710656%256,n/1099511627776%256,n/4294967296%256,n/16777216%256,n/65536%256,n/256%256,n%256]
def Em(c:UInt8):List Nat:=if c=0 then[0,255]else[c.toNat]
def Mu(l:List UInt8):List Nat:=l.flatMap Em
def BM(v:MU):List Nat:=if v.aG=1 then 1::kL (v.num+9223372036854775808).toNat else 2::(Mu v.eR.data.toList++[0,0])
def bI(r:Row):List Nat:=r.flatMap BM
theorem Vo{a:Nat}(ha:a<18446744073709551616)(c:b<18446744073709551616)(h:kL a=kL b):a=b:=by
 grind [kL]
theorem pw:∀(s t:List UInt8) (a b:List Nat),Mu s++(0::0::a)=Mu t++(0::0::b)->s=t/\a=b
 |[],[],a,b,h=>by simpa[Mu]using h
 |[],c::t,a,b,h=>by
  exfalso;simp only[Mu,List.flatMap_nil,Bv,List.flatMap_cons,Em]at h;split at h
  .simp at h
  .rename_i e;simp only[zbZ,Bv,List.cons.injEq]at h;exact e (UInt8.toNat_inj.1 h.1.symm)
 |c::s,[],a,b,h=>by
  exfalso;simp only[Mu,List.flatMap_nil,Bv,List.flatMap_cons,Em]at h;split at h
  .simp at h
  .rename_i e;simp only[zbZ,Bv,List.cons.injEq]at h;exact e (UInt8.toNat_inj.1 h.1)
 |c::s,d::t,a,b,h=>by
  simp only[Mu,List.flatMap_cons,Em]at h;have ih:=pw s t a b;unfold Mu at ih;by_cases e:c=0
  .by_cases hd:d=0
   .rw[bR e,bR hd]at h;simp only[zbZ,Bv,List.cons.injEq,true_and]at h;obtain⟨rfl,g⟩:=ih h;exact⟨by rw[e,hd],g⟩
   .exfalso;rw[bR e,bD hd]at h;simp only[zbZ,Bv,List.cons.injEq]at h;exact hd (UInt8.toNat_inj.1 h.1.symm)
  .by_cases hd:d=0
   .exfalso;rw[bD e,bR hd]at h;simp only[zbZ,Bv,List.cons.injEq]at h;exact e (UInt8.toNat_inj.1 h.1)
   .rw[bD e,bD hd]at h;simp only[zbZ,Bv,List.cons.injEq]at h;obtain⟨rfl,g⟩:=ih h.2;exact⟨by rw[UInt8.toNat_inj.1 h.1],g⟩
theorem tI{v:MU}(h:iH v=oj):(v.aG=1/\v.eR=bO)\/(v.aG=2/\v.num=0/\v.eR.size<=64):=by
 grind [iH]
theorem um{u v:MU}(j:Uk u)(hv:Uk v){a b:List Nat}(h:BM u++a=BM v++b):u=v/\a=b:=by
 obtain⟨c,l⟩:=j;obtain⟨i,m⟩:=hv;unfold tm at l m;unfold BM at h;rcases tI c with⟨g,t1⟩|⟨g,n,t1⟩<;>rcases tI i with⟨k2,t2⟩|⟨k2,n2,t2⟩
 .rw[bR g,bR k2]at h;simp only[zbZ,List.cons.injEq,true_and]at h;let⟨e,d⟩:=List.append_inj h (by simp[kL]);have:=Vo Y Y e;refine⟨?_,d⟩;cases u;cases v<;>grind
 .grind
 .grind
 .rw[if_neg Y,if_neg Y]at h;simp only[zbZ,zcV,List.cons.injEq,true_and,Bv]at h;let⟨e,d⟩:=pw _ _ _ _ h;refine⟨?_,d⟩;cases u;cases v<;>grind [ByteArray.ext,Array.toList_inj]
theorem Rf(v:MU):BM v≠[]:=by unfold BM;split<;>simp
theorem TM:∀{r s:Row},(∀v∈r,Uk v)->(∀v∈s,Uk v)->bI r=bI s->r=s
 |[],[],_,_,_=>rfl
 |[],v::s,_,_,h=>by
  grind [bI,Rf,List.append_eq_nil_iff]
 |v::r,[],_,_,h=>by
  grind [bI,Rf,List.append_eq_nil_iff]
 |u::r,v::s,hr,hs,h=>by
  simp only[bI,List.flatMap_cons]at h;obtain⟨rfl,b⟩:=um (hr u X) (hs v X) h;rw[TM (λx a=>hr x (by simp[a])) (λx a=>hs x (by simp[a])) b]
theorem dI.bX{r:Row}(h:dI r):∀v∈r,Uk v:=λv hv=>⟨by
 have:=h.1;grind [iC],h.2 v hv⟩
theorem dI.len{r:Row}(h:dI r):O r<=30:=by
 have:=h.1;grind [iC]
theorem nG{r s:Row}(a:dI r)(hs:dI s)(h:bI r=bI s):r=s:=TM a.bX hs.bX h
theorem O4:∀l:List UInt8,O (Mu l)<=2*O l
 |[]=>fV _
 |c::l=>by
  have:=O4 l;unfold Mu at this|-;rw[List.flatMap_cons,F5,T9];have a:O (Em c)<=2:=by unfold Em;split<;>simp
  omega
theorem Kw{v:MU}(h:iH v=oj):O (BM v)<=131:=by
 unfold BM;split
 .simp[kL]
 .rename_i a;rcases tI h with⟨k,_⟩|⟨_,_,b⟩
  .exact dS k a
  .have:=O4 v.eR.data.toList;have e:O v.eR.data.toList=v.eR.size:=Array.length_toList;grind
theorem BT:∀{r:Row},(∀v∈r,iH v=oj)->O (bI r)<=131*O r
 |[],_=>fV _
 |v::r,h=>by
  have c:=Kw (h v X);have b:=BT (r:=r) (λx a=>h x (by simp[a]));unfold bI at b|-;rw[List.flatMap_cons,F5,T9];omega
theorem dI.mi{r:Row}(h:dI r):O (bI r)<=3930:=by
 have a:=BT (λv hv=>(h.bX v hv).1);have b:=h.len;omega
theorem iz(n:Nat):∀x∈kL n,x<256:=by
 intro x a;simp only[kL,AU,List.mem_nil_iff,or_false]at a;rcases a with h|h|h|h|h|h|h|h<;>(subst h;exact Nat.mod_lt _ D)
theorem aCJ(v:MU):∀x∈BM v,x<256:=λx a=>by
 unfold BM at a;split at a
 .rcases AU.1 a with rfl|a
  .decide
  .exact iz _ x a
 .rcases AU.1 a with rfl|a
  .decide
  .rcases EY.1 a with a|a
   .let⟨c,_,b⟩:=List.mem_flatMap.1 a;unfold Em at b;split at b
    .simp at b;omega
    .simp at b;subst b;exact c.toNat_lt
   .simp at a;omega
theorem O1(r:Row):∀x∈bI r,x<256:=λx a=>by
 let⟨v,_,hv⟩:=List.mem_flatMap.1 a;exact aCJ v x hv
def zA:Nat->Nat->aF:=λc _=>i6 lr (c:Int)
def Ha(h c:Nat):Nat:=((h^^^c)*1099511628211)%18446744073709551616
def NE(k:List Nat):Nat:=k.foldl Ha 14695981039346656037
def ZG(k:List Nat):Nat:=NE k^^^NE k/4294967296
abbrev aLJ(w:aA)(v:aF)(k:List Nat):Prop:=eX zA 0 1 w v k
theorem aDB(h c:Nat):Ha h c<18446744073709551616:=by unfold Ha;omega
theorem YZ:∀(k:List Nat),NE k<18446744073709551616:=λk=>by
 unfold NE;rcases List.eq_nil_or_concat k with rfl|⟨l,c,rfl⟩
 .rw[List.foldl_nil];omega
 .rw[List.concat_eq_append,kr,List.foldl_cons,List.foldl_nil];exact aDB _ _
theorem aDn(k:List Nat):ZG k<18446744073709551616:=by
 have h:=YZ k;exact Nat.xor_lt_two_pow (n:=64) h (Og (Nat.div_le_self _ _) h)
theorem du{k:List Nat}(h:i<O k):NE (k.take (i+1))=Ha (NE (k.take i)) (ep k i 0):=by
 unfold NE;rw[List.take_add_one,kX h,iB,kX h,kr,Option.toList_some,List.foldl_cons,List.foldl_nil,NQ]
theorem xg(h c:Nat)(a:h<18446744073709551616)(b:c<256):IntKind.u64.wrap (Go.bits BinOp.xor IntKind.u64 (h:Int) (c:Int)*1099511628211)=(Ha h c:Int):=by
 rw[bits_xor_u64_nat h c a Y,IntKind.wrap_u64];unfold Ha;omega
theorem aIW(c:Nat)(a:c<256):IntKind.u64.wrap (c:Int)=(c:Int):=by
 rw[IntKind.wrap_u64];omega
theorem aML(v:aF)(k:List Nat)(w:aA)(h:aLJ w v k)(q:∀x∈k,x<256):
  aH prog 259 #[v] w λe w'=>e=i5 (i6 .u64 (ZG k:Int))/\w=w':=by
 obtain⟨a,c,rfl,j⟩:=h.len;unfold bw at j;have C:=Z q;clear q;go_in;go_wp2;go_loopg [3,8] (O k) (λA F B wr=>∃i:Nat,i<=O k/\A=O k-i/\F=i6 .u64 (NE (k.take i):Nat)/\B=J i/\w=wr)
 .exact⟨0,Y,rfl,rfl,rfl,rfl⟩
 obtain⟨i,f,rfl,rfl,rfl,rfl⟩:=hrel;by_cases d:i<O k
 .let⟨g,o,c',hv,L,r⟩:=h.aU d;obtain rfl:=CT hv;have c0:=r 0 D;simp only[zA,wZ,pK]at c0;have l:=C.o (ep k i 0) (by rw[iB,kX d];exact kt d);have n:=Z (du d);let⟨x,p⟩:=E (ep k i 0);let⟨y,b⟩:=E (NE (k.take i));have m:=YZ (k.take i);rw[p]at c0 l n;rw[b]at n m|-;have s:=xg y x m l;have z:=aIW x l;clear p b r m;go_wp2;go_roundg (O k-(i+1))
  .exact⟨i+1,d,rfl,by rw[n.o],eO,rfl⟩
  omega
 .obtain rfl:i=O k:=Y;rw[R9];have hl:=YZ k;let⟨y,b⟩:=E (NE k);have u:=Z (show ZG k=y^^^y/4294967296 by unfold ZG;rw[b]);rw[b]at hl|-;have G:=(show Go.bits BinOp.xor IntKind.u64 (y:Int) ((y:Int)/4294967296)=((y^^^y/4294967296:Nat):Int)from xorShift_u64 y 4294967296 hl);clear b;go_wp2;go_ret;rw[u.o,<-G];exact⟨rfl,rfl⟩
variable{sz2 t2:Nat}{e2:ap}{v' v2:aF}
section
def e0(w:aA):aA:={w with heap:=#[]}
theorem P7(w:aA):U (e0 w) [] w []:=⟨rfl,rfl,rfl,RN _,λk a _=>dS a (Yk k),by simp⟩
section
variable{α:Type}{f:α->Nat->aF}{d:α}{e:ap}{sz:Nat}{w w' wb:aA}{ρ bN:aW}{t:Nat}{v:aF}{l:List α}{S:Nat->Prop}
theorem oF.cY(h:oF f d e sz w ρ t v l)(wb:aA):bG f d e sz (e0 wb) w v l:=⟨h.1,λ_ _=>RN _⟩
theorem oF.lt(h:oF f d e sz w ρ t v l):∀g,gz v=H g->g<hJ w.heap:=eJ.lt h.1
theorem oF.PC(h:oF f d e sz w ρ t v l):∀g,g∈v.ownBlock.toList->ρ g=t:=λg a=>h.2 g (eI a)
theorem bG.QX{l':List α}(h:bG f d e sz (e0 wb) w' v' l')(b:oF f d e sz w ρ t v l)(c:U w v.ownBlock.toList w' v'.ownBlock.toList):oF f d e sz w' (up w t ρ) t v' l':=
 ⟨h.1,λg i=>by
  rcases c.fresh g (by rw[i];simp)with a|a
  .have a:gz v=H g:=eI a;rw[eN (b.lt g a)];exact b.2 g a
  .exact cJ a⟩
theorem oF.eW(b:oF f d e sz w ρ t v l)(a:U w v.ownBlock.toList w' v'.ownBlock.toList)(g:S t):bA w ρ S w' (up w t ρ):=a.eW t λk c=> .inl (b.PC k c▸g)
theorem oF.NY(h:oF f d e 3 w ρ t (hY (H ⟨g,0,K⟩) n cap) l)(m:i<O l)(y:α)(x0 x1 x2:aF)(p:f y 0=x0)(q:f y 1=x1)(u:f y 2=x2):
  oF f d e 3 (ey (ey (ey w ⟨g,i*3,K⟩ x0) ⟨g,i*3+1,K⟩ x1) ⟨g,i*3+2,K⟩ x2) ρ t (hY (H ⟨g,0,K⟩) n cap) (l.set i y):=by
 obtain⟨a',cap',hv,_⟩:=h.len;injection hv with e1 e2 e3;subst e1 e2 e3;refine⟨?_,h.2⟩;rw[VP];refine eJ.congr (eJ.set (eJ.set (eJ.set h.1 rfl i 0 D x0) rfl i 1 D x1) rfl i 2 D x2) λc r x v=> ?_;rw[iB (l:=l.set i y),List.getElem?_set];by_cases a:i=c
 .subst a;rw[bR rfl,bR m,NQ];match r,v with
  |0,_=>simp[p]
  |1,_=>simp[q]
  |2,_=>simp[u]
 .have b:¬c=i:=λh=>a h.symm;rw[bD a,<-iB];simp[b]
theorem oF.BL(h:oF f d e sz w ρ t v l)(b:Nat)(c:hJ w.heap<=n):oF f d e sz w (up n b ρ) t v l:=⟨h.1,λg a=>(eN (wM (h.lt g a) c)).dd (h.2 g a)⟩
theorem oF.J7{β:Type}{b:β->Nat->aF}{c:β}{a:List β}(h:oF f d e sz w ρ t v l)(n:oF b c e2 sz2 w ρ t2 v2 a)(i:e≠e2):∀g,gz v=H g->g∉v2.ownBlock.toList:=λg m j=>eJ.J7 h.1 n.1 i g m (eI j)
theorem oF.eF{L:List Nat}(h:oF f d e sz w ρ t v l)(a:U w L w' L')(b:∀g,gz v=H g->g∉L):oF f d e sz w' ρ t v l:=⟨h.1.eF a b,h.2⟩
theorem oF.ne(h:oF f d e sz w ρ t v l){T:Nat}(a:w.heap[b]? =H (h8 cs T (0,0)))(c:e≠T):gz v≠H b:=eJ.ne h.1 a c
theorem oF.De(h:oF f d e sz w ρ t (hY (H ⟨g,0,K⟩) n cap) l)(c:i<O l)(b:j<sz)(x:α)(u:aF)(m:∀a,a<sz->f x a=if a=j then u else f (ep l i d) a):
  oF f d e sz (ey w ⟨g,i*sz+j,K⟩ u) ρ t (hY (H ⟨g,0,K⟩) n cap) (l.set i x):=
 ⟨(bG.DB (h.cY w) c b x u m).1,h.2⟩
theorem U.NY(w:aA)(x0 x1 x2:aF):U w [g] (ey (ey (ey w ⟨g,i*3,K⟩ x0) ⟨g,i*3+1,K⟩ x1) ⟨g,i*3+2,K⟩ x2) [g]:=
 ((pX w g (i*3) x0).setCell (a:=Ad g (i*3+1)) (.inl X) x1).setCell (a:=Ad g (i*3+2)) (.inl X) x2
theorem oF.aU(h:oF f d e sz w ρ t v l)(a:i<O l):∃g cap,v=hY (H ⟨g,0,K⟩) (O l) cap/\g<hJ w.heap/\ρ g=t/\(∀j,j<sz->e7 w ⟨g,i*sz+j,K⟩=H (f (ep l i d) j))/\(∀k,w.frozen? ⟨g,k,K⟩=po)/\∃cur,w.heap[g]? =H (h8 cur e (0,0)):=by
 let⟨g,cap,hv,m,p,q,n,c⟩:=eJ.block h.1 (Nat.zero_lt_of_lt a);exact⟨g,cap,hv,p,h.2 g m,λj b=>q i j a b,n,c⟩
theorem oF.Qg{a:Option cj}{k:Nat}(h:oF f d e sz w ρ t (hY a n cap) l)(v:k<=O l)(u:a=K->cap=0):oF f d e sz w ρ t (hY a k cap) (l.take k):=by
 refine⟨?_,λg b=>h.2 g (by cases a with|none=>cases b|some x=>exact b)⟩;have hl:O (l.take k)=k:=j7 VQ;rw[hl];rcases h.1 with⟨hv,r⟩|⟨g,cap',cur,hv,b,r,m,hs,q⟩
 .injection hv with e1 e2 e3;subst e1 e3;have:k=0:=Y;subst this;exact .inl ⟨rfl,rfl⟩
 .injection hv with e1 e2 e3;subst e1 e3;refine .inr ⟨g,_,cur,rfl,b,Y,m,hs,λi j c p=> ?_⟩;rw[q i j Y p];show H (f (ep l i d) j)=H (f (ep (l.take k) i d) j);rw[iB,iB,List.getElem?_take,bR c]
end
end
variable{k2:List Nat}{x:Nat}{fB:aW}
section
def OE(p:Pl aF)(j:Nat):aF:=match p with
 | .empty=>if j=0 then i6 lr 0 else if j=1 then hY K 0 0 else i6 i7 0
 | .wS=>if j=0 then i6 lr 2 else if j=1 then hY K 0 0 else i6 i7 0
 | .jQ v _ n=>if j=0 then i6 lr 1 else if j=1 then v else i6 i7 n
def hs(k:List Nat)(L:Nat):Nat:=ZG k%L
structure pI(w:aA)(ρ:aW)(t:Nat)(v:aF)(k:List Nat):Prop where
 rd:mK zA 0 1 w ρ t v k
 plain:∀a n c,v=hY (H a) n c->a.spot=K
theorem pI.dg{w w':aA}{ρ bN:aW}{t:Nat}{k:List Nat}{S:Nat->Prop}(h:pI w ρ t v k)(a:bA w ρ S w' bN)(b:¬S t):pI w' bN t v k:=⟨h.rd.dg a b,h.plain⟩
theorem pI.on{w w':aA}{ρ:aW}{t:Nat}{k:List Nat}{L:List Nat}(h:pI w ρ t v k)(a:U w [] w' L):pI w' ρ t v k:=⟨h.rd.on a,h.plain⟩
def E4(k:List Nat):Prop:=(∀x∈k,x<256)/\O k<=4096
structure vF(w:aA)(ρ:aW)(t b g:Nat)(T:Nat->Pl aF)(L most:Nat):Prop where
 bS:∃p:Int,w.heap[b]? =H (h8 #[i6 i7 most,i6 i7 (lQ T L:Int),i6 i7 (uH T L:Int),i6 i7 p,hY (H ⟨g,0,K⟩) L L] 298 (0,0))
 yF:eJ w (hY (H ⟨g,0,K⟩) L L) 389 3 L (λi j=>OE (T i) j)
 J9:∀i v k n,i<L->T i= .jQ v k n->pI w ρ (t+1) v k/\E4 k
 bT:ρ b=t/\ρ g=t
 pow:∃j,L=8*2^j
 lW:L<=8388608
 most:1<=most/\most<=1048576
 wf:Nh hs T L
section
variable{w w':aA}{ρ bN:aW}{t b g:Nat}{T:Nat->Pl aF}{L most:Nat}{S:Nat->Prop}
theorem vF.lt(h:vF w ρ t b g T L most):g<hJ w.heap/\b<hJ w.heap:=by
 obtain⟨p,a⟩:=h.bS;exact⟨eJ.lt h.yF g rfl,cV a⟩
theorem vF.dg(h:vF w ρ t b g T L most)(a:bA w ρ S w' bN)(d:¬S t)(l:¬S (t+1)):vF w' bN t b g T L most:=by
 obtain⟨p,j⟩:=h.bS;have hl:=h.lt;exact⟨⟨p,a.aC j (h.bT.1▸d)⟩,eJ.aC h.yF (λg' m=>by
  obtain rfl:g'=g:=by simpa[gz]using m.symm
  exact a.block g' hl.1 (h.bT.2▸d)),λi v k n c e=>⟨(h.J9 i v k n c e).1.dg a l,(h.J9 i v k n c e).2⟩,⟨(a.bT b hl.2).dd h.bT.1,(a.bT g hl.1).dd h.bT.2⟩,h.pow,h.lW,h.most,h.wf⟩
theorem vF.on(h:vF w ρ t b g T L most)(a:U w [] w' L'):vF w' ρ t b g T L most:=h.dg (S:=eL) a.fK id id
theorem vF.ne(h:vF w ρ t b g T L most):g≠b:=λe=>by
 obtain⟨p,a⟩:=h.bS;exact eJ.ne h.yF a D (by rw[e];rfl)
theorem vF.cells(h:vF w ρ t b g T L most)(a:i<L):∀j,j<3->e7 w ⟨g,i*3+j,K⟩=H (OE (T i) j):=by
 let⟨g',cap,hv,_,_,c,_,_⟩:=eJ.block h.yF (Nat.zero_lt_of_lt a);grind
end
structure IxT(w:aA)(ρ:aW)(t b g:Nat)(T:Nat->Pl aF)(L:Nat):Prop where
 bS:∃v0 v1 v2 v3,w.heap[b]? =H (h8 #[v0,v1,v2,v3,hY (H ⟨g,0,K⟩) L L] 298 (0,0))
 yF:eJ w (hY (H ⟨g,0,K⟩) L L) 389 3 L (λi j=>OE (T i) j)
 J9:∀i v k n,i<L->T i= .jQ v k n->pI w ρ (t+1) v k/\E4 k
 bT:ρ b=t/\ρ g=t
 pow:∃j,L=8*2^j
 lW:L<=8388608
 wf:Nh hs T L
section
variable{w w':aA}{ρ bN:aW}{t b g:Nat}{T:Nat->Pl aF}{L most:Nat}{S:Nat->Prop}
theorem vF.toT(h:vF w ρ t b g T L most):IxT w ρ t b g T L:=by
 obtain⟨p,a⟩:=h.bS;exact⟨⟨_,_,_,_,a⟩,h.yF,h.J9,h.bT,h.pow,h.lW,h.wf⟩
theorem IxT.lt(h:IxT w ρ t b g T L):g<hJ w.heap/\b<hJ w.heap:=by
 obtain⟨_,_,_,_,a⟩:=h.bS;exact⟨eJ.lt h.yF g rfl,cV a⟩
theorem IxT.dg(h:IxT w ρ t b g T L)(a:bA w ρ S w' bN)(d:¬S t)(l:¬S (t+1)):IxT w' bN t b g T L:=by
 obtain⟨v0,v1,v2,v3,j⟩:=h.bS;have hl:=h.lt;exact⟨⟨v0,v1,v2,v3,a.aC j (h.bT.1▸d)⟩,eJ.aC h.yF (λg' m=>by
  obtain rfl:g'=g:=by simpa[gz]using m.symm
  exact a.block g' hl.1 (h.bT.2▸d)),λi v k n c e=>⟨(h.J9 i v k n c e).1.dg a l,(h.J9 i v k n c e).2⟩,⟨(a.bT b hl.2).dd h.bT.1,(a.bT g hl.1).dd h.bT.2⟩,h.pow,h.lW,h.wf⟩
theorem IxT.on(h:IxT w ρ t b g T L)(a:U w [] w' L'):IxT w' ρ t b g T L:=h.dg (S:=eL) a.fK id id
theorem IxT.cells(h:IxT w ρ t b g T L)(a:i<L):∀j,j<3->e7 w ⟨g,i*3+j,K⟩=H (OE (T i) j):=by
 let⟨g',cap,hv,_,_,c,_,_⟩:=eJ.block h.yF (Nat.zero_lt_of_lt a);grind
end
theorem SR(a b:Nat)(ha:a<9223372036854775808)(c:b<9223372036854775808):Go.bits BinOp.and i7 (a:Int) (b:Int)=((a&&&b:Nat):Int):=by
 have d:a&&&b<2^63:=Nat.and_lt_two_pow _ Y;have e:(BitVec.ofInt 64 (a:Int)).toNat=a:=by
  grind
 have g:(BitVec.ofInt 64 (b:Int)).toNat=b:=by
  grind
 show IntKind.i64.wrap ((BitVec.ofInt 64 (a:Int)&&&BitVec.ofInt 64 (b:Int)).toNat:Int)=_;grind [IntWalk.i64_in]
theorem qe{L:Nat}(a:L=8*2^j):x&&&(L-1)=x%L:=by
 have e:L=2^(j+3):=by grind
 grind [Nat.and_two_pow_sub_one_eq_mod]
theorem aJs{L:Nat}(a:L=8*2^j)(k:List Nat):hs k L<L:=Nat.mod_lt _ GJ
def se(k:List Nat):dU:=strOfNums (k.map Int.ofNat)
theorem aBj{k k':List Nat}(h:∀x∈k,x<256)(a:∀x∈k',x<256)(e:se k=se k'):k=k':=by
 have e2:=wJ (λs:ByteArray=>s.data.toList) e;unfold se at e2;rw[strOfNums_data,strOfNums_data,List.map_map,List.map_map]at e2;have hl:O k=O k':=by have:=wJ O e2;simpa using this
 apply List.ext_getElem hl;intro i c d;have b:=wJ (λl=>l[i]?) e2;grind [UInt8.toNat_ofNat',List.getElem_mem]
theorem pI.conv{w:aA}{ρ:aW}{t:Nat}{k:List Nat}(h:pI w ρ t v k)(m:∀x∈k,x<256):(convert 372 9 v).run prog w= .ok (j3 (se k)) w:=by
 obtain⟨⟨d,_⟩,l⟩:=h;rcases d with⟨c,a,cap,rfl,ha⟩|⟨g,o,cap,rfl,c,n,p,j⟩
 .have e:=Pk.1 c;subst e;cases a with
  |none=>exact run_convert_bytes_nil (P:=prog) w 372 5 underlying372 underlying5 0 cap 9 underlying9
  |some a=>
   obtain⟨g,o,s⟩:=a;obtain rfl:s=K:=l _ _ _ rfl;exact run_convert_bytes_arg w 372 5 underlying372 underlying5 g o 0 cap [] rfl (λi b=>dS b (Yk i)) 9 underlying9
 .exact run_convert_bytes_arg w 372 5 underlying372 underlying5 g o (O k) cap (k.map Int.ofNat) X (λi b=>by
   have:=j i 0 b D;simp only[zA,wZ,pK]at this;rw[this,iB,kX b];simp[iB,kX b]) 9 underlying9
theorem aE7{ρ:aW}{t:Nat}{k:List Nat}(w:aA)(h:pI w ρ t v k)(b:pI w fB t2 v2 k)(a:∀x∈k,x<256):
  aH prog 260 #[v,v2] w λe w'=>e=i5 (j4 oj)/\w=w':=by
 have c1:=h.conv a;have c2:=b.conv a;go_in;go_wp2;go_ret;simp_all
theorem aI4{ρ:aW}{t:Nat}{k:List Nat}(w:aA)(h:pI w ρ t v k)(i:pI w fB t2 v2 k2)(d:∀x∈k,x<256)(c:∀x∈k2,x<256)(g:k≠k2):
  aH prog 260 #[v,v2] w λe w'=>e=i5 (j4 po)/\w=w':=by
 have c1:=h.conv d;have c2:=i.conv c;have j:=WX (a:=se k) (b:=se k2) (λe=>g (aBj d c e));go_in;go_wp2;go_ret;simp_all
def PO:Option Nat->Int
 |none=> -1
 |some x=>x
end
theorem ZM164{P:Prop}(h:P:=by
  have HB:=(show jE c=po by rw[hB];simp;omega);go_in;go_wp2;go_ret;exact⟨by rw[HB];rfl,rfl⟩):P:=h
theorem ZM52{P:Prop}(h:P:=by
  go_wp2_with (first|(go_at_call 177;apply(sF s[k] _).cL;rintro w2 rfl;rw[HL.o])|(go_at_call 192;apply(KU s[k] _).cL;rintro w2 rfl;rw[HD.o]));go_roundw
  .exact⟨trivial,k+1,Y,eO,λj hj yX=>by
   by_cases h:j=k
   .subst h;rw[Kn,HL.o];first|rfl|(rw[HD.o];rfl)
   .exact fS j hj Y⟩
  simp[intOf];omega):P:=h
theorem ZM84{P:Prop}(h:P:=by
  have d5:((n:Int)==95)=po:=G9.2 (by omega);exact ZM164):P:=h
theorem aq(c:UInt8):jE c=((decide (97<=c.toNat)&&decide (c.toNat<=122))||(decide (65<=c.toNat)&&decide (c.toNat<=90))||decide (c.toNat=95)):=by
 have:∀n:Fin 256,jE (UInt8.ofNat n)=((decide (97<=(UInt8.ofNat n).toNat)&&decide ((UInt8.ofNat n).toNat<=122))||(decide (65<=(UInt8.ofNat n).toNat)&&decide ((UInt8.ofNat n).toNat<=90))||decide ((UInt8.ofNat n).toNat=95)):=by decide+kernel
 simpa using this ⟨c.toNat,c.toNat_lt⟩
theorem zk(c:UInt8):n8 c=(decide (48<=c.toNat)&&decide (c.toNat<=57)):=by
 have:∀n:Fin 256,n8 (UInt8.ofNat n)=(decide (48<=(UInt8.ofNat n).toNat)&&decide ((UInt8.ofNat n).toNat<=57)):=by decide+kernel
 simpa using this ⟨c.toNat,c.toNat_lt⟩
theorem sF(c:UInt8)(w:aA):aH prog 177 #[i6 lr c.toNat] w λe w'=>e=i5 (j4 (jE c))/\w=w':=by
 have hB:=aq c;let⟨n,d⟩:=E (c.toNat);have m:n<256:=d▸c.toNat_lt;rw[d]at hB|-;by_cases g:97<=n
 .have i:decide ((97:Int)<=(n:Int))=oj:=kI (by omega);by_cases g2:n<=122
  .have l:decide ((n:Int)<=122)=oj:=kI (by omega);have HB:=(show jE c=oj by rw[hB];simp[g,g2]);go_in;go_wp2;go_ret;exact⟨by rw[HB];rfl,rfl⟩
  .have l:decide ((n:Int)<=122)=po:=jO (by omega);have b:decide ((65:Int)<=(n:Int))=oj:=kI (by omega);have a:decide ((n:Int)<=90)=po:=jO (by omega);exact ZM84
 .have i:decide ((97:Int)<=(n:Int))=po:=jO (by omega);by_cases g3:65<=n
  .have b:decide ((65:Int)<=(n:Int))=oj:=kI (by omega);by_cases j:n<=90
   .have a:decide ((n:Int)<=90)=oj:=kI (by omega);have HB:=(show jE c=oj by rw[hB];simp[g3,j]);go_in;go_wp2;go_ret;exact⟨by rw[HB];rfl,rfl⟩
   .have a:decide ((n:Int)<=90)=po:=jO (by omega);by_cases g5:n=95
    .have d5:((n:Int)==95)=oj:=JY.2 (by omega);have HB:=(show jE c=oj by rw[hB];simp[g5]);go_in;go_wp2;go_ret;exact⟨by rw[HB];rfl,rfl⟩
    .exact ZM84
  .have b:decide ((65:Int)<=(n:Int))=po:=jO (by omega);have d5:((n:Int)==95)=po:=G9.2 (by omega);exact ZM164
theorem KU(c:UInt8)(w:aA):aH prog 192 #[i6 lr c.toNat] w λe w'=>e=i5 (j4 (n8 c))/\w=w':=by
 have b:=zk c;let⟨n,d⟩:=E (c.toNat);have l:n<256:=d▸c.toNat_lt;rw[d]at b|-;by_cases i:48<=n
 .have j:decide ((48:Int)<=(n:Int))=oj:=kI Y;by_cases g2:n<=57
  .have g:decide ((n:Int)<=57)=oj:=kI Y;have a:=(show n8 c=oj by rw[b];simp[i,g2]);go_in;go_wp2;go_ret;exact⟨by rw[a];rfl,rfl⟩
  .have g:decide ((n:Int)<=57)=po:=jO Y;have a:=(show n8 c=po by rw[b];simp;omega);go_in;go_wp2;go_ret;exact⟨by rw[a];rfl,rfl⟩
 .have j:decide ((48:Int)<=(n:Int))=po:=jO Y;have a:=(show n8 c=po by rw[b];simp;omega);go_in;go_wp2;go_ret;exact⟨by rw[a];rfl,rfl⟩
theorem Kn(c:UInt8):FF c qA=(jE c||n8 c):=PW c
theorem TO(s:dU)(w:aA)(hs:s.size<=1048576):
  aH prog 178 #[j3 s,i6 i7 0] w λe w'=>e=i5 (i6 i7 (E7 s qA))/\w=w':=by
 go_in;go_wp2;go_loopw [1] (λi wr=>w=wr/\∃k:Nat,k<=s.size/\i=J k/\∀j,(hj:j<s.size)->j<k->FF s[j] qA=oj) (λi _=>s.size-(intOf i).toNat)
 .exact⟨rfl,0,Y,rfl,λj _ hj=>Y⟩
 obtain⟨rfl,k,a,rfl,fS⟩:=hrel;by_cases b:k<s.size
 .cases hl:jE s[k]with
  |true=>
   have HL:=Z hl;have HD:=HL;exact ZM52
  |false=>
   have HL:=Z hl;cases hd:n8 s[k]with
   |true=>
    have HD:=Z hd;exact ZM52
   |false=>
    have HD:=Z hd;go_wp2_with (first|(go_at_call 177;apply(sF s[k] _).cL;rintro w2 rfl;rw[HL.o])|(go_at_call 192;apply(KU s[k] _).cL;rintro w2 rfl;rw[HD.o]));go_ret;exact⟨by rw[LY a fS (λ_=>by rw[Kn,HL.o,HD.o];rfl)];rfl,rfl⟩
 .go_wp2;go_ret;exact⟨by rw[LY a fS (λh=>dS h b)];rfl,rfl⟩
theorem af{s:dU}(h:0<s.size):iT s=(jE s[0]&&(decide (E7 s qA=s.size)&&decide (s.size<=16))):=by
 rw[XD];unfold iT;rw[kI (show 1<=s.size from h),Bt];have b:=IB s h;have hd:s.data.toList.headD 0=s[0]:=by
  cases hl:s.data.toList with
  |nil=>rw[hl]at b;simp at b
  |cons a l=>rw[hl]at b;simpa using b
 rw[hd];cases jE s[0]<;>cases decide (s.size<=16)<;>simp
theorem BW(s:dU)(w:aA)(hs:s.size<=1048576):
  aH prog 155 #[j3 s] w λe w'=>e=i5 (j4 (iT s))/\w=w':=by
 by_cases d:0<s.size
 .have g:s≠bO:=λe=>by rw[RT.2 e]at d;exact dS d (by decide)
  have i:=iR g;have l:=pC g;have a:=Z (af d);cases hl:jE s[0]with
  |false=>
   have c:=Z hl;go_in;go_wp2_with (go_at_call 177;apply(sF s[0] _).cL;rintro w2 rfl;rw[c.o]);go_ret;exact⟨by rw[a.o,c.o];rfl,rfl⟩
  |true=>
   have c:=Z hl;by_cases b:E7 s qA=s.size
   .have j:((E7 s qA:Int)==(s.size:Int))=oj:=by rw[dA];exact kI b
    have a:dT (iT s=decide (s.size<=16)):=Z (by rw[a.o,c.o,kI b];simp);go_in;go_wp2_with (first|(go_at_call 177;apply(sF s[0] _).cL;rintro w2 rfl;rw[c.o])|(go_at_call 178;apply(TO s _ hs).cL;rintro w2 rfl));go_ret;have hd:decide (s.size<=16)=decide ((s.size:Int)<=16):=by
     rw[Bu,RK,RK];omega
    exact⟨by rw[a.o,hd];rfl,rfl⟩
   .have j:((E7 s qA:Int)==(s.size:Int))=po:=by rw[dA];exact jO b
    have a:dT (iT s=po):=Z (by rw[a.o,jO b];simp);go_in;go_wp2_with (first|(go_at_call 177;apply(sF s[0] _).cL;rintro w2 rfl;rw[c.o])|(go_at_call 178;apply(TO s _ hs).cL;rintro w2 rfl));go_ret;exact⟨by rw[a.o];rfl,rfl⟩
 .have b:s=bO:=RT.1 (by omega);subst b;have i:=nW (x:=bO) rfl;have a:dT (iT bO=po):=Z rfl;go_in;go_wp2;go_ret;exact⟨by rw[a.o];rfl,rfl⟩
theorem BI(v:aF)(l:List dU)(s:dU)(w:aA)(h:II w v l):
  aH prog 30 #[v,j3 s] w λe w'=>e=i5 (i6 i7 (Vx l s))/\w=w':=by
 obtain⟨a,cap,rfl,n⟩:=h.len;unfold bw at n;go_in;go_wp2;go_loopw [8] (λi wr=>w=wr/\∃k:Nat,k<=O l/\i=J k/\∀j,j<k->ep l j bO≠s) (λi _=>O l-(intOf i).toNat)
 .exact⟨rfl,0,Y,rfl,λj d=>Y⟩
 obtain⟨rfl,k,y,rfl,c⟩:=hrel;by_cases m:k<O l
 .let⟨g,o,cap',hv,q⟩:=h.DR m;injection hv with x1 x2 x3;subst x1;let⟨x,b⟩:=E (ep l k bO);simp only[xR,b]at q;by_cases hs:s=x
  .subst hs;go_wp2;go_ret;exact⟨wJ (λz=>i5 (J z)) (Ic m b c).symm,rfl⟩
  .have r:=Z hs;have u:=WX hs;go_wp2;go_roundw
   .exact⟨trivial,k+1,Y,eO,λj d=>by
    by_cases p:j=k
    .subst p;rw[b];exact λe=>r.o e.symm
    .exact c j Y⟩
   simp[intOf];omega
 .go_wp2;go_ret;exact⟨wJ (λz=>i5 (J z)) (Vw λj d=>c j Y).symm,rfl⟩
theorem nY(v:aF)(l:List dU)(s:dU)(w:aA)(h:II w v l):
  aH prog 57 #[v,j3 s] w λe w'=>e=i5 (j4 (decide (s∈l)))/\w=w':=by
 go_in;go_wp2_with (go_at_call 30;apply(BI v l s w h).cL;rintro w' rfl);go_ret;exact⟨by rw[<-Ay];rfl,rfl⟩
theorem AT(v:aF)(rel:dU)(ts:List jF)(w:aA)(h:zB w v ts)(Q:O ts<=1048576):
  aH prog 31 #[.agg #[j3 rel,v]] w λe w'=>∃u,e=i5 u/\vC w w' u (bC ts [])/\U w [] w' []:=by
 obtain⟨a,cap,rfl,f⟩:=h.len;unfold bw at f;let⟨w1,z⟩:=E (e8 w (h8 #[j3 rel,hY a (O ts) cap] 52));have cM:=Za z;have R:e7 w1 ⟨w,1,K⟩=H (hY a (O ts) cap):=z▸aL (lK w _) rfl;go_in;go_wp2;go_loopg [3,9] (O ts) (λN p i wr=>U w1 [] wr []/\∃(k:Nat) (L:List dU),k<=O ts/\N=O ts-k/\i=J k/\bC (ts.take k) []=L/\vC w1 wr p L)
 .exact⟨U.refl _ _,0,[],Y,rfl,rfl,rfl,bG.nil _ _⟩
 obtain⟨hU,k,L,S,rfl,rfl,OT,n⟩:=hrel;have j:=gG (ts.take k) [];rw[VQ,List.length_nil,OT]at j;obtain⟨a3,T,rfl,V⟩:=n.len;have HL:=Z n;clear n;by_cases B:k<O ts
 .let⟨g,o,cap',hv,_,l⟩:=(h.on (cM.dd hU)).aU B;obtain rfl:=CT hv;have b:=Z (K1 B []);have c0:=l 0 D;have c1:=l 1 D;have c2:=l 2 D;have c3:=l 3 D;simp only[jF.cell,pK]at c0 c1 c2 c3;clear l;let⟨t,A⟩:=E (ep ts k qc);rw[A]at c0 c1 c2 c3 b;rw[OT]at b;clear A;go_upto_region 5 with(fail);let⟨w5,m⟩:=E (e8 wr (h8 #[j3 t.var,J t.vY.aG,J t.vY.num,j3 t.vY.eR] 67));have q:=Za m;have s:e7 w5 ⟨wr,0,K⟩=H (j3 t.var):=m▸aL (lK wr _) rfl;rw[m];have y:=HL.on q;have r:=(hU.dd q);have d:=Z y;clear m q y c0 c1 c2 c3;let⟨x,C⟩:=E (t.var);rw[C]at s b;clear C;by_cases hs:x=bO
  .have b:dT (bC (ts.take (k+1)) []=L):=Z (by rw[b.o,bR hs]);have G:=nW hs;clear hs;go_wp2;go_roundg (O ts-(k+1))
   .exact⟨r,k+1,_,Y,rfl,eO,b,d⟩
   omega
  .have b:dT (bC (ts.take (k+1)) []=gX L x):=Z (by rw[b.o,bD hs]);have G:=iR hs;have pP:=pC hs;clear hs;by_cases c:x∈L
   .have b:dT (bC (ts.take (k+1)) []=L):=Z (b.o▸bR c);have hd:=kI c;clear c;go_wp2_with (go_at_call 57;apply(nY _ _ _ _ d.rd).cL;rintro w2 rfl);go_roundg (O ts-(k+1))
    .exact⟨r,k+1,_,Y,rfl,eO,b,d⟩
    omega
   .have b:dT (bC (ts.take (k+1)) []=L++[x]):=Z (b.o▸bD c);have hd:=jO c;clear c;go_wp2_with (first
     |(at_builtin;refine cK aIS rfl _ _ rfl d r Yr [j3 x] x Yr rfl (dH rfl) rfl Y F4 ?_;rintro g2 W w3 F qL- -;have P:=Z F;clear F)
     |(go_at_call 57;apply(nY _ _ _ _ d.rd).cL;rintro w2 rfl))
    go_roundg (O ts-(k+1))
    .exact⟨qL,k+1,_,Y,rfl,eO,b,P⟩
    omega
 .exact ZM93
theorem ZM159{P:Prop}(h:P:=by
  rw[hb]at CW;go_wp2_with (first
   |(go_at_fn g;apply CW.cL;intro w2 bH))
  go_roundg (O l-(k+1))
  .exact⟨hU.dd bH,k+1,Y,rfl,eO,λj hj=>by
   by_cases yX:j=k
   .subst yX;rw[hx];exact hb
   .exact fS j Y⟩
  omega):P:=h
theorem ZM38{P:Prop}(h:P:=by
  clear hc;cases hb:p x with
  |true=>
   rw[hb]at CW;go_wp2_with (first
    |(go_at_fn g;apply CW.cL;intro w2 bH))
   go_ret;exact⟨wJ (λz=>i5 (J z)) (uB (d:=qc) aV (by rw[hx];exact hb) fS).symm,hU.dd bH⟩
  |false=>
   exact ZM159):P:=h
theorem ZM61{P:Prop}(h:P:=by
  exact ZM159):P:=h
theorem ZM115{P:Prop}(h:P:=by
  go_wp2;go_ret;exact⟨wJ (λz=>i5 (J z)) (xK (d:=qc) λj hj=>fS j Y).symm,hU⟩):P:=h
def S9{α:Type}(p:α->Bool)(l:List α):Int:=match l.findIdx? p with
 |some i=>i
 |none=> -1
theorem uB{α:Type}{p:α->Bool}{l:List α}{d:α}{k:Nat}(a:k<O l)(hs:p (ep l k d)=oj)(c:∀j,j<k->p (ep l j d)=po):S9 p l=k:=by
 have:l.findIdx? p=H k:=by
  rw[List.findIdx?_eq_some_iff_getElem];refine⟨a,by rwa[iB,kX a]at hs,λj b=> ?_⟩;have:=c j b;rw[iB,kX Y]at this;simpa using this
 unfold S9;rw[this]
theorem xK{α:Type}{p:α->Bool}{l:List α}{d:α}(c:∀j,j<O l->p (ep l j d)=po):S9 p l= -1:=by
 have:l.findIdx? p=K:=by
  rw[List.findIdx?_eq_none_iff];intro x b;obtain⟨i,a,rfl⟩:=Pn b;have:=c i a;rwa[iB,kX a]at this
 unfold S9;rw[this]
theorem pD{α:Type}(p:α->Bool)(l:List α):decide (0<=S9 p l)=l.any p:=by
 unfold S9;cases h:l.findIdx? p with
 |none=>
  rw[List.findIdx?_eq_none_iff]at h;symm;rw[jO D,List.any_eq_false];intro x c;rw[h x c];decide
 |some i=>
  rw[List.findIdx?_eq_some_iff_getElem]at h;obtain⟨a,b,_⟩:=h;dsimp only;rw[kI Y];exact(kq.2 ⟨_,kt a,b⟩).symm
def G4{α:Type}(g:Nat)(caps:Array aF)(arg:α->aF)(p:α->Bool)(l:List α)(w:aA):Prop:=
 ∀x,x∈l->∀wz,U w [] wz []->aH prog g (#[arg x]++caps) wz λe w'=>e=i5 (j4 (p x))/\U wz [] w' []
theorem YN(v:aF)(l:List dU)(g:Nat)(c:Array aF)(p:dU->Bool)(w:aA)(eg:∀args w,(callFunc g args).run prog w= .ok (.enter g args) w)(h:II w v l)(r:G4 g c (λx=>j3 x) p l w):
  aH prog 159 #[v,.func (.func g) #[] c] w λe w'=>e=i5 (i6 i7 (S9 p l))/\U w [] w' []:=by
 obtain⟨a,cap,rfl,n⟩:=h.len;unfold bw at n;go_in;go_wp2;go_loopg [8] (O l) (λq i wr=>U w [] wr []/\∃k:Nat,k<=O l/\q=O l-k/\i=J k/\∀j,j<k->p (ep l j bO)=po)
 .exact⟨U.refl _ _,0,Y,rfl,rfl,λj hj=>Y⟩
 obtain⟨hU,k,y,rfl,rfl,fS⟩:=hrel;by_cases b:k<O l
 .let⟨u,o,cap',hv,m⟩:=(h.on hU).DR b;obtain rfl:=CT hv;have CW:=r _ (bM (d:=bO) b) wr hU;generalize hx:ep l k bO=x at m CW;simp only[xR,EN]at m;cases hb:p x with
  |true=>
   rw[hb]at CW;go_wp2_with (first
    |(go_at_fn g;apply CW.cL;intro w2 bH))
   go_ret;exact⟨wJ (λz=>i5 (J z)) (uB (d:=bO) b (by rw[hx];exact hb) fS).symm,hU.dd bH⟩
  |false=>
   exact ZM61
 .go_wp2;go_ret;exact⟨wJ (λz=>i5 (J z)) (xK (d:=bO) λj hj=>fS j Y).symm,hU⟩
theorem ax(v:aF)(l:List Nat)(g:Nat)(c:Array aF)(p:Nat->Bool)(w:aA)(eg:∀args w,(callFunc g args).run prog w= .ok (.enter g args) w)(h:CI w v l)(r:G4 g c (λ(x:Nat)=>i6 kd (x:Int)) p l w):
  aH prog 164 #[v,.func (.func g) #[] c] w λe w'=>e=i5 (i6 i7 (S9 p l))/\U w [] w' []:=by
 obtain⟨a,cap,rfl,n⟩:=h.len;unfold bw at n;go_in;go_wp2;go_loopg [8] (O l) (λq i wr=>U w [] wr []/\∃k:Nat,k<=O l/\q=O l-k/\i=J k/\∀j,j<k->p (ep l j 0)=po)
 .exact⟨U.refl _ _,0,Y,rfl,rfl,λj hj=>Y⟩
 obtain⟨hU,k,y,rfl,rfl,fS⟩:=hrel;by_cases b:k<O l
 .let⟨u,o,cap',hv,m⟩:=(h.on hU).DR b;obtain rfl:=CT hv;have CW:=r _ (bM (d:=0) b) wr hU;generalize hx:ep l k 0=x at m CW;simp only[xR,EN]at m;cases hb:p x with
  |true=>
   rw[hb]at CW;go_wp2_with (first
    |(go_at_fn g;apply CW.cL;intro w2 bH))
   go_ret;exact⟨wJ (λz=>i5 (J z)) (uB (d:=0) b (by rw[hx];exact hb) fS).symm,hU.dd bH⟩
  |false=>
   exact ZM61
 .go_wp2;go_ret;exact⟨wJ (λz=>i5 (J z)) (xK (d:=0) λj hj=>fS j Y).symm,hU⟩
theorem Sc(v:aF)(l:List jF)(g:Nat)(b:Array aF)(p:jF->Bool)(w:aA)(eg:∀args w,(callFunc g args).run prog w= .ok (.enter g args) w)(h:zB w v l)(n:G4 g b (λ(x:jF)=> .agg #[j3 x.var,i6 i7 x.vY.aG,i6 i7 x.vY.num,j3 x.vY.eR]) p l w):
  aH prog 158 #[v,.func (.func g) #[] b] w λe w'=>e=i5 (i6 i7 (S9 p l))/\U w [] w' []:=by
 skip
 obtain⟨a,cap,rfl,c⟩:=h.len;unfold bw at c;go_in;go_wp2;go_loopg [8] (O l) (λm i wr=>U w [] wr []/\∃k:Nat,k<=O l/\m=O l-k/\i=J k/\∀j,j<k->p (ep l j qc)=po)
 .exact⟨U.refl _ _,0,Y,rfl,rfl,λj hj=>Y⟩
 obtain⟨hU,k,r,rfl,rfl,fS⟩:=hrel;by_cases aV:k<O l
 .let⟨q,o,cap',hv,_,hc⟩:=(h.on hU).aU aV;obtain rfl:=CT hv;have CW:=n _ (bM (d:=qc) aV) wr hU;have c0:=hc 0 D;have c1:=hc 1 D;have c2:=hc 2 D;have c3:=hc 3 D;generalize hx:ep l k qc=x at c0 c1 c2 c3 CW;simp only[jF.cell,pK]at c0 c1 c2 c3;skip
  exact ZM38
 .exact ZM115
theorem Se(v:aF)(l:List ES)(g:Nat)(b:Array aF)(p:ES->Bool)(w:aA)(eg:∀args w,(callFunc g args).run prog w= .ok (.enter g args) w)(h:eX uZ qc 2 w v l)(n:G4 g b (λ(x:ES)=> .agg #[i6 i7 (x.1:Int),i6 kd (x.2:Int)]) p l w):
  aH prog 163 #[v,.func (.func g) #[] b] w λe w'=>e=i5 (i6 i7 (S9 p l))/\U w [] w' []:=by
 skip
 obtain⟨a,cap,rfl,c⟩:=h.len;unfold bw at c;go_in;go_wp2;go_loopg [8] (O l) (λm i wr=>U w [] wr []/\∃k:Nat,k<=O l/\m=O l-k/\i=J k/\∀j,j<k->p (ep l j qc)=po)
 .exact⟨U.refl _ _,0,Y,rfl,rfl,λj hj=>Y⟩
 obtain⟨hU,k,r,rfl,rfl,fS⟩:=hrel;by_cases aV:k<O l
 .let⟨q,o,cap',hv,_,hc⟩:=(h.on hU).aU aV;obtain rfl:=CT hv;have CW:=n _ (bM (d:=qc) aV) wr hU;have c0:=hc 0 D;have c1:=hc 1 D;generalize hx:ep l k qc=x at c0 c1 CW;simp only[uZ,pK]at c0 c1;skip
  exact ZM38
 .exact ZM115
theorem ew(v:aF)(l:List dU)(g:Nat)(a:Array aF)(p:dU->Bool)(w:aA)(eg:∀args w,(callFunc g args).run prog w= .ok (.enter g args) w)(h:II w v l)(b:G4 g a (λx=>j3 x) p l w):
  aH prog 156 #[v,.func (.func g) #[] a] w λe w'=>e=i5 (j4 (l.any p))/\U w [] w' []:=by
 go_in;go_wp2_with (go_at_call 159;apply(YN v l g a p w eg h b).cL;intro w' c);go_ret;exact⟨by rw[<-pD];rfl,c⟩
theorem eu(v:aF)(l:List Nat)(g:Nat)(a:Array aF)(p:Nat->Bool)(w:aA)(eg:∀args w,(callFunc g args).run prog w= .ok (.enter g args) w)(h:CI w v l)(b:G4 g a (λ(x:Nat)=>i6 kd (x:Int)) p l w):
  aH prog 131 #[v,.func (.func g) #[] a] w λe w'=>e=i5 (j4 (l.any p))/\U w [] w' []:=by
 go_in;go_wp2_with (go_at_call 164;apply(ax v l g a p w eg h b).cL;intro w' c);go_ret;exact⟨by rw[<-pD];rfl,c⟩
theorem Tm(v:aF)(l:List jF)(g:Nat)(a:Array aF)(p:jF->Bool)(w:aA)(eg:∀args w,(callFunc g args).run prog w= .ok (.enter g args) w)(h:zB w v l)(b:G4 g a (λ(x:jF)=> .agg #[j3 x.var,i6 i7 x.vY.aG,i6 i7 x.vY.num,j3 x.vY.eR]) p l w):
  aH prog 123 #[v,.func (.func g) #[] a] w λe w'=>e=i5 (j4 (l.any p))/\U w [] w' []:=by
 go_in;go_wp2_with (go_at_call 158;apply(Sc v l g a p w eg h b).cL;intro w' c);go_ret;exact⟨by rw[<-pD];rfl,c⟩
theorem Tn(v:aF)(l:List ES)(g:Nat)(a:Array aF)(p:ES->Bool)(w:aA)(eg:∀args w,(callFunc g args).run prog w= .ok (.enter g args) w)(h:eX uZ qc 2 w v l)(b:G4 g a (λ(x:ES)=> .agg #[i6 i7 (x.1:Int),i6 kd (x.2:Int)]) p l w):
  aH prog 129 #[v,.func (.func g) #[] a] w λe w'=>e=i5 (j4 (l.any p))/\U w [] w' []:=by
 go_in;go_wp2_with (go_at_call 163;apply(Se v l g a p w eg h b).cL;intro w' c);go_ret;exact⟨by rw[<-pD];rfl,c⟩
def Ni(g:Nat)(caps:Array aF)(l:List (dU×aF))(p:Nat->Bool)(w:aA):Prop:=
 ∀i,i<O l->∀wz,U w [] wz []->aH prog g (#[.agg #[j3 (ep l i qc).1,(ep l i qc).2]]++caps) wz λe w'=>e=i5 (j4 (p i))/\U wz [] w' []
theorem XH{k d:Nat}(h:k<n):ep (List.range n) k d=k:=by rw[iB,List.getElem?_range h];rfl
theorem Sf(v:aF)(l:List (dU×aF))(g:Nat)(F:Array aF)(p:Nat->Bool)(w:aA)(eg:∀args w,(callFunc g args).run prog w= .ok (.enter g args) w)(h:eX vW qc 2 w v l)(f:∀x,x∈l->∃a n c,x.2=hY a n c)(N:Ni g F l p w):
  aH prog 154 #[v,.func (.func g) #[] F] w λe w'=>e=i5 (i6 i7 (S9 p (List.range (O l))))/\U w [] w' []:=by
 obtain⟨a,cap,rfl,P⟩:=h.len;unfold bw at P;go_in;go_wp2;go_loopg [8] (O l) (λs i wr=>U w [] wr []/\∃k:Nat,k<=O l/\s=O l-k/\i=J k/\∀j,j<k->p j=po)
 .exact⟨U.refl _ _,0,Y,rfl,rfl,λj b=>Y⟩
 obtain⟨q,k,V,rfl,rfl,C⟩:=hrel;by_cases r:k<O l
 .let⟨Q,o,cap',hv,_,A⟩:=(h.on q).aU r;obtain rfl:=CT hv;have m:=N k r wr q;have c0:=A 0 D;have c1:=A 1 D;let⟨R,T,S,B⟩:=f _ (bM (d:=qc) r);generalize L:ep l k qc=x at c0 c1 m B;simp only[vW,pK]at c0 c1;rw[B]at c1 m;clear L A B;have G:=Z λj (b:j<O l)=>XH (d:=0) b;cases u:p k with
  |true=>
   rw[u]at m;go_wp2_with (first
    |(go_at_fn g;apply m.cL;intro w2 y))
   go_ret;exact⟨wJ (λz=>i5 (J z)) (uB (d:=0) (eI r) (by rw[G.o _ r];exact u) λj b=>by rw[G.o _ Y];exact C j b).symm,q.dd y⟩
  |false=>
   rw[u]at m;go_wp2_with (first
    |(go_at_fn g;apply m.cL;intro w2 y))
   go_roundg (O l-(k+1))
   .exact⟨q.dd y,k+1,Y,rfl,eO,λj b=>by
    by_cases t:j=k
    .subst t;exact u
    .exact C j Y⟩
   omega
 .go_wp2;go_ret;refine⟨wJ (λz=>i5 (J z)) (xK (d:=0) λj b=> ?_).symm,q⟩;rw[List.length_range]at b;rw[XH b];exact C j Y
theorem Tp(v:aF)(l:List (dU×aF))(g:Nat)(b:Array aF)(p:Nat->Bool)(w:aA)(eg:∀args w,(callFunc g args).run prog w= .ok (.enter g args) w)(h:eX vW qc 2 w v l)(d:∀x,x∈l->∃a n c,x.2=hY a n c)(i:Ni g b l p w):
  aH prog 120 #[v,.func (.func g) #[] b] w λe w'=>e=i5 (j4 ((List.range (O l)).any p))/\U w [] w' []:=by
 go_in;go_wp2_with (go_at_call 154;apply(Sf v l g b p w eg h d i).cL;intro w' j);go_ret;exact⟨by rw[<-pD];rfl,j⟩
theorem ZM119{P:Prop}(h:P:=by
  have HV:=Z hv;clear hv h1 h2 h3;go_in;go_wp2;go_ret;exact⟨by rw[HV.o];rfl,(U.refl w []).alloc _⟩):P:=h
theorem ZM146{P:Prop}(h:P:=by
  go_in;go_wp2;go_ret;exact⟨by rw[HV.o];rfl,(U.refl w []).alloc _⟩):P:=h
theorem Fi(v:MU)(w:aA)(hs:v.eR.size<=1048576):
  aH prog 113 #[.agg #[i6 i7 v.aG,i6 i7 v.num,j3 v.eR]] w λe w'=>e=i5 (j4 (iH v))/\U w [] w' []:=by
 by_cases h1:v.aG=1
 .have b:(v.aG==1)=oj:=by rw[JY];exact h1
  by_cases a:v.eR=bO
  .have hl:=nW a;have HV:=Z (show iH v=oj by unfold iH;rw[bR h1];exact kI a);clear h1 a;exact ZM146
  .have hl:=iR a;have g:=pC a;have HV:=Z (show iH v=po by unfold iH;rw[bR h1];exact jO a);clear h1 a;exact ZM146
 .have b:(v.aG==1)=po:=by rw[G9];exact h1
  have hv:iH v=(decide (v.aG=2)&&decide (v.num=0)&&decide (v.eR.size<=64)):=by unfold iH;rw[bD h1]
  by_cases h2:v.aG=2
  .have c:(v.aG==2)=oj:=by rw[JY];exact h2
   by_cases h3:v.num=0
   .have d:(v.num==0)=oj:=by rw[JY];exact h3
    have hv:iH v=decide ((v.eR.size:Int)<=64):=by
     rw[hv,kI h2,kI h3,Bt,Bt,Bu,RK,RK];omega
    exact ZM119
   .have d:(v.num==0)=po:=by rw[G9];exact h3
    have hv:iH v=po:=by rw[hv,jO h3];simp
    exact ZM119
  .have c:(v.aG==2)=po:=by rw[G9];exact h2
   have hv:iH v=po:=by rw[hv,jO h2];simp
   have HV:=Z hv;clear hv h1 h2;exact ZM146
theorem eg(g:Nat)(fn:Func)(c:Code)(d:prog.funcs[g]? =H fn)(b:(fn.name== "runtime.NumGoroutine")=po)(a:fn.body=H c):∀args w,(callFunc g args).run prog w= .ok (.enter g args) w:=enters_of d b a
theorem Nc(x:dU)(w:aA)(hs:x.size<=1048576):aH prog 157 #[j3 x] w λe w'=>e=i5 (j4 (!iT x))/\U w [] w' []:=by
 go_in;go_wp2_with (go_at_call 155;apply(BW _ _ hs).cL;rintro wx rfl);go_ret;exact⟨rfl,U.refl _ _⟩
theorem aE4(v:MU):v=aP↔v.aG=0/\v.num=0/\v.eR.toList=[]:=by
 rw[WS];obtain⟨k,n,s⟩:=v;constructor
 .intro h;injection h with h1 h2 h3;exact⟨h1,h2,h3⟩
 .rintro⟨rfl,rfl,h⟩;dsimp only at h;rw[h];rfl
theorem Vr(t:jF)(w:aA)(hs:t.vY.eR.size<=1048576):
  aH prog 124 #[.agg #[j3 t.var,i6 i7 t.vY.aG,i6 i7 t.vY.num,j3 t.vY.eR]] w λe w'=>e=i5 (j4 (fQ t))/\U w [] w' []:=by
 by_cases hv:t.var=bO
 .have hl:=nW hv;have a:=Z (show fQ t= !iH t.vY by unfold fQ;rw[bD (λh=>h hv)]);clear hv;go_in;go_wp2_with (go_at_call 113;apply(Fi t.vY _ hs).cL;intro wx b);go_ret;exact⟨by rw[a.o];rfl,((U.refl w []).alloc _).dd b⟩
 .have hl:=iR hv;have g:=pC hv;have a:=Z (show fQ t=decide (t.vY≠aP) by unfold fQ;rw[bR hv]);clear hv;go_in;go_wp2;all_goals
   go_ret;refine⟨?_,(U.refl w []).alloc _⟩;rw[a.o];refine wJ (λz=>i5 (j4 z)) ?_;have d:=aE4 t.vY;rw[decide_not,Bu];simp[d, *]
theorem MN(l out:List dU):O (l.foldl gX out)<=O out+O l:=by
 induction l generalizing out with
 |nil=>simp
 |cons a l ih=>
  rw[List.foldl_cons];have b:=ih (gX out a);have c:=(NC out a).2;rw[T9];omega
def BE(q:bB)(k:Nat):List dU:=(q.aD.take k).foldl (λo a=>(bY a).foldl gX o) []
theorem Px{k:Nat}(h:k<O q.aD):BE q (k+1)=(bY (ep q.aD k qc)).foldl gX (BE q k):=by
 unfold BE;rw[fG (d:=qc) h,kr];rfl
theorem Dk(q:bB)(k:Nat):O (BE q k)<=O (q.aD.flatMap (·.aS)):=by
 have a:=P6 ⟨q.name,q.head,q.aD.take k⟩;have d:vars ⟨q.name,q.head,q.aD.take k⟩=BE q k:=rfl;rw[d]at a;rw[a];have b:=gG ((q.aD.take k).flatMap (·.aS)) [];have c:O ((q.aD.take k).flatMap (·.aS))<=O (q.aD.flatMap (·.aS)):=tV _;exact jN (eI b) c
theorem VE{l L:List dU}(h:j<O l):(l.take (j+1)).foldl gX L=gX ((l.take j).foldl gX L) (ep l j bO):=by
 rw[fG (d:=bO) h,kr];rfl
theorem WL(hv av:aF)(ps:List (dU×aF))(q:bB)(w:aA)(h:B9 w hv av ps q):
  aH prog 54 #[.agg #[j3 q.name,hv,av]] w λe w'=>∃u,e=i5 u/\vC w w' u (vars q)/\U w [] w' []:=by
 obtain⟨ha,hc,rfl,-⟩:=h.head.len;obtain⟨aa,ac,rfl,-⟩:=h.aD.len;have l:=h.len;rw[l]at h|-;have nU:=h.dM;have aM0:=nU.aD;have a6i:=nU.aS;let⟨w1,eT⟩:=E (e8 w (h8 #[j3 q.name,hY ha (O q.head) hc,hY aa (O q.aD) ac] 25));have P:=Za eT;have b2:e7 w1 ⟨hJ w.heap,2,K⟩=H (hY aa (O q.aD) ac):=by rw[<-eT];exact aL (lK w _) rfl
 clear l;go_in;go_wp2;go_loopg [3,11] (O q.aD) (λT p i wr=>U w1 [] wr []/\∃(k:Nat),k<=O q.aD/\T=O q.aD-k/\i=J k/\vC w1 wr p (BE q k))
 .exact⟨U.refl _ _,0,Y,rfl,rfl,bG.nil _ _⟩
 obtain⟨R,k,hk,rfl,rfl,f⟩:=hrel;obtain⟨a3,EP,rfl,M6⟩:=f.len;have F:=Z f;clear f;by_cases aV:k<O q.aD
 .let⟨g,o,cap,ta,tc,hg,hv,a0,a1,hT⟩:=(h.on (P.dd R)).o7 aV;obtain rfl:=CT hv;have YS:=jN (F8 aV) nU.aS;have a:=Z (Px aV);have Q5:=Dk q k;generalize hA:ep q.aD k qc=A at a0 a1 hT YS a;clear hA;go_upto_region 5 with(fail);let⟨w5,y⟩:=E (e8 wr (h8 #[j3 A.rel,hY ta (O A.aS) tc] 52));have C:=Za y;have d0:e7 w5 ⟨hJ wr.heap,0,K⟩=H (j3 A.rel):=by rw[<-y];exact aL (lK wr _) rfl
  have d1:e7 w5 ⟨hJ wr.heap,1,K⟩=H (hY ta (O A.aS) tc):=by rw[<-y];exact aL (lK wr _) rfl
  rw[y];have L4:=hT.on C;have nO:=F.o.on C;have z:=(AT _ A.rel A.aS w5 L4 YS);have gD:=(R.dd C);have G:=Z nO;clear y C nO L4 a0 a1 hT F;go_wp2_with (go_at_call 31;apply z.cF;rintro e w6 ⟨u,rfl,t,dK⟩;obtain⟨ua,uc,rfl,-⟩:=t.len;have lL:=G.o.on dK;have lI:=(gD.dd dK);have uL:=Z lL;clear dK lL);have JD:O (bC A.aS [])<=O A.aS:=eI (gG A.aS []);generalize hV:bC A.aS []=V at t JD|-;have a:dT (BE q (k+1)=V.foldl gX (BE q k)):=Z (by rw[a.o,<-hV];rfl);generalize m:BE q k=L0 at a uL Q5 M6|-;have HL0:=Z m;have Nv:dT (∀b,gz (hY a3 (O L0) EP)=H b->b<hJ w5.heap):=Z (by rw[m]at G;exact G.o.1.lt);clear hV m z gD G d0 d1;go_loopg [3,18] (O V) (λT p i wx=>U w1 [] wx []/\∃(j:Nat),j<=O V/\T=O V-j/\i=J j/\vC w1 wx p ((V.take j).foldl gX L0)/\vC w5 wx (hY ua (O V) uc) V/\∀b,gz p=H b->gz (hY ua (O V) uc)≠H b)
  .exact⟨lI,0,Y,rfl,rfl,uL.o,t,λb v N=>by
   have h1:=t.2 b N;have h2:=Nv.o b v;omega⟩
  obtain⟨W,j,hj,rfl,rfl,Q,c,dW⟩:=hrel;obtain⟨a7,a8U,rfl,hm7⟩:=Q.len;have OA:=MN (V.take j) L0;rw[VQ]at OA;have n:=Z Q;have s:=Z dW;clear Q dW;by_cases EL:j<O V
  .let⟨gx,ox,cx,Gw,I8⟩:=c.rd.DR EL;obtain rfl:=CT Gw;have d:=Z (VE (L:=L0) EL);let⟨x,S⟩:=E (ep V j bO);simp only[xR,S]at I8;rw[S]at d;generalize hM:(V.take j).foldl gX L0=M at d n hm7 OA s|-;clear S hM;by_cases r:x∈M
   .have d:dT ((V.take (j+1)).foldl gX L0=M):=Z (by rw[d.o];exact bR r);have hd:=kI r;clear r;go_wp2_with (go_at_call 57;apply(nY _ _ _ _ n.o.rd).cL;rintro w2 rfl);go_roundg (O V-(j+1))
    .exact⟨W,j+1,Y,rfl,eO,by rw[d.o];exact n.o,c,s.o⟩
    omega
   .have d:dT ((V.take (j+1)).foldl gX L0=M++[x]):=Z (by rw[d.o];exact bD r);have hd:=jO r;clear r;go_wp2_with (first
     |(at_builtin;refine cK aIS rfl _ _ rfl n.o W Yr [j3 x] x Yr rfl (dH rfl) rfl Y F4 ?_;rintro g2 gI w3 pV cU B-;have nR:=Z pV;clear pV)
     |(go_at_call 57;apply(nY _ _ _ _ n.o.rd).cL;rintro w2 rfl))
    go_roundg (O V-(j+1))
    .refine⟨cU,j+1,Y,rfl,eO,by rw[d.o];exact nR.o,c.eF B λb v hm=>s.o b (eI hm) v,λb v N=> ?_⟩;obtain rfl:g2=b:=by simpa[gz]using v
     rcases B.fresh g2 X with h1|h1
     .exact s.o g2 (eI h1) N
     .have:=c.1.lt g2 N;omega
    omega
  .obtain rfl:j=O V:=Y;rw[R9,<-a.o]at n|-;go_wp2;go_roundg (O q.aD-(k+1))
   .exact⟨W,k+1,Y,rfl,eO,n.o⟩
   omega
 .obtain rfl:k=O q.aD:=Y;have hvs:BE q (O q.aD)=vars q:=by unfold BE;rw[R9];rfl
  rw[hvs]at F|-;go_wp2;go_ret;exact⟨_,rfl,F.o.eE P.size,P.dd R⟩
variable{cap':Nat}
theorem eX.Qg{α:Type}{f:α->Nat->aF}{d:α}{a:Option cj}{l:List α}(h:eX f d sz w (hY a n cap) l){k:Nat}(b:k<=O l)(ha:a=K->cap'=0):eX f d sz w (hY a k cap') (l.take k):=by
 have g:n=O l:=by
  obtain⟨a',c',hv,_⟩:=h.len;injection hv
 subst g;unfold eX;rw[VQ,Nat.min_eq_left b];refine (Rd.take h b ha).congr λi j c _=> ?_;have:ep (l.take k) i d=ep l i d:=by
  rw[iB,List.getElem?_take,bR c,<-iB]
 rw[this]
def CM:aF->Prop
 |hY _ n c=>n<=c
 |_=>True
theorem bG.Vf{α:Type}{f:α->Nat->aF}{d:α}{e:ap}{l:List α}(h:bG f d e sz w0 w v l):CM v:=by
 rcases h.1 with⟨rfl,_⟩|⟨g,cap,cur,rfl,_,a,_⟩
 .exact fV _
 .exact a
theorem Uv(v:aF)(l:List dU)(w:aA)(h:II w v l)(iW:CM v):
  aH prog 126 #[v] w λe w'=>∃n:Int,e=i5 (i6 i7 n)/\decide (0<=n)=nQ l/\w=w':=by
 obtain⟨a,cap,rfl,r⟩:=h.len;unfold bw at r;go_in;go_wp2;go_loopg [7] (O l) (λA i wr=>w=wr/\∃k:Nat,k<=O l/\A=O l-k/\i=J k/\∀j,j<k->ep l j bO∉l.take j)
 .exact⟨rfl,0,Y,rfl,rfl,λj d=>Y⟩
 obtain⟨rfl,k,y,rfl,rfl,m⟩:=hrel;by_cases p:k<O l
 .let⟨g,o,cap',hv,B⟩:=h.DR p;obtain rfl:=CT hv;have F:=jN y iW;have q:=(h.Qg (k:=k) (cap':=cap) Y (λe=>by cases e));let⟨x,c⟩:=E (ep l k bO);simp only[xR,c]at B;by_cases b:x∈l.take k
  .have hd:=kI b;have u:=(Ai p (c▸b));clear b;go_wp2_with (go_at_call 57;refine(nY _ _ _ _ q).mono ?_;rintro e w2 ⟨rfl,rfl⟩);go_ret;exact⟨k,rfl,u▸kI Y,rfl⟩
  .have hd:=jO b;have C:=Z b;clear b;go_wp2_with (go_at_call 57;refine(nY _ _ _ _ q).mono ?_;rintro e w2 ⟨rfl,rfl⟩);go_roundg (O l-(k+1))
   .exact⟨rfl,k+1,Y,rfl,eO,λj d=>by
    by_cases z:j=k
    .subst z;rw[c];exact C.o
    .exact m j Y⟩
   omega
 .go_wp2;go_ret;exact⟨-1,rfl,by rw[Aj λj d=>m j Y];rfl,rfl⟩
theorem Cx(hv av:aF)(ps:List (dU×aF))(q:bB)(w:aA)(h:B9 w hv av ps q):
  tR 127 #[.agg #[j3 q.name,hv,av]] w λe w'=>∃n:Int,e=i5 (i6 i7 n)/\decide (0<=n)=q.head.any (λh=>decide (h∉vars q))/\U w [] w' []:=by
 obtain⟨ha,p,rfl,-⟩:=h.head.len;obtain⟨y,r,rfl,-⟩:=h.aD.len;have a:=h.len;rw[a]at h|-;let⟨w1,d⟩:=E (e8 w (h8 #[j3 q.name,hY ha (O q.head) p,hY y (O q.aD) r] 25));have A:=Za d;have b0:e7 w1 ⟨w,0,K⟩=H (j3 q.name):=d▸aL (lK w _) rfl;have i:e7 w1 ⟨w,1,K⟩=H (hY ha (O q.head) p):=d▸aL (lK w _) rfl;have b2:e7 w1 ⟨w,2,K⟩=H (hY y (O q.aD) r):=d▸aL (lK w _) rfl;clear a;go_enter func127,ntmps127;go_upto_region 2 with(go_at_call 54;apply ((WL _ _ ps q w1 (h.on A))).cF;rintro e w2 ⟨u,rfl,c,m⟩;obtain⟨ua,uc,rfl,-⟩:=c.len;have i:=m.cell i X;have z:=(A.dd m);clear m);let⟨B,l⟩:=E (hJ w2.heap);let⟨w3,g⟩:=E (e8 w2 (h8 #[hY ua (O (vars q)) uc] 22));have b:=Za g;have v:=Ze g l;rw[g,l];have i:=b.cell i X;have G:=Z (YN (hY ha (O q.head) p) q.head 160 #[Pt B] (λh=>decide (h∉vars q)) w3 (enters_of func160 dB rfl) (h.head.on (z.dd b)) λx hx wz hz=>by
  have c0:=aL (hz.aC v X) (j:=0) rfl;show tR 160 #[j3 x,Pt B] wz _;go_enter func160,ntmps160;go_wp2_with (go_at_call 57;apply(nY _ _ _ _ ((c.rd.on b).on hz)).cL;rintro w2 rfl);go_ret;exact⟨by rw[decide_not];rfl,U.refl _ _⟩)
 have F:=(z.dd b);clear b g l v;go_wp2_with (go_at_call 159;apply G.cL;intro w4 f);go_ret;exact⟨_,rfl,(pD _ _).dd (by simp only[decide_not]),F.dd f⟩
theorem ZM108{P:Prop}(h:P:=by
  go_roundg (O A.aS-(j+1))
  .exact⟨G6,HT8,j+1,Y,rfl,eO,by rw[A5,<-Bool.or_assoc,hBj,HF];rfl⟩
  omega):P:=h
def fT(t:jF):Bool:=decide (t.var≠bO)&& !iT t.var
def fA(a:oL):Bool:= !iT a.rel||a.aS.any fT
def aE9(q:bB):Bool:= !iT q.name||q.head.any λh=> !iT h
theorem Vt(q:bB):CG q=(aE9 q||q.aD.any fA):=rfl
theorem Vs(hv av:aF)(ps:List (dU×aF))(q:bB)(w:aA)(h:B9 w hv av ps q):
  aH prog 121 #[.agg #[j3 q.name,hv,av]] w λe w'=>e=i5 (j4 (CG q))/\U w [] w' []:=by
 obtain⟨ha,a,rfl,-⟩:=h.head.len;obtain⟨W,V,rfl,-⟩:=h.aD.len;have c:=h.len;rw[c]at h|-;have d:=h.dM;have aM0:=d.aD;have r:q.name.size<=1048576:=d.CU _ (rg ..);let⟨w1,u⟩:=E (e8 w (h8 #[j3 q.name,hY ha (O q.head) a,hY W (O q.aD) V] 25));have z:=Za u;have b0:e7 w1 ⟨hJ w.heap,0,K⟩=H (j3 q.name):=by rw[<-u];exact aL (lK w _) rfl
 have b1:e7 w1 ⟨hJ w.heap,1,K⟩=H (hY ha (O q.head) a):=by rw[<-u];exact aL (lK w _) rfl
 have b2:e7 w1 ⟨hJ w.heap,2,K⟩=H (hY W (O q.aD) V):=by rw[<-u];exact aL (lK w _) rfl
 have T:=Z (ew (hY ha (O q.head) a) q.head 157 #[] (λh=> !iT h) w1 (enters_of func157 dB rfl) (h.head.on z) λx hx wz hz=>
  Nc x wz (d.CU _ (by simp[bB.CU];exact .inr (.inl hx))))
 clear c;go_in;go_upto_region 1 with(fail);go_cut [3] (λB wx=>B=j4 (aE9 q)/\U w1 [] wx [])
 case first=>
  cases hn:iT q.name with
  |true=>
   have p:=Z hn;go_wp2_with (first
    |(go_at_call 155;apply(BW _ _ r).cL;rintro wx rfl;rw[p.o])
    |(go_at_call 156;apply T.o.cL;intro w2 v))
   go_meet;exact⟨by unfold aE9;rw[p.o];rfl,v⟩
  |false=>
   have p:=Z hn;go_wp2_with (go_at_call 155;apply(BW _ _ r).cL;rintro wx rfl;rw[p.o]);go_meet;exact⟨by unfold aE9;rw[p.o];rfl,U.refl _ _⟩
 case rest=>
  obtain⟨rfl,v⟩:=hcut;have b2:=v.cell b2 X;let⟨S,P⟩:=E (aE9 q);rw[P];clear T b0 b1;go_wp2;go_loopg [3,20] (O q.aD) (λG b i wr=>U w1 [] wr []/\∃(k:Nat),k<=O q.aD/\G=O q.aD-k/\i=J k/\b=j4 (S||(q.aD.take k).any fA))
  .exact⟨v,0,Y,rfl,rfl,X⟩
  obtain⟨F,k,hk,rfl,rfl,rfl⟩:=hrel;by_cases n:k<O q.aD
  .let⟨g,o,cap,ta,L,hg,hv,a0,a1,hT⟩:=(h.on (z.dd F)).o7 n;obtain rfl:=CT hv;have m:=d.rel n;have zM:=(λj=>d.aLZ (j:=j) n);have YS:=jN (F8 n) d.aS;have HA:=(Az fA qc n);generalize hA:ep q.aD k qc=A at a0 a1 hT m YS HA zM;let⟨qL,Xv⟩:=E ((S||(q.aD.take k).any fA));rw[Xv];clear hA;go_upto_region 5 with(fail);let⟨w5,l⟩:=E (e8 wr (h8 #[j3 A.rel,hY ta (O A.aS) L] 52));have C:=Za l;have d0:e7 w5 ⟨hJ wr.heap,0,K⟩=H (j3 A.rel):=by rw[<-l];exact aL (lK wr _) rfl
   have d1:e7 w5 ⟨hJ wr.heap,1,K⟩=H (hY ta (O A.aS) L):=by rw[<-l];exact aL (lK wr _) rfl
   rw[l];have UN:=(hT.on C);have gD:=(F.dd C);clear l C a0 a1;go_cut [3] (λB wx=>B=j4 (qL|| !iT A.rel)/\w5=wx)
   case first=>
    cases qL with
    |true=>
     go_wp2;go_meet;exact⟨rfl,rfl⟩
    |false=>
     go_wp2_with (go_at_call 155;apply(BW _ _ m).cL;rintro wx rfl);go_meet;exact⟨rfl,rfl⟩
   case rest=>
    obtain⟨rfl,rfl⟩:=hcut;let⟨B1,R⟩:=E ((qL|| !iT A.rel));rw[R];go_wp2;go_loopg [3,34] (O A.aS) (λG b i wx=>U w1 [] wx []/\zB wx (hY ta (O A.aS) L) A.aS/\∃(j:Nat),j<=O A.aS/\G=O A.aS-j/\i=J j/\b=j4 (B1||(A.aS.take j).any fT))
    .exact⟨gD,UN,0,Y,rfl,rfl,X⟩
    obtain⟨fM,f,j,hj,rfl,rfl,rfl⟩:=hrel;by_cases N:j<O A.aS
    .let⟨gx,ox,cx,Gw,_,a⟩:=f.aU N;obtain rfl:=CT Gw;have A5:=(Az fT qc N);have c0:=a 0 D;have c1:=a 1 D;have c2:=a 2 D;have c3:=a 3 D;have Q:=(zM j N).1;simp only[jF.cell,pK]at c0 c1 c2 c3;generalize ht:ep A.aS j qc=t at c0 c1 c2 c3 A5 Q;let⟨Bj,hBj⟩:=E ((B1||(A.aS.take j).any fT));rw[hBj];clear a ht;go_upto_region 9 with(fail);let⟨w8,y⟩:=E (e8 wr (h8 #[j3 t.var,J t.vY.aG,J t.vY.num,j3 t.vY.eR] 67));have s:=Za y;have e0:e7 w8 ⟨hJ wr.heap,0,K⟩=H (j3 t.var):=by rw[<-y];exact aL (lK wr _) rfl
     rw[y];have G6:=(fM.dd s);have HT8:=(f.on s);clear y s c0 c1 c2 c3;cases Bj with
     |true=>
      go_wp2;go_roundg (O A.aS-(j+1))
      .exact⟨G6,HT8,j+1,Y,rfl,eO,by rw[A5,<-Bool.or_assoc,hBj];rfl⟩
      omega
     |false=>
      by_cases hv:t.var=bO
      .have hl:=nW hv;have HF:=(show fT t=po by unfold fT;rw[jO (λh=>h hv)];rfl);clear hv;go_wp2;exact ZM108
      .have hl:=iR hv;have GD:=pC hv;have HF:=(show fT t= !iT t.var by unfold fT;rw[kI hv];rfl);clear hv;go_wp2_with (go_at_call 155;apply(BW _ _ Q).cL;rintro wx rfl);exact ZM108
    .obtain rfl:j=O A.aS:=Y;rw[R9];go_wp2;go_roundg (O q.aD-(k+1))
     .exact⟨fM,k+1,Y,rfl,eO,by rw[HA,<-Bool.or_assoc,Xv,<-R,Bool.or_assoc];rfl⟩
     omega
  .obtain rfl:k=O q.aD:=Y;rw[R9];go_wp2;go_ret;exact⟨by rw[Vt,P];rfl,z.dd F⟩
variable{ps:List (dU×aF)}{av hv:aF}
theorem ZM24{P:Prop}(h:P:=by
  go_in;go_wp2_with (first
   |(go_at_call 127;apply(HUV.o _ gD.o).cF;rintro e w6 ⟨n6,rfl,I6,hU⟩;rw[zO.o]at I6;have lI:=Z (gD.o.dd hU);clear hU)
   |(go_at_call 126;apply(HDB.o _ kQ.o).cF;rintro e w5 ⟨n5,rfl,Ce,rfl⟩;rw[yP.o]at Ce;have gD:=kQ)
   |(go_at_call 119;apply(CJ.o _ gZ.o).cL;intro w4 hU;rw[JW.o];let⟨b0,b1,b2⟩:=hU.R7 b0 b1 b2;have kQ:=Z (gZ.o.dd hU);clear hU)
   |(go_at_call 119;apply(rT.o _ eM.o).cL;intro w3 hU;rw[F3.o];let⟨b0,b1,b2⟩:=hU.R7 b0 b1 b2;have gZ:=Z (eM.o.dd hU);clear hU)
   |(go_at_call 121;apply(lC.o _ (U.refl _ _)).cL;intro w2 hU;rw[jG.o];let⟨b0,b1,b2⟩:=hU.R7 b0 b1 b2;have eM:=Z hU;clear hU))
  go_ret;exact⟨by rw[JS.o,jG.o,F3.o,bD HN.o,JW.o,yP.o,zO.o];rfl,oN.o.dd lI.o⟩):P:=h
theorem ZM25{P:Prop}(h:P:=by
  go_in;go_wp2_with (first
   |(go_at_call 127;apply(HUV.o _ gD.o).cF;rintro e w6 ⟨n6,rfl,I6,hU⟩;rw[zO.o]at I6;have lI:=Z (gD.o.dd hU);clear hU)
   |(go_at_call 126;apply(HDB.o _ kQ.o).cF;rintro e w5 ⟨n5,rfl,Ce,rfl⟩;rw[yP.o]at Ce;have gD:=kQ)
   |(go_at_call 119;apply(CJ.o _ gZ.o).cL;intro w4 hU;rw[JW.o];let⟨b0,b1,b2⟩:=hU.R7 b0 b1 b2;have kQ:=Z (gZ.o.dd hU);clear hU)
   |(go_at_call 119;apply(rT.o _ eM.o).cL;intro w3 hU;rw[F3.o];let⟨b0,b1,b2⟩:=hU.R7 b0 b1 b2;have gZ:=Z (eM.o.dd hU);clear hU)
   |(go_at_call 121;apply(lC.o _ (U.refl _ _)).cL;intro w2 hU;rw[jG.o];let⟨b0,b1,b2⟩:=hU.R7 b0 b1 b2;have eM:=Z hU;clear hU))
  go_ret;exact⟨by rw[JS.o,jG.o,F3.o,bR HN.o];rfl,oN.o.dd gZ.o⟩):P:=h
theorem B9.aL4(h:B9 w hv av ps q):∀x,x∈ps->∃a n c,x.2=hY a n c:=λx e=>by
 obtain⟨i,d,rfl⟩:=Pn e;have:=(h.j5 i (h.len▸d)).2;obtain⟨a,c,b,-⟩:=this.len;rw[iB,kX d,NQ]at b;exact⟨a,_,c,b⟩
theorem jg{α:Type}(l:List α)(d:α)(F:α->Bool):((List.range (O l)).any λi=>F (ep l i d))=l.any F:=by
 rw[Bu,kq,kq];constructor
 .rintro⟨i,a,h⟩;exact⟨_,bM (yD.1 a),h⟩
 .rintro⟨x,b,h⟩;obtain⟨i,a,rfl⟩:=Pn b;refine⟨i,yD.2 a,?_⟩;rw[iB,kX a];exact h
theorem Zq(rel:dU)(v:aF)(ts:List jF)(w:aA)(h:zB w v ts)(hs:∀t,t∈ts->t.vY.eR.size<=1048576):
  aH prog 122 #[.agg #[j3 rel,v]] w λe w'=>e=i5 (j4 (ts.any fQ))/\U w [] w' []:=by
 obtain⟨a,cap,rfl,-⟩:=h.len;have b:U w [] (e8 w (h8 #[j3 rel,hY a (O ts) cap] 52)) []:=(U.refl w []).alloc _;have c:=Z (Tm (hY a (O ts) cap) ts 124 #[] fQ _ (enters_of func124 dB rfl) (h.on b) λx hx wz hz=>Vr x wz (hs x hx));clear h;go_in;go_wp2_with (go_at_call 123;apply c.cL;intro w2 d);go_ret;exact⟨rfl,b.dd d⟩
theorem Zp(rel:dU)(v:aF)(ts:List jF)(w:aA)(h:zB w v ts):
  aH prog 125 #[.agg #[j3 rel,v]] w λe w'=>e=i5 (j4 (decide (5<O ts)))/\U w [] w' []:=by
 obtain⟨a,cap,rfl,b⟩:=h.len;unfold bw at b;clear h;have hd:decide (5<O ts)=decide ((5:Int)<(O ts:Int)):=by rw[Bu,RK,RK];omega
 go_in;go_wp2;go_ret;exact⟨by rw[hd];rfl,(U.refl w []).alloc _⟩
theorem X6(hv av:aF)(ps:List (dU×aF))(q:bB)(B:Nat)(w:aA)(h:B9 w hv av ps q)(l:e7 w ⟨B,2,K⟩=H av)(g:Nat)(F:oL->Bool)(eg:∀args w,(callFunc g args).run prog w= .ok (.enter g args) w)(d:∀i,i<O q.aD->∀v,∀a,zB a v (ep q.aD i qc).aS->aH prog g #[.agg #[j3 (ep q.aD i qc).rel,v]] a λe w'=>e=i5 (j4 (F (ep q.aD i qc)))/\U a [] w' []):
  aH prog 119 #[.func (.func g) #[] #[],h9 (H ⟨B,0,K⟩)] w λe w'=>e=i5 (j4 (q.aD.any F))/\U w [] w' []:=by
 obtain⟨x,u,rfl,-⟩:=h.aD.len;have c:Ni g #[] ps (λi=>F (ep q.aD i qc)) w:=λi b a r=>by
  let⟨m,n⟩:=h.j5 i (h.len▸b);have:=d i (h.len▸b) (ep ps i qc).2 a (n.on r);rw[<-m]at this;exact this
 have j:=Z (Tp _ ps g #[] _ w eg h.aD h.aL4 c);rw[h.len,jg q.aD qc F]at j;rw[h.len]at l;clear h c d;go_in;go_wp2_with (go_at_call 120;apply j.cL;intro w2 p);go_ret;exact⟨rfl,p⟩
theorem XR(hv av:aF)(ps:List (dU×aF))(q:bB)(w:aA)(h:B9 w hv av ps q)(iW:CM hv):
  aH prog 86 #[.agg #[j3 q.name,hv,av]] w λe w'=>e=i5 (i6 i7 (fJ q))/\U w [] w' []:=by
 obtain⟨ha,L,rfl,-⟩:=h.head.len;obtain⟨k,C,rfl,-⟩:=h.aD.len;have d:=h.len;have o:=h.dM;have V:=o.aD;rw[d]at h|-;let⟨w1,n⟩:=E (e8 w (h8 #[j3 q.name,hY ha (O q.head) L,hY k (O q.aD) C] 25));have r:=Za n;have b0:e7 w1 ⟨hJ w.heap,0,K⟩=H (j3 q.name):=by rw[<-n];exact aL (lK w _) rfl
 have b1:e7 w1 ⟨hJ w.heap,1,K⟩=H (hY ha (O q.head) L):=by rw[<-n];exact aL (lK w _) rfl
 have b2:e7 w1 ⟨hJ w.heap,2,K⟩=H (hY k (O q.aD) C):=by rw[<-n];exact aL (lK w _) rfl
 have g:=h.on r;have lC:=Z λb (c:U w1 [] b [])=>Vs _ _ ps q b (g.on c);have rT:=Z λb (c:U w1 [] b [])=>X6 _ _ ps q w.heap.size b (g.on c) (c.cell b2 X) 122 (λa=>a.aS.any fQ) (enters_of func122 dB rfl) λi F v wy u=>Zq _ v _ wy u λt N=>by
  obtain⟨j,B,rfl⟩:=Pn N;have:=(o.aLZ F B).2;rwa[iB (l:=(ep q.aD i qc).aS),kX B]at this
 have CJ:=Z λb (c:U w1 [] b [])=>X6 _ _ ps q w.heap.size b (g.on c) (c.cell b2 X) 125 (λa=>decide (5<O a.aS)) (enters_of func125 dB rfl) λi F v wy u=>Zp _ v _ wy u;have HDB:=Z λb (c:U w1 [] b [])=>Uv _ _ b (g.on c).head iW;have HUV:=Z λb (c:U w1 [] b [])=>Cx _ _ ps q b (g.on c);have oN:=Z r;have m:fJ q=if CG q then 72 else if q.aD.any (λa=>a.aS.any fQ)then 21 else if O q.aD=0\/6<O q.aD then 90
  else if q.aD.any (λa=>decide (5<O a.aS))then 91 else if nQ q.head then 92 else if q.head.any (λh=>decide (h∉vars q))then 93 else 0:=rfl
 have JS:=Z m;clear h g r d m iW;let⟨B1,z⟩:=E (CG q);let⟨T,A⟩:=E ((q.aD.any λa=>a.aS.any fQ));let⟨P,x⟩:=E ((q.aD.any λa=>decide (5<O a.aS)));let⟨f,G⟩:=E (nQ q.head);let⟨Q,y⟩:=E ((q.head.any λh=>decide (h∉vars q)));have jG:=Z z;have F3:=Z A;have JW:=Z x;have yP:=Z G;have zO:=Z y;clear z A x G y;cases B1 with
 |true=>
  go_in;go_wp2_with (first
   |(go_at_call 127;apply(HUV.o _ gD.o).cF;rintro e w6 ⟨n6,rfl,I6,hU⟩;rw[zO.o]at I6;have lI:=Z (gD.o.dd hU);clear hU)
   |(go_at_call 126;apply(HDB.o _ kQ.o).cF;rintro e w5 ⟨n5,rfl,Ce,rfl⟩;rw[yP.o]at Ce;have gD:=kQ)
   |(go_at_call 119;apply(CJ.o _ gZ.o).cL;intro w4 hU;rw[JW.o];let⟨b0,b1,b2⟩:=hU.R7 b0 b1 b2;have kQ:=Z (gZ.o.dd hU);clear hU)
   |(go_at_call 119;apply(rT.o _ eM.o).cL;intro w3 hU;rw[F3.o];let⟨b0,b1,b2⟩:=hU.R7 b0 b1 b2;have gZ:=Z (eM.o.dd hU);clear hU)
   |(go_at_call 121;apply(lC.o _ (U.refl _ _)).cL;intro w2 hU;rw[jG.o];let⟨b0,b1,b2⟩:=hU.R7 b0 b1 b2;have eM:=Z hU;clear hU))
  go_ret;exact⟨by rw[JS.o,jG.o];rfl,oN.o.dd eM.o⟩
 |false=>
  cases T with
  |true=>
   go_in;go_wp2_with (first
    |(go_at_call 127;apply(HUV.o _ gD.o).cF;rintro e w6 ⟨n6,rfl,I6,hU⟩;rw[zO.o]at I6;have lI:=Z (gD.o.dd hU);clear hU)
    |(go_at_call 126;apply(HDB.o _ kQ.o).cF;rintro e w5 ⟨n5,rfl,Ce,rfl⟩;rw[yP.o]at Ce;have gD:=kQ)
    |(go_at_call 119;apply(CJ.o _ gZ.o).cL;intro w4 hU;rw[JW.o];let⟨b0,b1,b2⟩:=hU.R7 b0 b1 b2;have kQ:=Z (gZ.o.dd hU);clear hU)
    |(go_at_call 119;apply(rT.o _ eM.o).cL;intro w3 hU;rw[F3.o];let⟨b0,b1,b2⟩:=hU.R7 b0 b1 b2;have gZ:=Z (eM.o.dd hU);clear hU)
    |(go_at_call 121;apply(lC.o _ (U.refl _ _)).cL;intro w2 hU;rw[jG.o];let⟨b0,b1,b2⟩:=hU.R7 b0 b1 b2;have eM:=Z hU;clear hU))
   go_ret;exact⟨by rw[JS.o,jG.o,F3.o];rfl,oN.o.dd gZ.o⟩
  |false=>
   by_cases p:O q.aD=0
   .have R:((O q.aD:Int)==0)=oj:=j7 JY;have HN:=Z (show O q.aD=0\/6<O q.aD from .inl p);clear p;exact ZM25
   .have R:((O q.aD:Int)==0)=po:=j7 G9;by_cases I6:6<O q.aD
    .have S:decide ((6:Int)<(O q.aD:Int))=oj:=kI Y;have HN:=Z (show O q.aD=0\/6<O q.aD from .inr I6);clear p I6;exact ZM25
    .have S:decide ((6:Int)<(O q.aD:Int))=po:=jO Y;have HN:=Z (show¬(O q.aD=0\/6<O q.aD) by omega);clear p I6;cases P with
     |true=>
      go_in;go_wp2_with (first
       |(go_at_call 127;apply(HUV.o _ gD.o).cF;rintro e w6 ⟨n6,rfl,I6,hU⟩;rw[zO.o]at I6;have lI:=Z (gD.o.dd hU);clear hU)
       |(go_at_call 126;apply(HDB.o _ kQ.o).cF;rintro e w5 ⟨n5,rfl,Ce,rfl⟩;rw[yP.o]at Ce;have gD:=kQ)
       |(go_at_call 119;apply(CJ.o _ gZ.o).cL;intro w4 hU;rw[JW.o];let⟨b0,b1,b2⟩:=hU.R7 b0 b1 b2;have kQ:=Z (gZ.o.dd hU);clear hU)
       |(go_at_call 119;apply(rT.o _ eM.o).cL;intro w3 hU;rw[F3.o];let⟨b0,b1,b2⟩:=hU.R7 b0 b1 b2;have gZ:=Z (eM.o.dd hU);clear hU)
       |(go_at_call 121;apply(lC.o _ (U.refl _ _)).cL;intro w2 hU;rw[jG.o];let⟨b0,b1,b2⟩:=hU.R7 b0 b1 b2;have eM:=Z hU;clear hU))
      go_ret;exact⟨by rw[JS.o,jG.o,F3.o,bD HN.o,JW.o];rfl,oN.o.dd kQ.o⟩
     |false=>
      cases f with
      |true=>
       go_in;go_wp2_with (first
        |(go_at_call 127;apply(HUV.o _ gD.o).cF;rintro e w6 ⟨n6,rfl,I6,hU⟩;rw[zO.o]at I6;have lI:=Z (gD.o.dd hU);clear hU)
        |(go_at_call 126;apply(HDB.o _ kQ.o).cF;rintro e w5 ⟨n5,rfl,Ce,rfl⟩;rw[yP.o]at Ce;have gD:=kQ)
        |(go_at_call 119;apply(CJ.o _ gZ.o).cL;intro w4 hU;rw[JW.o];let⟨b0,b1,b2⟩:=hU.R7 b0 b1 b2;have kQ:=Z (gZ.o.dd hU);clear hU)
        |(go_at_call 119;apply(rT.o _ eM.o).cL;intro w3 hU;rw[F3.o];let⟨b0,b1,b2⟩:=hU.R7 b0 b1 b2;have gZ:=Z (eM.o.dd hU);clear hU)
        |(go_at_call 121;apply(lC.o _ (U.refl _ _)).cL;intro w2 hU;rw[jG.o];let⟨b0,b1,b2⟩:=hU.R7 b0 b1 b2;have eM:=Z hU;clear hU))
       go_ret;exact⟨by rw[JS.o,jG.o,F3.o,bD HN.o,JW.o,yP.o];rfl,oN.o.dd gD.o⟩
      |false=>
       cases Q with
       |true=>
        exact ZM24
       |false=>
        exact ZM24
variable{vs:List dU}
theorem aCd{a:Nat}(ha:a<4294967296)(c:b<4294967296):fD a b=a&&&(4294967295-b):=by
 refine Fb λv=> ?_;rw[cI,Nat.testBit_and,show 4294967295-b=2^32-(b+1) by omega,Nat.testBit_two_pow_sub_succ (show b<2^32 from c)];by_cases h:v<32
 .simp[h]
 .have:a.testBit v=po:=zbN (wM ha (jN (by decide:4294967296<=2^32) (Cr D Y)));simp[this]
theorem yS(a b:Nat)(ha:a<4294967296)(c:b<4294967296):Go.bits .andNot kd (a:Int) (b:Int)=((fD a b:Nat):Int):=by
 rw[aCd ha c,u32_andNot_nat a b ha c]
def K2(vs cY:List dU)(k:Nat):Nat:=(cY.take k).foldl (λs n=>s|||2^vs.idxOf n) 0
theorem X7{cY:List dU}{k:Nat}(h:k<O cY):K2 vs cY (k+1)=K2 vs cY k|||2^vs.idxOf (ep cY k bO):=by
 unfold K2;rw[fG (d:=bO) h,kr];rfl
theorem X8{cY:List dU}(hv:O vs<=30)(a:∀x,x∈cY->x∈vs):∀k,K2 vs cY k<2^30
 |0=>by show 0<2^30;decide
 |k+1=>by
  rcases WB k (O cY) with h|h
  .rw[X7 h];refine Nat.or_lt_two_pow (X8 hv a k) (Nat.pow_lt_pow_right D ?_);have:=List.idxOf_lt_length_iff.2 (a _ (bM (d:=bO) h));omega
  .have:K2 vs cY (k+1)=K2 vs cY k:=by unfold K2;rw[zdH Y,zdH h]
   rw[this];exact X8 hv a k
theorem Gf(v:aF)(cY:List dU)(B:Nat)(vv:aF)(vs:List dU)(w:aA)(h:II w v cY)(N:e7 w ⟨B,0,K⟩=H vv)(r:II w vv vs)(hd:vs.Nodup)(n:O vs<=30)(p:∀x,x∈cY->x∈vs)(hl:O cY<=1048576):
  aH prog 87 #[v,h9 (H ⟨B,0,K⟩)] w λe w'=>e=i5 (i6 kd (sV vs cY:Int))/\w=w':=by
 obtain⟨a,cap,rfl,-⟩:=h.len;obtain⟨va,vc,rfl,-⟩:=r.len;have F:=(Kp hd p);have G:=(X8 n p);clear hd;go_in;go_wp2;go_loopg [4,9] (O cY) (λA s i wr=>w=wr/\∃k:Nat,k<=O cY/\A=O cY-k/\i=J k/\s=i6 kd (K2 vs cY k:Int))
 .exact⟨rfl,0,Y,rfl,rfl,rfl⟩
 obtain⟨rfl,k,f,rfl,rfl,rfl⟩:=hrel;by_cases m:k<O cY
 .let⟨g,o,cap',hv,t⟩:=h.DR m;obtain rfl:=CT hv;have c:=p _ (bM (d:=bO) m);have j:=Z (X7 (vs:=vs) m);have hs:=G k;let⟨x,l⟩:=E (ep cY k bO);simp only[xR,l]at t;rw[l]at c j;have b:vs.idxOf x<32:=nA (List.idxOf_lt_length_iff.2 c);have u:=Z λwz (L:II wz (hY va (O vs) vc) vs)=>(BI (hY va (O vs) vc) vs x wz L).mono λe w' h=>dX (h.1.dd (by rw[W8 c])) h.2;generalize y:vs.idxOf x=i at b j u;obtain⟨s,q⟩:∃s,K2 vs cY k=s:=⟨_,rfl⟩;rw[q]at hs j|-;clear l c y q;go_wp2_with (go_at_call 30;apply(u.o _ r).cL;rintro w2 rfl);go_roundg (O cY-(k+1))
  .exact⟨by trivial,k+1,by omega,rfl,eO,by
   have P:2^i<4294967296:=Xc (Nat.pow_lt_pow_right (by decide) b:2^i<2^32) (by decide);have C:s<4294967296:=Nat.lt_trans hs (by decide);rw[j.o,GW b,u32_or_nat _ _ C P]⟩
  omega
 .obtain rfl:k=O cY:=by omega
  have z:K2 vs cY (O cY)=sV vs cY:=by unfold K2;rw[R9];exact F
  rw[z];go_wp2;go_ret;exact⟨rfl,rfl⟩
theorem aG0(h:n<=30):((2:Int)^n%4294967296-1)%4294967296=((2^n-1:Nat):Int):=by
 rw[GW (show n<32 by omega)];have a:2^n<4294967296:=Xc (Nat.pow_lt_pow_right (by decide) (show n<32 by omega):2^n<2^32) (by decide);have b:=Nat.two_pow_pos n;generalize 2^n=m at*;omega
theorem aIc(v:aF)(n:Nat)(w:aA)(b:n<=30)(hv:∃a k c,v=hY a k c):
  aH prog 133 #[.agg #[i6 i7 n,v]] w λe w'=>e=i5 (i6 kd ((2^n-1:Nat):Int))/\U w [] w' []:=by
 obtain⟨a,k,c,rfl⟩:=hv;have g:n<32:=Y;go_in;go_wp2;go_ret;exact⟨by rw[<-(aG0 b)];rfl,(U.refl w []).alloc _⟩
theorem aCc(h:e<2^n):fD e (2^n-1)=0:=by
 refine Fb λv=> ?_;rw[cI,Nat.testBit_two_pow_sub_one,Nat.zero_testBit];by_cases hv:v<n
 .simp[hv]
 .rw[zbN (wM h (Cr D Y))];rfl
theorem XQ(v:aF)(es:List Nat)(aR:Nat)(w:aA)(h:CI w v es)(a:oB es aR):
  tR 92 #[.agg #[i6 i7 aR,v]] w λe w'=>e=i5 (j4 oj)/\U w [] w' []:=by
 obtain⟨ad,cap,rfl,-⟩:=h.len;have hv:=a.hv;have n:=a.hm;let⟨w1,d⟩:=E (e8 w (h8 #[J aR,hY ad (O es) cap] 133));have l:=Za d;have g:=Zb d;obtain⟨b0,A⟩:=Z2 g;have z:decide ((aR:Int)<0)=po:=jO Y;have g2:decide ((30:Int)<(aR:Int))=po:=jO Y;have g3:decide ((7:Int)<(O es:Int))=po:=jO Y;have m:=Z (eu (hY ad (O es) cap) es 132 #[h9 (H ⟨w,0,K⟩)] (λ_=>po) w1 (enters_of func132 dB rfl) (h.on l) λx hx wz hz=>by
  obtain⟨c0,c1⟩:=Z2 (hz.aC g X);have q:2^aR-1<4294967296:=by
   have:2^aR<=2^30:=Cr D hv;omega
  have i:=Z ((yS x (2^aR-1) (Xc (a.dM x hx) D) q).dd (by rw[aCc (a.xD x hx)]));have j:=Z λwy=>aIc (hY ad (O es) cap) aR wy hv ⟨_,_,_,rfl⟩;generalize y:2^aR-1=N at i j;show tR 132 #[i6 kd (x:Int),h9 (H ⟨w,0,K⟩)] wz _;go_enter func132,ntmps132;go_wp2_with (go_at_call 133;apply(j.o _).cL;intro w2 b);go_ret;exact⟨by rw[i.o];rfl,b⟩)
 have c:es.any (λ_=>po)=po:=by rw[List.any_eq_false];intro x _ h;cases h
 rw[c]at m;go_enter func92,ntmps92;go_wp2_with (go_at_call 131;apply m.cL;intro w2 b);go_ret;exact⟨rfl,l.dd b⟩
variable{V:Nat}{vv xv':aF}{wx wy:aA}
theorem aLp(hv av:aF)(ps:List (dU×aF))(q:bB)(w:aA)(h:B9 w hv av ps q)(iW:CM hv)(hs:fJ q≠0):
  aH prog 46 #[.agg #[j3 q.name,hv,av]] w λe w'=>e=i5 (i8 #[.agg #[i6 i7 0,hY K 0 0],i6 kd 0,i6 i7 (fJ q)])/\U w [] w' []:=by
 have hb:(fJ q !=0)=oj:=by rw[bne_iff_ne];exact hs
 let⟨s,d⟩:=E (fJ q);rw[d]at hb|-;obtain⟨ha,j,rfl,-⟩:=h.head.len;obtain⟨i,g,rfl,-⟩:=h.aD.len;rw[h.len]at h|-;let⟨wa,c⟩:=E (e8 (e8 w (h8 #[j3 q.name,hY ha (O q.head) j,hY i (O q.aD) g] 25)) (h8 #[J 0,cH] 133));have m:U w [] wa []:=c▸((U.refl w []).alloc _).alloc _;have n:rW wa w.heap.size #[j3 q.name,hY ha (O q.head) j,hY i (O q.aD) g] 25:=by rw[<-c];exact kV ..
 have r:rW wa (hJ w.heap+1) #[J 0,cH] 133:=by rw[<-c];exact kU ..
 obtain⟨b0,u,b2⟩:=Z3 n;go_in;go_wp2_with (go_at_call 86;apply (((XR _ _ ps q wa (h.on m) iW).mono λe w' h=>dX (h.1.dd (by rw[d])) h.2)).cL;intro w2 l;have gT:=l.aC r X;obtain⟨e0,B⟩:=Z2 gT;have z:=aM gT;have eM:=(m.dd l));exact ZM65
structure OfM(q:bB)(w:aA)(hv av:aF)(V:Nat)(vv:aF)(wx:aA)(xv:aF)(k:Nat):Prop where
 up:U w [] wx []
 q0:wx.heap[hJ w.heap]? =H (h8 #[j3 q.name,hv,av] 25 (0,0))
 g0:wx.heap[hJ w.heap+1]? =H (h8 #[i6 i7 (O (vars q)),xv] 133 (0,0))
 v0:wx.heap[V]? =H (h8 #[vv] 22 (0,0))
 vs:vC w wx vv (vars q)
 es:wY w wx xv ((aJ q).take k)
theorem OfM.on{k:Nat}(h:OfM q w hv av V vv wx xv k)(a:U wx [] wy S'):OfM q w hv av V vv wy xv k:=
 ⟨h.up.dd a.nil,a.aC h.q0 X,a.aC h.g0 X,a.aC h.v0 X,h.vs.on a,h.es.on a⟩
theorem OfM.vP{k:Nat}(h:OfM q w hv av V vv wx xv k)(c:U wx xv.ownBlock.toList wy S')(p:wY w wy xv' ((aJ q).take j)):
  OfM q w hv av V vv (ey wy ⟨hJ w.heap+1,1,K⟩ xv') xv' j:=by
 have ne:∀t,t≠134->∀b,b∈xv.ownBlock.toList->lZ wx b≠H t:=λt n b d=>by rw[h.es.Bx b d];exact λe=>n (by injection e with e;exact e.symm)
 have l:=c.bS h.g0 (ne _ D);have g:=(U.refl wy [hJ w.heap+1]).setCell (a:=⟨hJ w.heap+1,1,K⟩) (.inl X) xv';have m:hJ w.heap∉[hJ w.heap+1]:=X;refine⟨(h.up.aZ c h.es.ge).aZ g λb d=>by simp at d;omega,g.aC (c.bS h.q0 (ne _ D)) m,aE (i:=1) _ l,g.bS (c.bS h.v0 (ne _ D)) λb d=> ?_,(h.vs.dg c (ne _ D)).set l D g,p.set l D g⟩;obtain rfl:b=hJ w.heap+1:=eI d;rw[eH l];decide
theorem aJ9(hv av:aF)(ps:List (dU×aF))(q:bB)(w:aA)(h:B9 w hv av ps q)(iW:CM hv)(hs:fJ q=0):
  aH prog 46 #[.agg #[j3 q.name,hv,av]] w λe w'=>∃u,e=i5 (i8 #[.agg #[i6 i7 (O (vars q):Int),u],i6 kd (cO q:Int),i6 i7 0])/\wY w w' u (aJ q)/\U w [] w' []:=by
 obtain⟨ha,hc,rfl,-⟩:=h.head.len;obtain⟨aa,ac,rfl,-⟩:=h.aD.len;have N:=h.len;rw[N]at h|-;have s:=Z h;let⟨wa,dE⟩:=E (e8 (e8 w (h8 #[j3 q.name,hY ha (O q.head) hc,hY aa (O q.aD) ac] 25)) (h8 #[J 0,cH] 133));have cR:U w [] wa []:=dE▸((U.refl w []).alloc _).alloc _;have kB:rW wa w.heap.size #[j3 q.name,hY ha (O q.head) hc,hY aa (O q.aD) ac] 25:=by rw[<-dE];exact kV ..
 have eQ:rW wa (hJ w.heap+1) #[J 0,cH] 133:=by rw[<-dE];exact kU ..
 obtain⟨b0,z,b2⟩:=Z3 kB;have wU:=Z cR;have jG:=Z eQ;have UR:=Z kB;let⟨_,ha6,Dx,pF,_,gV⟩:=f8 hs;have DZ:=Z pF;have HIN:=Z gV;have aR1:=h.dM.head;have JS:=Z ((XR _ _ ps q wa (s.o.on cR) iW).mono λe w' h=>dX (h.1.dd (by rw[hs])) h.2);clear h N cR kB eQ hs iW pF gV;go_in;go_upto_region 5 with(first
  |(go_at_call 54;apply(WL _ _ ps q _ (s.o.on (wU.o.dd eM.o))).cF;rintro e w3 ⟨u,rfl,hO,m⟩;obtain⟨va,vc,rfl,-⟩:=hO.len;let⟨b0,z,b2⟩:=m.R7 b0 z b2;have HO:=Z hO;have gZ:=Z (eM.o.dd m);clear hO m)
  |(go_at_call 86;apply JS.o.cL;intro w2 m;let⟨b0,z,b2⟩:=m.R7 b0 z b2;have eM:=Z m;clear m))
 let⟨V,hV⟩:=E (hJ w3.heap);let⟨w4,qJ⟩:=E (e8 w3 (h8 #[hY va (O (vars q)) vc] 22));have eA:=Za qJ;have hV4:=Ze qJ hV;have C:=(gZ.o.dd eA).aC jG.o X;have hQ4:=(gZ.o.dd eA).aC UR.o X;have v0:=Zc hV4 0;have n:=Zc C 0;have gf:=aM C;have G:=Z C;have HQ4:=Z hQ4;have NK:=Z hV4;have Ns:=Z ((HO.o.on eA).eE (wU.o.dd (eM.o)).size);have kQ:=Z (wU.o.dd (gZ.o.dd eA));rw[qJ,hV];clear eA hV4 C hQ4 qJ hV b0 z b2 gZ eM HO JS;go_upto_region 7 with(fail);have Gy:=(U.refl w4 [hJ w.heap+1]).setCell (a:=⟨hJ w.heap+1,0,K⟩) (.inl X) (J (O (vars q)));have l:OfM q w (hY ha (O q.head) hc) (hY aa (O q.aD) ac) V (hY va (O (vars q)) vc) (ey w4 ⟨hJ w.heap+1,0,K⟩ (J (O (vars q)))) cH 0:=
  ⟨kQ.o.aZ Gy λb f=>by simp at f;omega,Gy.aC HQ4.o X,aE (i:=0) _ G.o,Gy.bS NK.o λb f=>by
   obtain rfl:b=hJ w.heap+1:=eI f;rw[eH G.o];decide,Ns.o.set G.o D Gy,bG.nil _ _⟩
 generalize oD:ey w4 ⟨hJ w.heap+1,0,K⟩ (J (O (vars q)))=w5 at l|-;obtain⟨b0,z,b2⟩:=Z3 l.q0;have L:=Z l;have Z0:O (aJ q)=O q.aD:=by simp only[aJ,sN]
 have P:=Z Z0;clear l oD Gy v0 n gf G HQ4 NK Ns kQ Z0;go_wp2;go_loopg [25] (O q.aD) (λgg i wr=>∃(k:Nat) (r:Option cj) (F:Nat),k<=O q.aD/\gg=O q.aD-k/\i=J k/\OfM q w (hY ha (O q.head) hc) (hY aa (O q.aD) ac) V (hY va (O (vars q)) vc) wr (hY r k F) k)
 .exact⟨0,K,0,Y,rfl,rfl,L.o⟩
 obtain⟨k,r,F,hk,rfl,rfl,l⟩:=hrel;clear b0 z b2 L;by_cases aV:k<O q.aD
 .let⟨g,o,cap,ta,tc,hg,hv,a0,a1,hT⟩:=(s.o.on l.up).o7 aV;obtain rfl:=CT hv;have YS:=DZ.o _ (bM (d:=qc) aV);have HX:=Z (show(aJ q).take (k+1)=(aJ q).take k++[sV (vars q) (bY (ep q.aD k qc))] by
   rw[fG (d:=0) (by rw[P.o];exact aV)];congr 2;unfold aJ;rw[iB,Pm,kX aV,iB,kX aV];rfl)
  have Pf:=Z (show∀x,x∈bY (ep q.aD k qc)->x∈vars q from λx hx=>Rs.2 ⟨_,bM (d:=qc) aV,hx⟩);have oy:O ((aJ q).take k)=k:=by rw[VQ,P.o];omega
  generalize hA:ep q.aD k qc=A at a0 a1 hT YS HX Pf;have L:=Z l;have HT:=Z hT;have CL:=Z oy;clear hA l hT oy;go_upto_region 10 with(fail);let⟨B,hB⟩:=E (hJ wr.heap);let⟨w5,oD⟩:=E (e8 wr (h8 #[j3 A.rel,hY ta (O A.aS) tc] 52));have cQ:=Za oD;have hd:=Ze oD hB;have tU:=L.o.on cQ;have UN:=Z (HT.o.on cQ);obtain⟨d0,d1⟩:=Z2 hd;obtain⟨n,g1⟩:=Z2 tU.g0;have HD:=Z hd;have G7:=Z tU;rw[oD,hB];clear oD hB cQ hd tU a0 a1 L HT;refine ee 9 (eb g1<|eb d0<|d7 d1) (λQ=> ?_);refine dw [0,2,3,1] ?_;refine Zo 4 λt hK=> ?_;go_simp;go_at_call 31;have jW:U w5 [] w5.drew []:=(U.refl w5 []).drew;apply(AT _ A.rel A.aS _ (UN.o.on jW) Y).cF;rintro e w6 ⟨u,rfl,hO,m⟩;dsimp only;obtain⟨ua,uc,rfl,-⟩:=hO.len;have dK:U w5 [] w6 []:=jW.dd m;replace Q:=m.zh3 Q;have HO:=Z hO;have lI:=Z dK;clear hO m dK jW;refine j8 ?_;clear hK t;refine Zo 5 λt hK=> ?_;go_simp;go_at_call 87;have SM:=G7.o.on lI.o;refine(Gf _ (bC A.aS []) V _ (vars q) _ HO.o.rd (aL SM.v0 rfl) SM.vs.rd (NS q) Dx Pf.o (jN (gG A.aS []) (by simp;omega))).mono ?_;rintro e w7 ⟨rfl,rfl⟩;dsimp only;have p:=Z SM;clear SM;refine j8 ?_;clear hK t;refine Zo 6 λt hK=> ?_;go_simp;have hH6:=Q;let⟨M,hMe⟩:=E (sV (vars q) (bC A.aS []));have HX:dT ((aJ q).take (k+1)=(aJ q).take k++[M]):=Z (by rw[HX.o,<-hMe];rfl);rw[hMe];clear hMe;have oK:U w6 [] (e8 w6 (h8 #[i6 kd (M:Int)] 134)) []:=(U.refl w6 []).alloc _;replace Q:=oK.zh3 Q;refine j8 ?_;clear hK t;refine Zo 7 λt hK=> ?_;let⟨g7,c7,w7,dP,wW,fM,wQ,hg7⟩:=i9 (ty:=131) (news:=[i6 kd (M:Int)]) (T:=134) Yn.ok Y p.o.es p.o.up (fV _) p.o.up.size M rfl (dH rfl) (λj hj=>rfl) (j7 CL.o) (by rw[CL.o];unfold bw;omega);rw[CL.o]at dP wW;refine dJ _ _ rfl Yr Yr dP ?_;have Q:=hH6;have W:=lI.o.aC HD.o X;replace Q:=wQ.zh3 Q (p.o.es.ne p.o.g0 D) (p.o.es.ne W D) (p.o.es.ne W D);have R:=wQ.bS p.o.g0 (λb f=>by rw[p.o.es.Bx b f];decide);have gf:=aM R;obtain⟨h0,h1⟩:=Z2 R;have pU:=p.o.vP wQ (j:=k+1) (by rw[HX.o];exact wW);have VN:=Z pU;clear dP wW fM wQ pU W oK hH6 R;refine j8 ?_;clear hK t;refine I 8 ?_;refine Zo 9 λt hK=> ?_;go_simp;refine MH ?_;clear hK t;go_wp2;go_roundg (O q.aD-(k+1))
  .exact⟨k+1,H (Ad g7 0),c7,Y,rfl,eO,VN.o⟩
  omega
 .obtain rfl:k=O q.aD:=Y;have FL:(aJ q).take (O q.aD)=aJ q:=by rw[zdH];rw[P.o];exact fV _
  obtain⟨b0,z,b2⟩:=Z3 l.q0;obtain⟨n,g1⟩:=Z2 l.g0;have L:=Z l;clear l;go_upto_region 12 with(fail);refine ee 99 (eb n<|eb g1<|d7 z) (λQ=> ?_);have c:=L.o.on (U.refl wr []).drew;generalize eY:wr.drew=wd at c Q|-;refine dw [0,1,2,3] ?_;refine Zo 4 λt hK=> ?_;go_simp;go_at_call 87;apply(Gf _ q.head V _ (vars q) _ (s.o.head.on c.up) (aL c.v0 rfl) c.vs.rd (NS q) Dx HIN.o aR1).cF;rintro e w7 ⟨rfl,rfl⟩;dsimp only;have gf:=aM c.g0;have JJ:=Z c;clear c L eY;refine j8 ?_;clear hK t;refine Zo 5 λt hK=> ?_;go_simp;have hS:=XB (x:=J (O (vars q))) (y:=hY r (O q.aD) F) JJ.o.g0;generalize wP:ey (ey wd ⟨hJ w.heap+1,0,K⟩ (J (O (vars q)))) ⟨hJ w.heap+1,1,K⟩ (hY r (O q.aD) F)=w8 at hS|-;have Hn:=hS.1;have iE:=JJ.o.up.aZ hS.2 (λb f=>by simp at f;omega);have S:=JJ.o.es.set JJ.o.g0 D hS.2;rw[FL]at S;have G6:=Z iE;have HE8:=Z S;obtain⟨r0,r1⟩:=Z2 Hn;have Q:e7 w8 ⟨hJ w.heap+1,0,K⟩=H (J (O (vars q)))/\e7 w8 ⟨hJ w.heap+1,1,K⟩=H (hY r (O q.aD) F)/\e7 w8 ⟨hJ w.heap,1,K⟩=H (hY ha (O q.head) hc):=⟨r0,r1,hS.2.cell Q.2.2 X⟩;clear hS wP iE S Hn;refine j8 ?_;clear hK t;refine dw [6,7] ?_;refine aY dB ?_ _;try simp only[Act.put,RM,RJ,UT]
  go_wp2;refine mD (yI (A:=⟨hJ w.heap+1,0,K⟩) (T:=133) rfl Yr (v:= .agg #[J (O (vars q)),hY r (O q.aD) F]) (by go_simp)) rfl ?_;exact⟨hY r (O q.aD) F,rfl,HE8.o,G6.o⟩
section
theorem ZM68{P:Prop}(h:P:=by
  refine aL h.bS ?_;have hl:=h.hs;have GD:=h.ht;unfold GT;rw[List.getElem?_toArray,List.getElem?_append_right (by simp;omega),sN,hl,List.getElem?_append_right (by simp;omega),sN,GD];rfl):P:=h
theorem ZM120{P:Prop}(h:P:=by
  go_in;go_wp2;go_quiet (fail);go_wp2;go_quiet (fail);go_wp2;go_ret;exact⟨by rw[HK.o];rfl,_,UH ..⟩):P:=h
theorem ZM140{P:Prop}(h:P:=by
  go_wp2;go_roundg (n-(k+1))
  .exact⟨by trivial,k+1,Y,rfl,eO,by rw[HR.o]⟩
  omega):P:=h
def GT(ss:List Nat)(ts:List Bool)(n dg:Nat):Array aF:=(ss.map (λ(s:Nat)=>i6 kd (s:Int))++(ts.map j4++[i6 i7 n,i6 kd dg])).toArray
structure qV(w:aA)(B:Nat)(ss:List Nat)(ts:List Bool)(n dg:Nat):Prop where
 bS:w.heap[B]? =H (h8 (GT ss ts n dg) 265 (0,0))
 hs:O ss=7
 ht:O ts=7
section
variable{w w':aA}{B:Nat}{ss:List Nat}{ts:List Bool}{n dg:Nat}
theorem qV.on(h:qV w B ss ts n dg)(a:U w [] w' S'):qV w' B ss ts n dg:=⟨a.aC h.bS X,h.hs,h.ht⟩
theorem qV.Vk(h:qV w B ss ts n dg)(a:U w S w' S')(b:∀k,k∈S->lZ w k≠H 265):qV w' B ss ts n dg:=⟨a.bS h.bS b,h.hs,h.ht⟩
theorem qV.s(h:qV w B ss ts n dg)(a:i<7):e7 w ⟨B,i,K⟩=H (i6 kd (ss.getD i 0:Int)):=by
 refine aL h.bS ?_;have hl:=h.hs;unfold GT;rw[List.getElem?_toArray,zbE (by simp;omega),Pm,kX Y,iB,kX Y];rfl
theorem qV.t(h:qV w B ss ts n dg)(b:i<7):e7 w ⟨B,7+i,K⟩=H (j4 (ep ts i po)):=by
 refine aL h.bS ?_;have hl:=h.hs;have a:=h.ht;unfold GT;rw[List.getElem?_toArray,List.getElem?_append_right (by simp;omega),sN,hl,Nat.add_sub_cancel_left,zbE (by simp;omega),Pm,kX Y,iB,kX Y];rfl
theorem qV.num(h:qV w B ss ts n dg):e7 w ⟨B,14,K⟩=H (i6 i7 n):=ZM68
theorem qV.k(h:qV w B ss ts n dg):e7 w ⟨B,15,K⟩=H (i6 kd dg):=ZM68
theorem qV.free(h:qV w B ss ts n dg)(j:Nat):w.frozen? ⟨B,j,K⟩=po:=aM h.bS j
theorem qV.su(h:qV w B ss ts n dg)(a:i<7)(x:Nat):qV (ey w ⟨B,i,K⟩ (i6 kd (x:Int))) B (ss.set i x) ts n dg:=by
 refine⟨?_,by rw[VP];exact h.hs,h.ht⟩;rw[aE _ h.bS];congr 2;unfold GT;have hl:=h.hs;rw[RM,List.set_append_left _ _ (by simp;omega),List.map_set]
theorem qV.mV(h:qV w B ss ts n dg)(b:i<7)(x:Bool):qV (ey w ⟨B,7+i,K⟩ (j4 x)) B ss (ts.set i x) n dg:=by
 refine⟨?_,h.hs,by rw[VP];exact h.ht⟩;rw[aE _ h.bS];congr 2;unfold GT;have hl:=h.hs;have a:=h.ht;rw[RM,List.set_append_right _ _ (by simp;omega),sN,hl,Nat.add_sub_cancel_left,List.set_append_left _ _ (by simp;omega),List.map_set]
end
theorem UH(w:aA)(a b:Nat):(w.drewN a).drewN b=w.drewN (a+b):=by
 unfold World.drewN;simp[Nat.add_assoc]
theorem U.vO{w w':aA}(h:∃m,w'=w.drewN m):U w [] w' []:=by
 obtain⟨m,rfl⟩:=h;exact(U.refl w []).drewN m
theorem TU{ss:List Nat}{ts:List Bool}{dg k:Nat}(hs:∀s,s∈ss->s<2^32):iU ss ts dg i k<4294967296:=by
 refine Og (KO ss ts dg i k) ?_;rw[iB];cases h:ss[i]?with
 |none=>exact D
 |some x=>exact Xc (hs _ (rh h)) D
theorem BH{ss:List Nat}(hs:∀s,s∈ss->s<2^32)(i:Nat):ep ss i 0<4294967296:=by
 rw[iB];cases h:ss[i]?with
 |none=>exact D
 |some x=>exact Xc (hs _ (rh h)) D
theorem Y5(B i:Nat)(ss:List Nat)(ts:List Bool)(n dg:Nat)(w:aA)(h:qV w B ss ts n dg)(q:i<7)(T:n<=7)(hs:∀s,s∈ss->s<2^32)(F:dg<2^32):
  aH prog 134 #[h9 (H ⟨B,0,K⟩),i6 i7 i] w λe w'=>e=i5 (i6 kd (iU ss ts dg i n:Int))/\∃m,w'=w.drewN m:=by
 have c0:=h.s q;have S:=h.num;have f:=h.k;have P:=iO (cV h.bS);have u:=BH hs i;have z:=q;have d:=yS (ep ss i 0) dg u F;generalize L:ep ss i 0=x at c0 u d;have C:=Z λk=>TU (ss:=ss) (ts:=ts) (dg:=dg) (i:=i) (k:=k) hs;go_in;go_wp2;go_quiet (fail);go_wp2;let⟨w2,l⟩:=E (w.drewN nq);have p:=(h.on (Po l));rw[l];go_loopg [5,22] n (λg s j wr=>w2=wr/\∃k:Nat,k<=n/\g=n-k/\j=J k/\s=i6 kd (iU ss ts dg i k:Int))
 .exact⟨rfl,0,Y,rfl,rfl,by rw[<-L];rfl⟩
 obtain⟨rfl,k,Q,rfl,rfl,rfl⟩:=hrel;by_cases N:k<n
 .have a:=Z (EI ss ts dg i k);have hl:=C.o k;generalize V:iU ss ts dg i k=c at a hl|-;have v:=p.t (i:=k) Y;have cs:=p.s (i:=k) Y;have A:k<7:=Y;by_cases r:k=i
  .have G:((k:Int)!=(i:Int))=po:=j7 bne_eq_false_iff_eq;have HR:dT (iU ss ts dg i (k+1)=c):=Z (by rw[a.o,bD (λh=>h.1 r)]);exact ZM140
  .have G:((k:Int)!=(i:Int))=oj:=j7 bne_iff_ne;cases b:ep ts k po with
   |false=>
    rw[b]at v;have HR:dT (iU ss ts dg i (k+1)=c):=Z (by rw[a.o,bD (λh=>by rw[b]at h;exact dS h.2 D)]);exact ZM140
   |true=>
    rw[b]at v;have HR:dT (iU ss ts dg i (k+1)=fD c (ep ss k 0)):=Z (by rw[a.o,bR ⟨r,b⟩]);have d:=yS c (ep ss k 0) hl (BH hs k);generalize R:ep ss k 0=y at cs HR d;exact ZM140
 .obtain rfl:k=n:=Y;go_wp2;go_ret;exact⟨rfl,nq,l.symm⟩
theorem Rz(B i j:Nat)(ss:List Nat)(ts:List Bool)(n dg:Nat)(w:aA)(h:qV w B ss ts n dg)(u:i<7)(v:j<7)(hs:∀s,s∈ss->s<2^32):
  aH prog 135 #[h9 (H ⟨B,0,K⟩),i6 i7 i,i6 i7 j] w λe w'=>e=i5 (i6 i7 (jV ss ts i j:Int))/\∃m,w'=w.drewN m:=by
 have G:=h.s u;have f:=h.s v;have y:=h.t u;have z:=h.t v;have k:=iO (cV h.bS);have l:=BH hs i;have p:=BH hs j;have F:jV ss ts i j=if i=j\/ep ts i po=po\/ep ts j po=po then 0 else if ep ss i 0=ep ss j 0 then 2 else if fD (ep ss i 0) (ep ss j 0)=0 then 3 else 0:=rfl;have HK:=Z F;by_cases x:i=j
 .have A:((i:Int)==(j:Int))=oj:=JY.2 Y;have HK:dT (jV ss ts i j=0):=Z (by rw[HK.o,bR (.inl x)]);go_in;go_wp2;go_ret;exact⟨by rw[HK.o];rfl,0,rfl⟩
 .have A:((i:Int)==(j:Int))=po:=G9.2 Y;cases g:ep ts i po with
  |false=>
   rw[g]at y;have HK:dT (jV ss ts i j=0):=Z (by rw[HK.o,bR (.inr (.inl g))]);go_in;go_wp2;go_ret;exact⟨by rw[HK.o];rfl,0,rfl⟩
  |true=>
   rw[g]at y;cases d:ep ts j po with
   |false=>
    rw[d]at z;have HK:dT (jV ss ts i j=0):=Z (by rw[HK.o,bR (.inr (.inr d))]);go_in;go_wp2;go_ret;exact⟨by rw[HK.o];rfl,0,rfl⟩
   |true=>
    rw[d]at z;have HK:dT (jV ss ts i j=if ep ss i 0=ep ss j 0 then 2 else if fD (ep ss i 0) (ep ss j 0)=0 then 3 else 0):=Z (by rw[HK.o,bD];rw[g,d];simp[x]);have q:=yS (ep ss i 0) (ep ss j 0) l p;let⟨a,ha⟩:=E (ep ss i 0);let⟨b,C⟩:=E (ep ss j 0);rw[ha]at G l HK q;rw[C]at f p HK q;by_cases r:a=b
    .have g2:((a:Int)==(b:Int))=oj:=JY.2 Y;have HK:dT (jV ss ts i j=2):=Z (by rw[HK.o,bR r]);go_in;go_wp2;go_quiet (fail);go_wp2;go_ret;exact⟨by rw[HK.o];rfl,nq,rfl⟩
    .have g2:((a:Int)==(b:Int))=po:=G9.2 Y;by_cases hl:fD a b=0
     .have HK:dT (jV ss ts i j=3):=Z (by rw[HK.o,bD r,bR hl]);rw[hl]at q;exact ZM120
     .have HK:dT (jV ss ts i j=0):=Z (by rw[HK.o,bD r,bD hl]);have g3:(((fD a b:Nat):Int)==0)=po:=G9.2 Y;generalize L:fD a b=c at q g3;exact ZM120
end
variable{ss:List Nat}
theorem ZM71{P:Prop}(h:P:=by
  go_wp2_with (go_at_call 134;apply HC.cL;intro w2 hd;have ct:=ct w2 hd;have eM:=Z (HU.dd (U.vO hd)));go_roundg (n-(k+1))
  .exact⟨eM,k+1,by omega,rfl,eO,AX RF HT⟩
  omega):P:=h
theorem FC{α:Type}{f:Nat->Option α}{x:α}{k:Nat}(h:jI k f=K)(a:f k=H x):∀{n:Nat},k<n->jI n f=H x
 |0,hk=>Y
 |n+1,hk=>by
  rw[mX];by_cases e:k=n
  .subst e;rw[h,a];rfl
  .rw[FC h a (show k<n by omega)];rfl
theorem AX{α:Type}{f:Nat->Option α}{k:Nat}(h:jI k f=K)(a:f k=K):jI (k+1) f=K:=by rw[mX,h,a];rfl
theorem Jp{B:Nat}{a b c d x y:aF}{t:ap}(h:w.heap[B]? =H (h8 #[a,b,c,d] t (0,0))):
  (ey (ey (ey (ey w ⟨B,0,K⟩ x) ⟨B,1,K⟩ y) ⟨B,2,K⟩ z) ⟨B,3,K⟩ u).heap[B]? =H (h8 #[x,y,z,u] t (0,0))/\U w [B] (ey (ey (ey (ey w ⟨B,0,K⟩ x) ⟨B,1,K⟩ y) ⟨B,2,K⟩ z) ⟨B,3,K⟩ u) [B]:=
 ⟨by rw[aE _ (aE _ (aE _ (aE _ h)))];rfl,(((pX w B 0 x).setCell (a:=Ad B 1) (.inl X) y).setCell (a:=Ad B 2) (.inl X) z).setCell (a:=Ad B 3) (.inl X) u⟩
def LM(ss:List Nat)(ts:List Bool)(n dg:Nat)(w:aA)(e:Ending)(w':aA):Prop:=
 (match next (gW ss ts n) dg with
  |some s=>e=i5 (i8 #[jX s,j4 oj])
  |none=>e=i5 (i8 #[.agg #[i6 i7 0,i6 i7 0,i6 i7 0,i6 kd 0],j4 po]))/\U w [] w' []
theorem LM.hit{ts:List Bool}{dg:Nat}{s:cT}{e:Ending}(h:next (gW ss ts n) dg=H s)(b:e=i5 (i8 #[jX s,j4 oj]))(a:U w [] w' []):LM ss ts n dg w e w':=by
 unfold LM;rw[h];exact⟨b,a⟩
theorem aCW(B:Nat)(ss:List Nat)(ts:List Bool)(n dg:Nat)(w:aA)(h:qV w B ss ts n dg)(hn:n<=7)(hs:∀s,s∈ss->s<2^32)(hk:dg<2^32):
  aH prog 94 #[h9 (H ⟨B,0,K⟩)] w (LM ss ts n dg w):=by
 let⟨w1,eT⟩:=E (e8 w (h8 #[J 0,J 0,J 0,i6 kd 0] 156));have o:=Za eT;have L:=Zb eT;have g:=h.on o;have P:=g.num;have q:=(PT ss ts dg n);have qy:=Z λi (N:i<7) t (V:U w1 [] t [])=>Y5 B i ss ts n dg t (g.on V) N hn hs hk;have Yf:=Z λi j (N:i<7) (hj:j<7) t (V:U w1 [] t [])=>Rz B i j ss ts n dg t (g.on V) N hj hs;have lB:=iO (cV g.bS);go_in;go_wp2;go_loopg [14] n (λp i wr=>U w1 [] wr []/\∃k:Nat,k<=n/\p=n-k/\i=J k/\jI k (GN ss ts dg n)=K)
 .exact⟨U.refl _ _,0,Y,rfl,rfl,rfl⟩
 obtain⟨a,k,GE,rfl,rfl,l⟩:=hrel;have RF:=Z l;by_cases G:k<n
 .have Tc:k<7:=by omega
  have HC:=Z (qy.o k Tc wr a);have HU:=Z a;have HT:dT (GN ss ts dg n k=if ep ts k po=oj/\iU ss ts dg k n≠0 then H ⟨1,k,0,iU ss ts dg k n⟩else K):=Z rfl;generalize hc:iU ss ts dg k n=c at HC HT;have ct:=λw2 (h2:∃m,w2=wr.drewN m)=>(g.on (HU.dd (U.vO h2))).t Tc;cases oZ:ep ts k po with
  |false=>
   rw[oZ]at ct HT;have HT:dT (GN ss ts dg n k=K):=Z (by rw[HT.o,bD (λh=>by cases h.1)]);exact ZM71
  |true=>
   rw[oZ]at ct HT;by_cases NF:c=0
   .subst NF;have HT:dT (GN ss ts dg n k=K):=Z (by rw[HT.o,bD (λh=>h.2 rfl)]);exact ZM71
   .have f:((c:Int)!=0)=oj:=j7 bne_iff_ne;have Et:dT (GN ss ts dg n k=H ⟨1,k,0,c⟩):=Z (by rw[HT.o,bR ⟨rfl,NF⟩]);go_wp2_with (go_at_call 134;apply HC.cL;intro w2 hd;have ct:=ct w2 hd;have a:=HU.dd (U.vO hd);have d:=a.aC L (by simp);obtain⟨e0,W,e2,Q⟩:=Z4 d;have R:=aM d;have eM:=Z a;have C:=(g.on a));have F:=Jp (x:=J 1) (y:=J k) (z:=J 0) (u:=i6 kd c) d;refine mD (aT (A:=⟨w,0,K⟩) (T:=156) rfl (by rfl) (v:= .agg #[J 1,J k,J 0,i6 kd c]) (by go_simp)) rfl ?_;exact LM.hit (by rw[q,FC RF.o Et.o G];rfl) rfl ((o.dd eM).aZ F.2 λb r=>by simp at r;omega)
 .obtain rfl:k=n:=by omega
  have P:=(g.on a).num;have S:=RF;have HU:=Z a;go_wp2;go_loopg [38] k (λp i wr=>U w1 [] wr []/\∃m:Nat,m<=k/\p=k-m/\i=J m/\jI m (λi=>jI k (E6 ss ts i))=K)
  .exact⟨HU,0,Y,rfl,rfl,rfl⟩
  obtain⟨a,m,vI,rfl,rfl,l⟩:=hrel;have RF:=Z l;by_cases G:m<k
  .have HU:=Z a;go_wp2;go_loopg [7] (k-(m+1)) (λp i wr=>U w1 [] wr []/\∃j:Nat,m+1<=j/\j<=k/\p=k-j/\i=J j/\jI j (E6 ss ts m)=K)
   .exact⟨HU,m+1,fV _,G,rfl,eO,LV λi N=>by unfold E6;rw[bD (λh=>by omega)]⟩
   obtain⟨a,j,hj1,yX,rfl,rfl,l⟩:=hrel;have e:=Z l;have P:=(g.on a).num;by_cases EL:j<k
   .have HC:=Z (Yf.o j m (by omega) (by omega) wr a);have HU:=Z a;have HT:dT (E6 ss ts m j=if m<j/\jV ss ts j m=2 then H ⟨2,j,m,0⟩else K):=Z rfl;generalize hc:jV ss ts j m=c at HC HT;by_cases RA:c=2
    .have f:((c:Int)==2)=oj:=j7 JY;have HT:dT (E6 ss ts m j=H ⟨2,j,m,0⟩):=Z (by rw[HT.o,bR ⟨by omega,RA⟩]);go_wp2_with (go_at_call 135;apply HC.cL;intro w2 hd;have a:=HU.dd (U.vO hd);have d:=a.aC L (by simp);obtain⟨e0,W,e2,Q⟩:=Z4 d;have R:=aM d;have eM:=Z a;have C:=(g.on a));have F:=Jp (x:=J 2) (y:=J j) (z:=J m) (u:=i6 kd 0) d;refine mD (aT (A:=⟨w,0,K⟩) (T:=156) rfl (by rfl) (v:= .agg #[J 2,J j,J m,i6 kd 0]) (by go_simp)) rfl ?_;exact LM.hit (by rw[q,S.o,Option.none_or,FC RF.o (FC e.o HT.o EL) G];rfl) rfl ((o.dd eM).aZ F.2 λb r=>by simp at r;omega)
    .have f:((c:Int)==2)=po:=j7 G9;have HT:dT (E6 ss ts m j=K):=Z (by rw[HT.o,bD (λh=>RA h.2)]);go_wp2_with (go_at_call 135;apply HC.cL;intro w2 hd;have eM:=Z (HU.dd (U.vO hd)));go_roundg (k-(j+1))
     .exact⟨eM,j+1,by omega,by omega,rfl,eO,AX e HT⟩
     omega
   .obtain rfl:j=k:=by omega
    have HU:=Z a;go_wp2;go_roundg (j-(m+1))
    .exact⟨HU,m+1,by omega,rfl,eO,AX RF e⟩
    omega
  .obtain rfl:m=k:=by omega
   have P:=(g.on a).num;have rT:=RF;have HU:=Z a;go_wp2;go_loopg [64] m (λp i wr=>U w1 [] wr []/\∃k:Nat,k<=m/\p=m-k/\i=J k/\jI k (λi=>jI m (AA ss ts i))=K)
   .exact⟨HU,0,Y,rfl,rfl,rfl⟩
   obtain⟨a,k,Ta,rfl,rfl,l⟩:=hrel;have RF:=Z l;have P:=(g.on a).num;by_cases G:k<m
   .have HU:=Z a;go_wp2;go_loopg [71] m (λp i wr=>U w1 [] wr []/\∃j:Nat,j<=m/\p=m-j/\i=J j/\jI j (AA ss ts k)=K)
    .exact⟨HU,0,Y,rfl,rfl,rfl⟩
    obtain⟨a,j,hjm,rfl,rfl,l⟩:=hrel;have e:=Z l;by_cases EL:j<m
    .have HC:=Z (Yf.o k j (by omega) (by omega) wr a);have HU:=Z a;have HT:dT (AA ss ts k j=if jV ss ts k j=3 then H ⟨3,k,j,0⟩else K):=Z rfl;generalize hc:jV ss ts k j=c at HC HT;by_cases U8:c=3
     .have f:((c:Int)==3)=oj:=j7 JY;have HT:dT (AA ss ts k j=H ⟨3,k,j,0⟩):=Z (by rw[HT.o,bR U8]);go_wp2_with (go_at_call 135;apply HC.cL;intro w2 hd;have a:=HU.dd (U.vO hd);have d:=a.aC L (by simp);obtain⟨e0,W,e2,Q⟩:=Z4 d;have R:=aM d;have eM:=Z a;have C:=(g.on a));have F:=Jp (x:=J 3) (y:=J k) (z:=J j) (u:=i6 kd 0) d;refine mD (aT (A:=⟨w,0,K⟩) (T:=156) rfl (by rfl) (v:= .agg #[J 3,J k,J j,i6 kd 0]) (by go_simp)) rfl ?_;exact LM.hit (by rw[q,S.o,rT.o,Option.none_or,Option.none_or,FC RF.o (FC e.o HT.o EL) G]) rfl ((o.dd eM).aZ F.2 λb r=>by simp at r;omega)
     .have f:((c:Int)==3)=po:=j7 G9;have HT:dT (AA ss ts k j=K):=Z (by rw[HT.o,bD U8]);go_wp2_with (go_at_call 135;apply HC.cL;intro w2 hd;have eM:=Z (HU.dd (U.vO hd)));go_roundg (m-(j+1))
      .exact⟨eM,j+1,by omega,rfl,eO,AX e HT⟩
      omega
    .obtain rfl:j=m:=by omega
     have HU:=Z a;go_wp2;go_roundg (j-(k+1))
     .exact⟨HU,k+1,by omega,rfl,eO,AX RF e⟩
     omega
   .obtain rfl:k=m:=by omega
    have d:=a.aC L (by simp);obtain⟨e0,W,e2,Q⟩:=Z4 d;have R:=aM d;have eM:=Z a;have C:=(g.on a);go_wp2;have F:=Jp (x:=J 0) (y:=J 0) (z:=J 0) (u:=i6 kd 0) d;refine mD (aT (A:=⟨w,0,K⟩) (T:=156) rfl (by rfl) (v:= .agg #[J 0,J 0,J 0,i6 kd 0]) (by go_simp)) rfl ?_;unfold LM;rw[q,S.o,rT.o,RF.o];exact⟨rfl,(o.dd eM).aZ F.2 λb r=>by simp at r;omega⟩
theorem ZM157{P:Prop}(h:P:=by
  go_wp2;go_quiet (fail);go_wp2_with (go_at_call 135;apply(Yf.o _ (U.drewN (U.refl _ []) _)).cL;intro w3 hd;have cU:=(U.drewN (U.refl w1 []) nq).dd (U.vO hd);let⟨b0,b1,b2,b3,ti⟩:=cU.zc5 b0 b1 b2 b3 ti;have gZ:=Z (oN.o.dd cU);have qR:=HR.o.on cU;have rf:=qR.free;have DW:=Z qR;clear hd cU qR);go_region;all_goals
   go_wp2;go_ret;refine⟨rfl,?_,(((gZ.o.quiet [B]).setCell (a:=Ad B (7+ed)) (.inl X) _)).drew⟩;rw[Bh.o,A5.o];exact(DW.o.mV (i:=ed) Y po).on (U.refl _ []).drew):P:=h
theorem ZM16{P:Prop}(h:P:=by
  go_in;go_wp2;go_quiet (fail);go_wp2;let⟨w2,pS⟩:=E (w1.drewN nq);have bH:U w1 [] w2 []:=Po pS;let⟨b0,b1,b2,b3,cn,ci,ti⟩:=bH.zc7 b0 b1 b2 b3 cn ci ti;have eM:=Z bH;rw[pS];clear pS bH;go_quiet ((go_at_call 134;refine Calls.quiet_of (qy.o _ (eM.o.dd (U.drewN (U.refl _ []) _)))));go_wp2;let⟨w3,iQ⟩:=E (w2.drewN nq);have cU:U w2 [] w3 []:=Po iQ;have bH:=cU;let⟨b0,b1,b2,b3,cn,ci,ti⟩:=bH.zc7 b0 b1 b2 b3 cn ci ti;have gZ:=Z (oN.o.dd (eM.o.dd cU));have qR:=HR.o.on (eM.o.dd cU);have DW:=Z qR;have rf:=qR.free;have hb:=yS (ep ss ed 0) ct (BH hs ed) Cp.o;have Bh:=Z (show fH ss ⟨1,ed,0,ct⟩=ss.set ed (fD (ep ss ed 0) ct)from rfl);let⟨x,hx⟩:=E (ep ss ed 0);rw[hx]at ci hb Bh;rw[iQ];clear iQ cU bH qR hx hs ht;go_region;all_goals
   go_wp2;go_ret;refine⟨rfl,?_,(((gZ.o.quiet [B]).setCell (a:=Ad B ed) (.inl X) _)).drew⟩;rw[Bh.o];exact(DW.o.su (i:=ed) Y (fD x ct)).on (U.refl _ []).drew):P:=h
theorem ZM36{P:Prop}(h:P:=by
  go_in;exact ZM157):P:=h
theorem vp(B:Nat)(ss:List Nat)(ts:List Bool)(n dg:Nat)(s:cT)(w:aA)(h:qV w B ss ts n dg)(v:n<=7)(hs:∀s,s∈ss->s<2^32)(p:dg<2^32)(u:s.bP<n)(ht:ep ts s.bP po=oj)(r:s.cut≠0)(m:s=⟨1,s.bP,0,iU ss ts dg s.bP n⟩):
  aH prog 95 #[h9 (H ⟨B,0,K⟩),jX s] w λe w'=>e=i5 (j4 oj)/\qV w' B (fH ss s) (tY ts s) n dg/\U w [B] w' [B]:=by
 obtain⟨y,ed,A,ct⟩:=s;injection m with h1 h2 h3 h4;dsimp only at u ht r h1 h3 h4 h2;subst h1 h3;have j:=Z h4;clear h2 h4;unfold jX;dsimp only;let⟨w1,g⟩:=E (e8 w (h8 #[J 1,J ed,J 0,i6 kd ct] 156));have d:=Za g;have c:=Zb g;have b:=h.on d;have HR:=Z b;have F:=Z c;have oN:=Z d;have C:=iO (cV b.bS);obtain⟨b0,b1,b2,b3⟩:=Z4 c;have cn:=b.num;have ci:=b.s (i:=ed) Y;have ti:=b.t (i:=ed) Y;rw[ht]at ti;have f:((ct:Int)==0)=po:=j7 G9;have z:(ed:Int)<7:=Y;clear h d c b;have G:((ed:Int)<0)=False:=X;have gn:decide ((n:Int)<=(ed:Int))=po:=jO Y;have qy:=Z λl (q:U w1 [] l [])=>Y5 B ed ss ts n dg l (HR.o.on q) Y v hs p;rw[<-j.o]at qy;have Cp:=Z (show ct<4294967296 by rw[j.o];exact TU hs);by_cases k:0<ed
 .exact ZM16
 .exact ZM16
theorem Ld(ss:List Nat)(ts:List Bool)(i j:Nat):jV ss ts i j=0\/jV ss ts i j=2\/jV ss ts i j=3:=by
 unfold jV;split
 .exact .inl rfl
 .split
  .exact .inr (.inl rfl)
  .split
   .exact .inr (.inr rfl)
   .exact .inl rfl
theorem vq(B:Nat)(ss:List Nat)(ts:List Bool)(n dg:Nat)(s:cT)(w:aA)(h:qV w B ss ts n dg)(S:n<=7)(hs:∀s,s∈ss->s<2^32)(C:s.bP<n)(A:s.eK<n)(j:ep ts s.bP po=oj)(p:jV ss ts s.bP s.eK≠0)(x:s=⟨jV ss ts s.bP s.eK,s.bP,s.eK,0⟩):
  aH prog 95 #[h9 (H ⟨B,0,K⟩),jX s] w λe w'=>e=i5 (j4 oj)/\qV w' B (fH ss s) (tY ts s) n dg/\U w [B] w' [B]:=by
 obtain⟨c,ed,b,T⟩:=s;injection x with d h2 h3 h4;dsimp only at C A j p d h3 h4 h2;have u:=Ld ss ts ed b;have q:=Z d;rw[<-d]at p u;subst h4;clear d h2 h3;unfold jX;dsimp only;let⟨w1,r⟩:=E (e8 w (h8 #[J c,J ed,J b,i6 kd 0] 156));have m:=Za r;have l:=Zb r;have g:=h.on m;have HR:=Z g;have L:=Z l;have oN:=Z m;have o:=iO (cV g.bS);obtain⟨b0,b1,b2,b3⟩:=Z4 l;have R:=g.num;have ti:=g.t (i:=ed) Y;rw[j]at ti;have k:(ed:Int)<7:=Y;have f:((c:Int)==1)=po:=j7 G9;have Q:((c:Int)==0)=po:=j7 G9;have Yf:=Z λv (z:U w1 [] v [])=>Rz B ed b ss ts n dg v (HR.o.on z) Y Y hs;rw[<-q.o]at Yf;have Bh:=Z (show fH ss ⟨c,ed,b,0⟩=ss by unfold fH;rw[bD];show¬c=1;omega);have A5:=Z (show tY ts ⟨c,ed,b,0⟩=ts.set ed po by unfold tY;rw[bD];show¬c=1;omega);clear h m l g u p hs j;have N:((ed:Int)<0)=False:=X;have F:((b:Int)<0)=False:=X;have gn:decide ((n:Int)<=(ed:Int))=po:=jO Y;have y:decide ((n:Int)<=(b:Int))=po:=jO Y;by_cases P:b<ed
 .have G:¬ed<b:=Y;go_in;exact ZM157
 .by_cases d:ed<b
  .exact ZM36
  .exact ZM36
theorem uo(B:Nat)(ss:List Nat)(ts:List Bool)(n dg:Nat)(s:cT)(w:aA)(h:qV w B ss ts n dg)(d:n<=7)(hs:∀s,s∈ss->s<2^32)(i:dg<2^32)(m:Nm ss ts dg n s):
  tR 95 #[h9 (H ⟨B,0,K⟩),jX s] w λe w'=>e=i5 (j4 oj)/\qV w' B (fH ss s) (tY ts s) n dg/\U w [B] w' [B]:=by
 rcases m with⟨b,c,j,a⟩|⟨b,g,c,l,a⟩
 .exact vp B ss ts n dg s w h d hs i b c j a
 .exact vq B ss ts n dg s w h d hs b g c l a
def X4(es:List Nat)(k:Nat):List Nat:=es.take k++List.replicate (7-k) 0
def Jf(k:Nat):List Bool:=List.replicate k oj++List.replicate (7-k) po
theorem aBn{k:Nat}(b:k<O es)(e:O es<=7):(X4 es k).set k (ep es k 0)=X4 es (k+1):=by
 unfold X4;obtain⟨m,c⟩:∃m,7-k=m+1:=⟨7-k-1,Y⟩;have a:7-(k+1)=m:=Y;rw[List.set_append_right _ _ (j7 VQ),VQ,Nat.min_eq_left Y,Nat.sub_self,c,a,List.replicate_succ,RJ,fG (d:=0) b,zcV];rfl
theorem aBa{k:Nat}(c:k<7):(Jf k).set k oj=Jf (k+1):=by
 unfold Jf;obtain⟨m,b⟩:∃m,7-k=m+1:=⟨7-k-1,Y⟩;have a:7-(k+1)=m:=Y;rw[List.set_append_right _ _ X,Ym,Nat.sub_self,b,a,List.replicate_succ,RJ,List.replicate_succ',zcV];rfl
theorem sn(a:i<O es):ep (X4 es (O es)) i 0=ep es i 0:=by
 unfold X4;rw[R9,iB,zbE a,<-iB]
theorem rp(a:i<n):ep (Jf n) i po=oj:=by
 unfold Jf;rw[iB,zbE (eI a),List.getElem?_replicate,bR a];rfl
theorem Zj{k:Nat}(h:∀s,s∈es->s<2^32):∀s,s∈X4 es k->s<2^32:=λs hs=>by
 unfold X4 at hs;rcases EY.1 hs with hs|hs
 .exact h s (List.mem_of_mem_take hs)
 .rw[(List.mem_replicate.1 hs).2];decide
theorem En(es:List Nat):gW (X4 es (O es)) (Jf (O es)) (O es)=bW es:=Ut (λ_ a=>sn a) (λ_ a=>rp a)
theorem zy(v:aF)(es:List Nat)(aR dg:Nat)(w:aA)(h:CI w v es)(R:O es<=7):
  aH prog 93 #[.agg #[i6 i7 aR,v],i6 kd dg] w λe w'=>∃B,e=i5 (h9 (H ⟨B,0,K⟩))/\hJ w.heap<=B/\qV w' B (X4 es (O es)) (Jf (O es)) (O es) dg/\U w [] w' []:=by
 obtain⟨ad,cap,rfl,-⟩:=h.len;let⟨w1,y⟩:=E (e8 w (h8 #[J aR,hY ad (O es) cap] 133));have r:=Za y;obtain⟨b0,q⟩:=Z2 (Zb y);have L:=Z (h.on r);clear h;go_in;go_upto_region 2 with(fail);let⟨B,l⟩:=E (hJ w1.heap);let⟨w2,j⟩:=E (e8 w1 (h8 #[i6 kd 0,i6 kd 0,i6 kd 0,i6 kd 0,i6 kd 0,i6 kd 0,i6 kd 0,j4 po,j4 po,j4 po,j4 po,j4 po,j4 po,j4 po,J (O es),i6 kd dg] 265));have n:=Za j;have N:qV w2 B (X4 es 0) (Jf 0) (O es) dg:=⟨by rw[<-j,<-l];exact lK w1 _,rfl,rfl⟩;have d:hJ w.heap<=B:=by rw[<-l];exact r.size
 have Q:hJ w1.heap<=B:=Y;have q:=n.cell q X;have f:=(r.dd n);rw[j,l];clear j l b0;go_wp2;go_loopg [17] (O es) (λG i wr=>∃k:Nat,k<=O es/\G=O es-k/\i=J k/\U w2 [B] wr []/\U w [] wr []/\qV wr B (X4 es k) (Jf k) (O es) dg)
 .exact⟨0,Y,rfl,rfl,(U.refl _ _).to X,f,N⟩
 obtain⟨k,W,rfl,rfl,m,p,c⟩:=hrel;by_cases A:k<O es
 .have b:k<7:=Y;have T:(k:Int)<7:=Y;let⟨g,o,cap',hv,F,C⟩:=eX.aU L.o A;have u:g≠B:=Y;have e0:=m.cell (n.cell (C 0 Y) X) (eI u);obtain rfl:=CT hv;rw[wZ,pK]at e0;simp only[EN]at e0;have cs:=c.s b;have V:=c.t b;have S:=c.free;have z:=Z (aBn A R);generalize s:ep es k 0=x at e0 z;clear s q C F;go_upto_region 5 with(fail);go_region;all_goals
   go_wp2;go_roundg (O es-(k+1))
   .refine⟨k+1,Y,rfl,eO,?_,?_,?_⟩
    .first
      |exact((m.setCell (a:=Ad B k) (.inl X) _).setCell (a:=Ad B (7+k)) (.inl X) _).drew
      |exact((m.setCell (a:=Ad B (7+k)) (.inl X) _).setCell (a:=Ad B k) (.inl X) _).drew
    .first
      |exact((p.setCell (a:=Ad B k) (.inr d) _).setCell (a:=Ad B (7+k)) (.inr d) _).drew
      |exact((p.setCell (a:=Ad B (7+k)) (.inr d) _).setCell (a:=Ad B k) (.inr d) _).drew
    .rw[<-z.o,<-((aBa b))];first
      |exact((c.su b x).mV b oj).on (U.refl _ []).drew
      |exact((c.mV b oj).su b x).on (U.refl _ []).drew
   omega
 .obtain rfl:k=O es:=Y;go_wp2;go_ret;exact⟨B,rfl,d,c,p⟩
theorem aOH:jM prog 144 149 2 16:= .PU (z:= .agg #[J 0,i6 kd 0]) underlying144 dB rfl
theorem aOD:jM prog 150 156 4 32:= .PU (z:= .agg #[J 0,J 0,J 0,i6 kd 0]) underlying150 dB rfl
abbrev LI(w0 w:aA)(v:aF)(l:List ES):Prop:=bG uZ qc 149 2 w0 w v l
abbrev Nk(w0 w:aA)(v:aF)(l:List cT):Prop:=bG J0 qc 156 4 w0 w v l
theorem aCf(B:Nat)(ss:List Nat)(ts:List Bool)(n dg:Nat)(w:aA)(h:qV w B ss ts n dg)(f:n<=7):
  aH prog 96 #[h9 (H ⟨B,0,K⟩)] w λe w'=>∃u,e=i5 u/\LI w w' u (gW ss ts n)/\U w [] w' []:=by
 have N:=h.num;have Q:=iO (cV h.bS);go_in;go_wp2;go_loopg [3,9] n (λy p i wr=>∃(k:Nat) (L:List ES),k<=n/\y=n-k/\i=J k/\gW ss ts k=L/\U w [] wr []/\LI w wr p L)
 .exact⟨0,[],Y,rfl,rfl,rfl,U.refl _ _,bG.nil _ _⟩
 obtain⟨k,L,R,rfl,rfl,d,b,j⟩:=hrel;obtain⟨a3,S,rfl,s⟩:=j.len;have o:O L<=k:=d▸YA ss ts k;have g:=Z j;have m:=h.on b;by_cases G:k<n
 .have q:k<7:=Y;have C:(k:Int)<7:=Y;have cs:=m.s q;have l:=m.t q;have a:=Z (AQ ss ts k);rw[d]at a;cases r:ep ts k po with
  |false=>
   rw[r]at l a;have c:dT (gW ss ts (k+1)=L):=Z (a.o▸kn _);go_wp2;go_roundg (n-(k+1))
   .exact⟨k+1,L,Y,rfl,eO,c,b,g⟩
   omega
  |true=>
   rw[r]at l a;generalize F:ep ss k 0=x at cs a;have c:dT (gW ss ts (k+1)=L++[(k,x)]):=Z (by rw[a.o];rfl);go_wp2_with (at_builtin;refine cK aOH rfl _ _ rfl g b Yr [It k,i6 kd (x:Int)] (k,x) Yr rfl (VR rfl rfl) rfl Y F4 ?_;rintro g2 P w3 A v- -;have z:=Z A);go_roundg (n-(k+1))
   .exact⟨k+1,_,Y,rfl,eO,c,v,by simpa using z.o⟩
   omega
 .obtain rfl:k=n:=Y;go_wp2;go_ret;exact⟨_,rfl,d▸g,b⟩
def after(l:List ES)(S:List cT):List ES:=S.foldl make l
theorem n9(l:List ES)(S:List cT)(s:cT):after l (S++[s])=make (after l S) s:=by grind [after]
theorem Fo{dg:Nat}:∀(f:Nat) (l:List ES),eD l<=f->(nK l).Nodup->jS l->∀n,n<=O (run dg f l).1->next (after l ((run dg f l).1.take n)) dg=(run dg f l).1[n]?
 |f,l,hw,hd,hs,n,hn=>by
  cases a:next l dg with
  |none=>
   rw[K8 a]at hn|-;obtain rfl:n=0:=eI hn;simpa[after]using a
  |some s=>
   have b:=o9 hs (iK hd a);match f,hw with
   |0,hw=>omega
   |f+1,hw=>
    rw[K7 a]at hn|-;cases n with
    |zero=>simpa[after]using a
    |succ n=>
     have:=Fo f (make l s) Y (rL hd s) (BR hs s) n (eI hn);simpa[after]using this
theorem Jr{dg:Nat}:∀(f:Nat) (l:List ES),after l (run dg f l).1=(run dg f l).2
 |0,l=>rfl
 |f+1,l=>by
  cases a:next l dg with
  |none=>rw[K8 a];rfl
  |some s=>
   rw[K7 a];have:=Jr (dg:=dg) f (make l s);simpa[after]using this
theorem PG{dg:Nat}:∀(f:Nat) (l:List ES),eD l<=f->(nK l).Nodup->jS l->O (run dg f l).1<=eD l
 |f,l,hw,hd,hs=>by
  cases a:next l dg with
  |none=>rw[K8 a];simp
  |some s=>
   have b:=o9 hs (iK hd a);match f,hw with
   |0,hw=>omega
   |f+1,hw=>
    rw[K7 a];have:=PG (dg:=dg) f (make l s) Y (rL hd s) (BR hs s);simp only[T9];omega
theorem LX{dg f:Nat}(b:eD l<=f)(hd:(nK l).Nodup)(hs:jS l)(a:n<=O (run dg f l).1):
  (n=O (run dg f l).1/\next (after l ((run dg f l).1.take n)) dg=K)\/(n<O (run dg f l).1/\∃s,(run dg f l).1[n]? =H s/\next (after l ((run dg f l).1.take n)) dg=H s/\(run dg f l).1.take (n+1)=(run dg f l).1.take n++[s]):=by
 grind [Fo,List.take_add_one]
theorem Jv{dg f:Nat}{b:sM}(a:eD l<=f)(hd:(nK l).Nodup)(hs:jS l){R:Option (sM×List ES)}(e:cX pa dg f b l=R):
  (iG l dg=oj/\R=H (b,l))\/(iG l dg=po/\next l dg=K/\R=K)\/
  (iG l dg=po/\∃g s,next l dg=H s/\eD (make l s)<=g/\cX pa dg g (gB pa b l s) (make l s)=R):=by
 subst e;cases c:iG l dg with
 |true=>exact .inl ⟨rfl,by cases f<;>(unfold cX;rw[bR c])⟩
 |false=>
  cases d:next l dg with
  |none=>
   refine .inr (.inl ⟨rfl,rfl,?_⟩);cases f<;>grind [cX]
  |some s=>
   have i:=o9 hs (iK hd d);match f,a with
   |0,a=>omega
   |g+1,a=>
    refine .inr (.inr ⟨rfl,g,s,rfl,Y,?_⟩);conv=>rhs;unfold cX
    rw[bD (by rw[c];decide),d]
def ER(xD:List Nat)(l:List ES):Prop:=∀x,x∈l->ep xD x.1 0=x.2
theorem ER.aTr(es:List Nat):ER es (bW es):=λx a=>((oT.1 (show(x.1,x.2)∈_ from a)).2).symm
theorem ER.set{xD:List Nat}(h:ER xD l){s:cT}(e:s.bP<O xD):ER (fH xD s) (make l s):=by
 intro x b;unfold fH;unfold make at b;by_cases d:s.aG=1
 .rw[bR d]at b|-;obtain⟨y,c,rfl⟩:=BB.1 b;rw[FV];by_cases a:y.1=s.bP
  .rw[bR a];dsimp only;rw[bR ⟨a.symm,e⟩,<-h y c,a]
  .rw[bD a,bD (λh=>a h.1.symm)];exact h y c
 .rw[bD d]at b|-;exact h x (T8.1 b).1
def tF(xD GV:List Nat)(s:cT):aX:=
 if s.aG=1 then⟨2,0,cD (fD (ep xD s.bP 0) s.cut),ep GV s.bP 0,0,-1,po⟩else⟨3,0,cD (ep xD s.eK 0),ep GV s.eK 0,ep GV s.bP 0,-1,po⟩
theorem ir{xD:List Nat}{b:sM}{s:cT}{k:Nat}(h:ER xD l)(hd:(nK l).Nodup)(d:next l k=H s):
  gB (-1) b l s=(b.1++[tF xD b.2 s],b.2.set (if s.aG=1 then s.bP else s.eK) (O b.1)):=by
 let⟨i,c,g⟩:=(iK hd d).mem;unfold gB tF;have gH:∀e,e∈nK l->FB l e=ep xD e 0:=λe c=>by
  let⟨t,a⟩:=pN.1 c;rw[FA hd a,h _ a]
 grind
def vJ(x:aX)(p:Int):aX:={x with bU:=p}
theorem Cv(x:aX)(p q:Int):vJ (vJ x p) q=vJ x q:=rfl
def oX(ns:List aX)(k:Nat):List aX:=(List.range (O ns)).map λi=>vJ (ep ns i qc) (vN ns i k)
theorem qF(ns:List aX)(k:Nat):O (oX ns k)=O ns:=by simp[oX]
theorem DO{ns:List aX}{k:Nat}(h:i<O ns):ep (oX ns k) i qc=vJ (ep ns i qc) (vN ns i k):=by
 grind [oX]
theorem FZ{a b:List aX}(hl:O a=O b)(h:∀i,i<O a->ep a i qc=ep b i qc):a=b:=by
 apply List.ext_getElem hl;intro i c d;have:=h i c;rwa[iB,kX c,iB,kX d]at this
theorem Tq{ns:List aX}(h:∀x,x∈ns->x.bU= -1):oX ns 0=ns:=by
 refine FZ (qF ns 0) λi a=> ?_;rw[qF]at a;rw[DO a];have b:=h (ep ns i qc) GJ;generalize ep ns i qc=x at b;show({x with bU:= -1}:aX)=x;rw[<-b]
def vL(ns:List aX)(c k:Nat):List aX:=ns.set c (vJ (ep ns c qc) (k:Int))
theorem Dl(ns:List aX)(c k:Nat):O (vL ns c k)=O ns:=by simp[vL]
theorem Tr{ns:List aX}{k:Nat}(c:k<O ns)(a:lJ ns):
  oX ns (k+1)=if(ep ns k qc).aG=2 then vL (oX ns k) (ep ns k qc).cB k
   else if(ep ns k qc).aG=3 then vL (vL (oX ns k) (ep ns k qc).cB k) (ep ns k qc).bK k else oX ns k:=by
 let⟨b,e,d⟩:=a k c;refine FZ ?_ λi g=> ?_
 .grind [Dl,qF]
 grind [qF,DO,E9,dV,vL,tL,Cv]
theorem fd{ns:List aX}(ha:jT ns ms)(c:∀i,i<O ns->(ep ms i qc).lW=(decide (low<=i)||decide (i∈tops))):oX ms (O ms)=oJ ns low tops:=by
 refine FZ (by rw[qF,DJ,<-ha.len]) λi a=> ?_;rw[qF]at a;have d:i<O ns:=ha.len▸a;rw[DO a];have e:ep (oJ ns low tops) i qc={ep ns i qc with bU:=nF ns i,lW:=decide (low<=i)||decide (i∈tops)}:=by
  grind [oJ]
 rw[e,ha.nF,<-c i d];have b:vN ms i (O ms)=nF ms i:=rfl;rw[b];exact(Fd (ha.aU i) (nF ms i) (ep ms i qc).lW).symm
variable{tmps:Array aF}{fn:Func}{u2:Tmp}{v3:aF}
theorem ZM48{P:Prop}(h:P:=by
  go_roundg (O S-(k+1))
  .exact⟨k+1,C',Y,rfl,rfl,hC',by rw[LP.o];rfl,LP.o▸V8.1,(Bf.dd lI).aZ V8.2 (λb hb=>by simp at hb;omega),(sS.on lI).Vk V8.2 (λb hb=>by
    obtain rfl:b=C':=eI hb;rw[eH zO.o];decide),by rw[D3.o];exact(oI.on lI).eF V8.2 (λb hb hm=>HGC.o b hb (eI hm)),HGC⟩
  omega):P:=h
theorem ZM73{P:Prop}(h:P:=by
  go_wp2_with (go_at_call 94;apply HN.cL;intro w4 hU;have kQ:=Z hU;clear hU);go_meet;exact⟨_,rfl,jN (cM.dd gZ).size kQ.size,by rw[HO.o];rfl,HO.o▸lK _ _,kQ.alloc _⟩):P:=h
structure LH(w:aA)(B n dg:Nat)(l:List ES):Prop where
 ex:∃ss ts,qV w B ss ts n dg/\(∀s,s∈ss->s<2^32)/\gW ss ts n=l
theorem LH.on{B dg:Nat}(h:LH w B n dg l)(a:U w [] w' S'):LH w' B n dg l:=by
 obtain⟨ss,ts,c,d,b⟩:=h.ex;exact⟨ss,ts,c.on a,d,b⟩
theorem LH.Vk{B dg:Nat}(h:LH w B n dg l)(a:U w S w' S')(b:∀k,k∈S->lZ w k≠H 265):LH w' B n dg l:=by
 obtain⟨ss,ts,d,e,c⟩:=h.ex;exact⟨ss,ts,d.Vk a b,e,c⟩
theorem LH.ty{B dg:Nat}(h:LH w B n dg l):lZ w B=H 265:=by
 obtain⟨ss,ts,a,c,b⟩:=h.ex;exact eH a.bS
theorem IR{s:cT}(h:∀x,x∈ss->x<2^32):∀x,x∈fH ss s->x<2^32:=λx a=>by
 unfold fH at a;split at a
 .rcases List.mem_or_eq_of_mem_set a with a|rfl
  .exact h x a
  .exact Og (AL _ _) (Xc (BH h s.bP) D)
 .exact h x a
theorem Nm.bP{ts:List Bool}{dg:Nat}{s:cT}(h:Nm ss ts dg n s):s.bP<n:=by
 rcases h with⟨h,_⟩|⟨h,_⟩<;>exact h
theorem mr(B n dg:Nat)(l:List ES)(w:aA)(h:LH w B n dg l)(a:n<=7)(b:dg<2^32):
  tR 94 #[h9 (H ⟨B,0,K⟩)] w λe w'=>(match next l dg with
  |some s=>e=i5 (i8 #[jX s,j4 oj])
  |none=>e=i5 (i8 #[.agg #[i6 i7 0,i6 i7 0,i6 i7 0,i6 kd 0],j4 po]))/\U w [] w' []:=by
 obtain⟨ss,ts,c,d,rfl⟩:=h.ex;exact aCW B ss ts n dg w c a d b
theorem Gk(B n dg:Nat)(l:List ES)(w:aA)(h:LH w B n dg l)(b:n<=7)(a:dg<2^32){s:cT}(hs:next l dg=H s):
  tR 94 #[h9 (H ⟨B,0,K⟩)] w λe w'=>e=i5 (i8 #[.agg #[i6 i7 s.aG,i6 i7 s.bP,i6 i7 s.eK,i6 kd s.cut],j4 oj])/\U w [] w' []:=by
 refine(mr B n dg l w h b a).mono λe w' h=> ?_;rw[hs]at h;exact h
theorem mu(B n dg:Nat)(l:List ES)(w:aA)(h:LH w B n dg l)(b:n<=7)(a:dg<2^32)(hs:next l dg=K):
  tR 94 #[h9 (H ⟨B,0,K⟩)] w λe w'=>e=i5 (i8 #[.agg #[i6 i7 0,i6 i7 0,i6 i7 0,i6 kd 0],j4 po])/\U w [] w' []:=by
 refine(mr B n dg l w h b a).mono λe w' h=> ?_;rw[hs]at h;exact h
theorem np(B n dg:Nat)(l:List ES)(s:cT)(w:aA)(h:LH w B n dg l)(j:n<=7)(i:dg<2^32)(hs:next l dg=H s):
  tR 95 #[h9 (H ⟨B,0,K⟩),jX s] w λe w'=>e=i5 (j4 oj)/\LH w' B n dg (make l s)/\U w [B] w' [B]:=by
 obtain⟨ss,ts,a,b,rfl⟩:=h.ex;have c:=Ro ss ts hs;apply(uo B ss ts n dg s w a j b i c).cF;rintro e w' ⟨rfl,g,d⟩;have m:=c.bP;exact⟨rfl,⟨_,_,g,IR b,QM ss ts (j7 a.hs) (j7 a.ht) n⟩,d⟩
theorem nu(B n dg:Nat)(l:List ES)(w:aA)(h:LH w B n dg l)(a:n<=7):
  tR 96 #[h9 (H ⟨B,0,K⟩)] w λe w'=>∃u,e=i5 u/\LI w w' u l/\U w [] w' []:=by
 obtain⟨ss,ts,b,c,rfl⟩:=h.ex;exact aCf B ss ts n dg w b a
theorem Vn(v:aF)(es:List Nat)(aR dg:Nat)(w:aA)(h:CI w v es)(a:O es<=7)(hs:∀s,s∈es->s<2^32):
  tR 93 #[.agg #[i6 i7 aR,v],i6 kd dg] w λe w'=>∃B,e=i5 (h9 (H ⟨B,0,K⟩))/\hJ w.heap<=B/\LH w' B (O es) dg (bW es)/\U w [] w' []:=by
 apply(zy v es aR dg w h a).cF;rintro e w' ⟨B,rfl,c,d,b⟩;exact⟨B,rfl,c,⟨_,_,d,Zj hs,En es⟩,b⟩
theorem aQu{p u:Tmp}(h:fn.results=#[.tmp p,.tmp u,.tmp u2])(b:tmps.getD p undef=v)(c:tmps.getD u undef=v2)(a:tmps.getD u2 undef=v3):(results fn tmps).run P w= .ok (i8 #[v,v2,v3]) w:=by
 subst b;subst c;subst a;simp[results,h]
def XT:Option cT->Array aF
 |some s=>#[i6 i7 s.aG,i6 i7 s.bP,i6 i7 s.eK,i6 kd s.cut]
 |none=>#[i6 i7 0,i6 i7 0,i6 i7 0,i6 kd 0]
theorem XC(v:aF)(es:List Nat)(aR dg:Nat)(w:aA)(h:CI w v es)(o:oB es aR)(Q:dg<2^32):
  aH prog 51 #[.agg #[i6 i7 aR,v],i6 kd dg] w λe w'=>∃u x,e=i5 (i8 #[u,x,i6 i7 0])/\Nk w w' u (run dg bZ (bW es)).1/\LI w w' x (run dg bZ (bW es)).2/\U w [] w' []:=by
 obtain⟨ad,cap,rfl,-⟩:=h.len;have G:=o.hm;let⟨w1,eT⟩:=E (e8 w (h8 #[J aR,hY ad (O es) cap] 133));have cM:=Za eT;have eQ:=Zb eT;obtain⟨b0,b1⟩:=Z2 eQ;have hE:=h.on cM;have HV:=(XQ _ es aR w1 hE o);have R:=Z λwz (hz:U w1 [] wz [])=>Vn _ es aR dg wz (hE.on hz) o.hm o.dM;have Gt:=lD G;have uC:=pB es;have nU:=nC o.dM;have i:=Z λn a=>LX (dg:=dg) Gt uC nU (n:=n) a;have GB:O (run dg bZ (bW es)).1<=300:=jN (PG bZ _ Gt uC nU) Gt;have f:=(Jr (dg:=dg) bZ (bW es));let⟨S,hS⟩:=E ((run dg bZ (bW es)).1);rw[hS]at i GB f;have HS:=Z hS;clear h eQ hE o Gt uC nU hS;go_in;go_upto_region 4 with(first
  |(go_at_call 93;apply(R.o _ eM).cF;rintro e w3 ⟨B,rfl,wV,m,hU⟩;have gZ:=(eM.dd hU);have g:=Z m;clear m hU)
  |(go_at_call 92;apply HV.cL;intro w2 hU;let⟨b0,b1⟩:=hU.zc2 b0 b1;have eM:=Z hU;clear hU))
 have DW:=g;go_cut [8,9] (λs8 s9 wx=>∃C,s8= Pt C/\hJ w.heap<=C/\s9=j4 (S[0]?).isSome/\rW wx C (XT (S[0]?)) 156/\U w3 [] wx [])
 case first=>
  rcases i.o 0 (RN _)with⟨hl,a⟩|⟨hl,s,hs,a,-⟩
  .have HN:=Z (mu B (O es) dg _ w3 g G Q a);have HO:=Z (show S[0]? =K from List.getElem?_eq_none Y);clear hl a;exact ZM73
  .have HN:=Z (Gk B (O es) dg _ w3 g G Q a);have HO:=Z hs;clear hl a hs;exact ZM73
 case rest=>
  obtain⟨C,rfl,hC,rfl,D1,L⟩:=hcut;have kQ:=Z (cM.dd (gZ.dd L));have HBW:=Z (show hJ w.heap<=B from jN (cM.dd eM).size wV);have d:=Z (g.on L);clear L g DW HV R b0 b1;go_wp2;go_loopg [4,8,9] (O S) (λgg p s8 s9 wr=>∃(k C:Nat),k<=O S/\gg=O S-k/\s8= Pt C/\hJ w.heap<=C/\s9=j4 (S[k]?).isSome/\rW wr C (XT (S[k]?)) 156/\
   U w [] wr []/\LH wr B (O es) dg (after (bW es) (S.take k))/\Nk w wr p (S.take k)/\∀b,gz p=H b->b≠C)
  .exact⟨0,C,Y,rfl,rfl,hC,rfl,D1,kQ,d,bG.nil _ _,λb hb=>by simp[gz]at hb⟩
  obtain⟨k,C,hkS,rfl,rfl,hC,rfl,c,hU,m,j,dW⟩:=hrel;obtain⟨a3,EP,rfl,M6⟩:=j.len;have oy:O (S.take k)=k:=j7 VQ;rw[oy]at j M6 dW|-;have tP:=Z dW;have HB:=Z c;have HU:=Z hU;have g:=Z m;have HL:=Z j;have CL:=Z oy;clear d kQ c hU m j oy dW;rcases i.o k hkS with⟨hl,a⟩|⟨hl,s,hs,a,oZ⟩
  .have HO:=Z (show S[k]? =K from List.getElem?_eq_none Y);rw[HO.o];simp only[Option.isSome_none];clear a;subst hl;have D3:=Z (R9 (l:=S));have V:=(nu B (O es) dg _ wr g G);rw[D3.o,f]at V;go_wp2_with (go_at_call 96;apply V.cF;rintro e w4 ⟨u,rfl,hO,L⟩;have kQ:=Z L;clear L);refine mD (aQu rfl Yr Yr Yr) rfl ?_;refine⟨_,_,rfl,?_,hO.eE HU.size,HU.dd kQ⟩;rw[HS.o];have:=HL.on kQ.o;rw[D3.o]at this;exact this
  .have HO:=Z hs;rw[HO.o]at HB|-;simp only[Option.isSome_some];have D3:=Z oZ;have q:=np B (O es) dg _ s wr g G Q a;rw[<-n9,<-oZ]at q;unfold jX at q;have c:=HB.o;unfold XT at c;obtain⟨e0,F,e2,A⟩:=Z4 c;clear a hs oZ c;go_upto_region 10 with(first
    |(at_builtin;refine cK aOD rfl _ _ rfl DY kQ Yr [i6 i7 s.aG,i6 i7 s.bP,i6 i7 s.eK,i6 kd s.cut] s Yr rfl (L9 rfl rfl rfl rfl) rfl (j7 CL.o) (by rw[CL.o];unfold bw;omega) ?_;rintro g2 c2 w5 j hU t-;rw[CL.o]at j|-;have P:C∉(hY a3 k EP).ownBlock.toList:=(λhm=>tP.o C (eI hm) rfl);have e0:=t.cell e0 P;have F:=t.cell F P;have e2:=t.cell e2 P;have A:=t.cell A P;have sS:=Z (d.Vk t (λb hb=>by rw[DY.o.Bx b hb];decide));have oI:=Z j;have gD:=Z hU;clear j hU t P)
    |(go_at_call 95;apply q.cL;rintro w4 ⟨m,hU⟩;have RD:=g.ty;have N:C∉[B]:=(λhm=>by rw[show C=B by simpa using hm]at HB;have:=eH HB.o;rw[RD]at this;exact dS this D);have e0:=hU.cell e0 N;have F:=hU.cell F N;have e2:=hU.cell e2 N;have A:=hU.cell A N;have d:=Z m;have DY:=Z (HL.dg hU (λb hb=>by rw[show b=B by simpa using hb,RD];decide));have kQ:=Z (HU.aZ hU (λb hb=>by rw[show b=B by simpa using hb];exact HBW));clear m hU RD N))
   obtain⟨C',r⟩:∃C',hJ w5.heap=C':=⟨_,rfl⟩;have hC':hJ w.heap<=C':=r▸gD.size;have HGC:dT (∀b,gz (eB g2 0 (k+1) c2)=H b->b≠C'):=Z λb hb=>by
    have:=oI.1.lt b hb;omega
   go_upto_region 6 with(fail);let⟨w6,iA⟩:=E (e8 w5 (h8 #[J s.aG,J s.bP,J s.eK,i6 kd s.cut] 156));have dK:=Za iA;have nP:rW w6 C' #[J s.aG,J s.bP,J s.eK,i6 kd s.cut] 156:=by rw[<-iA,<-r];exact lK w5 _
   have W:=sS.on dK;have oI:=Z (oI.on dK);have sS:=Z W;have Bf:=(gD.dd dK);rw[iA];clear iA r dK kQ DY d e0 F e2 A;rcases i.o (k+1) Y with⟨GD,a⟩|⟨GD,s2,T,a,-⟩
   .have HN:=Z (mu B (O es) dg _ w6 W G Q a);have LP:=Z (show S[k+1]? =K from List.getElem?_eq_none Y);clear GD a W;go_wp2_with (go_at_call 94;apply HN.cL;intro w7 hU;have c:=hU.aC nP X;obtain⟨e0,F,e2,A⟩:=Z4 c;have ef:=aM c;have zO:=Z c;have lI:=Z hU;clear hU c);have V8:=Jp (x:=J 0) (y:=J 0) (z:=J 0) (u:=i6 kd 0) zO.o;exact ZM48
   .have HN:=Z (Gk B (O es) dg _ w6 W G Q a);have LP:=Z T;clear GD a T W;go_wp2_with (go_at_call 94;apply HN.cL;intro w7 hU;have c:=hU.aC nP X;obtain⟨e0,F,e2,A⟩:=Z4 c;have ef:=aM c;have zO:=Z c;have lI:=Z hU;clear hU c);have V8:=Jp (x:=J s2.aG) (y:=J s2.bP) (z:=J s2.eK) (u:=i6 kd s2.cut) zO.o;exact ZM48
theorem Qz(v u:aF)(es:List Nat)(aR dg c:Nat)(w:aA)(h:CI w v es)(p:oB es aR)(hk:dg<2^32){S:List cT}(hS:(run dg bZ (bW es)).1=S)(Ll:c<=O S)(N:eX J0 qc 4 w u (S.take c)):
  aH prog 90 #[.agg #[i6 i7 aR,v],i6 kd dg,u] w λe w'=>∃x,e=i5 (i8 #[x,i6 i7 c,i6 i7 0])/\LI w w' x (after (bW es) (S.take c))/\U w [] w' []:=by
 obtain⟨ad,cap,rfl,-⟩:=h.len;have P:O (S.take c)=c:=j7 VQ;obtain⟨ua,uc,rfl,-⟩:=N.len;rw[P]at N|-;have h7:=p.hm;let⟨w1,eT⟩:=E (e8 w (h8 #[J aR,hY ad (O es) cap] 133));have L:=Za eT;have eQ:=Zb eT;obtain⟨b0,b1⟩:=Z2 eQ;have hE:=h.on L;have HV:=(XQ _ es aR w1 hE p);have A:=Z λwz (hz:U w1 [] wz [])=>Vn _ es aR dg wz (hE.on hz) p.hm p.dM;have t:=lD h7;have uC:=pB es;have nU:=nC p.dM;have G:=Z λn y=>LX (dg:=dg) t uC nU (n:=n) y;have GB:O (run dg bZ (bW es)).1<=300:=jN (PG bZ _ t uC nU) t;rw[hS]at G GB;have Q:=Z (N.on L);have z:=Z P;clear h eQ hE p t uC nU hS N P;go_in;go_upto_region 4 with(first
  |(go_at_call 93;apply(A.o _ f.o).cF;rintro e w3 ⟨B,rfl,R,l,a⟩;have gZ:=(f.o.dd a);have HR:=Z l;clear l a)
  |(go_at_call 92;apply HV.cL;intro w2 a;let⟨b0,b1⟩:=a.zc2 b0 b1;have f:=Z a;clear a))
 have HBW:=Z (show hJ w.heap<=B from jN (L.dd f.o).size R);have HBL:=(show hJ w1.heap<=B from jN f.o.size R);clear HV A b0 b1 R;go_wp2;go_loopg [7,20] c (λgg s7 i wr=>∃k:Nat,k<=c/\gg=c-k/\s7=J k/\i=J k/\U w [] wr []/\U w1 [B] wr []/\LH wr B (O es) dg (after (bW es) (S.take k)))
 .exact⟨0,Y,rfl,rfl,rfl,L.dd gZ,(gZ.quiet [B]).to X,HR.o⟩
 obtain⟨k,Td,rfl,rfl,rfl,a,j,l⟩:=hrel;have HU:=Z a;have HRk:=Z l;by_cases aV:k<c
 .rcases G.o k Y with⟨hl,y⟩|⟨hl,s,hs,y,oZ⟩
  .omega
  have F:ep (S.take c) k qc=s:=by
   rw[iB,List.getElem?_take,bR aV,hs];rfl
  let⟨g,o,cx,hv,Ed,q⟩:=Q.o.aU (i:=k) (by rw[z.o];exact aV);rw[z.o]at hv;obtain rfl:=CT hv;rw[F]at q;have d:g∉[B]:=λr=>by have h1:=HBL;rw[<-show g=B by simpa using r]at h1;omega
  have c0:=j.cell (q 0 D) d;have c1:=j.cell (q 1 D) d;have c2:=j.cell (q 2 D) d;have c3:=j.cell (q 3 D) d;simp only[J0,pK]at c0 c1 c2 c3;have HN:=Z y;clear F q y hs a l d;go_upto_region 7 with(fail);let⟨C,hC⟩:=E (hJ wr.heap);let⟨w5,qL⟩:=E (e8 wr (h8 #[J s.aG,J s.bP,J s.eK,i6 kd s.cut] 156));have V:=Za qL;have rS:=Ze qL hC;obtain⟨d0,d1,d2,d3⟩:=Z4 rS;have m:=np B (O es) dg _ s w5 (HRk.o.on V) h7 hk HN.o;rw[<-n9,<-oZ]at m;unfold jX at m;rw[qL];clear qL rS c0 c1 c2 c3;go_wp2_with (go_at_call 95;apply m.cL;rintro w6 ⟨l,a⟩;have HR6:=Z l;have lI:=Z a;clear l a);go_roundg (c-(k+1))
  .exact⟨k+1,Y,rfl,eO,eO,(HU.o.dd V).aZ lI.o (λb hb=>by rw[show b=B by simpa using hb];exact HBW.o),((j.to (T:=[B]) (λ_ r=> .inl r)).dd ((V.quiet [B]).dd lI.o)).to X,HR6.o⟩
  omega
 .obtain rfl:k=c:=Y;have W:=(nu B (O es) dg _ wr l h7);clear a l;go_wp2_with (go_at_call 96;apply W.cF;rintro e w4 ⟨u,rfl,hO,eA⟩);refine mD (aQu rfl Yr Yr Yr) rfl ?_;exact⟨_,rfl,hO.eE HU.o.size,HU.o.dd eA⟩
theorem ZM103{P:Prop}(h:P:=by
  go_wp2;go_roundg (n-(k+1))
  .exact⟨k+1,L2,Y,rfl,eO,aAQ.o,Co.o.on ((U.refl _ []).drewN _),bH.drewN _⟩
  omega):P:=h
theorem bG.De{α:Type}{f:α->Nat->aF}{d:α}{e:ap}{l:List α}(h:bG f d e 1 w0 w (hY (H ⟨g,0,K⟩) n cap) l)(a:i<O l)(x:α)(b:f x 0=u):
  bG f d e 1 w0 (ey w ⟨g,i,K⟩ u) (hY (H ⟨g,0,K⟩) n cap) (l.set i x):=by
 have:=h.DB (j:=0) a D x u (λc m=>by
  obtain rfl:c=0:=Y;rw[bR rfl];exact b)
 simpa using this
theorem Sb(x:Nat)(w:aA):aH prog 198 #[i6 kd (x:Int)] w λe w'=>e=i5 (j4 po)/\w=w':=by
 have a:((x:Int)!=(x:Int))=po:=X;go_in;go_wp2;go_ret;exact⟨rfl,rfl⟩
theorem Y8(x y:Nat)(w:aA):aH prog 185 #[i6 kd (x:Int),i6 kd (y:Int)] w λe w'=>e=i5 (j4 (decide (x<y)))/\∃m,w'=w.drewN m:=by
 go_in;go_wp2_with (go_at_call 198;apply(Sb _ _).cL;rintro w' rfl);go_ret;exact⟨rfl,0,rfl⟩
theorem Ds(v:aF)(L:List Nat)(w0 w:aA)(h:wY w0 w v L)(hl:O L<=12):
  aH prog 179 #[v,i6 i7 0,i6 i7 (O L)] w λe w'=>e=i5 (i8 #[])/\U w v.ownBlock.toList w' v.ownBlock.toList:=by
 obtain⟨a,cap,rfl,-⟩:=h.len;generalize F:O L=n at hl h|-;have o:=Z F;clear F;go_in;go_wp2;go_loopg [6] (n-1) (λA i wr=>∃(k:Nat) (L':List Nat),1<=k/\A=n-k/\i=J k/\O L'=n/\wY w0 wr (hY a n cap) L'/\U w (hY a n cap).ownBlock.toList wr (hY a n cap).ownBlock.toList)
 .exact⟨1,L,fV _,rfl,rfl,o.o,h,U.refl _ _⟩
 obtain⟨k,L',tK,rfl,rfl,u,r,C⟩:=hrel;by_cases V:k<n
 .obtain⟨g,W,hv,q,R,-,-,-⟩:=(show eJ _ _ _ _ _ _ from r.1).block Y;rw[u]at hv;obtain rfl:=CT hv;have Q:=Z r;have N:=Z u;clear r u q R;go_wp2;go_loopg [7] k (λA j wr=>∃(m:Nat) (L':List Nat),m<=k/\A=k-(k-m)/\j=J m/\O L'=n/\wY w0 wr (eB g 0 n cap) L'/\U w (eB g 0 n cap).ownBlock.toList wr (eB g 0 n cap).ownBlock.toList)
  .exact⟨k,L',fV _,Y,rfl,N.o,Q.o,C⟩
  obtain⟨m,L2,T,rfl,rfl,b,c,bH⟩:=hrel;by_cases z:m=0
  .subst z;have Co:=Z c;have aAQ:=Z b;clear c b;go_wp2;go_quiet (fail);exact ZM103
  .obtain⟨j,rfl⟩:∃j,m=j+1:=⟨m-1,Y⟩;have l:eJ wr (eB g 0 (O L2) cap) 134 1 (O L2) (λi j=>EN (ep L2 i 0) j):=by rw[b];rw[<-b];rw[<-b]at c;exact c.1
   have c0:=l.cell (i:=j+1) (j:=0) Y D;have c1:=l.cell (i:=j) (j:=0) Y D;have B:=l.free (g:=g) rfl;simp only[EN,wZ,pK]at c0 c1;have Co:=Z c;have aAQ:=Z b;let⟨x,P⟩:=E (ep L2 (j+1) 0);let⟨y,f⟩:=E (ep L2 j 0);rw[P]at c0;rw[f]at c1;clear c b l;by_cases S:x<y
   .go_wp2;go_quiet ((go_at_call 185;refine Calls.quiet_of (Y8 _ _ _)));go_upto_region 6 with(fail);let⟨w5,p⟩:=E (wr.drewN nq);have d:U wr [] w5 []:=Po p;have B:=d.pu c0 X B;let⟨c0,c1⟩:=d.zc2 c0 c1;have s:=Z (Co.o.on d);have G:=(bH.drewN nq);rw[p]at G|-;clear p d Co;go_region;all_goals
     go_wp2;go_roundg (k-(k-j))
     .exact⟨j,(L2.set (j+1) y).set j x,Y,rfl,eO,by rw[VP,VP];exact aAQ.o,
      ((s.o.De (i:=j+1) (j7 aAQ.o) y rfl).De (i:=j) (by rw[VP,aAQ.o];omega) x rfl).on (U.refl _ []).drew,
      ((G.setCell (a:=Ad g (j+1)) (.inl (by simp[gz])) _).setCell (a:=Ad g j) (.inl (by simp[gz])) _).drew⟩
     omega
   .go_wp2;go_quiet ((go_at_call 185;refine Calls.quiet_of (Y8 _ _ _)));exact ZM103
 .go_wp2;go_end0;exact⟨rfl,C⟩
theorem aGy(n:Nat)(a:n<=7)(w:aA):aH prog 162 #[i6 .u64 (n:Int)] w λe w'=>∃r:Int,e=i5 (i6 i7 r)/\w=w':=by
 match n,a with
 |0,_|1,_|2,_|3,_|4,_|5,_|6,_|7,_=>
  go_in;go_wp2_with go_in;go_ret;exact⟨_,rfl,rfl⟩
theorem aBt(v:aF)(L:List Nat)(w0 w:aA)(h:wY w0 w v L)(hl:O L<=7):
  tR 128 #[v] w λe w'=>e=i5 (i8 #[])/\U w v.ownBlock.toList w' v.ownBlock.toList:=by
 obtain⟨a,cap,rfl,-⟩:=h.len;have g:=Z λc=>aGy (O L) hl c;have j:∀r:Int,tR 161 #[hY a (O L) cap,J 0,J (O L),J r] w λe w'=>e=i5 (i8 #[])/\U w (hY a (O L) cap).ownBlock.toList w' (hY a (O L) cap).ownBlock.toList:=by
  intro r;have d:(O L:Int)<=12:=Y;go_enter func161,ntmps161;go_wp2;refine wp_loop_rounds 1 ?_;rw[rounds_succ];go_wp2_with (go_at_call 179;apply (Ds _ L w0 w h Y).cL;intro w' b);(try simp only[Exit.inBlock,Exit.then])
  refine mD (results_none rfl _ _ _) rfl ?_;exact⟨rfl,b⟩
 go_enter func128,ntmps128;go_wp2_with (first
  |(go_at_call 161;apply(j _).cL;intro w' b)
  |(go_at_call 162;apply(g.o _).cF;rintro e w' ⟨r,rfl,rfl⟩))
 go_end0;exact⟨rfl,b⟩
theorem aG2{p u:Tmp}(h:fn.results=#[.tmp p,.tmp u])(a:tmps.getD p undef=v)(b:tmps.getD u undef=v2):(results fn tmps).run P w= .ok (i8 #[v,v2]) w:=by
 subst a;subst b;simp[results,h]
def nz(l:List ES):List Nat:=(l.filter λx=>decide (x.2≠0)).map (·.2)
theorem aGh{k:Nat}(h:k<O l):nz (l.take (k+1))=nz (l.take k)++if(ep l k qc).2=0 then[]else[(ep l k qc).2]:=by
 unfold nz;rw[fG (d:=qc) h,zdF,R8];congr 1;by_cases a:(ep l k qc).2=0
 .rw[bR a,List.filter_cons_of_neg (by simp only[RK,ne_eq,Decidable.not_not];exact a)];rfl
 .rw[bD a,List.filter_cons_of_pos (by simp only[RK,ne_eq];exact a)];rfl
theorem vz(l:List ES):O (nz l)<=O l:=by
 unfold nz;rw[sN];exact zdG _ _
theorem aLr(l:List ES):decide (O (nz l)=0)= !l.any λx=>decide (x.2≠0):=by
 unfold nz;rw[sN,Bu,RK,Pk,zdE];simp
theorem ku:jM prog 131 134 1 4:=Yn.ok
theorem tu(v:aF)(es:List Nat)(aR dg:Nat)(w:aA)(h:CI w v es)(Q:oB es aR)(hk:dg<2^32)(hl:(run dg bZ (bW es)).2=l)(Ol:O l<=7):
  aH prog 88 #[.agg #[i6 i7 aR,v],i6 kd dg] w λe w'=>∃a c,e=i5 (i8 #[hY a (O (nz l)) c,i6 i7 0])/\U w [] w' []:=by
 obtain⟨ad,cap,rfl,-⟩:=h.len;let⟨w1,P⟩:=E (e8 w (h8 #[J aR,hY ad (O es) cap] 133));have F:=Za P;have S:=Zb P;obtain⟨b0,b1⟩:=Z2 S;have HR:=(XC _ es aR dg w1 (h.on F) Q hk);rw[hl]at HR;clear h S Q hl;go_in;go_wp2_with (go_at_call 51;apply HR.cF;rintro e w2 ⟨u,x,rfl,hS,m,d⟩;obtain⟨sa,sc,rfl,-⟩:=hS.len;obtain⟨la,lc,rfl,-⟩:=m.len;have L:=(F.dd d);have HL:=Z (m.eE F.size);clear d m hS);clear b0 b1;go_loopg [9,21] (O l) (λgg p i wr=>∃(k:Nat),k<=O l/\gg=O l-k/\i=J k/\U w [] wr []/\U w2 [] wr []/\wY w2 wr p (nz (l.take k)))
 .exact⟨0,Y,rfl,rfl,L,U.refl _ _,bG.nil _ _⟩
 obtain⟨k,Tb,rfl,rfl,d,W,n⟩:=hrel;obtain⟨a3,EP,rfl,M6⟩:=n.len;have G:=vz (l.take k);rw[VQ]at G;by_cases R:k<O l
 .have r:=Z (aGh R);let⟨g,o,cx,hv,Ed,f⟩:=(HL.rd.on W).aU R;obtain rfl:=CT hv;have c0:=f 0 D;have c1:=f 1 D;let⟨x,V⟩:=E (ep l k qc);rw[V]at c0 c1 r;simp only[uZ,pK]at c0 c1;have C:=Z d;let⟨N,T⟩:=E (nz (l.take k));rw[T]at r n G M6|-;clear V f d T;go_upto_region 6 with(fail);let⟨w5,q⟩:=E (e8 wr (h8 #[J x.1,i6 kd x.2] 149));have y:=Za q;have d1:e7 w5 ⟨wr,1,K⟩=H (i6 kd x.2):=q▸aL (lK wr _) rfl;have B:=(n.on y);have A:=Z (C.dd y);have j:=(W.dd y);rw[q];clear q y c0 c1;by_cases z:x.2=0
  .have g0:((x.2:Int)!=0)=po:=j7 bne_eq_false_iff_eq;have s:dT (nz (l.take (k+1))=N):=Z (by rw[r.o,bR z,kn]);clear z;go_wp2;go_roundg (O l-(k+1))
   .exact⟨k+1,Y,rfl,eO,A,j,s.o▸B⟩
   omega
  .have g0:((x.2:Int)!=0)=oj:=j7 bne_iff_ne;have s:dT (nz (l.take (k+1))=N++[x.2]):=Z (by rw[r.o,bD z]);clear z;go_wp2_with (at_builtin;refine AF ku rfl _ _ rfl B A (L.size) (j.size) Yr [i6 kd (x.2:Int)] x.2 Yr rfl (dH rfl) rfl Y F4 ?_;rintro g2 c2 w6 m cR m8 vU;have uL:=Z m;clear m vU);go_roundg (O l-(k+1))
   .exact⟨k+1,Y,rfl,eO,cR,j.aZ m8 B.ge,s.o▸uL⟩
   omega
 .obtain rfl:k=O l:=Y;rw[R9]at n G M6|-;have C:=Z d;clear d;go_wp2_with (go_at_call 128;apply ((aBt _ _ _ _ n Y)).cL;intro w5 d;have A:=Z d;clear d);refine mD (aG2 rfl Yr Yr) rfl ?_;exact⟨_,_,rfl,C.aZ A λb hb=>jN L.size (n.ge b hb)⟩
theorem QY(v:aF)(es:List Nat)(aR:Nat)(w:aA)(h:CI w v es)(b:oB es aR):
  aH prog 47 #[.agg #[i6 i7 aR,v]] w λe w'=>e=i5 (i8 #[j4 (!((run 0 bZ (bW es)).2.any λx=>decide (x.2≠0))),i6 i7 0])/\U w [] w' []:=by
 obtain⟨ad,cap,rfl,-⟩:=h.len;let⟨w1,g⟩:=E (e8 w (h8 #[J aR,hY ad (O es) cap] 133));have i:=Za g;obtain⟨b0,y⟩:=Z2 (Zb g);have r:O (run 0 bZ (bW es)).2<=7:=by
  have:=(FD (dg:=0) (p:=λl=>O l<=7) (λl s _ _ h _=>jN (IU l s) h) bZ (bW es) (lD b.hm) (pB es) (nC b.dM) (by rw[sE];exact b.hm)).1;exact this
 let⟨l,hl⟩:=E ((run 0 bZ (bW es)).2);have n:=(tu _ es aR 0 w1 (h.on i) b D hl (by rw[<-hl];exact r));rw[hl];have d:=(aLr l);generalize j:O (nz l)=m at n d;have hd:decide (m=0)=((m:Int)==0):=by rw[Bu,JY,RK];omega
 go_in;go_wp2_with (go_at_call 88;apply n.cF;rintro e w2 ⟨a,c,rfl,q⟩);refine mD (aG2 rfl Yr Yr) rfl ?_;exact⟨by rw[<-d,hd];rfl,i.dd q⟩
theorem ZM104{P:Prop}(h:P:=by
  rcases WB v 32 with h|h
  .exact h
  .rw[zbN (wM hS (jN (by decide:4294967296<=2^32) (Cr D h)))]at hv;cases hv):P:=h
theorem vt{S v:Nat}(hv:S.testBit v=oj)(b:∀i,i<v->S.testBit i=po):∃m,S=2^(v+1)*m+2^v:=by
 refine⟨S/2^(v+1),?_⟩;have c:S%2^(v+1)=2^v:=by
  refine Fb λi=> ?_;rw[Nat.testBit_mod_two_pow,Nat.testBit_two_pow];by_cases h:v=i
  .subst h;simp[hv]
  .by_cases a:i<v
   .simp[b i a,h]
   .have:¬i<v+1:=Y;simp[this,h]
 have:=Nat.div_add_mod S (2^(v+1));omega
theorem Y4{S v:Nat}(hv:S.testBit v=oj)(d:∀i,i<v->S.testBit i=po):S≠0/\S&&&(S-1)=fD S (2^v)/\∀i,(S-1).testBit i=if i<v then oj else if i=v then po else S.testBit i:=by
 let⟨m,g⟩:=vt hv d;have l:=Nat.two_pow_pos v;have j:2^v<2^(v+1):=Nat.pow_lt_pow_right (by decide) (by omega);have c:∀i,(S-1).testBit i=if i<v then oj else if i=v then po else S.testBit i:=by
  intro i;have e:S-1=2^(v+1)*m+(2^v-1):=by omega
  rw[e,Nat.testBit_two_pow_mul_add _ (by omega),Nat.testBit_two_pow_sub_one];by_cases a:i<v
  .rw[bR (by omega),bR a];simp[a]
  .by_cases b:i=v
   .subst b;rw[bR (by omega),bD a,bR rfl];simp
   .rw[bD (by omega),bD a,bD b];conv=>rhs;rw[g]
    rw[Nat.testBit_two_pow_mul_add _ j,bD (by omega)]
 refine⟨by omega,Fb λi=> ?_,c⟩;rw[Nat.testBit_and,c,cI,Nat.testBit_two_pow];by_cases a:i<v
 .rw[bR a,d i a];rfl
 .by_cases b:i=v
  .subst b;rw[bD a,bR rfl];simp
  .rw[bD a,bD b];have:¬v=i:=λh=>b h.symm;cases S.testBit i<;>simp[this]
theorem aGs{S v:Nat}(e:S<4294967296)(hv:S.testBit v=oj)(c:∀i,i<v->S.testBit i=po):S&&&(4294967296-S)=2^v:=by
 let⟨g,_,d⟩:=Y4 hv c;refine Fb λi=> ?_;rw[Nat.testBit_and,Nat.testBit_two_pow,show 4294967296-S=2^32-((S-1)+1) by omega,Nat.testBit_two_pow_sub_succ (show S-1<2^32 by omega),d];by_cases a:i<v
 .rw[bR a,c i a];have:¬v=i:=Y;simp[this]
 .by_cases b:i=v
  .subst b;rw[bD a,bR rfl,hv];have:i<32:=by
    rcases WB i 32 with h|h
    .exact h
    .rw[zbN (wM e (jN (by decide:4294967296<=2^32) (Cr D h)))]at hv;cases hv
   simp[this]
  .rw[bD a,bD b];have:¬v=i:=λh=>b h.symm;cases S.testBit i<;>simp[this]
theorem am{S:Nat}(h:S≠0):∃v,S.testBit v=oj/\∀i,i<v->S.testBit i=po:=by
 let⟨v,hv⟩:=CB h;induction v using Nat.strongRecOn with
 |_ v ih=>
  by_cases a:∃i,i<v/\S.testBit i=oj
  .obtain⟨i,c,b⟩:=a;exact ih i c b
  .exact⟨v,hv,λi c=>by
    cases b:S.testBit i
    .rfl
    .exact dS ⟨i,c,b⟩ a⟩
theorem Rw:cD 0=[]:=by
 unfold cD;rw[zdE];intro a _;simp
theorem ao{S v:Nat}(hS:S<4294967296)(hv:S.testBit v=oj)(b:∀i,i<v->S.testBit i=po):cD S=v::cD (fD S (2^v)):=by
 have g:v<32:=ZM104;unfold cD;have c:List.range 32=List.range v++v::List.range' (v+1) (31-v):=by
  rw[List.range_eq_range',List.range_eq_range',show(32:Nat)=v+(1+(31-v)) by omega,<-List.range'_append_1,<-List.range'_append_1];simp[List.range'_one]
 rw[c,zdF,zdF];have d:(List.range v).filter (λi=>S.testBit i)=[]:=by
  rw[zdE];intro i a;rw[b i (yD.1 a)];decide
 have e:(List.range v).filter (λi=>(fD S (2^v)).testBit i)=[]:=by
  rw[zdE];intro i a;rw[cI,b i (yD.1 a)];simp
 rw[d,e,Bv,Bv,List.filter_cons_of_pos (eI hv),List.filter_cons_of_neg (by rw[cI,Nat.testBit_two_pow];simp)];congr 1;refine List.filter_congr λi a=> ?_;have j:=List.mem_range'_1.1 a;rw[cI,Nat.testBit_two_pow];have:¬v=i:=Y;simp[this]
def aB9:List Nat:=[0,1,28,2,29,14,24,3,30,22,20,15,25,17,4,8,31,27,13,23,21,19,16,7,26,12,18,6,11,5,10,9]
theorem aQj:∀v,v<32->2^v*125613361%4294967296/134217728<32/\ep aB9 (2^v*125613361%4294967296/134217728) 0=v:=by decide
def Tz(w:aA):Prop:=∀i,i<32->e7 w ⟨0,i,K⟩=H (i6 lr (aB9.getD i 0:Int))
theorem Tz.on(h:Tz w)(a:U w [] w' S'):Tz w':=λi b=>a.cell (h i b) X
theorem aGP(S:Nat)(a:S≠0)(h:S<4294967296):(-(S:Int))%4294967296=((4294967296-S:Nat):Int):=by omega
theorem aLX(S v:Nat)(w:aA)(n:Tz w)(hS:S<4294967296)(hv:S.testBit v=oj)(j:∀i,i<v->S.testBit i=po):
  aH prog 89 #[i6 kd (S:Int)] w λe w'=>e=i5 (i6 i7 (v:Int))/\w=w':=by
 have m:=(Y4 hv j).1;have c:v<32:=ZM104;let⟨d,r⟩:=aQj v c;have g:=n _ d;rw[r]at g;have u:((S:Int)==0)=po:=j7 G9;have b:=aGP S m hS;have a:Go.bits .and kd (S:Int) ((4294967296-S:Nat):Int)=((2^v:Nat):Int):=by
  rw[u32_and_nat S (4294967296-S) hS Y,aGs hS hv j]
 let⟨N,l⟩:=E (4294967296-S);let⟨p,q⟩:=E (2^v);rw[l]at b a;rw[q]at a d g;go_in;go_wp2;go_ret;exact⟨rfl,rfl⟩
theorem Dn(S:Nat):O (cD S)<=32:=jN (zdG _ _) X
theorem Y7(S:Nat)(w:aA)(B:Tz w)(A:S<4294967296):
  aH prog 49 #[i6 kd (S:Int)] w λe w'=>∃u,e=i5 u/\gJ w w' u (cD S)/\U w [] w' []:=by
 go_in;go_wp2;go_loopg [0,3] S (λy s p wr=>∃(T:Nat) (L:List Nat),y=T/\s=i6 kd (T:Int)/\T<4294967296/\cD S=L++cD T/\U w [] wr []/\gJ w wr p L)
 .exact⟨S,[],rfl,rfl,A,rfl,U.refl _ _,bG.nil _ _⟩
 obtain⟨T,L,z,rfl,j,m,c,d⟩:=hrel;obtain⟨a3,Q,rfl,f⟩:=d.len;have N:O L<=32:=by
  have G:=Dn S;rw[m,F5]at G;omega
 have q:=Z m;by_cases l:T=0
 .subst l;have b:dT (cD S=L):=Z (by rw[q.o,Rw,kn]);go_wp2;go_ret;exact⟨_,rfl,b.o▸d,c⟩
 .let⟨v,hv,g⟩:=am l;obtain⟨-,a,-⟩:=Y4 hv g;have b:=Z (ao j hv g);have n:fD T (2^v)<T:=by
   rw[<-a];exact Og Nat.and_le_right Y
  have r:Go.bits .and kd (T:Int) ((T:Int)-1)=((fD T (2^v):Nat):Int):=by
   rw[<-a,<-u32_and_nat T (T-1) j Y];congr 1;omega
  have k:((T:Int)!=0)=oj:=j7 bne_iff_ne;obtain⟨T',i⟩:∃T',fD T (2^v)=T':=⟨_,rfl⟩;rw[i]at b n r;go_wp2_with (first
   |(at_builtin;refine cK OI rfl _ _ rfl d c Yr [It v] v Yr rfl (dH rfl) rfl Y F4 ?_;rintro g2 P w3 h x- -;have F:=Z h)
   |(go_at_call 89;apply ((aLX T v wr (B.on c) j hv g)).cL;rintro w2 rfl))
  go_roundg T'
  .exact⟨T',L++[v],rfl,rfl,Y,by rw[q.o,b.o,zcV];rfl,x,by simpa using F.o⟩
  rw[z];exact n
variable{RY:aF}
section
abbrev Nl(w0 w:aA)(v:aF)(ns:List (aX×aF)):Prop:=bG oE qc 92 7 w0 w v ns
theorem aOG:jM prog 76 92 7 72:= .PU (z:= .agg #[J 0,J 0,cH,J 0,J 0,J 0,j4 po]) underlying76 dB rfl
structure JK(w0 w:aA)(bb:Nat)(nv sv pv:aF)(ns:List (aX×aF))(ss pr:List Nat):Prop where
 bS:w.heap[bb]? =H (h8 #[nv,sv,pv] 141 (0,0))
 n:Nl w0 w nv ns
 o:∀x,x∈ns->gJ w0 w x.2 x.1.vars
 s:wY w0 w sv ss
 p:gJ w0 w pv pr
 ne:∀x,x∈ns->∀b,gz x.2=H b->gz pv≠H b
 bge:hJ w0.heap<=bb
section
variable{w0 w w':aA}{bb:Nat}{nv sv pv:aF}{ns:List (aX×aF)}{ss pr:List Nat}
theorem JK.on(h:JK w0 w bb nv sv pv ns ss pr)(a:U w [] w' S'):JK w0 w' bb nv sv pv ns ss pr:=
 ⟨a.aC h.bS X,h.n.on a,λx b=>(h.o x b).on a,h.s.on a,h.p.on a,h.ne,h.bge⟩
theorem JK.dg(h:JK w0 w bb nv sv pv ns ss pr)(b:U w S w' S')(c:∀k,k∈S->lZ w k≠H 141/\lZ w k≠H 92/\lZ w k≠H 3/\lZ w k≠H 134):JK w0 w' bb nv sv pv ns ss pr:=
 ⟨b.bS h.bS λk a=>(c k a).1,h.n.dg b λk a=>(c k a).2.1,λx d=>(h.o x d).dg b λk a=>(c k a).2.2.1,h.s.dg b λk a=>(c k a).2.2.2,h.p.dg b λk a=>(c k a).2.2.1,h.ne,h.bge⟩
theorem JK.vP{x:aX}(h:JK w0 w bb nv sv pv ns ss pr)(j:U w nv.ownBlock.toList w' S')(u:Nl w0 w' RY (ns++[(x,xv)]))(l:gJ w0 w xv x.vars)(r:∀b,gz xv=H b->gz pv≠H b):
  JK w0 (ey w' ⟨bb,0,K⟩ RY) bb RY sv pv (ns++[(x,xv)]) ss pr:=by
 have ne:∀t,t≠92->∀b,b∈nv.ownBlock.toList->lZ w b≠H t:=λt q b d=>by rw[h.n.Bx b d];exact λe=>q (by injection e with e;exact e.symm)
 have c:=j.bS h.bS (ne _ D);have g:=pX w' bb 0 RY;have m:∀y,y∈ns++[(x,xv)]->gJ w0 w y.2 y.1.vars:=λy a=>by
  rcases EY.1 a with a|a
  .exact h.o y a
  .obtain rfl:=Yj.1 a;exact l
 refine⟨aE (i:=0) _ c,u.set c D g,λy a=>((m y a).dg j (ne _ D)).set c D g,(h.s.dg j (ne _ D)).set c D g,(h.p.dg j (ne _ D)).set c D g,λy a b d=> ?_,h.bge⟩;rcases EY.1 a with a|a
 .exact h.ne y a b d
 .obtain rfl:=Yj.1 a;exact r b d
end
theorem Ng(bb:Nat)(nv sv pv xv:aF)(ns:List (aX×aF))(ss pr:List Nat)(x:aX)(w0 w:aA)(p0:Int)(h:JK w0 w bb nv sv pv ns ss pr)(hx:gJ w0 w xv x.vars)(dW:∀b,gz xv=H b->gz pv≠H b)(hU:U w0 [] w [])(hl:O ns<=64)(hp:x.bU= -1):
  aH prog 48 #[h9 (H ⟨bb,0,K⟩),.agg #[i6 i7 x.aG,i6 i7 x.o7,xv,i6 i7 x.cB,i6 i7 x.bK,i6 i7 p0,j4 x.lW]] w λe w'=>
   ∃RY,e=i5 (i6 i7 (O ns:Int))/\JK w0 w' bb RY sv pv (ns++[(x,xv)]) ss pr/\U w (bb::nv.ownBlock.toList) w' (bb::RY.ownBlock.toList)/\U w0 [] w' []:=by
 obtain⟨na,nc,rfl,G⟩:=h.n.len;obtain⟨n,L,rfl,-⟩:=hx.len;let⟨w1,eT⟩:=E (e8 w (h8 #[J x.aG,J x.o7,hY n (O x.vars) L,J x.cB,J x.bK,J p0,j4 x.lW] 92));have R:=Za eT;have l:=Zb eT;obtain⟨b0,b1,b2,b3,b4,b5,b6⟩:=Z7 l;have bf:=aM l;have r:=(h.on R);have HX1:=(hx.on R);have Nv:=(show∀b,gz (hY na (O ns) nc)=H b->b≠hJ w.heap from λb d=>Nat.ne_of_lt (h.n.1.lt b d));go_in;go_upto_region 2 with(fail);let⟨B,VY⟩:=E (hJ w.heap);have f:=aE (i:=5) (J (-1)) l;have m:=(U.refl w1 [hJ w.heap]).setCell (a:=⟨w,5,K⟩) (.inl X) (J (-1));have a0J:bb∉[hJ w.heap]:=λG=>by
  have h1:=eH r.bS;rw[show bb=hJ w.heap by simpa using G,eH l]at h1;exact dS h1 D
 have v:dT (hJ w.heap∉(hY na (O ns) nc).ownBlock.toList):=Z λG=>Nv w.heap.size (eI G) rfl;have tK:=m.aC r.bS a0J;have H2:dT (JK w0 (ey w1 ⟨w,5,K⟩ (J (-1))) bb (hY na (O ns) nc) sv pv ns ss pr):=Z ⟨tK,r.n.eF m (λg hg G=>Nv g hg (eI G)),λy hy=>((r.o y hy).set l D m),r.s.set l D m,r.p.set l D m,r.ne,r.bge⟩;have P:=(HX1.set l D m);have eM:=((hU.dd R).aZ m (λb d=>by simp at d;have:=hU.size;omega));have N:dT (U w [] (ey w1 ⟨w,5,K⟩ (J (-1))) []):=Z (R.aZ m (λb d=>by simp at d;omega));generalize pS:ey w1 ⟨w,5,K⟩ (J (-1))=w2 at f H2 P eM N|-;rw[VY]at f v|-;have F3:=(show rW w2 B #[J x.aG,J x.o7,hY n (O x.vars) L,J x.cB,J x.bK,J (-1),j4 x.lW] 92from f);have f:=F3;obtain⟨b0,b1,b2,b3,b4,b5,b6⟩:=Z7 f;have hK:=H2.bS;have c0:=Zc hK 0;refine ek 10 (eb c0<|eb b0<|eb b1<|eb b2<|eb b3<|eb b4<|eb b5<|d7 b6) (λwd eY V Q=> ?_);have u:=(H2.on V);have LO:=(P.on V);have gZ:=(eM.dd V);have a0x:=(N.dd V);refine dw [0,1,5,2,3,4] ?_;refine Zo 6 λo hK=> ?_;go_simp;have hH5:=Q;have q:U wd [] (e8 wd (h8 #[J x.aG,J x.o7,hY n (O x.vars) L,J x.cB,J x.bK,J (-1),j4 x.lW] 92)) []:=(U.refl wd []).alloc _;obtain⟨r8,r6,MK,Jm,sr,F,z,C⟩:=Q;have Q:=dX ((q).cell r8 X) (dX ((q).cell r6 X) (dX ((q).cell MK X) (dX ((q).cell Jm X) (dX ((q).cell sr X) (dX ((q).cell F X) (dX ((q).cell z X) ((q).cell C X)))))));refine j8 ?_;clear hK o;refine Zo 7 λo hK=> ?_;let⟨S,W,w7,dP,wW,fM,c,hg7⟩:=i9 (ty:=76) (news:=[J x.aG,J x.o7,hY n (O x.vars) L,J x.cB,J x.bK,J (-1),j4 x.lW]) (T:=92) aOG Y u.n gZ (fV _) gZ.size
  (x,hY n (O x.vars) L) rfl (RV rfl rfl rfl rfl rfl (by rw[<-hp];rfl) rfl) (by intro j hj;rcases j with _|_|_|_|_|_|_|j<;>first|rfl|omega) Y F4
 refine dJ _ _ rfl Yr Yr dP ?_;have Q:=hH5;have Cd:=u.n.ne u.bS D;obtain⟨r8,r6,MK,Jm,sr,F,z,C⟩:=Q;have Q:=dX ((c).cell r8 (Cd)) (dX ((c).cell r6 (v.o)) (dX ((c).cell MK (v.o)) (dX ((c).cell Jm (v.o)) (dX ((c).cell sr (v.o)) (dX ((c).cell F (v.o)) (dX ((c).cell z (v.o)) ((c).cell C (v.o))))))));have EM:=c.bS u.bS (λb d=>by rw[u.n.Bx b d];decide);have bf:=aM EM;have pU:=u.vP c wW LO dW;have iE:=(gZ.aZ c u.n.ge).aZ (pX w7 bb 0 (eB S 0 (O ns+1) W)) (λb d=>by simp at d;have:=u.bge;omega);have sO:=(((a0x.quiet (bb::(hY na (O ns) nc).ownBlock.toList)).to (T:=bb::(hY na (O ns) nc).ownBlock.toList) (λ_ A=> .inl A)).dd ((c.aN (T:=bb::(hY na (O ns) nc).ownBlock.toList) (λk A=>RL _ A)).to (T:=bb::[S]) (λk A=>by
  rcases AU.1 A with rfl|A
  .exact .inl (rg ..)
  .exact(c.fresh k A).imp (RL _) id))).setCell (a:=Ad bb 0) (.inl (rg ..)) (eB S 0 (O ns+1) W)
 refine j8 ?_;clear hK o;refine Zo 8 λo hK=> ?_;go_simp;refine j8 ?_;clear hK o;refine I 9 ?_;refine Zo 10 λo hK=> ?_;go_simp;refine MH ?_;clear hK o;have hK:=pU.bS;have c0:=Zc hK 0;go_wp2;go_ret;exact⟨eB S 0 (O ns+1) W,rfl,pU,sO,iE⟩
end
variable{c:Nat}
section
theorem ZM63{P:Prop}(h:P:=by
  rw[Lj]at pU;exact⟨rfl,HF6.o.dd (R5.one Xl (HM.o.p.ty (k:=gp) rfl) (by decide)),lI.o.aZ Xl λb hb=>(by rw[show b=gp by simpa using hb];exact HM.o.p.2 gp rfl),RY,_,by rw[jr.o,HPN.o];exact pU⟩):P:=h
structure R5(T:List ap)(w w':aA):Prop where
 size:hJ w.heap<=hJ w'.heap
 bS:∀(k:Nat) (cs:Array aF) (t:ap),w.heap[k]? =H (h8 cs t (0,0))->t∉T->w'.heap[k]? =H (h8 cs t (0,0))
 map:∀(k:Nat) (es:Array MapEntry) (c:Nat),w.heap[k]? =H (Obj.map es c)->w'.heap[k]? =H (Obj.map es c)
section
variable{T:List ap}{w w1 w':aA}
theorem R5.dd(h:R5 T w w1)(k:R5 T w1 w'):R5 T w w':=⟨jN h.size k.size,λb cs t a d=>k.bS b cs t (h.bS b cs t a d) d,λb es c a=>k.map b es c (h.map b es c a)⟩
theorem R5.eF(d:U w S w' S')(h:∀k,k∈S->∃t,t∈T/\lZ w k=H t):R5 T w w':=
 ⟨d.size,λk cs t b i=>d.aC b λe=>by
  let⟨j,g,a⟩:=h k e;rw[eH b]at a;injection a with a;exact i (a▸g),λk es c b=>(d.block k (cV b) λe=>by
  let⟨j,g,a⟩:=h k e;unfold lZ at a;rw[b]at a;cases a).dd b⟩
theorem R5.on(a:U w [] w' S'):R5 T w w':=R5.eF a X
theorem R5.one{t:ap}(a:U w [g] w' S')(h:lZ w g=H t)(c:t∈T):R5 T w w':=R5.eF a λk b=>⟨t,c,by
 obtain rfl:k=g:=eI b;exact h⟩
theorem bG.aEQ{α:Type}{f:α->Nat->aF}{d:α}{e:ap}{w0:aA}{l:List α}(h:bG f d e sz w0 w v l)(a:R5 T w w')(b:e∉T):bG f d e sz w0 w' v l:=by
 refine⟨?_,h.2⟩;rcases h.1 with i|⟨g,cap,cur,rfl,c,rest⟩
 .exact .inl i
 .exact .inr ⟨g,cap,cur,rfl,a.bS _ _ _ c b,rest⟩
end
def DE:List ap:=[141,92,3,134]
section
variable{w0 w w':aA}{bb:Nat}{nv sv pv:aF}{ns:List (aX×aF)}{ss pr:List Nat}
theorem JK.su(h:JK w0 w bb nv (hY (H ⟨g,0,K⟩) n c) pv ns ss pr)(d:i<O ss)(x:Nat):
  JK w0 (ey w ⟨g,i,K⟩ (i6 kd (x:Int))) bb nv (hY (H ⟨g,0,K⟩) n c) pv ns (ss.set i x) pr:=by
 have a:=pX w g i (i6 kd (x:Int));have e:=h.s.ty (k:=g) rfl;have ne:∀t,t≠134->∀k,k∈[g]->lZ w k≠H t:=λt l k m b=>by
  obtain rfl:k=g:=eI m;rw[e]at b;injection b with b;exact l b.symm
 exact⟨a.bS h.bS (ne _ D),h.n.dg a (ne _ D),λy j=>(h.o y j).dg a (ne _ D),h.s.De d x rfl,h.p.dg a (ne _ D),h.ne,h.bge⟩
theorem JK.aQr(h:JK w0 w bb nv sv (hY (H ⟨g,0,K⟩) n c) ns ss pr)(l:i<O pr)(x:Nat):
  JK w0 (ey w ⟨g,i,K⟩ (i6 i7 (x:Int))) bb nv sv (hY (H ⟨g,0,K⟩) n c) ns ss (pr.set i x):=by
 have a:=pX w g i (It x);have u:=h.p.ty (k:=g) rfl;have ne:∀t,t≠3->∀k,k∈[g]->lZ w k≠H t:=λt q k m d=>by
  obtain rfl:k=g:=eI m;rw[u]at d;injection d with d;exact q d.symm
 exact⟨a.bS h.bS (ne _ D),h.n.dg a (ne _ D),λy e=>(h.o y e).eF a λb j r=>h.ne y e b j (by rw[show b=g by simpa using r];rfl),h.s.dg a (ne _ D),h.p.De l x rfl,h.ne,h.bge⟩
end
theorem si(bb:Nat)(nv sv pv:aF)(ns:List (aX×aF))(ss pr:List Nat)(s:cT)(w0 w:aA)(hw:Tz w0)(h:JK w0 w bb nv sv pv ns ss pr)(hU:U w0 [] w [])(hl:O ns<=64)(Lj:O ss=O pr)(N:s.aG=1)(he:s.bP<O pr)(h7:O pr<=7)(G:∀x,x∈ss->x<2^32)(hc:s.cut<2^32):
  aH prog 53 #[h9 (H ⟨bb,0,K⟩),jX s] w λe w'=>e=i5 (i8 #[])/\
   R5 DE w w'/\U w0 [] w' []/\∃RY xv,JK w0 w' bb RY sv pv (ns++[(tF ss pr s,xv)]) (fH ss s) (pr.set s.bP (O ns)):=by
 unfold jX;obtain⟨na,nc,rfl,r⟩:=h.n.len;obtain⟨gs,cs,hvs,-,-,xO,W,-⟩:=(show eJ _ _ _ _ _ _ from h.s.1).block (show 0<O ss by omega);obtain⟨gp,cp,hvp,-,-,Xs,hfp,-⟩:=(show eJ _ _ _ _ _ _ from h.p.1).block (show 0<O pr by omega);subst hvs hvp;have hd1:O ss=O pr:=Lj;obtain⟨w1,eT⟩:=E (e8 w (h8 #[i6 i7 s.aG,i6 i7 s.bP,i6 i7 s.eK,i6 kd s.cut] 156));have v:=Za eT;have eQ:=Zb eT;obtain⟨b0,m,b2,b3⟩:=Z4 eQ;have H1:=Z (h.on v);have jG:=Z eQ;have Bf:=Z (hU.dd v);have V:dT (R5 DE w w1):=Z (R5.on v);have NO:=Z (hw.on (hU.dd v));have h00:=block_lt_of_cell (hw 0 (by decide));have hK:=(h.on v).bS;obtain⟨k0,z,k2⟩:=Z3 hK;have f:=v.pu (xO s.bP 0 (by omega) (by decide)) (by simp) W;have c0:=v.cell (xO s.bP 0 (by omega) (by decide)) (by simp);simp only[EN,Nat.mul_one,Nat.add_zero]at c0;have g1:((s.aG:Int)==1)=oj:=by rw[beq_iff_eq];omega
 have hei:(s.bP:Int)<(O pr:Int):=by omega
 have hes:(s.bP:Int)<(O ss:Int):=by omega
 have l:s.bP<O ss:=by omega
 have a1u:=Z (show 0≠gs from λe=>by
  have B:=h.s.2 gs rfl;dsimp only at h00;omega)
 have hb:=yS (ep ss s.bP 0) s.cut (BH G s.bP) hc;have aV:=Kv (b:=s.cut) (Nat.lt_of_lt_of_eq (BH G s.bP) (by decide:4294967296=2^32));have HPN:=Z (show tF ss pr s=⟨2,0,cD (fD (ep ss s.bP 0) s.cut),ep pr s.bP 0,0,-1,po⟩ by unfold tF;rw[if_pos N]);have jr:=Z (show fH ss s=ss.set s.bP (fD (ep ss s.bP 0) s.cut) by unfold fH;rw[if_pos N]);obtain⟨x,hx⟩:=E (ep ss s.bP 0);rw[hx]at c0 hb HPN jr aV;obtain⟨y,hy⟩:=E (fD x s.cut);rw[hy]at hb HPN jr aV;have HHB:=Z hb;have HC:=Z (show hJ w.heap∉[gs]from λr=>by
  have B:=h.s.ty (k:=gs) rfl;have h2:=h.s.1.lt gs rfl;rw[show hJ w.heap=gs by simpa using r]at h2;exact Nat.lt_irrefl _ h2)
 clear h hU v eQ xO W Xs hfp N G hc hx hy hK hw hb;go_enter func53,ntmps53;go_upto_region 2 with(fail);obtain⟨C,hC⟩:=E (hJ w.heap);rw[hC]at jG HC b0 m b2 b3;refine ee 12 (eb z<|eb m<|eb b3<|d7 c0) (λQ=> ?_);obtain⟨wd,F⟩:=E (w1.drew);have d:U w1 [] wd []:=F▸(U.refl w1 []).drew;have f:∀j,wd.frozen? ⟨gs,j,K⟩=po:=F▸f;rw[F]at Q|-;refine dw [0,4,8,5,9,1,2,3,6,7,10,11] ?_;refine Zo 12 λo hK=> ?_;go_simp;rw[HHB.o];have Cb:=(U.refl wd [gs]).setCell (a:=⟨gs,s.bP,K⟩) (.inl (by simp)) (i6 kd (y:Int));have A:=Z ((H1.o.on d).su (i:=s.bP) l y);have Xm:=(H1.o.on d).s.ty (k:=gs) rfl;have L:=Z (V.o.dd ((R5.on d).dd (R5.one (T:=DE) Cb Xm (by decide))));have eM:=Z ((Bf.o.dd d).aZ Cb λb hb=>by rw[show b=gs by simpa using hb];exact H1.o.s.2 gs rfl);have F3:=Z (Cb.aC (d.aC jG.o (by simp)) HC.o);have Et:=Z (show Tz (ey wd ⟨gs,s.bP,K⟩ (i6 kd (y:Int)))from λi hi=>Cb.cell (d.cell (NO.o i hi) (by simp)) (by simpa using a1u.o));obtain⟨w2,pS⟩:=E (ey wd ⟨gs,s.bP,K⟩ (i6 kd (y:Int)));rw[pS]at A L eM F3 Et;have Xz:=Z pS;refine Zl hK ?_;clear hK o;rw[Xz.o];clear Q f d F Cb Xm pS Xz H1 V Bf jG NO b0 m b2 b3 k0 z k2 c0;have hK:=A.o.bS;obtain⟨k0,z,k2⟩:=Z3 hK;have gT:=F3.o;obtain⟨b0,m,b2,b3⟩:=Z4 gT;clear hK gT;have q:=(show eJ _ _ _ _ _ _ from by have:=A.o.s.1;rw[List.length_set]at this;exact this).cell (i:=s.bP) (j:=0) l (by decide);have c:=(show eJ _ _ _ _ _ _ from A.o.p.1).cell (i:=s.bP) (j:=0) he (by decide);have f:=A.o.p.1.free (g:=gp) rfl;rw[FV,if_pos ⟨rfl,l⟩]at q;simp only[EN,fN,Nat.mul_one,Nat.add_zero]at q c;obtain⟨pe,Su⟩:=E (ep pr s.bP 0);rw[Su]at c HPN;have HPE:=Z Su;clear Su;go_upto_region 3 with(fail);refine ee 27 (eb z<|eb k2<|eb m<|eb q<|d7 c) (λQ=> ?_);obtain⟨wd,F⟩:=E (w2.drew);have d:U w2 [] wd []:=F▸(U.refl w2 []).drew;rw[F]at Q|-;refine dw [0,4,6,7,11,16,20,5,12,21,1,2,3,8,9,10,13,14,17,18,19,22,23] ?_;refine Zo 15 λo hK=> ?_;go_simp;go_at_call 49;refine(Y7 y wd (Et.o.on d) (Nat.lt_of_lt_of_eq aV (by decide))).mono ?_;rintro e w5 ⟨u,rfl,hO,n⟩;dsimp only;obtain⟨ua,uc,rfl,-⟩:=hO.len;obtain⟨r8,r6,MK,Jm,sr⟩:=Q;have Q:=And.intro ((n).cell r8 (by simp)) (And.intro ((n).cell r6 (by simp)) (And.intro ((n).cell MK (by simp)) (And.intro ((n).cell Jm (by simp)) ((n).cell sr (by simp)))));clear r8 r6 MK Jm sr;have S:=d.dd n;have R:=Z (A.o.on S);have yP:=Z (S.aC F3.o (by simp));have Bq:=Z (L.o.dd (R5.on S));have gD:=Z (eM.o.dd S);have T4:=Z (hO.eE (eM.o.dd d).size);have tP:=Z (show∀b,gz (hY ua (O (cD y)) uc)=H b->gz (hY (H ⟨gp,0,K⟩) (O pr) cp)≠H b from λb hb he'=>by
  have B:=hO.2 b hb;have h2:=(A.o.p.on d).1.lt b he';omega)
 clear hO n S F d A F3 L eM Et k0 z k2 b0 m b2 b3 q c f;refine Zk hK Q ?_;clear hK o;refine I 24 ?_;refine Zo 25 λo hK=> ?_;go_simp;go_at_call 48;have yw:=Ng bb _ _ _ _ ns _ pr ⟨2,0,cD y,pe,0,-1,po⟩ w0 w5 0 R.o T4.o tP.o gD.o hl rfl;refine(show aH _ _ _ _ _ from yw).mono ?_;rintro e w6 ⟨RY,rfl,P,fm,dK⟩;dsimp only;have HF6:=Z (Bq.o.dd (R5.eF (T:=DE) fm λk N=>by
  rcases List.mem_cons.1 N with rfl|N
  .exact⟨_,by decide,eH R.o.bS⟩
  .exact⟨_,by decide,R.o.n.Bx k N⟩))
 have zO:=HF6;have hK:=P.bS;obtain⟨k0,z,k2⟩:=Z3 hK;have m:=aL (fm.aC yP.o (λr=>by
  have hty:=eH yP.o;rcases List.mem_cons.1 r with r|r
  .have B:=eH R.o.bS;rw[<-r,hty]at B;exact absurd B (by decide)
  .have B:=R.o.n.Bx _ r;rw[hty]at B;exact absurd B (by decide))) (j:=1) rfl
 have q:=(show eJ _ _ _ _ _ _ from by have:=P.s.1;rw[List.length_set]at this;exact this).cell (i:=s.bP) (j:=0) l (by decide);have c:=(show eJ _ _ _ _ _ _ from P.p.1).cell (i:=s.bP) (j:=0) he (by decide);have f:=P.p.1.free (g:=gp) rfl;rw[FV,if_pos ⟨rfl,l⟩]at q;simp only[EN,fN,Nat.mul_one,Nat.add_zero,HPE.o]at q c;have Q:e7 w6 ⟨bb,1,K⟩=H (hY (H ⟨gs,0,K⟩) (O ss) cs)/\e7 w6 ⟨bb,2,K⟩=H (hY (H ⟨gp,0,K⟩) (O pr) cp)/\e7 w6 ⟨C,1,K⟩=H (i6 i7 s.bP)/\e7 w6 ⟨gs,s.bP,K⟩=H (i6 kd y)/\e7 w6 ⟨gp,s.bP,K⟩=H (i6 i7 pe):=⟨z,k2,m,q,c⟩;have HM:=Z P;have lI:=Z dK;clear P fm dK hK k0 z k2 m q R yP Bq gD T4;refine Zk hK Q ?_;clear hK o;refine I 26 ?_;refine Zo 27 λo hK=> ?_;go_simp;refine Zl hK ?_;clear hK o;go_wp2;(try simp only[Exit.inBlock,Exit.then])
 refine bodyPost_ret (results_none rfl _ _ _) rfl ?_;have Xl:=(U.refl w6 [gp]).setCell (a:=⟨gp,s.bP,K⟩) (.inl (by simp)) (i6 i7 (O ns:Int));have pU:=HM.o.aQr (i:=s.bP) he (O ns);exact ZM63
theorem sj(bb:Nat)(nv sv pv:aF)(ns:List (aX×aF))(ss pr:List Nat)(s:cT)(w0 w:aA)(hw:Tz w0)(h:JK w0 w bb nv sv pv ns ss pr)(hU:U w0 [] w [])(hl:O ns<=64)(Lj:O ss=O pr)(q:s.aG≠1)(he:s.bP<O pr)(hi:s.eK<O pr)(h7:O pr<=7)(W:∀x,x∈ss->x<2^32):
  aH prog 53 #[h9 (H ⟨bb,0,K⟩),jX s] w λe w'=>e=i5 (i8 #[])/\
   R5 DE w w'/\U w0 [] w' []/\∃RY xv,JK w0 w' bb RY sv pv (ns++[(tF ss pr s,xv)]) (fH ss s) (pr.set s.eK (O ns)):=by
 unfold jX;obtain⟨na,nc,rfl,v⟩:=h.n.len;obtain⟨gs,cs,hvs,-,-,xO,hfs,-⟩:=(show eJ _ _ _ _ _ _ from h.s.1).block (show 0<O ss by omega);obtain⟨gp,cp,hvp,-,-,Xs,hfp,-⟩:=(show eJ _ _ _ _ _ _ from h.p.1).block (show 0<O pr by omega);subst hvs hvp;have hd1:O ss=O pr:=Lj;obtain⟨w1,eT⟩:=E (e8 w (h8 #[i6 i7 s.aG,i6 i7 s.bP,i6 i7 s.eK,i6 kd s.cut] 156));have A:=Za eT;have eQ:=Zb eT;obtain⟨b0,z,b2,b3⟩:=Z4 eQ;have G:=Z (h.on A);have jG:=Z eQ;have Bf:=Z (hU.dd A);have f:dT (R5 DE w w1):=Z (R5.on A);have NO:=Z (hw.on (hU.dd A));have h00:=block_lt_of_cell (hw 0 (by decide));have hK:=(h.on A).bS;obtain⟨k0,P,k2⟩:=Z3 hK;have g1:((s.aG:Int)==1)=po:=by rw[beq_eq_false_iff_ne];omega
 have hei:(s.bP:Int)<(O pr:Int):=by omega
 have hii:(s.eK:Int)<(O pr:Int):=by omega
 have his:(s.eK:Int)<(O ss:Int):=by omega
 have R:s.eK<O ss:=by omega
 have aV:=Nat.lt_of_lt_of_eq (BH W s.eK) (by decide:4294967296=2^32);have HPN:=Z (show tF ss pr s=⟨3,0,cD (ep ss s.eK 0),ep pr s.eK 0,ep pr s.bP 0,-1,po⟩ by unfold tF;rw[if_neg q]);have jr:=Z (show fH ss s=ss by unfold fH;rw[if_neg q]);have l:=(show eJ _ _ _ _ _ _ from G.o.s.1).cell (i:=s.eK) (j:=0) R (by decide);have m:=(show eJ _ _ _ _ _ _ from G.o.p.1).cell (i:=s.eK) (j:=0) hi (by decide);have d:=(show eJ _ _ _ _ _ _ from G.o.p.1).cell (i:=s.bP) (j:=0) he (by decide);simp only[EN,fN,Nat.mul_one,Nat.add_zero]at l m d;obtain⟨y,hy⟩:=E (ep ss s.eK 0);obtain⟨pi,Hb⟩:=E (ep pr s.eK 0);obtain⟨pe,Su⟩:=E (ep pr s.bP 0);rw[hy]at l HPN aV;rw[Hb]at m HPN;rw[Su]at d HPN;have HY:=Z hy;have HPI:=Z Hb;have HPE:=Z Su;clear h hU A eQ xO hfs Xs hfp q W hy Hb Su hK hw;go_enter func53,ntmps53;go_upto_region 4 with(fail);obtain⟨C,hC⟩:=E (hJ w.heap);rw[hC]at jG b0 z b2 b3;refine ee 35 (eb P<|eb k2<|eb z<|eb b2<|eb l<|eb m<|d7 d) (λQ=> ?_);obtain⟨wd,eY⟩:=E (w1.drew);have S:U w1 [] wd []:=eY▸(U.refl w1 []).drew;rw[eY]at Q|-;refine dw [0,4,6,7,11,16,20,24,28,5,12,21,29,1,8,17,25,2,3,9,10,13,14,18,19,22,23,26,27,30,31] ?_;refine Zo 15 λo hK=> ?_;go_simp;go_at_call 49;refine(Y7 y wd (NO.o.on S) (Nat.lt_of_lt_of_eq aV (by decide))).mono ?_;rintro e w5 ⟨u,rfl,hO,c⟩;dsimp only;obtain⟨ua,uc,rfl,-⟩:=hO.len;obtain⟨r8,r6,MK,Jm,sr,V,n⟩:=Q;have Q:=And.intro ((c).cell r8 (by simp)) (And.intro ((c).cell r6 (by simp)) (And.intro ((c).cell MK (by simp)) (And.intro ((c).cell Jm (by simp)) (And.intro ((c).cell sr (by simp)) (And.intro ((c).cell V (by simp)) ((c).cell n (by simp)))))));clear r8 r6 MK Jm sr V n;have N:=S.dd c;have F:=Z (G.o.on N);have yP:=Z (N.aC jG.o (by simp));have Bq:=Z (f.o.dd (R5.on N));have gD:=Z (Bf.o.dd N);have T4:=Z (hO.eE (Bf.o.dd S).size);have tP:=Z (show∀b,gz (hY ua (O (cD y)) uc)=H b->gz (hY (H ⟨gp,0,K⟩) (O pr) cp)≠H b from λb hb he'=>by
  have B:=hO.2 b hb;have h2:=(G.o.p.on S).1.lt b he';omega)
 clear hO c N eY S G jG f Bf NO k0 P k2 b0 z b2 b3 l m d;refine Zk hK Q ?_;clear hK o;refine I 32 ?_;refine Zo 33 λo hK=> ?_;go_simp;go_at_call 48;have yw:=Ng bb _ _ _ _ ns _ pr ⟨3,0,cD y,pi,pe,-1,po⟩ w0 w5 0 F.o T4.o tP.o gD.o hl rfl;refine(show aH _ _ _ _ _ from yw).mono ?_;rintro e w6 ⟨RY,rfl,r,fm,dK⟩;dsimp only;have HF6:=Z (Bq.o.dd (R5.eF (T:=DE) fm λk q=>by
  rcases List.mem_cons.1 q with rfl|q
  .exact⟨_,by decide,eH F.o.bS⟩
  .exact⟨_,by decide,F.o.n.Bx k q⟩))
 have hK:=r.bS;obtain⟨k0,P,k2⟩:=Z3 hK;have nP:=fm.aC yP.o (λv=>by
  have L:=eH yP.o;rcases List.mem_cons.1 v with v|v
  .have B:=eH F.o.bS;rw[<-v,L]at B;exact absurd B (by decide)
  .have B:=F.o.n.Bx _ v;rw[L]at B;exact absurd B (by decide))
 obtain⟨b0,z,b2,b3⟩:=Z4 nP;have l:=(show eJ _ _ _ _ _ _ from r.s.1).cell (i:=s.eK) (j:=0) R (by decide);have m:=(show eJ _ _ _ _ _ _ from r.p.1).cell (i:=s.eK) (j:=0) hi (by decide);have d:=(show eJ _ _ _ _ _ _ from r.p.1).cell (i:=s.bP) (j:=0) he (by decide);have cf:=r.p.1.free (g:=gp) rfl;simp only[EN,fN,Nat.mul_one,Nat.add_zero,HY.o,HPI.o,HPE.o]at l m d;have Q:e7 w6 ⟨bb,1,K⟩=H (hY (H ⟨gs,0,K⟩) (O ss) cs)/\e7 w6 ⟨bb,2,K⟩=H (hY (H ⟨gp,0,K⟩) (O pr) cp)/\e7 w6 ⟨C,1,K⟩=H (i6 i7 s.bP)/\e7 w6 ⟨C,2,K⟩=H (i6 i7 s.eK)/\e7 w6 ⟨gs,s.eK,K⟩=H (i6 kd y)/\e7 w6 ⟨gp,s.eK,K⟩=H (i6 i7 pi)/\e7 w6 ⟨gp,s.bP,K⟩=H (i6 i7 pe):=⟨P,k2,z,b2,l,m,d⟩;have HM:=Z r;have lI:=Z dK;clear r fm dK hK k0 P k2 b0 z b2 b3 nP l d F yP Bq gD T4;refine Zk hK Q ?_;clear hK o;refine I 34 ?_;refine Zo 35 λo hK=> ?_;go_simp;refine Zl hK ?_;clear hK o;go_wp2;go_end0;have Xl:=(U.refl w6 [gp]).setCell (a:=⟨gp,s.eK,K⟩) (.inl (by simp)) (i6 i7 (O ns:Int));have pU:=HM.o.aQr (i:=s.eK) hi (O ns);exact ZM63
end
variable{bb:Nat}
structure re(w0 w:aA)(bb:Nat)(b:sM)(l:List ES):Prop where
 ex:∃nv sv pv ns ss,JK w0 w bb nv sv pv ns ss b.2/\ns.map (·.1)=b.1/\O ss=O b.2/\(∀x,x∈ss->x<2^32)/\ER ss l
theorem re.on{b:sM}(h:re w0 w bb b l)(a:U w [] w' S'):re w0 w' bb b l:=by
 obtain⟨nv,sv,pv,ns,ss,g,i,e,d,c⟩:=h.ex;exact⟨nv,sv,pv,ns,ss,g.on a,i,e,d,c⟩
theorem Ql(bb:Nat)(b:sM)(l:List ES)(s:cT)(w0 w:aA)(C:Tz w0)(h:re w0 w bb b l)(x:U w0 [] w []){dg k m:Nat}(v:F2 dg b l m 42)(o:m<=7)(j:0<m)(z:next l k=H s):
  tR 53 #[h9 (H ⟨bb,0,K⟩),jX s] w λe w'=>e=i5 (i8 #[])/\R5 DE w w'/\U w0 [] w' []/\re w0 w' bb (gB (-1) b l s) (make l s):=by
 obtain⟨nv,sv,pv,ns,ss,G,p,i,q,B⟩:=h.ex;have d:=v.aER z j o;have F:O ns=O b.1:=by rw[<-p,sN]
 have f:=d.b41;have N:=d.bP;have L:=d.eK;have t:=v.pm;have a:=ir (b:=b) B v.nd z;have c:ER (fH ss s) (make l s):=B.set (by omega);have A:=IR (s:=s) q;have y:O (fH ss s)=O ss:=by unfold fH;split<;>simp
 by_cases g:s.aG=1
 .apply(si bb nv sv pv ns ss b.2 s w0 w C G x (by omega) i g (by omega) (by omega) q d.cut).cF;rintro e w' ⟨rfl,u,r,RY,xv,n⟩;refine⟨rfl,u,r,re.mk ⟨RY,sv,pv,ns++[(tF ss b.2 s,xv)],fH ss s,?_,?_,?_,A,c⟩⟩
  .rw[a,bR g];dsimp only;rw[<-F];exact n
  .rw[a,R8,p];rfl
  .rw[a,y,i];dsimp only;rw[VP]
 .apply(sj bb nv sv pv ns ss b.2 s w0 w C G x (by omega) i g (by omega) (by omega) (by omega) q).cF;rintro e w' ⟨rfl,u,r,RY,xv,n⟩;refine⟨rfl,u,r,re.mk ⟨RY,sv,pv,ns++[(tF ss b.2 s,xv)],fH ss s,?_,?_,?_,A,c⟩⟩
  .rw[a,bD g];dsimp only;rw[<-F];exact n
  .rw[a,R8,p];rfl
  .rw[a,y,i];dsimp only;rw[VP]
theorem Cu(l:List ES)(dg:Nat):(l.any λx=>decide (fD x.2 dg≠0))= !iG l dg:=by
 unfold iG part;rw[Bu,kq];simp
theorem Rh(v:aF)(l:List ES)(dg:Nat)(w:aA)(h:eX uZ qc 2 w v l)(hs:jS l)(u:dg<2^32):
  tR 91 #[v,i6 kd dg] w λe w'=>e=i5 (j4 (iG l dg))/\U w [] w' []:=by
 obtain⟨a,cap,rfl,-⟩:=h.len;let⟨w1,d⟩:=E (e8 w (h8 #[i6 kd dg] 134));have i:=Za d;have m:=Z (Tn (hY a (O l) cap) l 130 #[h9 (H ⟨w,0,K⟩)] (λx=>decide (fD x.2 dg≠0)) w1 (enters_of func130 dB rfl) (h.on i) λx hx wz hz=>by
  let⟨wy,c⟩:=E (e8 wz (h8 #[J (x.1:Int),i6 kd (x.2:Int)] 149));have b:=Za c;have c0:=b.cell (aL (hz.aC (Zb d) X) (j:=0) rfl) X;have B:e7 wy ⟨wz,1,K⟩=H (i6 kd (x.2:Int)):=c▸aL (lK wz _) rfl;have n:=yS x.2 dg (Xc (hs x hx) D) (Xc u D);have hd:decide (fD x.2 dg≠0)=(((fD x.2 dg:Nat):Int)!=0):=by
   rw[Bu,bne_iff_ne,RK];omega
  let⟨y,g⟩:=E (fD x.2 dg);have p:=(show decide (fD x.2 dg≠0)=((y:Int)!=0) by rw[hd,g]);rw[g]at n;show tR 130 #[.agg #[J (x.1:Int),i6 kd (x.2:Int)],h9 (H ⟨w,0,K⟩)] wz _;go_enter func130,ntmps130;go_wp2;go_ret;exact⟨by first|(rw[p];rfl)|rfl,b⟩)
 rw[Cu]at m;go_enter func91,ntmps91;go_wp2_with (go_at_call 129;apply m.cL;intro w2 r);go_ret;exact⟨by rw[<-Bool.not_not (iG l dg)];rfl,i.dd r⟩
def aJN(w0:aA)(bb:Nat):Option (sM×List ES)->Ending->aA->Prop
 |some (bF,lF),e,w'=>∃x,e=i5 (i8 #[x,j4 oj])/\LI w0 w' x lF/\re w0 w' bb bF lF/\U w0 [] w' []
 |none,e,w'=>e=i5 (i8 #[hY K 0 0,j4 po])/\U w0 [] w' []
theorem ze(bb:Nat)(v:aF)(es:List Nat)(aR head:Nat)(b0:sM)(w0 w:aA)(hw:Tz w0)(hE:CI w0 v es)(P:oB es aR)(hk:head<2^32)(h:re w0 w bb b0 (bW es))(a:U w0 [] w [])(hM:F2 head b0 (bW es) (O es) 42)(h0:0<O es):
  aH prog 50 #[h9 (H ⟨bb,0,K⟩),.agg #[i6 i7 aR,v],i6 kd head] w λe w'=>aJN w0 bb (cX (-1) head bZ b0 (bW es)) e w':=by
 obtain⟨ad,cap,rfl,-⟩:=hE.len;have h7:=P.hm;let⟨w1,eT⟩:=E (e8 w (h8 #[J aR,hY ad (O es) cap] 133));have cM:=Za eT;have eQ:=Zb eT;obtain⟨c0,c1⟩:=Z2 eQ;have V:=(XC _ es aR head w1 (hE.on (a.dd cM)) P hk);have Gt:=lD h7;have uC:=pB es;have nU:=nC P.dM;have HCS:=Z λn p=>LX (dg:=head) Gt uC nU (n:=n) p;have GB:O (run head bZ (bW es)).1<=300:=jN (PG bZ _ Gt uC nU) Gt;generalize C:(run head bZ (bW es)).1=S at HCS GB V;have HRP:=Z λn u z (A:U w0 [] z []) (p:n<=O S) hu=>Qz (hY ad (O es) cap) u es aR head n z (hE.on A) P hk C p hu;let⟨R,i⟩:=E (cX (-1) head bZ b0 (bW es));rw[i];have HR:=Z i;have HB:=(h.on cM);have oN:=(a.dd cM);clear h a cM hE P uC nU C i;go_in;go_wp2_with (go_at_call 51;apply V.cF;rintro e w2 ⟨u,x,rfl,C,hL,a⟩;have iW:=C.Vf;obtain⟨sa,sc,rfl,-⟩:=C.len;obtain⟨la,lc,rfl,-⟩:=hL.len;have eM:=(oN.dd a);have rT:=Z (C.eE oN.size);have F3:=(HB.on a);have HG2:=(a.aC eQ X);clear a hL C);have iW:O S<=sc:=iW;go_loopg [11] (O S) (λgg s11 wr=>∃(k f:Nat) (b:sM),k<=O S/\gg=O S-k/\s11=J k/\U w0 [] wr []/\Nk w0 wr (hY sa (O S) sc) S/\rW wr w.heap.size #[J aR,hY ad (O es) cap] 133/\
  re w0 wr bb b (after (bW es) (S.take k))/\F2 head b (after (bW es) (S.take k)) (O es) 42/\eD (after (bW es) (S.take k))<=f/\cX (-1) head f b (after (bW es) (S.take k))=R)
 .exact⟨0,bZ,b0,Y,rfl,rfl,eM,rT.o,HG2,F3,hM,Gt,HR.o⟩
 obtain⟨k,f,b,r,rfl,rfl,a,Ek,hG,N,t,sG,i⟩:=hrel;have Oo:k<=sc:=jN r iW;have W:=(Ek.rd.Qg (cap':=sc) r (λe=>by
  subst e;rcases Ek.1 with⟨T,_⟩|⟨g,c,cur,T,_⟩
  .injection T
  .cases T))
 have F:=(λz (A:U wr [] z [])=>HRP.o k (hY sa k sc) z (a.dd A) r (W.on A));obtain⟨d0,d1⟩:=Z2 hG;have HU:=Z a;have B:=Z N;have xO:=Jv sG t.nd t.sm i;have m:=HCS.o k r;generalize lX:after (bW es) (S.take k)=lk at xO m t F B;clear a N sG i;go_upto_region 4 with(fail);refine ek 99 (eb d0<|d7 d1) (λwd eY jW Q=> ?_);refine dw [0,1,2,3,4] ?_;refine Zo 5 λqL hK=> ?_;go_simp;go_at_call 90;apply(F wd jW).cF;rintro e w5 ⟨x5,rfl,hO,a⟩;dsimp only;obtain⟨xa,xc,rfl,-⟩:=hO.len;replace Q:=a.Of Q;have cQ:=jW.dd a;have T4:=(hO.eE (HU.o.dd jW).size);clear hO a jW eY d0 d1 F W;refine Zk hK Q<|I 6 ?_;refine dw [7,10,8,11,9,12] ?_;refine aY dB ?_ _;try simp only[Act.put,RM,RJ,UT]
 have j:=Rh _ lk head w5 T4.rd t.sm hk;clear Q;rcases xO with⟨d,i⟩|⟨d,p,i⟩|⟨d,f',s,p,hw',i⟩
 .rw[d]at j;have L:=Z i;clear i d m;go_wp2_with (go_at_call 91;apply j.cL;intro w6 a;have y:=Z (cQ.dd a);have HO6:=(T4.on a);clear a);refine mD (aG2 rfl Yr Yr) rfl ?_;rw[L.o];exact⟨_,rfl,HO6,B.o.on y.o,HU.o.dd y.o⟩
 .rw[d]at j;have hke:k=O S:=by
   rcases m with⟨T,_⟩|⟨_,s,_,q,_⟩
   .exact T
   .rw[p]at q;cases q
  have g1:((k:Int)==(O S:Int))=oj:=j7 JY;have L:=Z i;clear i d m hke;go_wp2_with (go_at_call 91;apply j.cL;intro w6 a;have y:=Z (cQ.dd a);clear a);refine mD (aG2 rfl Yr Yr) rfl ?_;rw[L.o];exact⟨rfl,HU.o.dd y.o⟩
 .rw[d]at j;rcases m with⟨_,q⟩|⟨aV,s2,o,q,oZ⟩
  .rw[p]at q;cases q
  obtain rfl:s=s2:=by rw[p]at q;injection q
  have g1:((k:Int)==(O S:Int))=po:=j7 G9;have L:=Z i;have hsk:ep S k qc=s:=by rw[iB,o];rfl
  let⟨gS,oS,cS,hvS,hgS,l⟩:=Ek.rd.aU aV;obtain rfl:=CT hvS;rw[hsk]at l;clear i d q o hsk;have zC:=Z λz (A:U wr [] z [])=>Ql bb b lk s w0 z hw (B.o.on A) (HU.o.dd A) t h7 h0 p;unfold jX at zC;go_wp2_with (first
   |(go_at_call 53;apply(zC.o _ y.o).cL;rintro w7 ⟨hF,a,N⟩;have NN:=Z a;have Oa:=Z N;clear a N)
   |(go_at_call 91;apply j.cL;intro w6 a;have G:=cQ.dd a;have s0:=G.cell (l 0 D) X;have s1:=G.cell (l 1 D) X;have s2:=G.cell (l 2 D) X;have s3:=G.cell (l 3 D) X;simp only[J0,pK]at s0 s1 s2 s3;have y:=Z G;clear a G))
  go_roundg (O S-(k+1))
  .exact⟨k+1,f',gB (-1) b lk s,Y,rfl,eO,NN.o,(Ek.on y.o).aEQ hF D,hF.bS _ _ _ (y.o.aC hG X) D,
   by rw[oZ,n9,lX];exact Oa.o,by rw[oZ,n9,lX];exact t.step (-1) p,by rw[oZ,n9,lX];exact hw',by rw[oZ,n9,lX];exact L.o⟩
  omega
end Go.Proofs.YtbcooplfakebmaaGreatDoor
