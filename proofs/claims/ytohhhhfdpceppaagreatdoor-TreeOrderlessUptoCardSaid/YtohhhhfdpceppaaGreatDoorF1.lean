/- Part of the proof that the tied card of a law of the tree holds; no condition is added. -/
import Derived.Test.YtohhhhfdpceppaaGreatDoorM8
namespace Go.Proofs.YtohhhhfdpceppaaGreatDoor
set_option maxHeartbeats 4000000
set_option maxRecDepth 100000
set_option linter.all false
open Go.RowKit Go.Maps Go.Proofs.Tryz Tryz
open _root_.Array renaming size→i7
open _root_.Bool renaming false→rR,true→qT,false_and→B0
open _root_.Go.Ending renaming returned→mi
open _root_.Go.IntKind renaming i64→mn
open _root_.Go.Obj renaming cells→kd
open _root_.Go.Value renaming bool→nj,int→mj,ownBlock→i6,slice→jS,string→mX
open _root_.Go.World renaming alloc→i5,cell?→h8,setCell→hY
open _root_.Inhabited renaming default→sT
open _root_.List renaming getD→hJ,length→O,drop_eq_nil_of_le→gz,range→oj,mem_of_mem_drop→oq,length_drop→vW,nodup_range→wn,length_pos_iff_exists_mem→yo,mem_of_mem_take→y',take_append_drop→zn,pairwise_cons→zo,getElem?_set→zN,foldl_cons→z',idxOf_cons→Bk
open _root_.Option renaming none→K,some→H
open Go renaming World→aA,Value→aE,Calls→aK,TypeId→ap,maxLen→bH,Addr→cg
open Go.RowKit renaming Hid→dT
open _root_.Nat renaming le_of_not_lt→x',min_eq_left→zb
variable{sd:Bool}{n':f7}{r:Row}
section
theorem ZM82{P:Prop}(h:P:=by
  rw[R k1,R k1,R k2,R k2];simp only[n2.mem_erase_iff];by_cases e:x=r
  .subst e;simp[h1];try omega
  .by_cases hx:x∈n.fJ<;>simp[hx,e]):P:=h
theorem ZM89{P:Prop}(h:P:=by
  by_cases hx:x∈n.fJ
  .by_cases e:dF x s.bP=r
   .simp[hx,e,h1]
   .by_cases hy:dF x s.bP∈n.sd<;>simp[hx,e,hy]
  .simp[hx]):P:=h
theorem ZM90{P:Prop}(h:P:=by
  injection h with h;injection h with h h';subst h h';by_cases e:x=r
  .subst e;simp[h1]
  .by_cases hx:x∈n.fJ<;>simp[hx,e]):P:=h
def t6(s:lV)(n:f7)(r:Row):Nat:=
 if s.aG=1 then(if r∈n.aM then 1 else 0)else if s.aG=2 then n.eG r else if r∈n.fJ then 1+(if dF r s.bP∈n.sd then 1 else 0)else 0
theorem vh{s:lV}{n:f7}{m:R7}(h:OF s n sd r= .ok (n',m))(x:Row):t6 s n x<=t6 s n' x/\(x∈m.aX↔t6 s n' x≠t6 s n x):=by
 unfold OF at h;unfold t6;by_cases a:s.aG=1
 .rw[bW a]at h;rw[bW a,bW a];by_cases h1:r∈n.aM
  .rw[bW h1]at h;cases h
  .rw[R h1]at h;split at h
   .cases h
   .injection h with h;injection h with h h';subst h h';by_cases e:x=r
    .subst e;simp[h1]
    .by_cases hx:x∈n.aM<;>simp[hx,e]
 .rw[R a]at h;rw[R a,R a];by_cases k2:s.aG=2
  .rw[bW k2]at h;rw[bW k2,bW k2];split at h
   .cases h
   .split at h
    .rename_i b;split at h
     .cases h
     .injection h with h;injection h with h h';subst h h';unfold fQ;by_cases e:x=dF r s.eb
      .subst e;simp[b]
      .simp[e]
    .injection h with h;injection h with h h';subst h h';unfold fQ;by_cases e:x=dF r s.eb
     .subst e;simp
     .simp[e]
  .rw[R k2]at h;rw[R k2,R k2];cases sd with
   |true=>
    simp only[yN]at h;by_cases h1:r∈n.sd
    .rw[bW h1]at h;cases h
    .rw[R h1]at h;split at h
     .cases h
     .injection h with h;injection h with h h';subst h h';exact ZM89
   |false=>
    simp only[Nc,E6]at h;by_cases h1:r∈n.fJ
    .rw[bW h1]at h;cases h
    .rw[R h1]at h;split at h
     .cases h
     .split at h
      .exact ZM90
      .exact ZM90
def YX(n:f7):Prop:=n.aM.Nodup/\n.fJ.Nodup/\n.sd.Nodup
theorem aEI{s:lV}{n:f7}{m:R7}(d:YX n)(h:uN s n sd r= .ok (n',m)):
  YX n'/\∀x:Row,t6 s n' x<=t6 s n x/\(x∈m.aX↔t6 s n' x≠t6 s n x):=by
 obtain⟨b,n2,a⟩:=d;unfold uN at h;unfold t6;by_cases k1:s.aG=1
 .rw[bW k1]at h;by_cases h1:r∈n.aM
  .rw[bW h1]at h;injection h with h;injection h with h h';subst h h';refine⟨⟨b.erase _,n2,a⟩,λx=> ?_⟩;rw[bW k1,bW k1];simp only[b.mem_erase_iff];by_cases e:x=r
   .subst e;simp[h1]
   .by_cases hx:x∈n.aM<;>simp[hx,e]
  .rw[R h1]at h;cases h
 .rw[R k1]at h;by_cases k2:s.aG=2
  .rw[bW k2]at h;by_cases c:n.eG (dF r s.eb)=0
   .rw[bW c]at h;cases h
   .rw[R c]at h;split at h
    .rename_i h1;injection h with h;injection h with h h';subst h h';refine⟨⟨b.erase _,n2,a⟩,λx=> ?_⟩;rw[R k1,R k1,bW k2,bW k2];unfold fQ;by_cases e:x=dF r s.eb
     .subst e;simp[h1]
     .simp[e]
    .injection h with h;injection h with h h';subst h h';refine⟨⟨b,n2,a⟩,λx=> ?_⟩;rw[R k1,R k1,bW k2,bW k2];unfold fQ;by_cases e:x=dF r s.eb
     .subst e;simp;omega
     .simp[e]
  .rw[R k2]at h;cases sd with
   |true=>
    simp only[yN]at h;by_cases h1:r∈n.sd
    .rw[bW h1]at h;injection h with h;injection h with h h';subst h h';refine⟨⟨CF b,n2,a.erase _⟩,λx=> ?_⟩;rw[R k1,R k1,R k2,R k2];simp only[a.mem_erase_iff];exact ZM89
    .rw[R h1]at h;cases h
   |false=>
    simp only[Nc,E6]at h;by_cases h1:r∈n.fJ
    .rw[bW h1]at h;split at h
     .injection h with h;injection h with h h';subst h h';refine⟨⟨b.erase _,n2.erase _,a⟩,λx=> ?_⟩;exact ZM82
     .injection h with h;injection h with h h';subst h h';refine⟨⟨b,n2.erase _,a⟩,λx=> ?_⟩;exact ZM82
    .rw[R h1]at h;cases h
theorem kA:∀(t l:List Row) (x:Row),x∈cP l t↔x∈l\/x∈t
 |[],l,x=>by simp[cP]
 |y::t,l,x=>by
  have ih:=kA t (if y∈l then l else l++[y]) x;unfold cP at ih|-;rw[z',ih];by_cases a:y∈l
  .rw[bW a];constructor
   .rintro(h|h)
    .exact .inl h
    .exact .inr (by simp[h])
   .rintro(h|h)
    .exact .inl h
    .rcases xZ.1 h with rfl|h
     .exact .inl a
     .exact .inr h
  .rw[R a];simp only[yU,xZ,List.not_mem_nil,or_false];constructor
   .rintro((h|h)|h)
    .exact .inl h
    .exact .inr (.inl h)
    .exact .inr (.inr h)
   .rintro(h|h|h)
    .exact .inl (.inl h)
    .exact .inl (.inr h)
    .exact .inr h
theorem MF:∀(t l:List Row),l.Nodup->(cP l t).Nodup
 |[],l,h=>h
 |y::t,l,h=>by
  have ih:=MF t (if y∈l then l else l++[y]) (by
   split
   .exact h
   .rename_i d;rw[Fh];exact⟨h,J,λa ha b c e=>by simp at c;subst c;subst e;exact d ha⟩)
  unfold cP at ih|-;rw[z'];exact ih
structure E1(P:AC)(add:Bool)(T0:gZ)(w:jU):Prop where
 nd:∀i,i<P.n->(w.aX i).Nodup
 free:add=rR->∀i,i<P.n->YX (w.T i)
 up:add=qT->∀i,i<P.n->∀x,t6 (P.spec i) (T0 i) x<=t6 (P.spec i) (w.T i) x
 dn:add=rR->∀i,i<P.n->∀x,t6 (P.spec i) (w.T i) x<=t6 (P.spec i) (T0 i) x
 iff:∀i,i<P.n->∀x,x∈w.aX i↔t6 (P.spec i) (w.T i) x≠t6 (P.spec i) (T0 i) x
section
variable{P:AC}{add:Bool}{T0:gZ}
theorem E1.aQ{w:jU}(h:E1 P add T0 w)(k:Nat):E1 P add T0 {w with aQ:=k}:=⟨h.nd,h.free,h.up,h.dn,h.iff⟩
theorem E1.fE{w:jU}(h:E1 P add T0 w)(aS:Nat)(sd:Bool)(r:Row):E1 P add T0 (fE P add w aS sd r).1:=by
 unfold YtohhhhfdpceppaaGreatDoor.fE;cases b:iX add (P.spec aS) (w.T aS) sd r with
 |error e=>exact h
 |ok g=>
  obtain⟨n',m⟩:=g;dsimp only;have gP:aS<P.n->(add=rR->YX n')/\∀x,(add=qT->t6 (P.spec aS) (w.T aS) x<=t6 (P.spec aS) n' x)/\(add=rR->t6 (P.spec aS) n' x<=t6 (P.spec aS) (w.T aS) x)/\(x∈m.aX↔t6 (P.spec aS) n' x≠t6 (P.spec aS) (w.T aS) x):=λc=>by
   unfold iX at b;cases add with
   |true=>
    rw[bW rfl]at b;exact⟨λe=>(by cases e),λx=>⟨λ_=>(vh b x).1,λe=>(by cases e),(vh b x).2⟩⟩
   |false=>
    rw[R E]at b;have:=aEI (h.free rfl aS c) b;exact⟨λ_=>this.1,λx=>⟨λe=>(by cases e),λ_=>(this.2 x).1,(this.2 x).2⟩⟩
  refine⟨λi a=> ?_,λha i a=> ?_,λha i a x=> ?_,λha i a x=> ?_,λi a x=> ?_⟩
  .dsimp only;by_cases e:i=aS
   .rw[bW e];subst e;exact MF _ _ (h.nd i a)
   .rw[R e];exact h.nd i a
  .dsimp only;by_cases e:i=aS
   .subst e;rw[n7];exact(gP a).1 ha
   .rw[sO _ _ e];exact h.free ha i a
  .dsimp only;by_cases e:i=aS
   .subst e;rw[n7];exact j8 (h.up ha i a x) (((gP a).2 x).1 ha)
   .rw[sO _ _ e];exact h.up ha i a x
  .dsimp only;by_cases e:i=aS
   .subst e;rw[n7];exact j8 (((gP a).2 x).2.1 ha) (h.dn ha i a x)
   .rw[sO _ _ e];exact h.dn ha i a x
  .dsimp only;by_cases e:i=aS
   .subst e;rw[n7,bW rfl,kA,h.iff i a x,((gP a).2 x).2.2];cases add with
    |true=>
     have j:=h.up rfl i a x;have d:=((gP a).2 x).1 rfl;omega
    |false=>
     have j:=h.dn rfl i a x;have d:=((gP a).2 x).2.1 rfl;omega
   .rw[sO _ _ e,R e];exact h.iff i a x
theorem E1.gI{aS:Nat}:∀(l:List Row) (w:jU) (next:List Row),E1 P add T0 w->E1 P add T0 (gI P add aS sd l w next).1
 |[],_,_,h=>h
 |r::l,w,next,h=>by
  unfold YtohhhhfdpceppaaGreatDoor.gI;exact E1.gI l _ _ ((h.fE aS sd r).aQ _)
theorem E1.eT:∀(f aS:Nat) (l:List Row) (w:jU),E1 P add T0 w->E1 P add T0 (eT P add f aS l w)
 |0,_,_,_,h=>h
 |f+1,aS,l,w,h=>by
  unfold YtohhhhfdpceppaaGreatDoor.eT;split
  .exact h
  .split
   .exact h
   .exact E1.eT f _ _ _ (E1.gI _ _ _ h)
theorem E1.aD{jO:Nat->Bool}{bB:Nat->Option Row}:∀(l:List Nat) (w:jU) (done:List Nat),E1 P add T0 w->E1 P add T0 (bX P add jO bB l w done).1
 |[],w,done,h=>h
 |i::l,w,done,h=>by
  unfold bX;split
  .exact E1.aD l w done h
  .dsimp only;split
   .exact E1.aD l _ done (h.aQ _)
   .split
    .exact E1.aD l _ done ((h.aQ _).fE i rR _)
    .split
     .exact(h.aQ _).fE i rR _
     .exact E1.aD l _ _ (E1.eT _ _ _ _ ((h.aQ _).fE i rR _))
end
theorem xU{P:AC}{add:Bool}{jO:Nat->Bool}{bB:Nat->Option Row}:∀(l:List Nat) (w:jU) (done:List Nat),∀i∈(bX P add jO bB l w done).2.1,i∈done\/jO i=qT
 |[],w,done,i,hi=> .inl hi
 |j::l,w,done,i,hi=>by
  unfold bX at hi;split at hi
  .exact xU l w done i hi
  .rename_i a;have a:jO j=qT:=eP a;dsimp only at hi;split at hi
   .exact xU l _ done i hi
   .split at hi
    .exact xU l _ done i hi
    .split at hi
     .exact .inl hi
     .rcases xU l _ _ i hi with h|h
      .rcases yU.1 h with h|h
       .exact .inl h
       .have:i=j:=eP h;exact .inr (this▸a)
      .exact .inr h
section
variable{P:AC}{sc D3:Nat->Nat}{jO:Nat->Bool}{bB:Nat->Option Row}
end
end
variable{i:Nat}{T:gZ}{q:bK}{r':Row}
section
def Je(a:pB)(m:Row)(t:j6):L4:=if t.var=bU then t.xW else hJ m ((cJ a).idxOf t.var) aR
theorem F0{a:pB}:∀(n k:Nat) (xs out m:Row),O a.aV-k=n->k+O xs=O a.aV->O out=O (bL (a.aV.take k) [])->kS (cJ a) (a.aV.drop k) xs out=H m->
  (∃tl,m=out++tl)/\xs=(a.aV.drop k).map (Je a m)
 |0,k,xs,out,m,hn,hl,ho,h=>by
  have hd:a.aV.drop k=[]:=kG List.drop_eq_nil_iff;rw[hd]at h|-;unfold kS at h;cases h
  have:xs=[]:=dt.1 Y;exact⟨⟨[],J⟩,by rw[this];rfl⟩
 |n+1,k,xs,out,m,hn,hl,ho,h=>by
  have g:k<O a.aV:=Y;have hd:=Ge g;rw[hd]at h|-;generalize j:a.aV[k]=t at h|-;let⟨l,p⟩:=Cl g j;cases xs with
  |nil=>simp at hl;omega
  |cons x xs=>
   simp only[TT]at hl;unfold kS at h;split at h
   .rename_i hv;split at h
    .rename_i e;let⟨b,c⟩:=F0 n (k+1) xs out m Y Y (l hv▸ho) h;refine⟨b,?_⟩;rw[KR,<-c];congr 1;unfold Je;rw[bW hv,e]
    .cases h
   .rename_i hv;rcases p hv with⟨i,d⟩|⟨i,d⟩
    .rw[R Y]at h;split at h
     .rename_i e;let⟨⟨tl,b⟩,c⟩:=F0 n (k+1) xs out m Y Y (d▸ho) h;refine⟨⟨tl,b⟩,?_⟩;rw[KR,<-c];congr 1;unfold Je;rw[R hv,b,gV,zbE Y,<-gV,e]
     .cases h
    .rw[bW Y]at h;let⟨⟨tl,b⟩,c⟩:=F0 n (k+1) xs (out++[x]) m Y Y (by rw[d,E7,ho];rfl) h;refine⟨⟨x::tl,by rw[b];simp⟩,?_⟩;rw[KR,<-c];congr 1;unfold Je;rw[R hv,b,i,<-ho,zcV,gV,List.getElem?_append_right Y];simp
theorem W5{a:pB}{m:Row}(h:C4 a r=H m):r=a.aV.map (Je a m):=by
 unfold C4 at h;split at h
 .rename_i hl;exact(F0 (O a.aV) 0 r [] m Y Y rfl h).2
 .cases h
theorem aBG(g:(aB q).1=0)(p:O (vars q)<=30)(c:i<O q.aD){a:pB}(ha:q.aD[i]=a){s:dO}(hs:s∈cJ a):(cJ a).idxOf s∈pQ (aB q).2 a i:=by
 have l:i<O (aJ q):=by unfold aJ;simpa using c
 let⟨n,m⟩:=MB g l;have b:s∈vars q:=Vy.2 ⟨a,ha▸gu c,hs⟩;have d:=List.idxOf_lt_length_of_mem b;have e:hJ (vars q) ((vars q).idxOf s) bU=s:=by
  rw[gV,kU d];simp
 unfold pQ;refine AE.2 ⟨(vars q).idxOf s,?_,by rw[m,e]⟩;rw[n,nA];refine⟨Y,?_⟩;have j:hJ (aJ q) i 0=uE (vars q) (cJ a):=by
  unfold aJ;rw[gV,So,kU c,ha];rfl
 rw[j,sK,e];simp[d,hs]
theorem Hi(e:(aB q).1=0)(j:O (vars q)<=30)(n:i<O q.aD){a:pB}(ha:q.aD[i]=a){x:Row}(h:jI (aB q).2 a i r=H x)(b:jI (aB q).2 a i r'=H x):r=r':=by
 unfold jI at h b;split at h
 .cases h
 .rename_i m l;split at h
  .split at b
   .cases b
   .rename_i m' d;split at b
    .injection h with h;injection b with b;have c:=h.ds b.symm;unfold dF at c;have c:=List.map_inj_left.1 c;rw[W5 l,W5 d];refine List.map_congr_left λt g=> ?_;unfold Je;by_cases hv:t.var=bU
     .rw[bW hv,bW hv]
     .rw[R hv,R hv];exact c _ (aBG e j n ha (uP.2 (.inr ⟨t,g,hv,rfl⟩)))
    .cases b
  .cases h
def aSJ(n:Nat)(rel:Nat->dO)(bB:Row->Nat->Option Row)(T:gZ):Prop:=∃bEp:dO->Row->Prop,∀i,i<n->∀x,x∈(T i).aM↔∃r,bEp (rel i) r/\bB r i=H x
section
variable{P:AC}{sc D3:Nat->Nat}{n:Nat}{rel:Nat->dO}{bB:Row->Nat->Option Row}
theorem aSJ.QA(hd:aSJ n rel bB T)(d:∀i,i<n->∀r r' x,bB r i=H x->bB r' i=H x->r=r')(c:dO)(r:Row):
  (∃i,i<n/\decide (rel i=c)=qT/\∃x,bB r i=H x/\x∉(T i).aM)->∀i,i<n->decide (rel i=c)=qT->∀x,bB r i=H x->x∉(T i).aM:=by
 rintro⟨i,A,q,x,m,p⟩ j g a y l w;obtain⟨bEp,e⟩:=hd;let⟨r',u,b⟩:=(e j g y).1 w;obtain rfl:=d j g _ _ _ b l;have z:rel i=c:=eP q;have v:rel j=c:=eP a;exact p ((e i A x).2 ⟨r',by rw[z,<-v];exact u,m⟩)
end
end
variable{e st:Nat}{D0:dO->Row->Prop}{t1 u1:iL}
section
section
variable{P:AC}{sc D3:Nat->Nat}
theorem tC.sub(f:tX P sc D3){T T':gZ}(h:tC P T)(b:tC P T')(l:∀v,v<P.n->(P.spec v).aG=1\/(P.spec v).aG=2\/(P.spec v).aG=3)(hl:∀v,v<P.n->(P.spec v).aG=1->∀r,r∈(T v).aM->r∈(T' v).aM):∀v,v<P.n->∀r,r∈(T v).aM->r∈(T' v).aM:=by
 intro v;induction v using Nat.strongRecOn with
 |ind v ih=>
  intro hv r;rcases l v hv with p|g|e
  .exact hl v hv p r
  .let⟨a,m⟩:=f.fJ v hv Y;have i:=ih (sc v) (f.up _ _ a).1 (kX (f.up _ _ a).1);have d:=h.aJ _ _ a;have e2:=b.aJ _ _ a;unfold eN at d e2;rw[bW g]at d e2;rw[(h.all v hv).FI g,(b.all v hv).FI g,d,e2,yo,yo];exact λ⟨x,hx⟩=>⟨x,BC⟩
  .let⟨a,m⟩:=f.fJ v hv Y;let⟨c,u⟩:=f.sd v hv e;have i:=ih (sc v) (f.up _ _ a).1 (kX (f.up _ _ a).1);have j:=ih (D3 v) (f.up _ _ c).1 (kX (f.up _ _ c).1);have d:=h.aJ _ _ a;have e2:=b.aJ _ _ a;have y:=h.aJ _ _ c;have w:=b.aJ _ _ c;have q:=((h.all v hv).US e).2.2 r;have k2:=((b.all v hv).US e).2.2 r;grind [eN]
theorem ZR{f g:Nat->Nat}:∀(l:List Nat),(∀i∈l,f i<=g i)->(l.map f).sum<=(l.map g).sum
 |[],_=>fV _
 |i::l,h=>by
  have:=ZR l λj a=>h j (by simp[a]);have:=h i J;simp only[KR,List.sum_cons];omega
theorem tC.yZ(f:tX P sc D3){T T':gZ}(h:tC P T)(d:tC P T')(hs:∀v,v<P.n->∀r,r∈(T v).aM->r∈(T' v).aM):eH P T<=eH P T':=by
 unfold eH;refine ZR _ λi a=> ?_;have a:=wW.1 a;unfold lI;split
 .let⟨b,g⟩:=f.fJ i a Y;have e:=h.aJ _ _ b;have e2:=d.aJ _ _ b;have c:sc i<P.n:=kX (f.up _ _ b).1;have:=C9 (h.all _ c).dD (hs _ c);grind [eN]
 .exact C9 (h.all i a).dD (hs i a)
theorem SY(f:tX P sc D3){jO:Nat->Bool}{bB:Nat->Option Row}:∀(l:List Nat) (w:jU) (done:List Nat),l.Nodup->(∀i∈l,i<P.n/\(P.spec i).aG=1/\(P.spec i).aH=512)->tC P w.T->(∀i∈l,jO i=qT->∀x,bB i=H x->x∈(w.T i).aM\/O (w.T i).aM<512)->(bX P qT jO bB l w done).2.2=rR
 |[],_,_,_,_,_,_=>rfl
 |i::l,w,done,hd,hl,h,hr=>by
  rw[U8]at hd;let⟨p,m,d⟩:=hl i J;have ih:=λw' AU=>SY f (jO:=jO) (bB:=bB) l w' AU hd.2 (λj b=>hl j (by simp[b]));have a:=λj (b:j∈l)=>hr j (by simp[b]);unfold bX;cases g:jO i with
  |false=>exact ih w done h a
  |true=>
   simp only[Bool.not_true,Nc,E6];cases c:bB i with
   |none=>exact ih _ done h a
   |some r=>
    simp only;rcases(SI (w:={w with aQ:=w.aQ+1}) (r:=r) f h p m d).1 with⟨e1,-⟩|⟨-,e2,e3⟩|⟨e1,-,-,e4,-,e6,-,-⟩
    .rw[e1];exact ih _ done h a
    .rcases hr i J g r c with t|t
     .exact dY t e2
     .simp only at e3;omega
    .rw[e1,R Y,R Y];exact ih _ _ e4 λj b=>by rw[e6 j (λe=>hd.1 (e▸b)) (hl j (by simp[b])).2.1];exact a j b
end
def Gb(n:Nat)(rel:Nat->dO)(bB:Row->Nat->Option Row)(T:gZ)(bEp:dO->Row->Prop):Prop:=∀i,i<n->∀x,x∈(T i).aM↔∃r,bEp (rel i) r/\bB r i=H x
def ur(add:Bool)(c:dO)(r:Row)(bEp:dO->Row->Prop)(s:dO)(r':Row):Prop:=if add then bEp s r'\/(s=c/\r'=r)else bEp s r'/\¬(s=c/\r'=r)
section
variable{P:AC}{sc D3:Nat->Nat}{n:Nat}{rel:Nat->dO}{bB:Row->Nat->Option Row}{bEp:dO->Row->Prop}{T:gZ}{c:dO}{r:Row}{g:jU×List Nat×Bool}
theorem Gb.on(f:tX P sc D3)(hl:∀i,i<n->i<P.n/\(P.spec i).aG=1/\(P.spec i).aH=512)(h:tC P T)(hd:Gb n rel bB T bEp)(q:bX P qT (λi=>decide (rel i=c)) (bB r) (oj n) ⟨T,0,λ_=>[]⟩ []=g)(u:g.2.2=rR):Gb n rel bB g.1.T (ur qT c r bEp):=by
 have b:∀i∈oj n,i<P.n/\(P.spec i).aG=1/\(P.spec i).aH=512:=λi a=>hl i (wW.1 a);have m:=KI (P:=P) (add:=qT) (jO:=λi=>decide (rel i=c)) (bB:=bB r) (λi j w=>f.leaf w j) (oj n) ⟨T,0,λ_=>[]⟩ [] wn (λi a=>(b i a).2.1) (λi a=>(h.all i (b i a).1).dD);let⟨a1,a2,a3,v,a4,a5,a6,a7,l⟩:=JN (jO:=λi=>decide (rel i=c)) (bB:=bB r) f (oj n) ⟨T,0,λ_=>[]⟩ [] wn b h;have e:=xU (P:=P) (add:=qT) (jO:=λi=>decide (rel i=c)) (bB:=bB r) (oj n) ⟨T,0,λ_=>[]⟩ [];rw[q]at a4 a7 l e m;rw[Nb]at a4;rw[a4]at e;have p:=(m u).1;intro i a x;have gP:x∈(g.1.T i).aM↔x∈(T i).aM\/(rel i=c/\bB r i=H x):=by
  by_cases d:i∈v
  .let⟨y,B,z,F⟩:=a7 i d;have A:rel i=c:=by simpa using(e i d).resolve_left J
   grind
  .have C:=l i (hl i a).2.1 d;have:=p i (wW.2 a);grind [YR]
 rw[gP,hd i a x];grind [ur]
theorem Gb.off(f:tX P sc D3)(hl:∀i,i<n->i<P.n/\(P.spec i).aG=1/\(P.spec i).aH=512)(h:tC P T)(b:∀i,i<n->∀r r' x,bB r i=H x->bB r' i=H x->r=r')(hd:Gb n rel bB T bEp)(l:bX P rR (λi=>decide (rel i=c)) (bB r) (oj n) ⟨T,0,λ_=>[]⟩ []=g):g.2.2=rR/\tC P g.1.T/\(∀i,i<n->∀x,x∈(g.1.T i).aM->x∈(T i).aM)/\Gb n rel bB g.1.T (ur rR c r bEp):=by
 let⟨d,b2,u,e,m,b6⟩:=MY (jO:=λi=>decide (rel i=c)) (bB:=bB r) f (oj n) ⟨T,0,λ_=>[]⟩ [] wn (λi a=>⟨(hl i (wW.1 a)).1,(hl i (wW.1 a)).2.1⟩) h;rw[l]at d e b6;have gP:∀i,i<n->∀x,x∈(g.1.T i).aM↔x∈(T i).aM/\¬(rel i=c/\bB r i=H x):=λi a x=>by
  have q:=b6 i (wW.2 a);have p:=(h.all i (hl i a).1).dD;cases v:bB r i with
  |none=>grind
  |some y=>grind [List.Nodup.mem_erase_iff]
 refine⟨e,d,λi a x j=>((gP i a x).1 j).1,λi a x=> ?_⟩;rw[gP i a x,hd i a x];have:=b i a;grind [ur]
theorem Gb.change(f:tX P sc D3){cells:Nat}{t:iL}{add:Bool}{eG:Nat}(hl:∀i,i<n->i<P.n/\(P.spec i).aG=1/\(P.spec i).aH=512)(p:∀v,v<P.n->(P.spec v).aG=1\/(P.spec v).aG=2\/(P.spec v).aG=3)(q:∀v,v<P.n->(P.spec v).aG=1->v<n)(h:tC P t.T)(b:∀i,i<n->∀r r' x,bB r i=H x->bB r' i=H x->r=r')(hd:Gb n rel bB t.T bEp)(hs:eH P t.T<=cells)(a:fC P cells n t add (λi=>decide (rel i=c)) (bB r)=(t1,st,eG,0)):Gb n rel bB t1.T (ur add c r bEp)/\eH P t1.T<=cells:=by
 unfold fC at a;simp only at a;generalize e:bX P add (λi=>decide (rel i=c)) (bB r) (oj n) ⟨t.T,0,λ_=>[]⟩ []=g at a;split at a
 .cases a
 .rename_i j;split at a
  .cases a
  .rename_i l;have m:t1.T=g.1.T:=by cases a;rfl
   rw[m];cases add with
   |true=>exact⟨Gb.on f hl h hd e (eP j),by simpa using l⟩
   |false=>
    obtain⟨-,d,b2,u⟩:=Gb.off f hl h b hd e;exact⟨u,j8 (tC.yZ f d h (tC.sub f d h p λv hv w=>b2 v (q v hv w))) hs⟩
theorem Gb.a39(f:tX P sc D3){cells:Nat}{t u:iL}{eG:Nat}(hl:∀i,i<n->i<P.n/\(P.spec i).aG=1/\(P.spec i).aH=512)(Q:∀v,v<P.n->(P.spec v).aG=1\/(P.spec v).aG=2\/(P.spec v).aG=3)(F:∀v,v<P.n->(P.spec v).aG=1->v<n)(h:tC P t.T)(j:tC P u.T)(hd:Gb n rel bB t.T bEp)(G:Gb n rel bB u.T D0)(p:∀s r',ur qT c r D0 s r'->bEp s r')(hs:eH P t.T<=cells)(b:fC P cells n u qT (λi=>decide (rel i=c)) (bB r)=(u1,st,eG,e)):e=0:=by
 have C:∀i∈oj n,i<P.n/\(P.spec i).aG=1/\(P.spec i).aH=512:=λi a=>hl i (wW.1 a);have B:=SY f (jO:=λi=>decide (rel i=c)) (bB:=bB r) (oj n) ⟨u.T,0,λ_=>[]⟩ [] wn C j (λi a A x z=>by
  have a:=wW.1 a;have A:rel i=c:=eP A;by_cases L:x∈(u.T i).aM
  .exact .inl L
  .have td:x∈(t.T i).aM:=(hd i a x).2 ⟨r,p _ _ (.inr ⟨A,rfl⟩),z⟩;have S:=(j.all i (hl i a).1).dD;have:=C9 (l:=x::(u.T i).aM) (m:=(t.T i).aM) (U8.2 ⟨L,S⟩) λy w=>by
    rcases xZ.1 w with rfl|w
    .exact td
    .let⟨r',d,e⟩:=(G i a y).1 w;exact(hd i a y).2 ⟨r',p _ _ (.inl d),e⟩
   have:=h.eD i (hl i a).1;simp only[TT]at*;exact .inr Y)
 obtain⟨a1,-⟩:=JN (jO:=λi=>decide (rel i=c)) (bB:=bB r) f (oj n) ⟨u.T,0,λ_=>[]⟩ [] wn C j;let⟨g,k⟩:=D (bX P qT (λi=>decide (rel i=c)) (bB r) (oj n) ⟨u.T,0,λ_=>[]⟩ []);unfold fC at b;simp only at b;rw[k]at b B a1;have q:=Gb.on f hl j G k B;have V:=tC.yZ f a1 h (tC.sub f a1 h Q λv hv N x z=>by
  let⟨r',d,e⟩:=(q v (F v hv N) x).1 z;exact(hd v (F v hv N) x).2 ⟨r',p _ _ d,e⟩)
 rw[B,R E,R (by simp;omega)]at b;cases b
 rfl
end
end
variable{td aT:List Row}{j:Nat}
section
theorem ZM101{P:Prop}(h:P:=by
  refine List.pairwise_append.2 ⟨h.srt,J,λx hx y hy=> ?_⟩;rw[Gc.1 hy];exact h.a x hx _ (by rw[e1];simp)):P:=h
theorem ZM121{P:Prop}(h:P:=by
  rcases yU.1 hx with hx|hx
  .exact h.a x hx y (by rw[e1];simp[hy])
  .rw[Gc.1 hx];exact l1 y hy):P:=h
abbrev Tb:=dO×List Row
def YA(L:List Tb)(s:dO)(r:Row):Prop:=∃tb∈L,tb.1=s/\r∈tb.2
def M8(add:Bool)(r:Row)(aT:List Row):List Row:=if add then(if r∈aT then aT else aT++[r])else aT.erase r
def iS(add:Bool)(c:dO)(r:Row):List Tb->List Tb
 |[]=>if add then[(c,[r])]else[]
 |tb::l=>if tb.1=c then(c,M8 add r tb.2)::l else tb::iS add c r l
def ux(L:List Tb):Nat:=(L.map λtb=>O tb.2).sum
structure K2(L:List Tb):Prop where
 aEt:(L.map (·.1)).Nodup
 aT:∀tb∈L,tb.2.Nodup/\∀r∈tb.2,dS r=qT
section
variable{add:Bool}{c:dO}{r:Row}
theorem aAh(aT:List Row):O (M8 add r aT)<=O aT+1:=by
 unfold M8;split
 .split<;>simp
 .have:=List.length_erase_le (a:=r) (l:=aT);omega
theorem Kj(h:aT.Nodup)(x:Row):x∈M8 add r aT↔if add then x∈aT\/x=r else x∈aT/\¬x=r:=by
 unfold M8;split
 .split<;>grind
 .rw[h.mem_erase_iff,and_comm]
theorem Vd(h:aT.Nodup):(M8 add r aT).Nodup:=by
 unfold M8;split
 .split
  .exact h
  .rw[Fh];exact⟨h,J,BC⟩
 .exact h.erase r
theorem LW(tb:Tb)(L:List Tb):ux (tb::L)=O tb.2+ux L:=by simp[ux]
theorem aED:∀(L:List Tb),ux (iS add c r L)<=ux L+1
 |[]=>by unfold iS;split<;>simp[ux]
 |tb::l=>by
  unfold iS;have:=aED l;have:=aAh (add:=add) (r:=r) tb.2;split<;>simp only[LW]<;>omega
theorem Um:∀(k:Nat) (L:List Tb),ux (L.drop k)<=ux L
 |0,L=>fV _
 |k+1,[]=>fV _
 |k+1,tb::l=>by have:=Um k l;rw[LW];simp only[List.drop_succ_cons];omega
theorem Kf:∀(L:List Tb) (s:dO),s∈(iS add c r L).map (·.1)->s∈L.map (·.1)\/s=c
 |[],s=>by unfold iS;split<;>simp
 |tb::l,s=>by
  unfold iS;have:=Kf l s;split<;>simp only[KR,xZ]<;>grind
theorem Kg:∀{L:List Tb},K2 L->dS r=qT->K2 (iS add c r L)
 |[],h,hv=>by
  unfold iS;split
  .exact⟨J,by simp[hv]⟩
  .exact h
 |tb::l,h,hv=>by
  unfold iS;have d:=h.aT tb J;have b:=h.aEt;rw[KR,U8]at b;have hl:K2 l:=⟨b.2,λt a=>h.aT t (by simp[a])⟩;have ih:=Kg hl hv;split
  .rename_i e;refine⟨by rw[KR,U8];exact⟨e▸b.1,b.2⟩,λt a=> ?_⟩;rcases xZ.1 a with rfl|a
   .refine⟨Vd d.1,λx g=> ?_⟩;have:=(Kj d.1 x).1 g;grind
   .exact hl.aT t a
  .rename_i e;refine⟨?_,λt a=> ?_⟩
   .rw[List.map_cons,List.nodup_cons];exact⟨λi=>(Kf l _ i).elim b.1 e,ih.aEt⟩
   .rcases xZ.1 a with rfl|a
    .exact d
    .exact ih.aT t a
theorem AV(tb:Tb)(L:List Tb)(s:dO)(x:Row):YA (tb::L) s x↔(tb.1=s/\x∈tb.2)\/YA L s x:=by simp[YA]
theorem aHE{L:List Tb}{s:dO}{x:Row}(h:YA L s x):s∈L.map (·.1):=by
 obtain⟨tb,b,a,-⟩:=h;exact AE.2 ⟨tb,b,a⟩
theorem Bl:∀{L:List Tb},K2 L->∀s x,YA (iS add c r L) s x↔ur add c r (YA L) s x
 |[],h,s,x=>by
  unfold iS ur;cases add<;>simp[YA,eq_comm]
 |tb::l,h,s,x=>by
  have b:=h.aT tb J;have a:=h.aEt;rw[KR,U8]at a;have ih:=Bl (L:=l) ⟨a.2,λt d=>h.aT t (by simp[d])⟩ s x;have g:=λhd:YA l s x=>aHE hd;unfold iS;split
  .rename_i e;subst e;rw[AV,Kj b.1];unfold ur;rw[AV];cases add<;>grind
  .rename_i e;rw[AV,ih];unfold ur;rw[AV];cases add<;>grind
theorem Ki{d:Tb}:∀{L:List Tb} {i:Nat},i<O L->(∀j,j<i->(hJ L j d).1≠c)->(hJ L i d).1=c->iS add c r L=L.set i (c,M8 add r (hJ L i d).2)
 |[],_,h,_,_=>dY h (Gd _)
 |tb::l,0,_,_,h=>by unfold iS;rw[bW (eP h)];simp
 |tb::l,i+1,hi,hj,h=>by
  unfold iS;rw[R (eP (hj 0 Y)),Ki (d:=d) (i:=i) (eP hi) (λj a=>by simpa using hj (j+1) Y) (eP h)];simp
theorem Kh{d:Tb}:∀{L:List Tb},(∀j,j<O L->(hJ L j d).1≠c)->iS add c r L=if add then L++[(c,[r])]else L
 |[],_=>by unfold iS;simp
 |tb::l,h=>by
  unfold iS;rw[R (eP (h 0 J)),Kh (d:=d) (λj a=>by simpa using h (j+1) (eP a))];split<;>simp
end
theorem zi{x y z:Int}(h:BK x y<0)(k:BK y z<0):BK x z<0:=by unfold BK at*;grind
theorem Zy(x y:Int):BK x y= -BK y x:=by unfold BK;grind
theorem Lz:∀(a b:List UInt8),Lib.compareBytes a b= -Lib.compareBytes b a
 |[],[]=>rfl
 |[],_::_=>rfl
 |_::_,[]=>rfl
 |a::xs,b::ys=>by
  unfold Lib.compareBytes;have ih:=Lz xs ys;simp only[UInt8.lt_iff_toNat_lt];grind
theorem u':∀{a b c:List UInt8},Lib.compareBytes a b<0->Lib.compareBytes b c<0->Lib.compareBytes a c<0
 |[],[],_,h,_=>by simp[Lib.compareBytes]at h
 |_::_,[],_,h,_=>by simp[Lib.compareBytes]at h
 |_,_::_,[],_,h=>by simp[Lib.compareBytes]at h
 |[],_::_,_::_,_,_=>by simp[Lib.compareBytes]
 |a::xs,b::ys,c::zs,h,k=>by
  unfold Lib.compareBytes at*;have ih:=u' (a:=xs) (b:=ys) (c:=zs);simp only[UInt8.lt_iff_toNat_lt]at*;grind
theorem iw(a b:dO):vJ a b= -vJ b a:=Lz _ _
theorem aA0{a b c:dO}(h:vJ a b<0)(k:vJ b c<0):vJ a c<0:=u' h k
theorem ik(a b:L4):pO a b= -pO b a:=by
 unfold pO;rw[Zy a.aG,Zy a.num,iw a.dZ];grind
theorem aAR{a b c:L4}(h:pO a b<0)(k:pO b c<0):pO a c<0:=by
 unfold pO at*;have l:=@zi a.aG b.aG c.aG;have i:=@zi a.num b.num c.num;have g:=@aA0 a.dZ b.dZ c.dZ;have d:=@wR a.aG b.aG;have e2:=@wR b.aG c.aG;have j:=@wR a.num b.num;have e:=@wR b.num c.num;grind
theorem PR:∀(a b:Row),gO a b= -gO b a
 |[],[]=>rfl
 |[],_::_=>rfl
 |_::_,[]=>rfl
 |a::xs,b::ys=>by
  unfold gO;have:=PR xs ys;have:=ik a b;grind
theorem Jd:∀{a b c:Row},gO a b<0->gO b c<0->gO a c<0
 |[],[],_,h,_=>by simp[gO]at h
 |_::_,[],_,h,_=>by simp[gO]at h
 |_,_::_,[],_,h=>by simp[gO]at h
 |[],_::_,_::_,_,_=>by simp[gO]
 |a::xs,b::ys,c::zs,h,k=>by
  unfold gO at*;have ih:=Jd (a:=xs) (b:=ys) (c:=zs);have:=@aAR a b c;have d:=@ER a b;have e2:=@ER b c;grind
def Ti(l:List Row):Prop:=l.Pairwise λa b=>gO a b<0
theorem Ti.ext:∀{l m:List Row},Ti l->Ti m->(∀x,x∈l↔x∈m)->l=m
 |[],[],_,_,_=>rfl
 |[],y::m,_,_,h=>by have:=(h y).2 J;cases this
 |x::l,[],_,_,h=>by have:=(h x).1 J;cases this
 |x::l,y::m,hl,hm,h=>by
  unfold Ti at hl hm;rw[zo]at hl hm;have d:∀z:Row,gO z z=0:=λz=>AI.2 rfl;have i:x=y:=by
   rcases xZ.1 ((h x).1 J)with e|e
   .exact e
   .rcases xZ.1 ((h y).2 J)with g|g
    .exact g.symm
    .have a:=hm.1 x e;have b:=hl.1 y g;have:=PR x y;omega
  subst i;rw[Ti.ext hl.2 hm.2 λz=> ?_];constructor
  .intro c;rcases xZ.1 ((h z).1 (by simp[c]))with rfl|e
   .have:=hl.1 z c;rw[d]at this;omega
   .exact e
  .intro c;rcases xZ.1 ((h z).2 (by simp[c]))with rfl|e
   .have:=hm.1 z c;rw[d]at this;omega
   .exact e
structure TH(A B td:List Row)(i j:Nat):Prop where
 srt:Ti td
 mem:∀x,x∈td↔x∈A.take i\/x∈B.take j
 a:∀x∈td,∀y∈A.drop i,gO x y<0
 b:∀x∈td,∀y∈B.drop j,gO x y<0
theorem TH.start(A B:List Row):TH A B [] 0 0:=⟨List.Pairwise.nil,J,J,J⟩
theorem TH.aIx{A B:List Row}(h:TH A B td i j):TH B A td j i:=⟨h.srt,λx=>(h.mem x).ds Or.comm,h.b,h.a⟩
theorem Ti.aS{A:List Row}(h:Ti A)(b:i<O A):A.drop i=hJ A i []::A.drop (i+1)/\∀y∈A.drop (i+1),gO (hJ A i []) y<0:=by
 have e:A.drop i=hJ A i []::A.drop (i+1):=by
  rw[gV,kU b];exact Ge b
 have a:=List.Pairwise.sublist (List.drop_sublist i A) h;unfold Ti at a;rw[e,zo]at a;exact⟨e,a.1⟩
theorem ZP(A:List Row)(a:i<O A):A.take (i+1)=A.take i++[hJ A i []]:=by
 rw[List.take_add_one,gV,kU a];rfl
theorem TH.fst{A B:List Row}(h:TH A B td i j)(n:Ti A)(l:Ti B)(g:i<O A)(e:j<O B->gO (hJ A i []) (hJ B j [])<0):TH A B (td++[hJ A i []]) (i+1) j:=by
 let⟨e1,l1⟩:=n.aS g;refine⟨?_,λx=> ?_,λx hx y hy=> ?_,λx hx y hy=> ?_⟩
 .exact ZM101
 .rw[ZP A g,yU,h.mem,yU];grind
 .exact ZM121
 .rcases yU.1 hx with hx|hx
  .exact h.b x hx y hy
  .rw[Gc.1 hx];have d:j<O B:=by
    rcases YB j (O B) with c|c
    .exact c
    .rw[gz c]at hy;cases hy
   let⟨e2,m⟩:=l.aS d;rw[e2]at hy;rcases xZ.1 hy with rfl|hy
   .exact e d
   .exact Jd (e d) (m y hy)
theorem TH.a3x{A B:List Row}(h:TH A B td i j)(m:Ti A)(g:Ti B)(e:i<O A)(d:j<O B)(c:hJ A i []=hJ B j []):TH A B (td++[hJ A i []]) (i+1) (j+1):=by
 let⟨e1,l1⟩:=m.aS e;let⟨e2,l⟩:=g.aS d;refine⟨?_,λx=> ?_,λx hx y hy=> ?_,λx hx y hy=> ?_⟩
 .exact ZM101
 .rw[ZP A e,ZP B d,yU,h.mem,yU,yU,c];grind
 .exact ZM121
 .rcases yU.1 hx with hx|hx
  .exact h.b x hx y (by rw[e2];simp[hy])
  .rw[Gc.1 hx,c];exact l y hy
end
theorem ZM187{P:Prop}(h:P:=by
  go_in;go_wp2;go_ret;exact⟨rfl,hU⟩):P:=h
theorem JS(s:dO){k:Nat}(h:k<s.size):s.data.toList.drop k=s[k]::s.data.toList.drop (k+1):=by
 have hl:k<O s.data.toList:=by rw[sN];exact h
 have:=DN s h;rw[Ge hl];rw[kU hl]at this;rw[Option.some.inj this]
theorem aLL{a b:dO}{k:Nat}(ha:k<a.size)(c:k<b.size):Lib.compareBytes (a.data.toList.drop k) (b.data.toList.drop k)=if a[k]<b[k]then-1 else if b[k]<a[k]then 1 else Lib.compareBytes (a.data.toList.drop (k+1)) (b.data.toList.drop (k+1)):=by
 rw[JS a ha,JS b c];rfl
theorem O1{s:dO}{k:Nat}(h:s.size<=k):s.data.toList.drop k=[]:=gz (by rw[sN];exact h)
theorem Rk(a b:dO)(w:aA)(ha:a.size<=1048576)(z:b.size<=1048576):
  aK prog 133 #[mX a,mX b] w λe w'=>e=mi (mj mn (vJ a b))/\U w [] w' []:=by
 go_in;go_wp2;go_loopw [5] (λi wr=>U w [] wr []/\∃k:Nat,k<=a.size/\k<=b.size/\i=X k/\vJ a b=Lib.compareBytes (a.data.toList.drop k) (b.data.toList.drop k)) (λi _=>a.size-(intOf i).toNat)
 .exact⟨U.refl _ _,0,Y,Y,rfl,rfl⟩
 obtain⟨q,k,y,x,rfl,hs⟩:=hrel;have j:=Z hs;have g:=Z q;clear hs q;by_cases u:k<a.size
 .by_cases v:k<b.size
  .have r:=Z (j.o.ds (aLL u v));by_cases d:a[k]<b[k]
   .have p:(a[k].toNat:Int)<(b[k].toNat:Int):=kX (UInt8.lt_iff_toNat_lt.1 d);have l:=Z (r.o.ds (bW d));clear d;go_upto_region 4 with(fail);go_quiet (fail);go_wp2;go_ret;exact⟨by rw[l.o];rfl,g.o.ds ((U.refl _ _).drewN _)⟩
   .have p:¬(a[k].toNat:Int)<(b[k].toNat:Int):=λh=>d (UInt8.lt_iff_toNat_lt.2 Y);have l:=Z (r.o.ds (R d));clear d;by_cases c:b[k]<a[k]
    .have n:(b[k].toNat:Int)<(a[k].toNat:Int):=kX (UInt8.lt_iff_toNat_lt.1 c);have m:=Z (l.o.ds (bW c));clear c;go_upto_region 4 with(fail);go_quiet (fail);go_upto_region 6 with(fail);go_quiet (fail);go_wp2;go_ret;exact⟨by rw[m.o];rfl,g.o.ds ((U.refl _ _).drewN _)⟩
    .have n:¬(b[k].toNat:Int)<(a[k].toNat:Int):=λh=>c (UInt8.lt_iff_toNat_lt.2 Y);have m:=Z (l.o.ds (R c));clear c;go_upto_region 4 with(fail);go_quiet (fail);go_upto_region 6 with(fail);go_quiet (fail);go_wp2;go_roundw
     .exact⟨g.o.ds ((U.refl _ _).drewN _),k+1,Y,Y,eY,m.o⟩
     simp[intOf];omega
  .have d:¬a.size<b.size:=Y;have c:b.size<a.size:=Y;go_wp2;go_ret;exact⟨by rw[j.o,O1 (s:=b) Y,JS a u];rfl,g.o⟩
 .by_cases d:a.size<b.size
  .go_wp2;go_ret;exact⟨by rw[j.o,O1 (s:=a) Y,JS b Y];rfl,g.o⟩
  .have c:¬b.size<a.size:=Y;go_wp2;go_ret;exact⟨by rw[j.o,O1 (s:=a) Y,O1 (s:=b) Y];rfl,g.o⟩
theorem aLK{a b:Int}(h:a≠b):BK a b=if a<b then-1 else 1:=by unfold BK;grind
theorem aAe(x y:L4)(w:aA)(i:x.dZ.size<=1048576)(g:y.dZ.size<=1048576):
  aK prog 86 #[xH x,xH y] w λe w'=>e=mi (mj mn (pO x y))/\U w [] w' []:=by
 unfold xH;have m:=(λw=>Rk x.dZ y.dZ w i g);have hv:pO x y=if x.aG≠y.aG then BK x.aG y.aG else if x.num≠y.num then BK x.num y.num else vJ x.dZ y.dZ:=by
  unfold pO;simp only[ne_eq,wR]
 have c:=@aLK;rw[hv];clear hv i g;have hU:=((U.refl w []).alloc (kd #[X x.aG,X x.num,mX x.dZ] 90)).alloc (kd #[X y.aG,X y.num,mX y.dZ] 90);by_cases a:x.aG=y.aG
 .have j:(x.aG !=y.aG)=rR:=by simp[a]
  rw[R (by simp[a])];by_cases b:x.num=y.num
  .have g2:(x.num !=y.num)=rR:=by simp[b]
   rw[R (by simp[b])];clear a b c;go_in;go_wp2_with (go_at_call 133;apply(m _).dC;intro w2 l);go_ret;exact⟨rfl,hU.ds l⟩
  .have g2:(x.num !=y.num)=qT:=by simp[b]
   rw[bW b,c b];by_cases d:x.num<y.num
   .rw[bW d];clear a b c;exact ZM187
   .rw[R d];clear a b c;exact ZM187
 .have j:(x.aG !=y.aG)=qT:=by simp[a]
  rw[bW a,c a];by_cases d:x.aG<y.aG
  .rw[bW d];clear a c;exact ZM187
  .rw[R d];clear a c;exact ZM187
variable{av bv rv v:aE}{w:aA}
theorem jl{a b:Row}{k:Nat}(ha:O a<=k):gO (a.drop k) (b.drop k)=if O a<O b/\k<O b then-1 else 0:=by
 rw[gz ha];by_cases h:k<O b
 .rw[Ge h,bW ⟨Y,h⟩];rfl
 .rw[gz Y,R (λx=>h x.2)];rfl
theorem aAf{a b:Row}(ha:fM dV aR 3 w av a)(A:fM dV aR 3 w bv b)(m:∀v∈a,v.dZ.size<=1048576)(g:∀v∈b,v.dZ.size<=1048576):
  aK prog 45 #[av,bv] w λe w'=>e=mi (mj mn (gO a b))/\U w [] w' []:=by
 obtain⟨aa,ac,rfl,np⟩:=ha.len;obtain⟨ba,bc,rfl,z⟩:=A.len;unfold bH at np z;have HA:=Z ha;have HB:=Z A;have F:=Z m;have C:=Z g;clear ha A m g;go_in;go_wp2;go_loopg [5] (O a) (λgg i wr=>U w [] wr []/\∃k:Nat,k<=O a/\k<=O b/\gg=O a-k/\i=X k/\gO a b=gO (a.drop k) (b.drop k))
 .exact⟨U.refl _ _,0,Y,Y,rfl,rfl,rfl⟩
 obtain⟨hU,k,hk,KE,rfl,rfl,ho⟩:=hrel;have d:=Z hU;have B:=Z ho;clear hU ho;by_cases j:k<O a
 .let⟨G,o,cap',hv,c0,c1,c2⟩:=uZ (HA.o.on d.o) j;injection hv with x1 x2 x3;clear x2 x3;subst x1;by_cases r:k<O b
  .let⟨N,o2,gW,hv,f,u,P⟩:=uZ (HB.o.on d.o) r;injection hv with x1 x2 x3;clear x2 x3;subst x1;have n:=Z (B.o.ds (VR j r));have hn:¬(O b:Int)<=(k:Int):=Y;have l:=Z (λw=>aAe (hJ a k aR) (hJ b k aR) w (F.o _ (bO j)) (C.o _ (bO r)));let⟨x,hx⟩:=D (hJ a k aR);let⟨y,S⟩:=D (hJ b k aR);rw[hx]at c0 c1 c2 n l;rw[S]at f u P n l;clear hx S;unfold xH at l;let⟨q,V⟩:=D (pO x y);rw[V]at l n;clear V;go_upto_region 6 with(fail);refine fj 99 (ez c0<|ez c1<|ez c2<|ez f<|ez u<|ey P) (λwd L T Q=> ?_);clear c0 c1 c2 f u P;have o9:=Z (d.o.ds T);clear L T;refine ek [0,1,4,5,2,6,3,7] ?_;refine Zo 8 λh hK=> ?_;go_simp;go_at_call 86;apply(l.o _).cX;rintro e w2 ⟨rfl,td⟩;dsimp only;replace Q:=td.zh6 Q;have W:=Z (o9.o.ds td);clear td;refine Zk hK Q<|I 9 ?_;refine bD dJ ?_ _;clear Q;by_cases p:q=0
   .subst p;go_wp2;go_roundg (O a-(k+1))
    .exact⟨W.o,k+1,Y,Y,rfl,eY,n.o⟩
    omega
   .have h0':(q !=0)=qT:=eP p;have c:=Z (n.o.ds (bW p));clear p;go_wp2;go_ret;exact⟨by rw[c.o];rfl,W.o⟩
  .have hn:(O b:Int)<=(k:Int):=Y;have c:=Z (B.o.ds (by rw[Ge j,gz (x' r)];rfl:_=(1:Int)));go_wp2;go_ret;exact⟨by rw[c.o];rfl,d.o⟩
 .have c:=Z (B.o.ds (jl (x' j)));by_cases hl:O a<O b
  .have XL:(O a:Int)<(O b:Int):=Y;go_wp2;go_ret;exact⟨by rw[c.o,bW ⟨hl,Y⟩];rfl,d.o⟩
  .have XL:¬(O a:Int)<(O b:Int):=Y;go_wp2;go_ret;exact⟨by rw[c.o,R (λx=>hl x.1)];rfl,d.o⟩
theorem aQt{p:L4->Bool}{k:Nat}(a:k<O r):(r.drop k).all p=(p (hJ r k aR)&&(r.drop (k+1)).all p):=by
 rw[Ge a,List.all_cons,gV,kU a];rfl
theorem aJI(h:fM dV aR 3 w v r)(u:∀v∈r,v.dZ.size<=1048576):
  aK prog 29 #[v] w λe w'=>e=mi (nj (dS r))/\U w [] w' []:=by
 obtain⟨C,B,rfl,q⟩:=h.len;unfold bH at q;by_cases a:O r<=30
 .have hv:dS r=r.all gX:=by unfold dS;rw[kY a,VN]
  have m:¬(30:Int)<(O r:Int):=Y;go_in;go_wp2;go_loopg [3] (O r) (λy i wr=>U w [] wr []/\∃k:Nat,k<=O r/\y=O r-k/\i=X k/\r.all gX=(r.drop k).all gX)
  .exact ZM186
  obtain⟨d,k,A,rfl,rfl,n⟩:=hrel;by_cases j:k<O r
  .let⟨z,o,cap',hv,c0,c1,c2⟩:=uZ (h.on d) j;injection hv with x1 x2 x3;clear x2 x3;subst x1;have c:=(n.ds (aQt j));have b:=Z (λw=>Aq (hJ r k aR) w (u _ (bO j)));generalize p:hJ r k aR=x at c0 c1 c2 c b;clear p;cases g:gX x with
   |true=>
    rw[g]at b c;clear g;go_wp2_with (go_at_call 66;apply(b.o _).dC;intro w2 l);go_roundg (O r-(k+1))
    .exact⟨d.ds l,k+1,Y,rfl,eY,c.ds (VN _)⟩
    omega
   |false=>
    rw[g]at b c;clear g;go_wp2_with (go_at_call 66;apply(b.o _).dC;intro w2 l);go_ret;exact⟨by rw[hv,c,B0];rfl,d.ds l⟩
  .go_wp2;go_ret;exact⟨by rw[hv,n,gz (x' j)];rfl,d⟩
 .have m:(30:Int)<(O r:Int):=Y;have hv:dS r=rR:=by unfold dS;rw[kE a,B0]
  rw[hv];exact ZM201
def UN(aT:List Row)(r:Row):Int:=if r∈aT then(aT.idxOf r:Int)else-1
theorem aAx{k:Nat}(a:k<O aT)(h:hJ aT k []=r)(c:r∉aT.take k):UN aT r=k:=by
 have e:aT[k]=r:=by rw[<-h,gV,kU a];rfl
 have b:aT.idxOf r=k:=by
  have:=zn k aT;rw[<-this,List.idxOf_append,R c,Ge a,Bk,e,PI,zb Y];simp
 unfold UN;rw[bW (h▸bO a),b]
theorem Jn(h:r∉aT):UN aT r= -1:=R h
theorem aE0(h:XW w v aT)(q:fM dV aR 3 w rv r):
  aK prog 30 #[v,rv] w λe w'=>e=mi (mj mn (UN aT r))/\U w [] w' []:=by
 obtain⟨a,cap,rfl,G⟩:=h.len;obtain⟨Q,rc,rfl,-⟩:=q.len;unfold bH at G;have s:=Z h;have f:=Z q;clear h q;go_in;go_wp2;go_loopg [5] (O aT) (λL i wr=>U w [] wr []/\∃k:Nat,k<=O aT/\L=O aT-k/\i=X k/\r∉aT.take k)
 .exact⟨U.refl _ _,0,Y,rfl,rfl,J⟩
 obtain⟨z,k,S,rfl,rfl,B⟩:=hrel;have l:=Z z;have y:=Z B;clear z B;by_cases n:k<O aT
 .let⟨g,o,cap',td,P,hv,c0,A⟩:=(s.o.on l.o).aS n;injection hv with x1 x2 x3;clear x2 x3;subst x1;have j:=Z (Nz A (f.o.on l.o));have C:=Z (fW (d:=[]) n);have N:=Z n;let⟨x,p⟩:=D (hJ aT k []);have F:=Z p;rw[p]at c0 j C;clear p A;by_cases c:x=r
  .rw[kY c]at j;have b:=Z c;clear c;go_wp2_with (go_at_call 28;apply j.o.dC;intro w2 m;have u:=Z m;clear m);go_ret;exact⟨by rw[aAx N.o (F.o.ds b.o) y.o];rfl,l.o.ds u.o⟩
  .rw[kE c]at j;have b:=Z c;clear c;go_wp2_with (go_at_call 28;apply j.o.dC;intro w2 m;have u:=Z m;clear m);go_roundg (O aT-(k+1))
   .exact⟨l.o.ds u.o,k+1,Y,rfl,eY,by rw[C.o,yU];rintro(h|h);exact y.o h;exact b.o (Gc.1 h).symm⟩
   omega
 .go_wp2;go_ret;exact⟨by rw[Jn λh=>y.o (by rw[zdH (x' n)];exact h)];rfl,l.o⟩
variable{S':List Nat}{L cap g m n:Nat}{u v':aE}{w' w0 w1 w2 w5 wb wr:aA}
theorem Ds{α:Type}{l:List α}{d:α}{k:Nat}(h:i<k):hJ (l.take k) i d=hJ l i d:=by
 rw[gV,List.getElem?_take,bW h,<-gV]
theorem zQ{α:Type}{l:List α}{d:α}{k:Nat}:hJ (l.drop k) i d=hJ l (k+i) d:=by
 rw[gV,List.getElem?_drop,<-gV]
theorem XW.RN{o:Nat}(h:XW w (jS (H ⟨g,o,K⟩) n cap) aT){k:Nat}(j:k<=O aT)(c':Nat):XW w (jS (H ⟨g,o,K⟩) k c') (aT.take k):=by
 obtain⟨cG,c,b,a⟩:=h;refine⟨cG.take k,by simp[c],fM.RN b Y (λe=>by cases e),λi d=> ?_⟩;have:i<k/\i<O aT:=by simpa[PI,Nat.lt_min]using d
 rw[Ds this.1,Ds this.1];exact a i this.2
theorem XW.aGw{o:Nat}(h:XW w (jS (H ⟨g,o,K⟩) n cap) aT){k:Nat}(v:k+m=O aT)(r:0<m)(c':Nat):XW w (jS (H ⟨g,o+k,K⟩) m c') (aT.drop k):=by
 obtain⟨cG,c,b,l⟩:=h;refine⟨cG.drop k,by simp[c],?_,λi d=> ?_⟩
 .obtain⟨a',c2,e,a⟩:=b.len;obtain⟨g',u,c3,e2,p,-⟩:=fM.aS b (i:=0) Y;injection e2 with e3 e4 e5;injection e3 with e3;injection e3 with e3 e6;subst e3 e6;have hl:O (cG.drop k)=m:=by simp[c];omega
  unfold fM;rw[hl];refine .inr ⟨g,o+k,c',rfl,r,by unfold bH at a|-;omega,p,λi j d q=> ?_⟩;show _=H (GA (hJ (cG.drop k) i undef) j);rw[zQ];have:=fM.cells b (i:=k+i) Y j q;rw[yC]at this|-;rw[Nat.add_assoc o k i];exact this
 .rw[vW]at d;rw[zQ,zQ];exact l _ Y
def IE(aT:List Row):Prop:=∀r∈aT,O r<=1048576/\∀v∈r,v.dZ.size<=1048576
theorem IE.getD(h:IE aT){k:Nat}(a:k<O aT):∀v∈hJ aT k [],v.dZ.size<=1048576:=(h _ (bO a)).2
def aAJ(w:aA)(aT:List Row)(e:Ending)(w':aA):Prop:=
 ∃u td,e=mi u/\az w w' u td/\Ti td/\(∀x,x∈td↔x∈aT)/\O td<=O aT/\U w [] w' []
structure QU(w w1 wr:aA)(A B:List Row)(v:aE)(i j:Nat):Prop where
 ex:∃(td:List Row) (cG:List aE),TH A B td i j/\O cG=O td/\bN GA undef 34 1 w1 wr v cG/\(∀k,k<O td->bN dV aR 90 3 w wr (hJ cG k undef) (hJ td k []))/\O td<=i+j
 eU:U w1 [] wr []
theorem QU.on{A B:List Row}(h:QU w w1 wr A B v i j)(g:U wr [] w2 []):QU w w1 w2 A B v i j:=by
 obtain⟨⟨td,cG,a,b,c,d,e⟩,m⟩:=h;exact⟨⟨td,cG,a,b,c.on g,λk l=>(d k l).on g,e⟩,m.ds g⟩
theorem az.aS(h:az w0 w v aT){k:Nat}(j:k<O aT):
  ∃g cap a rc,v=jS (H ⟨g,0,K⟩) (O aT) cap/\h8 w ⟨g,k,K⟩=H (jS a (O (hJ aT k [])) rc)/\bN dV aR 90 3 w0 w (jS a (O (hJ aT k [])) rc) (hJ aT k []):=by
 obtain⟨cG,l,i,c⟩:=h;obtain⟨g,cap,e,-,-,d,-,-⟩:=eV.block i.1 Y;have b:=c k j;obtain⟨a,rc,e2,-⟩:=b.len;have c0:=d k 0 Y E;simp only[yC,qZ,GA]at c0;rw[e2]at b c0;exact⟨g,cap,a,rc,by rw[e,l],c0,b⟩
theorem az.on(h:az w0 w v aT)(hu:U w [] w' S'):az w0 w' v aT:=ZM153
theorem az.eO(h:az w0 w v aT)(hs:i7 wb.heap<=i7 w0.heap):az wb w v aT:=by
 obtain⟨cG,b,c,a⟩:=h;exact⟨cG,b,c.eO hs,λi d=>(a i d).eO hs⟩
theorem aJD(h:O aT<=1):Ti aT:=by
 match aT,h with
 |[],_=>exact List.Pairwise.nil
 |[x],_=>exact List.pairwise_singleton _ _
theorem IE.take(h:IE aT)(k:Nat):IE (aT.take k):=λr a=>h r (y' a)
theorem IE.drop(h:IE aT)(k:Nat):IE (aT.drop k):=λr a=>h r (oq a)
theorem TE(h:XW w v aT)(b:O aT<=1)(hs:IE aT):
  aK prog 15 #[v] w (aAJ w aT):=by
 have d:=Z (Ve h Y (λi p=>(hs _ (bO p)).1));have m:=Z (aJD b);obtain⟨a,cap,rfl,g⟩:=h.len;generalize l:O aT=L at b d|-;have n:(L:Int)<=1:=Y;clear h hs l g b;go_in;go_wp2_with (go_at_call 32;apply d.cX;rintro e w2 ⟨u,rfl,c,j⟩;obtain⟨ua,uc,rfl,-⟩:=c.rw.len);go_ret;exact⟨_,aT,rfl,c,m,λx=>Iff.rfl,fV _,j⟩
theorem QU.aE6{A B:List Row}{cG:List aE}{x:Row}(hv:O cG=O td)(b:bN GA undef 34 1 w1 wr v cG)(n:∀k,k<O td->bN dV aR 90 3 w wr (hJ cG k undef) (hJ td k []))(m:bN dV aR 90 3 w wr u x)(a:bN GA undef 34 1 w1 w5 v' (cG++[u]))(l:U w1 [] w5 [])(d:U wr v.ownBlock.toList w5 S')(g:TH A B (td++[x]) i j)(hl:O td+1<=i+j):QU w w1 w5 A B v' i j:=by
 refine⟨⟨td++[x],cG++[u],g,by simp[hv],a,λk c=> ?_,by simpa using hl⟩,l⟩;rw[iZ,iZ,hv];by_cases e:k=O td
 .rw[bW e,bW e];exact m.jT b E d
 .rw[R e,R e];exact(n k (by rw[E7]at c;simp at c;omega)).jT b E d
theorem ak{o r:Nat}(h:XW w (jS (H ⟨g,o,K⟩) L cap) aT)(hL:O aT=L)(hm:L/2=m)(hr:m+r=L)(h2:2<=L)(jD:L<=cap)(iQ:L<=1048576)(hs:IE aT)(ih:∀(v:aE) (K8:List Row) (w:aA),O K8<L->XW w v K8->yT v->IE K8->aK prog 15 #[v] w (aAJ w K8)):
  aK prog 15 #[jS (H ⟨g,o,K⟩) L cap] w (aAJ w aT):=by
 have n1:¬(L:Int)<=1:=Y;have hq:IntKind.i64.wrap ((L:Int)/2)=(m:Int):=by
  rw[<-hm];exact QY _ Y
 have k1:(m:Int)<=(cap:Int):=Y;have k2:(m:Int)<=(L:Int):=Y;have k3:¬cap=m:=Y;have k4:L-m=r:=Y;have hmc:m<=cap:=Y;have G9:m<=L:=Y;have f:=Z h;have HI:=Z ih;have HS:=Z hs;have A0:=Z hL;have HMM:=Z hm;have O7:=Z hr;have HMC:=Z hmc;have HML:=Z G9;clear h ih hs hL hm hr;go_in;go_upto_region 3 with(fail);refine aO 99 (λ_=>True) dJ trivial (λQ=> ?_);let⟨wd,fF⟩:=D (w.drew);have pH:U w [] wd []:=A1 fF;rw[fF];have o9:=Z pH;clear fF pH;refine ek [0,1,6,7,2,8,3,9,4,10] ?_;refine Zo 5 λs hK=> ?_;go_simp;go_at_call 15;refine(HI.o _ (aT.take m) wd (by rw[PI,A0.o,zb HML.o];have:=HMM.o;omega) ((f.o.on o9.o).RN (by rw[A0.o];exact HML.o) cap) HMC.o (HS.o.take m)).mono ?_;rintro e w1 ⟨u,A,rfl,hOA,hSA,hMA,T,cT⟩;dsimp only;obtain⟨ua,uc,rfl,-⟩:=hOA.rw.len;rw[PI,A0.o,zb HML.o]at T;have HOA:=Z hOA;have YU:=Z hSA;have G6:=Z hMA;have nN:=Z (o9.o.ds cT);clear hOA hSA hMA cT;refine Zk hK Q<|Zo 11 λs hK=> ?_;go_simp;go_at_call 15;refine(HI.o _ (aT.drop m) w1 (by rw[vW,A0.o];have:=HMM.o;omega) ((f.o.on nN.o).aGw (k:=m) (m:=r) (by rw[A0.o];exact O7.o) (by have:=O7.o;have:=HMM.o;omega) (cap-m)) (show r<=cap-m by have:=O7.o;omega) (HS.o.drop m)).mono ?_;rintro e w2 ⟨u2,B,rfl,hOB,hSB,hMB,N,bM⟩;dsimp only;obtain⟨va,vc,rfl,-⟩:=hOB.rw.len;rw[vW,A0.o,k4]at N;have a4o:=Z ((HOA.o.eO o9.o.size).on bM);have YV:=Z ((hOB.eO nN.o.size));have P:=Z hSB;have HMB:=Z hMB;have eQ:=Z (nN.o.ds bM);clear hOB hSB hMB bM HOA;refine Zk hK Q<|I 12 ?_;refine I 13 ?_;refine bD dJ ?_ _;clear Q n1 hq k1 k2 k3 k4;have uS:=Nd.xO 0 (O A+O B) (O9 _) (by have:=O7.o;omega) (by have:=O7.o;unfold bH;omega) w2;have hT:=Nd.yY 0 (O A+O B) (O9 _) (by have:=O7.o;unfold bH;omega) w2 E;let⟨b,hb⟩:=D (i7 w2.heap);let⟨wa,dM⟩:=D (i5 w2 (kd (madeCells #[cR] ((O A+O B)*1)) 34));have cV:=Za dM;rw[hb,dM]at hT uS;rw[Int.natCast_add]at uS;change (Instr.makeSlice 46 (X 0) _).run _ _=_ at uS;have hO:bN GA undef 34 1 w2 wa (eC b 0 0 (O A+O B)) []:=⟨eV.congr hT λi j hi hj=>dY hi (Gd i),λg hg=>by simp[i6]at hg;omega⟩;have HM0:=Z (QU.mk (w:=w) ⟨[],[],TH.start A B,rfl,hO,λk hk=>dY hk (Gd k),fV _⟩ cV);have nI:=Z (λx hx=>(HS.o x (y' ((G6.o x).1 hx))).2);have KO:=Z (λx hx=>(HS.o x (oq ((HMB.o x).1 hx))).2);have sab:IntKind.i64.wrap ((O A:Int)+(O B:Int))=((O A+O B:Nat):Int):=by rw[QY _ (by have:=O7.o;omega)];omega
 have HNA:=Z T;have HNB:=Z N;clear hb cV hT hO;go_wp2;clear uS dM;let⟨na,TX⟩:=D (O A);let⟨nb,TW⟩:=D (O B);rw[TX,TW]at HM0|-;have HA:=Z TX;have HB:=Z TW;have bDD:=Z iQ;rw[TX]at T;rw[TW]at N;have EP:=Z T;have HLB:=Z N;have SM:na+nb<=1048576:=by have:=O7.o;omega
 clear TX TW T N sab HNA HNB jD iQ h2;go_loopg [5,6,7] (na+nb) (λgg s5 s6 s7 wr=>∃i j:Nat,i<=na/\j<=nb/\gg=na+nb-(i+j)/\s6=X i/\s7=X j/\QU w w2 wr A B s5 i j)
 .exact⟨0,0,Y,Y,rfl,rfl,rfl,HM0.o⟩
 obtain⟨i,j,hi,hj,CP,rfl,rfl,hM⟩:=hrel;have JY:=Z CP;clear CP;obtain⟨⟨td,cG,hMg,hv,hOv,hE,hOl⟩,Lk⟩:=hM;obtain⟨oa,oc,rfl,-⟩:=hOv.len;have C:=Z hMg;have HV:=Z hv;have HO:=Z hOv;have HE:=Z hE;have Y3:=Z hOl;have HU:=Z Lk;clear hMg hv hOv hE hOl Lk;have ye:O cG<=i+j:=by rw[HV.o];exact Y3.o
 have V:=Z ye;clear ye;by_cases hia:i<na
 .have ia:(i:Int)<(na:Int):=Y;have aKV:i<O A:=by rw[HA.o];exact hia
  let⟨ga,ca,xa,xc,A8,c0,a⟩:=(a4o.o.on HU.o).aS aKV;rw[HA.o]at A8;injection A8 with x1 x2 x3;clear x2 x3;subst x1;let⟨x,hx⟩:=D (hJ A i []);have HX:=Z hx;have HXM:=Z (nI.o _ (bO (d:=[]) aKV));have HIA:=Z aKV;rw[hx]at c0 a HXM;clear hx aKV;by_cases hjb:j<nb
  .have jb:(j:Int)<(nb:Int):=Y;have Xp:j<O B:=by rw[HB.o];exact hjb
   let⟨gb,cb,ya,yc,A8,S,W⟩:=(YV.o.on HU.o).aS Xp;rw[HB.o]at A8;injection A8 with x1 x2 x3;clear x2 x3;subst x1;let⟨y,hy⟩:=D (hJ B j []);have HY:=Z hy;have HYM:=Z (KO.o _ (bO (d:=[]) Xp));have HJB:=Z Xp;rw[hy]at S W HYM;clear hy Xp;have jn:((j:Int)==(nb:Int))=rR:=kG GD;have HC:=Z (λw2 (hu:U wr [] w2 [])=>aAf (a.on hu).rd (W.on hu).rd HXM.o HYM.o);have HRA:=Z a;have HRB:=Z W;let⟨n,hn⟩:=D (O x);let⟨k,hk⟩:=D (O y);rw[hn]at c0 HRA HC;rw[hk]at S HRB HC;clear hn hk a W;let⟨q,hq⟩:=D (gO x y);rw[hq]at HC;have HQ:=Z hq;clear hq;have lga:=iP (IL c0);have lgb:=iP (IL S);go_upto_region 11 with(fail);refine fj 99 (ez c0<|ey S) (λwd fF pH Q=> ?_);clear c0 S;have o9:=Z pH;clear fF pH;refine ek [0,1,4,5,2,6,3,7] ?_;refine Zo 8 λs hK=> ?_;go_simp;go_at_call 45;apply(HC.o _ o9.o).cX;rintro e w3 ⟨rfl,cW⟩;dsimp only;replace Q:=cW.YZ Q;have iF:=Z (o9.o.ds cW);clear cW;refine Zk hK Q<|I 9 ?_;refine bD dJ ?_ _;obtain⟨c0,S⟩:=Q;have F:=Z (HO.o.on iF.o);have c:=Z (HU.o.ds iF.o);have HE3:=Z (λk hk=>(HE.o k hk).on iF.o);have aXZ:=Z (HRA.o.on iF.o);have a4d:=Z (HRB.o.on iF.o);have lga:=iP (IL c0);have lgb:=iP (IL S);by_cases G:q<0
   .have q1:q<=0:=Y;have q2:¬0<=q:=Y;have HM:=Z (C.o.fst YU.o P.o HIA.o (λ_=>by rw[HX.o,HY.o,HQ.o];exact G));clear G;go_wp2_with (at_builtin;refine cK Nd.ok rfl _ _ rfl F.o c.o Yr [jS xa n xc] (jS xa n xc) Yr rfl (dE rfl) rfl (by have:=V.o;omega) (by have:=V.o;unfold bH;omega) ?_;rintro g5 c5 w5 p z l-;have pL:=Z p;have gN:=Z z;have lM:=Z l;clear p z l);go_roundg (na+nb-(i+1+j))
    .exact⟨i+1,j,Y,Y,rfl,eY,rfl,.aE6 HV.o F.o HE3.o aXZ.o pL.o gN.o lM.o (by rw[<-HX.o];exact HM.o) (by have:=Y3.o;omega)⟩
    have:=JY.o;omega
   .have HN:=Z G;by_cases R1:q=0
    .have q1:q<=0:=Y;have q2:0<=q:=Y;have yF:x=y:=AI.1 (HQ.o.ds R1);have HM:=Z (C.o.a3x YU.o P.o HIA.o HJB.o (by rw[HX.o,HY.o];exact yF));clear G R1 yF;go_wp2_with (at_builtin;refine cK Nd.ok rfl _ _ rfl F.o c.o Yr [jS xa n xc] (jS xa n xc) Yr rfl (dE rfl) rfl (by have:=V.o;omega) (by have:=V.o;unfold bH;omega) ?_;rintro g5 c5 w5 p z l-;have pL:=Z p;have gN:=Z z;have lM:=Z l;clear p z l);go_roundg (na+nb-(i+1+(j+1)))
     .exact⟨i+1,j+1,Y,Y,rfl,eY,eY,.aE6 (x:=x) HV.o F.o HE3.o aXZ.o pL.o gN.o lM.o (by rw[<-HX.o];exact HM.o) (by have:=Y3.o;omega)⟩
     have:=JY.o;omega
    .have q1:¬q<=0:=Y;have q2:0<=q:=Y;have HM:=Z (C.o.aIx.fst P.o YU.o HJB.o (λ_=>by rw[HX.o,HY.o,PR,HQ.o];omega));clear G R1;go_wp2_with (at_builtin;refine cK Nd.ok rfl _ _ rfl F.o c.o Yr [jS ya k yc] (jS ya k yc) Yr rfl (dE rfl) rfl (by have:=V.o;omega) (by have:=V.o;unfold bH;omega) ?_;rintro g5 c5 w5 p z l-;have pL:=Z p;have gN:=Z z;have lM:=Z l;clear p z l);go_roundg (na+nb-(i+(j+1)))
     .exact⟨i,j+1,Y,Y,rfl,rfl,eY,.aE6 (x:=y) HV.o F.o HE3.o a4d.o pL.o gN.o lM.o (by rw[<-HY.o];exact HM.o.aIx) (by have:=Y3.o;omega)⟩
     have:=JY.o;omega
  .obtain rfl:j=nb:=Y;have jn:((j:Int)==(j:Int))=qT:=J;let⟨n,hn⟩:=D (O x);rw[hn]at c0 a;have HM:=Z (C.o.fst YU.o P.o HIA.o (λh=>dY h (kG HB.o)));have F:=Z HO.o;have c:=Z HU.o;have HRA:=Z a;have lga:=iP (IL c0);clear hn a;go_wp2_with (at_builtin;refine cK Nd.ok rfl _ _ rfl F.o c.o Yr [jS xa n xc] (jS xa n xc) Yr rfl (dE rfl) rfl (by have:=V.o;omega) (by have:=V.o;unfold bH;omega) ?_;rintro g5 c5 w5 p z l-;have pL:=Z p;have gN:=Z z;have lM:=Z l;clear p z l);go_roundg (na+j-(i+1+j))
   .exact⟨i+1,j,Y,Y,rfl,eY,rfl,.aE6 (x:=x) HV.o F.o HE.o HRA.o pL.o gN.o lM.o (by rw[<-HX.o];exact HM.o) (by have:=Y3.o;omega)⟩
   have:=JY.o;omega
 .obtain rfl:i=na:=Y;by_cases hjb:j<nb
  .have jb:(j:Int)<(nb:Int):=Y;have Xp:j<O B:=by rw[HB.o];exact hjb
   let⟨gb,cb,ya,yc,A8,S,W⟩:=(YV.o.on HU.o).aS Xp;rw[HB.o]at A8;injection A8 with x1 x2 x3;clear x2 x3;subst x1;let⟨y,hy⟩:=D (hJ B j []);have HY:=Z hy;have HM:=Z (C.o.aIx.fst P.o YU.o Xp (λh=>dY h (kG HA.o)));rw[hy]at S W;have jn:((j:Int)==(nb:Int))=rR:=kG GD;let⟨k,hk⟩:=D (O y);rw[hk]at S W;have F:=Z HO.o;have c:=Z HU.o;have HRB:=Z W;have lgb:=iP (IL S);clear hy hk W Xp;go_wp2_with (at_builtin;refine cK Nd.ok rfl _ _ rfl F.o c.o Yr [jS ya k yc] (jS ya k yc) Yr rfl (dE rfl) rfl (by have:=V.o;omega) (by have:=V.o;unfold bH;omega) ?_;rintro g5 c5 w5 p z l-;have pL:=Z p;have gN:=Z z;have lM:=Z l;clear p z l);go_roundg (i+nb-(i+(j+1)))
   .exact⟨i,j+1,Y,Y,rfl,rfl,eY,.aE6 (x:=y) HV.o F.o HE.o HRB.o pL.o gN.o lM.o (by rw[<-HY.o];exact HM.o.aIx) (by have:=Y3.o;omega)⟩
   have:=JY.o;omega
  .obtain rfl:j=nb:=Y;go_wp2;go_ret;have hmg:=C.o;have t1:A.take i=A:=zdH (by rw[HA.o];exact fV _);have t2:B.take j=B:=zdH (by rw[HB.o];exact fV _);refine⟨_,td,rfl,⟨cG,HV.o,HO.o.eO eQ.o.size,HE.o⟩,hmg.srt,λx=> ?_,?_,eQ.o.ds HU.o⟩
   .rw[hmg.mem,t1,t2,G6.o,HMB.o,<-yU,zn]
   .have:=Y3.o;rw[A0.o];have:=O7.o;have:=EP.o;have:=HLB.o;omega
theorem N6:∀(n:Nat) (v:aE) (aT:List Row) (w:aA),O aT<=n->n<=1048576->XW w v aT->yT v->IE aT->uJ 15 #[v] w (aAJ w aT)
 |0,v,aT,w,hl,_,h,_,hs=>TE h Y hs
 |n+1,v,aT,w,hl,hn,h,hc,hs=>by
  by_cases c:O aT<=1
  .exact TE h c hs
  .obtain⟨g,o,cap,j,rc,rfl,-,-⟩:=h.aS (k:=0) Y;exact ak (m:=O aT/2) (r:=O aT-O aT/2) h rfl rfl Y Y hc Y hs λv' d w' i e a b=>N6 n v' d w' Y Y e a b
section
section
variable{q:bK}{cells:Nat}{t:iL}{add:Bool}{rel:dO}{r:Row}{bEs:iL×Nat×Nat×Nat}
def DbT(q:bK)(T:gZ):Prop:=aSJ (O q.aD) (λi=>(hJ q.aD i sT).rel) (λr i=>d8 q r i) T
theorem Vb(c:bo q):∀i,i<O q.aD->∀r r' x,d8 q r i=H x->d8 q r' i=H x->r=r':=λi b r r' x h a=>by
 unfold d8 at h a;rw[gV,kU b,O8]at h a;exact Hi c.aEa c.wide b rfl h a
end
end
variable{rl:Nat->dO}{D':dO->Row->Prop}
section
section
variable{q:bK}{cells:Nat}{t u:iL}{add:Bool}{rel:dO}{r:Row}{bEs:iL×Nat×Nat×Nat}{L:List Tb}{bEp:dO->Row->Prop}
structure YY(q:bK)(cells:Nat)(T:gZ)(bEp:dO->Row->Prop):Prop where
 db:Gb (O q.aD) (λi=>(hJ q.aD i sT).rel) (λr i=>d8 q r i) T bEp
 oE:eH (aZ (aB q).2) T<=cells
theorem bo.Bz(h:bo q):∀v,v<(aZ (aB q).2).n->((aZ (aB q).2).spec v).aG=1->v<O q.aD:=λv hv a=>(h.wf.EN v hv).leaf.1 a
theorem aEY(hv:dS r=rR)(i:Nat):d8 q r i=K:=by
 unfold d8 jI;split
 .rfl
 .rw[hv];rfl
theorem Gb.congr{f:Row->Nat->Option Row}(h:Gb n rl f T bEp)(a:∀s r,bEp s r↔D' s r):Gb n rl f T D':=λi b x=>by
 rw[h i b x];simp only[a]
theorem YY.start(q:bK){cells:Nat}:YY q cells LU.T (YA []):=⟨λi _ x=>by simp[YA,LU,OY],by
 have:∀l:List Nat,(l.map λi=>lI ((aZ (aB q).2).spec i) (LU.T i)).sum=0:=λl=>by
  induction l with
  |nil=>rfl
  |cons i l ih=>rw[KR,List.sum_cons,ih];unfold lI;split<;>rfl
 unfold eH;rw[this];exact O9 _⟩
theorem YY.change(a:bo q)(h:tC (aZ (aB q).2) t.T)(l:K2 L)(hd:YY q cells t.T (YA L))(m:fC (aZ (aB q).2) cells (O q.aD) t add (pD q rel) (d8 q r)=bEs)(b:bEs.2.2.2=0):
  YY q cells bEs.1.T (YA (if dS r then iS add rel r L else L)):=by
 obtain⟨t1,st,c,e⟩:=bEs;dsimp only at b;subst b;let⟨d,n⟩:=Gb.change a.l9 a.wf.cN a.wf.WE a.Bz h (Vb a) hd.db hd.oE m;refine⟨?_,n⟩;split
 .rename_i hv;exact d.congr λs x=>(Bl l s x).symm
 .rename_i hv;intro i p x;rw[d i p x];refine exists_congr λr'=>and_congr_left λg=> ?_;have j:r'≠r:=λe=>by rw[e,aEY (eP hv)]at g;cases g
  unfold ur;cases add<;>simp[j]
theorem aBN(a:K2 L):K2 (if dS r then iS add rel r L else L):=by
 split
 .rename_i h;exact Kg a h
 .exact a
theorem kx:ux (if dS r then iS add rel r L else L)<=ux L+1:=by
 split
 .exact aED L
 .omega
theorem YY.vO{s:dO}(a:bo q)(h:tC (aZ (aB q).2) t.T)(l:tC (aZ (aB q).2) u.T)(hd:YY q cells t.T (YA L))(r:i<O L)(hs:hJ L i (bU,[])=(s,aT))(p:j<O aT)(b:YY q cells u.T (YA ((s,aT.drop (j+1))::L.drop (i+1))))(n:fC (aZ (aB q).2) cells (O q.aD) u qT (pD q s) (d8 q (hJ aT j []))=bEs):
  bEs.2.2.2=0/\YY q cells bEs.1.T (YA ((s,aT.drop j)::L.drop (i+1))):=by
 have m:∀s' r',ur qT s (hJ aT j []) (YA ((s,aT.drop (j+1))::L.drop (i+1))) s' r'↔YA ((s,aT.drop j)::L.drop (i+1)) s' r':=λs' r'=>by
  have e:aT.drop j=hJ aT j []::aT.drop (j+1):=by
   rw[gV,kU p];exact Ge p
  unfold ur;rw[AV,AV,e];grind
 have g:L.drop i=(s,aT)::L.drop (i+1):=by
  rw[<-hs,List.getD_eq_getElem?_getD,List.getElem?_eq_getElem r];exact Ge r
 obtain⟨u1,st,c,e⟩:=bEs;have v:e=0:=Gb.a39 a.l9 a.wf.cN a.wf.WE a.Bz h l hd.db b.db (λs' r' y=>by
  rcases(AV _ _ _ _).1 ((m s' r').1 y)with⟨d,e2⟩|⟨tb,d,e2⟩
  .exact⟨(s,aT),oq (i:=i) (by rw[g];simp),d,oq e2⟩
  .exact⟨tb,oq d,e2⟩) hd.oE n
 subst v;let⟨w,x⟩:=Gb.change a.l9 a.wf.cN a.wf.WE a.Bz l (Vb a) b.db b.oE n;exact⟨rfl,w.congr m,x⟩
theorem YY.next(a:i<O L)(h:YY q cells T (YA (L.drop (i+1)))):YY q cells T (YA (((hJ L i (bU,[])).1,(hJ L i (bU,[])).2.drop (O (hJ L i (bU,[])).2))::L.drop (i+1))):=
 ⟨h.db.congr λs r=>by rw[AV];simp,h.oE⟩
theorem aLD{α:Type}{d:α}{l:List α}(a:i<O l):l.drop i=hJ l i d::l.drop (i+1):=by
 rw[gV,kU a];exact Ge a
theorem YY.OE(a:bo q)(h:tC (aZ (aB q).2) t.T)(c:tC (aZ (aB q).2) u.T)(hd:YY q cells t.T bEp)(e:YY q cells u.T bEp):
  eH (aZ (aB q).2) t.T=eH (aZ (aB q).2) u.T/\∀v,v<O (aB q).2.aI->∀x,x∈(t.T v).aM↔x∈(u.T v).aM:=by
 have i:=tC.sub a.l9 h c a.wf.WE λv hv b x d=>(e.db v (a.Bz v hv b) x).2 ((hd.db v (a.Bz v hv b) x).1 d);have g:=tC.sub a.l9 c h a.wf.WE λv hv b x d=>(hd.db v (a.Bz v hv b) x).2 ((e.db v (a.Bz v hv b) x).1 d);exact⟨Nat.le_antisymm (tC.yZ a.l9 h c i) (tC.yZ a.l9 c h g),λv hv x=>⟨i v hv x,g v hv x⟩⟩
end
end
variable{vE:List (dO×aE)}{b c tO tO2:Nat}{ρ bV dX:bC}
def fTb(x:dO×aE):Nat->aE
 |0=>mX x.1
 |_=>x.2
def Vs:dO×aE:=(bU,jS K 0 0)
def EH:Tb:=(bU,[])
theorem zTb:wV prog 32 48 2 40 #[mX {data:=#[]},jS K 0 0]:=
 .QZ (z:= .agg #[mX {data:=#[]},cR]) underlying32 dJ rfl rfl
structure pE(w:aA)(ρ:bC)(v:aE)(L:List Tb)(vE:List (dO×aE)):Prop where
 len:O vE=O L
 cZ:pI fTb Vs 48 2 w ρ 8 v vE
 row:∀i,i<O L->(hJ vE i Vs).1=(hJ L i EH).1/\QO w ρ (40000+i) 9 (hJ vE i Vs).2 (hJ L i EH).2
theorem pE.eb{L:List Tb}{S:Nat->Prop}(h:pE w ρ v L vE)(a:bI w ρ S w' bV)(d:¬S 8)(c:¬S 9)(b:∀i,¬S (40000+i)):pE w' bV v L vE:=
 ⟨h.len,h.cZ.eb a d,λi hl=>⟨(h.row i hl).1,(h.row i hl).2.eb a (b i) c⟩⟩
theorem pE.nil(w:aA)(ρ:bC):pE w ρ (jS K 0 0) [] []:=⟨rfl,pI.nil _ _ _,λi a=>dY a (Gd i)⟩
theorem pE.aAQ{L:List Tb}(h:pE w ρ v L vE):∃a cap,v=jS a (O L) cap/\O L<=bH:=by
 obtain⟨a,cap,e,b⟩:=h.cZ.len;exact⟨a,cap,by rw[e,h.len],h.len▸b⟩
theorem pE.aS{L:List Tb}(h:pE w ρ v L vE)(j:i<O L):
  ∃g cap a c,v=jS (H ⟨g,0,K⟩) (O L) cap/\ρ g=8/\h8 w ⟨g,i*2,K⟩=H (mX (hJ L i EH).1)/\h8 w ⟨g,i*2+1,K⟩=H (jS a (O (hJ L i EH).2) c)/\QO w ρ (40000+i) 9 (jS a (O (hJ L i EH).2) c) (hJ L i EH).2/\(hJ vE i Vs).2=jS a (O (hJ L i EH).2) c:=by
 obtain⟨g,cap,e,-,l,d,-⟩:=h.cZ.aS (i:=i) (h.len▸j);let⟨m,b⟩:=h.row i j;obtain⟨a,c,e2,-⟩:=b.len;have c0:=d 0 E;have c1:=d 1 E;simp only[qZ,fTb]at c0 c1;rw[m]at c0;rw[e2]at c1 b;exact⟨g,cap,a,c,by rw[e,h.len],l,c0,c1,b,e2⟩
theorem pE.put{L:List Tb}(h:pE w ρ (jS (H ⟨g,0,K⟩) n cap) L vE)(c:i<O L)(d:bI w ρ (·=40000+i) w1 dX)(C:QO w1 dX (40000+i) 9 u aT)(F:w'=hY w1 ⟨g,i*2+1,K⟩ u):
  pE w' dX (jS (H ⟨g,0,K⟩) n cap) (L.set i ((hJ L i EH).1,aT)) (vE.set i ((hJ L i EH).1,u))/\bI w ρ (λx=>x=40000+i\/x=8) w' dX:=by
 subst F;obtain⟨g',cap',e,A,v,o,-⟩:=h.cZ.aS (i:=i) (h.len▸c);injection e with e1 e2 e3;injection e1 with e1;injection e1 with e1;subst e1;have p:¬(8=40000+i):=Y;have y:¬(9=40000+i):=Y;have z:=h.cZ.eb d p;have r:=z.Aj (i:=i) (j:=1) (h.len▸c) E ((hJ L i EH).1,u) u (λB f=>by
  match B,f with
  |0,_=>rw[R E];show _=mX _;rw[(h.row i c).1];rfl
  |1,_=>rfl)
 have G:=(d.cE g A).ds v;have m:bI w1 dX (·=8) (hY w1 (Ad g (i*2+1)) u) dX:=(bI.refl w1 dX _).setCell (a:=Ad g (i*2+1)) (.inl G) _;refine⟨⟨by rw[TS,TS,h.len],r,λk q=> ?_⟩,(d.aL λ_=> .inl).ds (m.aL λ_=> .inr)⟩;rw[TS]at q;rw[gV,zN,gV (l:=L.set i _),zN];by_cases b:i=k
 .subst b;rw[bW rfl,bW (h.len▸c),bW rfl,bW c];exact⟨rfl,C.eb m (by show¬40000+i=8;omega) (by show¬9=8;decide)⟩
 .rw[R b,R b,<-gV,<-gV];exact⟨(h.row k q).1,((h.row k q).2.eb d (by show¬40000+k=40000+i;omega) y).eb m (by show¬40000+k=8;omega) (by show¬9=8;decide)⟩
theorem az.vf(h:az w0 w v aT)(a:U w0 [] w [])(t1 t2:Nat)(ρ:bC):∃bV,bI w0 ρ eZ w bV/\QO w bV t1 t2 v aT:=by
 obtain⟨cG,n,j,c⟩:=h;refine⟨λk=>if i7 w0.heap<=k then(if i6 v=H k then t1 else t2)else ρ k,⟨a.os,a.tape,a.output,a.size,λk b _=>a.block k b J,λk b=>R Y⟩,cG,n,⟨j.1,λg m=> ?_⟩,λi d=>⟨(c i d).rd,λp k b=> ?_⟩⟩
 .show(if _ then _ else _)=_;rw[bW (j.2 g m),bW m]
 .have l:=eV.cZ (c i d).1 b;show(if _ then _ else _)=_;rw[bW ((c i d).2 k l),R λe=> ?_];exact eV.KA (c i d).1 j.1 E k l e
theorem aAg{t:Nat}{a:Option cg}{l:List Row}(hl:QO w ρ tO t v l)(F:lW dV aR 3 w ρ t (jS a n c) r)(f:tO≠t)(h:O l+1<=1099511627776):
  ∃g cap w' bV,(Builtin.append_ #[46,46] 46 #[v,jS (H ⟨w,0,K⟩) 1 1]).run prog (i5 w (kd #[jS a n c] 34))= .ok (jS (H ⟨g,0,K⟩) (O l+1) cap) w'/\bI w ρ (·=tO) w' bV/\QO w' bV tO t (jS (H ⟨g,0,K⟩) (O l+1) cap) (l++[r]):=by
 obtain⟨C,b,m,G⟩:=hl;obtain⟨x,u,B,z,q,-,p,-⟩:=iT (ty:=46) (news:=[jS a n c]) (T:=34) Zj Y (m.cZ w) (OB w) (fV _) (O9 _) (jS a n c:aE) rfl (dE rfl) (λj L=>rfl) (kG b) (by rw[b];unfold bH;omega);rw[b]at z q;have d:bI w ρ (·=tO) B (up w tO ρ):=m.fK (v':=eC x 0 (O l+1) u) (by simpa[i6]using p) rfl;have A:¬(t=tO):=λe=>f e.symm;refine⟨x,u,B,_,z,d,C++[jS a n c],by simp[b],q.ON m (by simpa[i6]using p),λi y=> ?_⟩;rw[iZ,iZ,b];by_cases e:i=O l
 .rw[bW e,bW e];exact F.eb d A
 .rw[R e,R e];exact(G i (by rw[E7]at y;simp at y;omega)).eb d A
theorem QO.N4{t:Nat}(h:QO w ρ tO t v aT):yT v:=by
 obtain⟨cG,c,a,b⟩:=h;exact(a.cZ w).N4
theorem iY.aGw{t o:Nat}(h:iY w ρ tO t (jS (H ⟨g,o,K⟩) n cap) aT){k:Nat}(z:k+m=O aT)(v:0<m)(c':Nat):iY w ρ tO t (jS (H ⟨g,o+k,K⟩) m c') (aT.drop k):=by
 obtain⟨cG,l,a,p⟩:=h;have x:XW w (eC g o n cap) aT:=⟨cG,l,a.1,λi c=>(p i c).1⟩;refine⟨cG.drop k,by simp[l],⟨?_,λ_ b q=> ?_⟩,λi c=> ?_⟩
 .have hl:O (cG.drop k)=m:=by simp[l];omega
  obtain⟨g',y,c3,e2,r,-⟩:=fM.aS a.1 (i:=0) Y;obtain⟨a',c2,e,d⟩:=a.len;injection e2 with e3 e4 e5;injection e3 with e3;injection e3 with e3 e6;subst e3 e6;unfold fM;rw[hl];refine .inr ⟨g,o+k,c',rfl,v,by unfold bH at d|-;omega,r,λi j c u=> ?_⟩;show _=H (GA (hJ (cG.drop k) i undef) j);rw[zQ];have:=fM.cells a.1 (i:=k+i) Y j u;rw[yC]at this|-;rw[Nat.add_assoc o k i];exact this
 .exact a.2 Y b q
 .rw[vW]at c;rw[zQ,zQ];exact p _ Y
theorem XE{t:Nat}{l m:List Row}(hl:QO w ρ tO t v l)(r:iY w ρ tO2 t u m)(z:O l+O m<=1099511627776)(Pp:tO≠t):
  ∃g cap w' bV,(Builtin.append_ #[46,46] 46 #[v,u]).run prog w= .ok (jS g (O l+O m) cap) w'/\bI w ρ (·=tO) w' bV/\QO w' bV tO t (jS g (O l+O m) cap) (l++m):=by
 obtain⟨q,h1,c,h3⟩:=hl;obtain⟨y,a,k2,k3⟩:=r;obtain⟨v',w',n,d,-,b,g,cap,rfl⟩:=jX Zj Y 46 (c.cZ w) (OB w) (fV _) (O9 _) k2.1 (λx p j A=>by
  let⟨i,hi,e⟩:=Na p;have h:=k3 i Y;obtain⟨a',c',e2,-⟩:=h.len;rw[gV,kU hi,O8,e]at e2;rw[e2];rfl) (by rw[h1,a];omega) (by rw[h1,a];unfold bH;omega)
 rw[h1,a]at n d b;have hM:bI w ρ (·=tO) w' (up w tO ρ):=c.fK b rfl;refine⟨g,cap,w',_,n,hM,q++y,by simp[h1,a],d.ON c b,λi hi=> ?_⟩;exact ZM84
theorem iY.aTd(w:aA)(ρ:bC)(tO t:Nat)(a:cg)(c:Nat):iY w ρ tO t (jS (H a) 0 c) []:=
 ⟨[],rfl,⟨.inl ⟨rfl,H a,c,rfl,λh=>by cases h⟩,λh=>dY h (Nat.lt_irrefl 0)⟩,λi b=>dY b (Gd i)⟩
theorem aCH(h:aT.idxOf r=m):aT.take m++aT.drop (m+1)=aT.erase r:=by
 subst h;induction aT with
 |nil=>rfl
 |cons x l ih=>
  rw[Bk,List.erase_cons];by_cases e:x==r
  .simp[e]
  .simp[e,ih]
theorem pE.vO{L:List Tb}{s:dO}(h:pE w ρ v L vE)(b:bI w ρ (·=8) w' bV)(g:pI fTb Vs 48 2 w' bV 8 v' (vE++[(s,u)]))(j:QO w ρ (40000+O L) 9 u aT):
  pE w' bV v' (L++[(s,aT)]) (vE++[(s,u)]):=by
 refine⟨by simp[h.len],g,λi d=> ?_⟩;have c:¬9=8:=E;rw[iZ,iZ,h.len];by_cases e:i=O L
 .rw[bW e,bW e,e];exact⟨rfl,j.eb b (by show¬40000+O L=8;omega) c⟩
 .rw[R e,R e];have a:i<O L:=by rw[E7]at d;simp at d;omega
  exact⟨(h.row i a).1,(h.row i a).2.eb b (by show¬40000+i=8;omega) c⟩
theorem az.one{a:Option cg}(e:w.heap[b]? =H (kd #[jS a n c] 34 (0,0)))(j:i7 w0.heap<=b)(g:bN dV aR 90 3 w0 w (jS a n c) r):az w0 w (jS (H ⟨b,0,K⟩) 1 1) [r]:=
 ⟨[jS a n c],rfl,YH (news:=[jS a n c]) e rfl _ (dE rfl) j,λi d=>by
  obtain rfl:i=0:=by simp at d;exact d
  exact g⟩
theorem aEG{L:List Tb}{s:dO}{a:Option cg}(h:pE w ρ v L vE)(r:QO w ρ (40000+O L) 9 u aT)(hv:u=jS a n c)(x:O L<=1048576):
  ∃g cap w' bV,(Builtin.append_ #[32,32] 32 #[v,jS (H ⟨w,0,K⟩) 1 1]).run prog (i5 w (kd #[mX s,u] 48))= .ok (jS (H ⟨g,0,K⟩) (O L+1) cap) w'/\bI w ρ (·=8) w' bV/\pE w' bV (jS (H ⟨g,0,K⟩) (O L+1) cap) (L++[(s,aT)]) (vE++[(s,u)]):=by
 subst hv;obtain⟨q,p,m,i,l,-,e,-⟩:=iT (ty:=32) (news:=[mX s,jS a n c]) (T:=48) zTb.ok Y (h.cZ.cZ w) (OB w) (fV _) (O9 _) ((s,jS a n c):dO×aE) rfl (λj b=>by
  match j,b with
  |0,_=>rfl
  |1,_=>rfl) (λj b=>by
  match j,b with
  |0,_=>rfl
  |1,_=>rfl) (kG h.len) (by rw[h.len];unfold bH;omega)
 rw[h.len]at i l;have d:bI w ρ (·=8) m (up w 8 ρ):=h.cZ.fK (v':=eC q 0 (O L+1) p) (by simpa[i6]using e) rfl;exact⟨q,p,m,_,i,d,h.vO d (l.ON h.cZ (by simpa[i6]using e)) r⟩
variable{x:Nat}
def DtW(x:Nat):Prop:=x=8\/40000<=x
theorem aGu(h:x=40000+i\/x=8):DtW x:=h.elim (λe=>Or.inr Y) Or.inl
def aWo(w:aA)(ρ:bC)(L:List Tb)(e:Ending)(w':aA):Prop:=
 ∃bV u vE,e=mi u/\bI w ρ DtW w' bV/\pE w' bV u L vE
theorem Uv{L:List Tb}(a:i<O L){x:Tb}(h:hJ L i EH=x):L.set i x=L:=by
 subst h;rw[gV,kU a,O8,List.set_getElem_self]
theorem aBM{L:List Tb}{add:Bool}{rel:dO}(h:pE w ρ v L vE)(hr:fM dV aR 3 w rv r)(hf:∀v∈r,v.dZ.size<=1048576)(YI:O r<=1048576)(hLl:O L<=1048576)(yq:∀i,i<O L->O (hJ L i EH).2<=1048576)(hLw:∀i,i<O L->∀x∈(hJ L i EH).2,O x<=1048576):
  aK prog 9 #[v,.agg #[nj add,mX rel,rv]] w (aWo w ρ (if dS r then iS add rel r L else L)):=by
 obtain⟨va,vc,rfl,-⟩:=h.aAQ;obtain⟨ra,rc,rfl,-⟩:=hr.len;let⟨n,hn⟩:=D (O L);let⟨rl,hrn⟩:=D (O r);rw[hn]at h hLl|-;rw[hrn]at hr|-;let⟨wa,dM⟩:=D (i5 w (kd #[nj add,mX rel,jS ra rl rc] 36));let⟨bx,mJ⟩:=D (i7 w.heap);have cV:=Za dM;have kI:=Ze dM mJ;have kK:bI w ρ eZ wa (up w.heap.size 7 ρ):=cV.fK (S:=eZ) 7 (λ_ h=>dY h J);let⟨b,nC⟩:=D (up w.heap.size 7 ρ);have CC:b bx=7:=by rw[<-nC];exact cY Y
 rw[nC]at kK;have f:=Z (h.eb kK id id (λ_ h=>h));have HR:=Z (hr.on cV);have HF:=Z hf;have HN:=Z hn;have HRN:=Z hrn;have A0:=Z hLl;have HLR:=Z yq;have HLW:=Z hLw;have HRL:=Z YI;have Tu:=Z kI;have su:=Z CC;have G6:=Z kK;have HV:=Z (aJI (hr.on cV) hf);obtain⟨b0,b1,b2⟩:=Z3 kI;clear h hr hf hn hrn hLl yq hLw YI cV kI kK CC nC;by_cases JC:dS r=qT
 .rw[bW JC];rw[JC]at HV;clear JC;go_in;go_upto_region 3 with(go_at_call 29;apply HV.o.dC;intro w1 cT;have nN:=Z cT;clear cT);clear b0 b1 b2 dM mJ;have CU:=Z (G6.o.ds (nN.o.fL (S:=eZ)));have H1:=Z (f.o.eb (nN.o.fL (S:=eZ)) id id (λ_ h=>h));have a5f:=Z (nN.o.aC Tu.o J);have aXN:=su;have HR1:=Z (HR.o.on nN.o);clear f G6 Tu HR;go_wp2;go_loopg [14] n (λgg s14 wr=>∃k:Nat,k<=n/\gg=n-k/\s14=X k/\U w1 [] wr []/\∀j,j<k->(hJ L j EH).1≠rel)
  .exact⟨0,Y,rfl,rfl,U.refl _ _,λj hj=>dY hj (Gd j)⟩
  obtain⟨k,hk,CP,rfl,hU,fX⟩:=hrel;have JY:=Z CP;have HU:=Z hU;have NH:=Z fX;clear CP hU fX;have hb:=HU.o.aC a5f.o J;obtain⟨b0,b1,b2⟩:=Z3 hb;have lbx:=iP (dG hb);by_cases aY:k<n
  .have BH:(k:Int)<(n:Int):=Y;have HT:=Z (H1.o.eb (HU.o.fL (S:=eZ)) id id (λ_ h=>h));let⟨g,cap,xa,xc,hv,CC,c0,c1,P,KW⟩:=HT.o.aS (i:=k) (by rw[HN.o];exact aY);rw[HN.o]at hv;injection hv with x1 x2 x3;clear x2 x3;subst x1;obtain⟨⟨nm,aT⟩,rN⟩:∃x,hJ L k EH=x:=⟨_,rfl⟩;rw[rN]at c0 c1 P KW;dsimp only at c0 c1 P KW;have KO:=Z rN;have lg:=iP (IL c0);have V:O aT<=1048576:=by have:=HLR.o k (by rw[HN.o];exact aY);rw[rN]at this;exact this
   have HRW:=Z (λx (hx:x∈aT)=>HLW.o k (by rw[HN.o];exact aY) x (by rw[rN];exact hx));by_cases A:nm=rel
   .have hsx:(nm.toList==rel.toList)=qT:=by rw[A2];exact kY A
    have a:=Z A;have HRT:=Z P;have dk:=Z V;have HEL:=Z KW;have l:=Z (show k<O L by rw[HN.o];exact aY);have HG8:=Z CC;clear A P V KW rN CC hb;go_upto_region 6 with(fail);go_quiet (fail);let⟨w2,JG⟩:=D (wr.drewN nq);have Dm:U wr [] w2 []:=Sr JG;rw[JG];clear JG;replace c1:=Dm.cell c1 J;replace b0:=Dm.cell b0 J;replace b2:=Dm.cell b2 J;have aXA:=Z Dm;clear Dm;have eQ:=Z (HU.o.ds aXA.o);have aRX:=Z (HRT.o.eb (aXA.o.fL (S:=eZ)) id id);have Fb:=Z (λwz (hz:U w2 [] wz [])=>aE0 (aRX.o.rw.on hz) (HR1.o.on (eQ.o.ds hz)));have lg:=iP (IL c1);have lbx:=iP (IL b2);clear c0 b1 HRT;go_upto_region 7 with(fail);refine fj 99 (ez c1<|ez b0<|ey b2) (λwd fF pH Q=> ?_);clear c1 b0 b2;have o9:=Z pH;clear fF pH;refine ek [0,1,5,2,6,3,4] ?_;refine Zo 7 λo hK=> ?_;go_simp;go_at_call 30;apply(Fb.o _ o9.o).cX;rintro e w3 ⟨rfl,cW⟩;dsimp only;replace Q:=cW.gm Q;have iF:=Z (eQ.o.ds (o9.o.ds cW));have td:=Z (aRX.o.eb ((o9.o.ds cW).fL (S:=eZ)) id id);clear cW;refine j5 ?_;clear hK o;refine I 8 ?_;refine bD dJ ?_ _;obtain⟨c1,b0,b2⟩:=Q;have lg:=iP (IL c1);have lbx:=iP (IL b2);clear aRX Fb;have PG:=Z (H1.o.eb (iF.o.fL (S:=eZ)) id id (λ_ h=>h));have wH:=Z (CU.o.ds (iF.o.fL (S:=eZ)));have W:=Z (Ki (add:=add) (r:=r) (d:=EH) l.o NH.o (by rw[KO.o];exact a.o));rw[KO.o]at W;let⟨p,hp⟩:=D (UN aT r);rw[hp];by_cases iD:r∈aT
    .have xy:p=(aT.idxOf r:Int):=by rw[<-hp];unfold UN;rw[bW iD]
     let⟨m,hm⟩:=D (aT.idxOf r);rw[hm]at xy;subst xy;have HIN:=Z iD;have HIX:=Z hm;clear iD hm hp;cases add with
     |true=>
      have m0:¬((m:Int)<0):=Y;go_wp2;go_ret;refine⟨b,_,vE,rfl,wH.o.aL nZ,?_⟩;show pE _ _ _ (iS _ rel r L) vE;rw[W.o,Uv l.o (by rw[KO.o,a.o];unfold M8;rw[bW rfl,bW HIN.o])];exact PG.o
     |false=>
      have G9:m<O aT:=by rw[<-HIX.o];exact List.idxOf_lt_length_iff.2 HIN.o
      obtain⟨ga,oa,cpa,-,-,hv3,-,-⟩:=td.o.rws.aS (k:=0) Y;injection hv3 with x1 x2 x3;subst x1;clear x2 x3;have Sz:O aT<=xc:=td.o.N4;have m0:0<=(m:Int):=Y;have m1:(m:Int)<=(xc:Int):=Y;have m2:IntKind.i64.wrap ((m:Int)+1)=(m:Int)+1:=QY _ (kX dk.o);have m3:(m:Int)+1<=(O aT:Int):=Y;have m4:0<=(m:Int)+1:=Y;let⟨s,hs⟩:=D (O aT-(m+1));obtain⟨sa,hsa⟩:∃sa:cg,(if xc=m+1 then((Ad ga oa):cg)else(Ad ga (oa+(m+1))))=sa:=⟨_,rfl⟩;have hsf:iY w3 b (40000+k) 9 (jS (H sa) s (xc-(m+1))) (aT.drop (m+1)):=by
       by_cases h0:s=0
       .rw[h0,gz Y];exact iY.aTd _ _ _ _ _ _
       .rw[<-hsa,R Y];exact td.o.rws.aGw Y Y _
      have m5:(if xc=m+1 then H ((Ad ga oa):cg)else H (Ad ga (oa+(m+1))))=H sa:=by rw[<-hsa];split<;>rfl
      have HSF:=Z hsf;have Y0:=Z hs;have HML:=Z G9;have X6:=Z (λwz (hz:U w3 [] wz [])=>Ve ((td.o.rw.on hz).RN (k:=m) Y xc) (by rw[PI];have:=dk.o;omega) (λi hi=>HRW.o _ (y' (bO hi))));have AM:O (aT.take m)=m:=kG PI;have CT:=Z AM;have Ik:=Z c1;clear AM hsf Sz;go_upto_region 11 with(fail);refine fj 21 (ey c1) (λwe G WP Q=> ?_);clear c1 b0 b2;have To:=Z WP;clear G WP;refine ek [0,1,2,3,7,10,11,15,4,12,16,5,13,6,14,8,17] ?_;refine Zo 9 λo hK=> ?_;go_simp;go_at_call 32;apply(X6.o _ To.o).cX;rintro e w5 ⟨u,rfl,y,C⟩;dsimp only;obtain⟨ya,yc,rfl,-⟩:=y.rw.len;rw[CT.o]at y|-;have z:=Q;have Q:=C.cell z J;let⟨oT,sA,tU⟩:=y.vf C (40000+k) 9 b;have FW:=((To.o.fL (S:=eZ) (ρ:=b)).ds sA);have Y6:=Z FW;have sF:=Z tU;have O6:=Z (PG.o.eb FW id id (λ_ h=>h));have a45:=Z (HSF.o.eb FW id id);clear y C sA FW tU z;refine j5 ?_;clear hK o;refine Zo 18 λo hK=> ?_;let⟨g8,c8,w8,CM,dK,q,B⟩:=XE sF.o a45.o (by rw[PI,vW];have:=dk.o;omega) Y;have ye:O (aT.take m)+O (aT.drop (m+1))=m+s:=by rw[CT.o,vW,Y0.o]
      rw[ye]at dK B;refine dL _ _ rfl Yr Yr dK ?_;have t8:oT g=8:=(Y6.o.cE g (IL Ik.o)).ds HG8.o;have z:=Q;have Q:=q.cell z (by show¬oT g=_;omega);obtain⟨g',cap',om,F,-,hc8,N⟩:=(O6.o.cZ.eb q (by show¬8=40000+k;omega)).aS (i:=k) (by rw[O6.o.len];exact l.o);injection om with x1 x2 x3;injection x1 with x1;injection x1 with x1;subst x1;have bf:=N.1 (k*2+1);have bl:=iP F;have TO:=Z q;have th:=Z B;clear dK q B z t8 x2 x3 hc8 N F ye;refine j5 ?_;clear hK o;refine Zo 19 λo hK=> ?_;go_simp;refine j5 ?_;clear hK o;refine I 20 ?_;refine Zo 21 λo hK=> ?_;go_simp;refine LP ?_;clear hK o;clear Q bf bl;have aRe:=Z (wH.o.ds Y6.o);let⟨w9,TV⟩:=D (hY w8 (Ad g (k*2+1)) (jS g8 (m+s) c8));have Q8:=O6.o.put l.o TO.o th.o TV.symm;rw[TV];have VM:=Z Q8;clear Q8 TV m0 m1 m2 m3 m4 m5 hsa;go_wp2;go_ret;refine⟨CM,_,vE.set k ((hJ L k EH).1,jS g8 (m+s) c8),rfl,(aRe.o.aL nZ).ds (VM.o.2.aL λ_=>aGu),?_⟩;show pE _ _ _ (iS _ rel r L) _;rw[W.o];have h9:=VM.o.1;rw[KO.o]at h9|-;dsimp only at h9|-;rw[a.o,aCH HIX.o]at h9;rw[a.o];exact h9
    .have xy:p= -1:=by rw[<-hp];exact Jn iD
     subst xy;have HIN:=Z iD;clear iD hp;cases add with
     |true=>
      have m0:(-1:Int)<0:=E;have HRC:=Z (λwz (hz:U w3 [] wz [])=>YG (HR1.o.on (iF.o.ds hz)) HRL.o);go_upto_region 9 with(fail);have Ik:=Z c1;have HC2:=Z b2;refine fj 14 (ez c1<|ey b2) (λwe G WP Q=> ?_);clear c1 b0 b2;have To:=Z WP;clear G WP;refine ek [0,1,2,3,7,4,8,5,6] ?_;refine Zo 9 λo hK=> ?_;go_simp;go_at_call 31;apply(HRC.o _ To.o).cX;rintro e w5 ⟨u,rfl,y,C⟩;dsimp only;obtain⟨ya,yc,rfl,-⟩:=y.len;rw[HRN.o]at y|-;replace Q:=C.YZ Q;have sA:bI we b eZ w5 (up we.heap.size 9 b):=C.fK (S:=eZ) 9 (λ_ h=>dY h J);have hO9:=y.jR 9 b;let⟨oT,GS⟩:=D (up we.heap.size 9 b);rw[GS]at sA hO9;have FW:=((To.o.fL (S:=eZ) (ρ:=b)).ds sA);have Y6:=Z FW;have sF:=Z (td.o.eb FW id id);have O6:=Z (PG.o.eb FW id id (λ_ h=>h));have HO9:=Z hO9.rd;have gN:=Z (To.o.ds C);clear y C sA hO9 GS FW;refine j5 ?_;clear hK o;refine Zo 10 λo hK=> ?_;go_simp;have nY:U w5 [] (i5 w5 (kd #[jS ya rl yc] 34)) []:=(U.refl w5 []).alloc _;have z:=Q;replace Q:=nY.YZ Q;refine j5 ?_;clear hK o;refine Zo 11 λo hK=> ?_;let⟨g8,c8,w8,CM,dK,q,B⟩:=aAg sF.o HO9.o Y (kX dk.o);refine dL _ _ rfl Yr Yr dK ?_;have t8:oT g=8:=(Y6.o.cE g (IL Ik.o)).ds HG8.o;have t7:oT bx=7:=(Y6.o.cE bx (IL HC2.o)).ds aXN.o;have Q:=eI (q.cell z.1 (by show¬oT g=_;omega)) (q.cell z.2 (by show¬oT bx=_;omega));obtain⟨g',cap',om,F,-,hc8,N⟩:=(O6.o.cZ.eb q (by show¬8=40000+k;omega)).aS (i:=k) (by rw[O6.o.len];exact l.o);injection om with x1 x2 x3;injection x1 with x1;injection x1 with x1;subst x1;have bf:=N.1 (k*2+1);have bl:=iP F;have TO:=Z q;have th:=Z B;clear dK q B nY z t8 t7 x2 x3 hc8 N F;refine j5 ?_;clear hK o;refine Zo 12 λo hK=> ?_;go_simp;refine j5 ?_;clear hK o;refine I 13 ?_;refine Zo 14 λo hK=> ?_;go_simp;refine LP ?_;clear hK o;clear Q bf bl;have aRe:=Z (wH.o.ds Y6.o);let⟨w9,TV⟩:=D (hY w8 (Ad g (k*2+1)) (eC g8 0 (O aT+1) c8));have Q8:=O6.o.put l.o TO.o th.o TV.symm;rw[TV];have VM:=Z Q8;clear Q8 TV;go_wp2;go_ret;refine⟨CM,_,vE.set k ((hJ L k EH).1,eC g8 0 (O aT+1) c8),rfl,(aRe.o.aL nZ).ds (VM.o.2.aL λ_=>aGu),?_⟩;show pE _ _ _ (iS _ rel r L) _;rw[W.o];have h9:=VM.o.1;rw[KO.o]at h9|-;dsimp only at h9|-;rw[a.o]at h9|-;unfold M8;rw[bW rfl,R HIN.o];exact h9
     |false=>
      go_wp2;go_ret;refine⟨b,_,vE,rfl,wH.o.aL nZ,?_⟩;show pE _ _ _ (iS _ rel r L) vE;rw[W.o,Uv l.o (by rw[KO.o,a.o];unfold M8;rw[R E,List.erase_of_not_mem HIN.o])];exact PG.o
   .have hsx:(nm.toList==rel.toList)=rR:=by rw[A2];exact kE A
    have a:=Z A;clear A P KW rN hb V;go_upto_region 6 with(fail);go_quiet (fail);go_wp2;go_roundg (n-(k+1))
    .exact⟨k+1,aY,rfl,xE (mj mn) (by simp only[wrap64];have:=A0.o;omega),HU.o.ds ((U.refl _ _).drewN _),λj (hj:j<k+1)=>by
     by_cases e:j=k
     .subst e;rw[KO.o];exact a.o
     .exact NH.o j Y⟩
    have:=JY.o;omega
  .have GX:k=n:=Y;have HT:=Z (H1.o.eb (HU.o.fL (S:=eZ)) id id (λ_ h=>h));have wH:=Z (CU.o.ds (HU.o.fL (S:=eZ)));have HMN:=Z (Kh (add:=add) (r:=r) (d:=EH) (c:=rel) (L:=L) (λj hj=>NH.o j (by rw[GX,<-HN.o];exact hj)));subst GX;clear hb hk aY;cases add with
   |false=>
    go_wp2;go_ret;refine⟨b,_,vE,rfl,wH.o.aL nZ,?_⟩;show pE _ _ _ (iS _ rel r L) _;rw[HMN.o,R E];exact HT.o
   |true=>
    have HRC:=Z (λwz (hz:U wr [] wz [])=>YG (HR1.o.on (HU.o.ds hz)) HRL.o);go_upto_region 15 with(fail);refine e7 99 (ez b1<|ey b2) (λQ=> ?_);have HC2:=Z b2;clear b0 b1 b2;let⟨we,G⟩:=D (wr.drew);have WP:U wr [] we []:=A1 G;rw[G]at Q|-;have To:=Z WP;clear G WP;refine ek [0,1,3,2,4] ?_;refine Zo 5 λo hK=> ?_;go_simp;go_at_call 31;apply(HRC.o _ To.o).cX;rintro e w5 ⟨u,rfl,y,C⟩;dsimp only;obtain⟨ya,yc,rfl,-⟩:=y.len;rw[HRN.o]at y|-;replace Q:=C.YZ Q;have TN:=Z y;have gN:=Z C;clear y C;refine j5 ?_;clear hK o;refine Zo 6 λo hK=> ?_;go_simp;let⟨w6,iA⟩:=D (i5 w5 (kd #[jS ya rl yc] 34));let⟨bA,hbA⟩:=D (i7 w5.heap);have dR:=Za iA;have mK:=Ze iA hbA;rw[iA,hbA];replace Q:=dR.YZ Q;have HRO:=Z (az.one mK (by rw[<-hbA];exact gN.o.size) (TN.o.on dR));have lM:=Z (gN.o.ds dR);clear iA hbA dR mK;refine j5 ?_;clear hK o;refine I 7 ?_;refine Zo 8 λo hK=> ?_;go_simp;have nY:U w6 [] (i5 w6 (kd #[mX rel,eC bA 0 1 1] 48)) []:=(U.refl w6 []).alloc _;have z:=Q;replace Q:=nY.YZ Q;refine j5 ?_;clear hK o;refine Zo 9 λo hK=> ?_;let⟨qJ,SX,lA⟩:=HRO.o.vf lM.o (40000+O L) 9 b;have aKh:=(To.o.fL (S:=eZ) (ρ:=b)).ds SX;let⟨g8,c8,w8,CM,dK,q,Hz⟩:=aEG (s:=rel) (HT.o.eb aKh id id (λ_ h=>h)) lA rfl (by rw[HN.o];exact A0.o);rw[HN.o]at dK Hz;refine dL _ _ rfl Yr Yr dK ?_;have t7:qJ bx=7:=(aKh.cE bx (IL HC2.o)).ds aXN.o;have Q:=eI (q.cell z.1 (by show¬qJ bx=_;omega)) (q.cell z.2 (by show¬qJ bx=_;omega));have VM:=Z (eI ((wH.o.ds aKh).aL (T:=DtW) nZ|>.ds (q.aL λ_ h=>Or.inl h)) Hz);clear dK SX lA aKh q Hz z nY t7;refine j5 ?_;clear hK o;refine I 10 ?_;refine bD dJ ?_ _;clear Q;go_wp2;go_ret;refine⟨CM,_,vE++[(rel,eC bA 0 1 1)],rfl,VM.o.1,?_⟩;show pE _ _ _ (iS _ rel r L) _;rw[HMN.o,bW trivial];exact VM.o.2
 .have hvf:dS r=rR:=eP JC;rw[R JC];rw[hvf]at HV;clear JC hvf;go_in;go_wp2_with (go_at_call 29;apply HV.o.dC;intro w1 cT;have nN:=Z cT;clear cT);go_ret;have pJ:bI wa b eZ w1 b:=nN.o.fL;exact⟨b,_,vE,rfl,(G6.o.ds pJ).aL nZ,f.o.eb pJ id id (λ_ h=>h)⟩
variable{ps:List (dO×aE)}{F G sz β:Nat}{bEs:iL×Nat×Nat×Nat}{hv sv:aE}
section
def OrS(x:Nat):Prop:=CK 10 x\/x=1\/DtW x\/CK 20000 x\/x=7
theorem aEf(h:x=0\/x=2\/x=3\/x=9):¬OrS x:=by unfold OrS CK DtW;omega
theorem TI.or(h:TI 10 x):OrS x:=h.elim .inl λh=> .inr (.inl h)
theorem TI.or2(h:TI 20000 x):OrS x:=h.elim (λh=> .inr (.inr (.inr (.inl h)))) λh=> .inr (.inl h)
theorem DtW.or(h:DtW x):OrS x:= .inr (.inr (.inl h))
theorem Km(h:x<10\/30000<=x)(a:x≠1):¬TI 10 x:=by unfold TI CK;omega
theorem zE(h:x<20000\/30000<=x)(a:x≠1):¬TI 20000 x:=by unfold TI CK;omega
theorem aNU(h:x≠8)(a:x<40000):¬DtW x:=by unfold DtW;omega
theorem lR.Ko{ρ:bC}{b cells:Nat}{q:bK}{t:iL}{S:Nat->Prop}(h:lR w ρ β b q cells t F G)(d:bI w ρ S w' bV)(a:∀x,β<=x->x<β+10000->¬S x):lR w' bV β b q cells t F G:=
 ⟨h.bd.eb d (a _ (fV _) Y) (a _ Y Y) (λi c e g=>a _ (by unfold mR;omega) (by have:=h.ok.oE;unfold mR;omega)),h.ok,h.ZM,h.num,h.cel⟩
structure BR(wa wr:aA)(ρ:bC)(q:bK)(b d N:Nat)(t:iL)(v:aE)(L:List Tb)(vE:List (dO×aE)):Prop where
 fK:bI wa (λ_=>0) OrS wr ρ
 oU:lR wr ρ 10 b q 65536 t N N
 doc:Ff wr ρ 2 d (O (aB q).2.aI)
 tbs:pE wr ρ v L vE
section
variable{wa wr w2:aA}{ρ fD:bC}{q:bK}{b d N:Nat}{t:iL}{v v':aE}{L L':List Tb}{vE aW6:List (dO×aE)}
theorem BR.eU(h:BR wa wr ρ q b d N t v L vE):U wa [] wr []:=h.fK.uz λ_ _=>aEf (.inl rfl)
theorem BR.on(h:BR wa wr ρ q b d N t v L vE)(a:bI wr ρ eZ w2 fD):BR wa w2 fD q b d N t v L vE:=
 ⟨h.fK.ds (a.aL nZ),h.oU.eb a vF,h.doc.eb a id,h.tbs.eb a id id (λ_ h=>h)⟩
theorem BR.row(h:BR wa wr ρ q b d N t v L vE){α:Type}{f:α->Nat->aE}{e:α}{v:aE}{l:List α}(a:fM f e sz wa v l):lW f e sz wr ρ 0 v l:=
 (show lW f e sz wa (λ_=>0) 0 v l from⟨a,λ_ _ _=>rfl⟩).eb h.fK (aEf (.inl rfl))
theorem BR.O0(h:BR wa wr ρ q b d N t v L vE)(a:bI wr ρ (TI 10) w2 fD)(c:lR w2 fD 10 b q 65536 bEs.1 (N+1) (N+1)):BR wa w2 fD q b d (N+1) bEs.1 v L vE:=
 ⟨h.fK.ds (a.aL λ_ h=>h.or),c,h.doc.eb a (Km E E),h.tbs.eb a (Km E E) (Km E E) (λi=>Km (.inr Y) Y)⟩
theorem BR.aEv(h:BR wa wr ρ q b d N t v L vE)(a:bI wr ρ DtW w2 fD)(c:pE w2 fD v' L' aW6):BR wa w2 fD q b d N t v' L' aW6:=
 ⟨h.fK.ds (a.aL λ_ h=>h.or),h.oU.Ko a (λx g e=>aNU Y Y),h.doc.eb a (aNU E E),c⟩
end
structure wT(wa wr:aA)(ρ:bC)(q:bK)(b d N:Nat)(t:iL)(v:aE)(L:List Tb)(vE:List (dO×aE))(b2 M:Nat)(u:iL):Prop where
 one:BR wa wr ρ q b d N t v L vE
 uu:lR wr ρ 20000 b2 q 65536 u M M
section
variable{wa wr w2:aA}{ρ fD:bC}{q:bK}{b d N b2 M:Nat}{t u:iL}{v:aE}{L:List Tb}{vE:List (dO×aE)}
theorem wT.on(h:wT wa wr ρ q b d N t v L vE b2 M u)(a:bI wr ρ eZ w2 fD):wT wa w2 fD q b d N t v L vE b2 M u:=⟨h.one.on a,h.uu.eb a vF⟩
theorem wT.O0(h:wT wa wr ρ q b d N t v L vE b2 M u)(a:bI wr ρ (TI 20000) w2 fD)(c:lR w2 fD 20000 b2 q 65536 bEs.1 (M+1) (M+1)):wT wa w2 fD q b d N t v L vE b2 (M+1) bEs.1:=
 ⟨⟨h.one.fK.ds (a.aL λ_ h=>h.or2),h.one.oU.Ko a (λx g e=>zE (.inl Y) Y),h.one.doc.eb a (zE E E),h.one.tbs.eb a (zE E E) (zE E E) (λi=>zE (.inr Y) Y)⟩,c⟩
end
theorem iY.a34{ρ:bC}{t o:Nat}(h:iY w ρ tO t (jS (H ⟨g,o,K⟩) n cap) aT)(b:0<O aT):ρ g=tO:=by
 obtain⟨cG,d,a,c⟩:=h;exact a.2 Y g rfl
theorem wT.on7{wa wr w2:aA}{ρ fD:bC}{q:bK}{b d N b2 M:Nat}{t u:iL}{v:aE}{L:List Tb}{vE:List (dO×aE)}(h:wT wa wr ρ q b d N t v L vE b2 M u)(a:bI wr ρ (·=7) w2 fD):wT wa w2 fD q b d N t v L vE b2 M u:=
 ⟨⟨h.one.fK.ds (a.aL λ_ h=> .inr (.inr (.inr (.inr h)))),h.one.oU.Ko a (λx e c=>by show¬x=7;omega),h.one.doc.eb a (by show¬2=7;decide),h.one.tbs.eb a (by show¬8=7;decide) (by show¬9=7;decide) (λi=>by show¬40000+i=7;omega)⟩,h.uu.Ko a (λx e c=>by show¬x=7;omega)⟩
section
variable{wa wr w2:aA}{ρ fD:bC}{q:bK}{b d N b2 M i:Nat}{t u:iL}{v:aE}{L:List Tb}{vE:List (dO×aE)}
theorem wT.aTX(h:wT wa wr ρ q b d N t v L vE b2 M u)(p:i<O (aB q).2.aI)(c:bI wr ρ (fU (mR 10 i)) w2 fD)(n:gT w2 fD 10 b q 65536 t.state t.lK t.T N N):wT wa w2 fD q b d N t v L vE b2 M u:=by
 have g:=xF p h.one.oU.ok.oE;have m:∀x,fU (mR 10 i) x->CK 10 x:=λx e=>kt g e;have a:∀x,(x<10\/20000<=x)->¬fU (mR 10 i) x:=λx e l=>by have:=m x l;unfold CK at this;omega
 exact⟨⟨h.one.fK.ds (c.aL λx e=> .inl (m x e)),⟨n,h.one.oU.ok,h.one.oU.ZM,h.one.oU.num,h.one.oU.cel⟩,h.one.doc.eb c (a 2 (.inl E)),h.one.tbs.eb c (a 8 (.inl E)) (a 9 (.inl E)) (λj=>a _ (.inr Y))⟩,h.uu.Ko c (λx l r=>a x (.inr l))⟩
theorem wT.aTW(h:wT wa wr ρ q b d N t v L vE b2 M u)(p:i<O (aB q).2.aI)(c:bI wr ρ (fU (mR 20000 i)) w2 fD)(n:gT w2 fD 20000 b2 q 65536 u.state u.lK u.T M M):wT wa w2 fD q b d N t v L vE b2 M u:=by
 have g:=xF p h.one.oU.ok.oE;have l:∀x,fU (mR 20000 i) x->CK 20000 x:=λx e=>kt g e;have a:∀x,(x<20000\/30000<=x)->¬fU (mR 20000 i) x:=λx e m=>by have:=l x m;unfold CK at this;omega
 exact⟨⟨h.one.fK.ds (c.aL λx e=> .inr (.inr (.inr (.inl (l x e))))),h.one.oU.Ko c (λx m r=>a x (.inl Y)),h.one.doc.eb c (a 2 (.inl E)),h.one.tbs.eb c (a 8 (.inl E)) (a 9 (.inl E)) (λj=>a _ (.inr Y))⟩,⟨n,h.uu.ok,h.uu.ZM,h.uu.num,h.uu.cel⟩⟩
end
theorem gT.aMN{ρ:bC}{b cells ls i:Nat}{q:bK}(h:gT w ρ β b q cells st ls T F G)(g:i<O (aB q).2.aI):IE (T i).aM:=by
 obtain⟨nb,go,oo,co,-,-,⟨lb,rb,iv,-,-,e⟩,-⟩:=h.zC g;intro r d;have c:=(e.lv.Gp.good r d).1.1;unfold dS at c;simp only[My,QX,Tv]at c;refine⟨Y,λv hv=> ?_⟩;have a:=c.2 v hv;unfold gX at a;split at a
 .rw[of_decide_eq_true a];decide
 .simp only[My,QX]at a;omega
def aSE(L:List Tb):Prop:=∀s x,YA L s x->CE x
theorem ky{add:Bool}{c:dO}{L:List Tb}(b:K2 L)(h:aSE L)(d:CE r):aSE (if dS r then iS add c r L else L):=by
 split
 .intro s x a;rw[Bl b]at a;unfold ur at a;cases add
  .exact h s x BC
  .by_cases e:YA L s x
   .exact h s x e
   .have:x=r:=by grind
    exact this▸d
 .exact h
theorem Bi{add:Bool}{c:dO}{r:Row}:∀(L:List Tb),O (iS add c r L)<=O L+1
 |[]=>by unfold iS;split<;>simp
 |tb::l=>by
  unfold iS;have:=Bi (add:=add) (c:=c) (r:=r) l;split<;>simp<;>omega
theorem Nm:∀{L:List Tb} {i:Nat},i<O L->O (hJ L i EH).2<=ux L
 |[],_,h=>dY h (Gd _)
 |tb::l,0,_=>by rw[LW];simp
 |tb::l,i+1,h=>by
  have:=Nm (L:=l) (i:=i) (eP h);rw[LW];simp only[List.getD_cons_succ];omega
theorem Gt{q:bK}(h:ED w hv av ps q)(b:Tz w)(g:mN q 65536≠0):
  aK prog 3 #[.agg #[mX q.name,hv,av],sv] w λe w'=>e=mi (nj qT)/\U w [] w' []:=by
 obtain⟨ha,l,rfl,-⟩:=h.head.len;obtain⟨i,d,rfl,-⟩:=h.aD.len;have a:=h.len;rw[a]at h|-;let⟨wa,c⟩:=D (i5 w (kd #[mX q.name,jS ha (O q.head) l,jS i (O q.aD) d] 25));let⟨p,j⟩:=D (i7 w.heap);have cV:=Za c;have m:=Ze c j;obtain⟨b0,n,b2⟩:=Z3 m;have XZ:=(b.on cV);have LL:=(Wc 65536 (h.on cV) (b.on cV) g);exact ZM67
theorem Og{q:bK}{cs:List Chg}(h:ED w hv av ps q)(hs:TJ w sv cs)(hw:Tz w)(h0:(aB q).1=0):
  aK prog 3 #[.agg #[mX q.name,hv,av],sv] w λe w'=>e=mi (nj qT)/\U w [] w' []:=by
 obtain⟨sa,sc,rfl,-⟩:=hs.rd.len;obtain⟨ha,hc,rfl,-⟩:=h.head.len;obtain⟨aa,ac,rfl,-⟩:=h.aD.len;have p:=h.len;rw[p]at h|-;obtain⟨wa,dM⟩:=D (i5 w (kd #[mX q.name,jS ha (O q.head) hc,jS aa (O q.aD) ac] 25));obtain⟨bq,EK⟩:=D (i7 w.heap);have cV:=Za dM;have lC:=Ze dM EK;obtain⟨b0,b1,b2⟩:=Z3 lC;have HQ:=(h.on cV);have XZ:=(hw.on cV);have LL:=(aJa (ρ:=λ_=>0) 10 65536 HQ XZ h0 E (λ_ _=>rfl) E);rw[show((65536:Nat):Int)=65536 from rfl]at LL;have HS:=Z (hs.on cV);obtain⟨m,hm⟩:=D (O cs);have rP:m<=1048576:=by rw[<-hm];exact hs.len
 rw[hm]at HS|-;have HMM:=Z hm;clear h hs hw hm;go_in;go_upto_region 6 with(go_at_call 6;refine LL.mono ?_;rintro e w1 ⟨bt,d,dX,rfl,pJ,zP,hD1⟩;have nT:=Z (BR.mk (v:=cR) (L:=[]) (vE:=[]) (pJ.aL (T:=OrS) nZ) zP hD1 (pE.nil _ _));clear pJ zP hD1);clear b0 b1 b2 dM;go_loopg [8,42] m (λgg s8 s42 wr=>∃(k:Nat) (QV:bC) (t:iL) (L:List Tb) (vE:List (dO×aE)),k<=m/\gg=m-k/\s42=X k/\BR wa wr QV q bt d k t s8 L vE/\YY q 65536 t.T (YA L)/\K2 L/\aSE L/\ux L<=k/\O L<=k)
 .exact⟨0,dX,LU,[],[],Y,rfl,rfl,nT,YY.start q,⟨J,λtb h=>by cases h⟩,λs x h=>by simp[YA]at h,fV _,fV _⟩
 obtain⟨k,QV,t,L,vE,hk,CP,rfl,hL,hD,td,hfi,P,p⟩:=hrel;have JY:=Z CP;have HL:=Z hL;obtain⟨va,vc,rfl,-⟩:=hL.tbs.aAQ;have hmm:=rP;clear CP hL;by_cases aY:k<m
 .have yh:k<O cs:=by rw[HMM.o];exact aY
  obtain⟨g,o,cap,hv,-,dW⟩:=fM.aS (HS.rd.on HL.eU) yh;rw[HMM.o]at hv;injection hv with x1 x2 x3;clear x2 x3;subst x1;have c0:=dW 0 E;have c1:=dW 1 E;have c2:=dW 2 E;rw[qZ]at c0;obtain⟨zJ,pZ⟩:=HS.lD _ (bO (d:=Kb) yh);obtain⟨⟨add,rel,rv,r⟩,hc⟩:∃c,hJ cs k Kb=c:=⟨_,rfl⟩;rw[hc]at c0 c1 c2 zJ pZ;obtain⟨ra,rc,hrv,-⟩:=zJ.len;dsimp only at hrv;subst hrv;dsimp only[aKx]at c0 c1 c2 zJ pZ;obtain⟨w2,rM⟩:=D (i5 wr (kd #[nj add,mX rel,jS ra (O r) rc] 36));obtain⟨bx,mJ⟩:=D (i7 wr.heap);have bM:=Za rM;have Lp:=Ze rM mJ;have EC:bI wr QV eZ w2 (up wr 7 QV):=bM.fK (S:=eZ) 7 (λ_ h=>dY h J);have htx:up wr 7 QV bx=7:=cY Y;obtain⟨fD,Hl⟩:=D (up wr 7 QV);rw[Hl]at EC htx;have EL:=HL.on EC;obtain⟨x0,x1,x2⟩:=Z3 Lp;have Ik:=Z (PZ (add:=add) (rel:=rel) EL.oU (kX rP) (EL.row zJ) (Km E E) pZ E);have Ga:=Z EL;have Tu:=(eI Lp htx);have HK:=Z aY;have BH:(k:Int)<(m:Int):=Y;obtain⟨bEs,hR⟩:=D (fC (aZ (aB q).2) 65536 (O q.aD) t add (pD q rel) (d8 q r));rw[hR]at Ik;clear dW hc Lp EC htx Hl EL yh aY hk;go_upto_region 9 with(go_at_call 8;refine Ik.mono ?_;rintro e w3 ⟨mI,rfl,xT,QC⟩;have pM:=Z (Ga.O0 xT QC);clear QC);obtain⟨w4,uC⟩:=D (i5 w3 (kd #[X (bEs.2.1:Int),X (bEs.2.2.1:Int)] 38));have eJ:=Za uC;have xD:bI w3 mI eZ w4 (up w3 7 mI):=eJ.fK (S:=eZ) 7 (λ_ h=>dY h J);rw[uC];obtain⟨G8,Hk⟩:=D (up w3 7 mI);rw[Hk]at xD;have a3V:=xD.aC (xT.aC Tu.1 (by rw[Tu.2];exact Km E E)) id;have LN:=Z (pM.on xD);clear x0 x1 x2 eJ xD Hk rM mJ;by_cases h0:bEs.2.2.2=0
  .have g0:((bEs.2.2.2:Int)==0)=qT:=by rw[h0];rfl
   have HD5:=(YY.change Ga.oU.ok Ga.oU.ZM td hD hR h0);have aYF:=(aBN (add:=add) (rel:=rel) (r:=r) td);have aYA:=(ky (add:=add) (c:=rel) td hfi pZ);have aXL:=(kx (add:=add) (rel:=rel) (r:=r) (L:=L));have aXn:dT (O (if dS r then iS add rel r L else L)<=O L+1):=Z (by split;exact Bi L;omega);have HMO:=(aBM (add:=add) (rel:=rel) LN.tbs (LN.row zJ).1 (λv hv=>(pZ.2 v hv).1) pZ.1 (pN p rP) (λi hi=>by have:=Nm hi;have:=P;have:=rP;omega) (λi hi x hx=>by have hv:=(td.aT _ (bO hi)).2 x hx;unfold dS at hv;simp only[My,QX]at hv;omega));obtain⟨L5,lU⟩:=D ((if dS r then iS add rel r L else L));rw[lU]at HD5 aYF aYA aXL aXn HMO;obtain⟨x0,x1,x2⟩:=Z3 a3V;clear lU;go_wp2_with (go_at_call 9;refine HMO.mono ?_;rintro e w5 ⟨oT,u,a3f,rfl,F,FA⟩;have pL:=Z (LN.aEv F FA);clear F FA);go_roundg (m-(k+1))
   .exact⟨k+1,oT,bEs.1,L5,a3f,HK,rfl,eY,pL,HD5,aYF,aYA,pN aXL P,pN aXn.o p⟩
   have:=JY.o;have:=HK.o;omega
  .have g0:((bEs.2.2.2:Int)==0)=rR:=kG GD;have HT:=(RL Ga.oU.ok Ga.oU.ZM hR h0).1;go_wp2;go_roundg (m-(k+1))
   .exact⟨k+1,G8,bEs.1,L,vE,HK,rfl,eY,LN,by rw[HT];exact hD,td,hfi,kX P,kX p⟩
   have:=JY.o;have:=HK.o;omega
 .obtain rfl:k=m:=Y;have EK:=HL.eU.aC lC J;obtain⟨b0,b1,b2⟩:=Z3 EK;have aYH:=(GL _ _ _ q wr (HQ.on HL.eU));clear EK;go_upto_region 13 with(first
   |(go_at_call 10;refine HNW.mono ?_;rintro e w6 ⟨bu,qJ,rfl,dR,hold,hT6⟩;have aCb:=Z hold;clear hold)
   |(go_at_call 11;refine aYH.mono ?_;rintro e w5 ⟨A8,av2,ps2,rfl,LH,cO⟩;obtain⟨ya,yc,rfl,-⟩:=LH.head.len;obtain⟨za,zc,rfl,-⟩:=LH.aD.len;have HNW:=(PM (ρ:=QV) 20000 65536 (LH.qin HQ.eD) LH.head.N4 (XZ.on (HL.eU.ds cO)) h0 E);rw[show((65536:Nat):Int)=65536 from rfl]at HNW;clear LH))
  have SU:=cO.ds dR;have SX:bI wr QV eZ w6 qJ:=⟨SU.os,SU.tape,SU.output,SU.size,λk hk _=>SU.block k hk J,λk hk=>aCb.o k (xF hk cO.size)⟩;have HW6:=(wT.mk (HL.on SX) hT6);clear SU SX b0 b1 b2 aYH HNW aCb;obtain⟨n,hn⟩:=D (O L);have TW:n<=1048576:=by rw[<-hn];have:=p;omega
  rw[hn]at HW6|-;have HN:=Z hn;have e1:IntKind.i64.wrap ((n:Int)-1)=(n:Int)-1:=QY _ Y;clear hn aY hk HL;go_upto_region 16 with(fail);clear e1;go_loopg [15] n (λgg s15 wx=>∃(c M:Nat) (gL:bC) (u:iL),c<=n/\gg=c/\s15=X ((c:Int)-1)/\wT wa wx gL q bt d k t (jS va n vc) L vE bu M u/\YY q 65536 u.T (YA (L.drop c))/\M=ux (L.drop c))
  .exact⟨n,0,qJ,LU,fV _,rfl,rfl,HW6,by rw[gz (by rw[HN.o];exact fV _)];exact YY.start q,by rw[gz (by rw[HN.o];exact fV _)];rfl⟩
  obtain⟨c,M,gL,u,hc,hgc,rfl,V,hD2,hM⟩:=hrel;by_cases MU:c=0
  .subst MU;obtain⟨oB,Q6⟩:=YY.OE nT.oU.ok V.one.oU.ZM V.uu.ZM hD (by have:=hD2;rw[List.drop_zero]at this;exact this);obtain⟨S,hS⟩:=D (eH (aZ (aB q).2) t.T);rw[hS]at oB;have Y0:=Z hS;have HSU:=Z oB.symm;have hss:((S:Int)!=(S:Int))=rR:=J;obtain⟨dcs,da,dc,hDb,hD5,-⟩:=V.one.doc;have HDB:=(eI hDb (aP hDb hD5));clear hS oB hDb hD5;go_upto_region 26 with(first
    |(go_at_call 12;refine(yV (V.uu.bd.on cT) V.one.oU.ok.oE).mono ?_;rintro e w8 ⟨rfl,bM⟩;rw[HSU.o])
    |(go_at_call 12;refine(yV V.one.oU.bd V.one.oU.ok.oE).mono ?_;rintro e w7 ⟨rfl,cT⟩;rw[Y0.o]))
   have HW8:=((V.on (cT.fL (S:=eZ))).on (bM.fL (S:=eZ)));have d5:=(cT.ds bM).cell HDB.2 J;have dl:=iP (dG ((cT.ds bM).aC HDB.1 J));obtain⟨nn,hnn⟩:=D (O (aB q).2.aI);rw[hnn]at d5;have Tr:=Z hnn;have qj:nn<=42:=by rw[<-hnn];exact nT.oU.ok.oE
   clear hss hnn;go_upto_region 27 with(fail);clear d5 dl;go_loopg [120] nn (λgg a04 wz=>∃(y:Nat) (G:bC),y<=nn/\gg=nn-y/\a04=X y/\wT wa wz G q bt d k t (jS va n vc) L vE bu M u)
   .exact⟨0,gL,Y,rfl,rfl,HW8⟩
   obtain⟨y,G,hy,hgy,rfl,a⟩:=hrel;by_cases hyn:y<nn
   .have W:y<O (aB q).2.aI:=by rw[Tr.o];exact hyn
    have xw:(y:Int)<(nn:Int):=Y;have HR1:=(ZK (t:=1) a.one.oU.bd nT.oU.ok.oE W (.inl (by unfold mR;omega)));have NH:dT (∀x,x<20000->¬fU (mR 20000 y) x):=Z λx hx h=>by have:=PW h;omega
    have a4u:dT (mR 10 y+27<20000):=Z (by have:=nT.oU.ok.oE;unfold mR;omega);clear hy;go_upto_region 31 with(first
     |(go_at_call 13;refine(ZK (t:=1) HWA.uu.bd nT.oU.ok.oE W (.inl (by unfold mR;omega))).mono ?_;rintro e wb ⟨ρb,ub,rfl,hMb,VB,hRb⟩;obtain⟨xb,yb,rfl,-⟩:=hRb.len;have N:=(HWA.aTW W hMb VB);have aX0:=(hRa.eb hMb (NH.o _ a4u) (NH.o 1 E));clear hMb VB)
     |(go_at_call 13;refine HR1.mono ?_;rintro e wc ⟨E5,ua,rfl,kK,kI,hRa⟩;obtain⟨xa,ya,rfl,-⟩:=hRa.len;have HWA:=(a.aTX W kK kI);clear kK kI))
    have a5s:=(N6 65536 _ _ _ (N.one.oU.bd.R5 W).1 E aX0.rw aX0.N4 (N.one.oU.bd.aMN W));have a5r:=(λwz (hz:U wb [] wz [])=>N6 65536 _ _ wz (N.uu.bd.R5 W).1 E (hRb.rw.on hz) hRb.N4 (N.uu.bd.aMN W));have HEX:=(λ(A B:List Row) (hA:Ti A) (hB:Ti B) (mA:∀z,z∈A↔z∈(t.T y).aM) (mB:∀z,z∈B↔z∈(u.T y).aM)=>Ti.ext hA hB λz=>(mA z).ds ((Q6 y W z).ds (mB z).symm));go_wp2_with (first
     |(go_at_call 14;refine(aEZ (hOA.rw.on hUB) hOB.rw).mono ?_;rintro e wg ⟨rfl,WO⟩;rw[kY (HEX _ _ YU.1 HSB.1 YU.2 HSB.2)])
     |(go_at_call 15;refine(a5r _ aV7).mono ?_;rintro e wf ⟨uB,B,rfl,hOB,hSB,hMB,-,hUB⟩;obtain⟨qb,rb,rfl,-⟩:=hOB.rw.len;have HSB:=(eI hSB hMB);clear hSB hMB)
     |(go_at_call 15;refine a5s.mono ?_;rintro e we ⟨uA,A,rfl,hOA,hSA,hMA,-,aV7⟩;obtain⟨qa,ra,rfl,-⟩:=hOA.rw.len;have YU:=(eI hSA hMA);clear hSA hMA))
    go_roundg (nn-(y+1))
    .exact⟨y+1,ρb,hyn,rfl,eY,N.on ((aV7.ds (hUB.ds WO)).fL (S:=eZ))⟩
    have:=hgy;have:=hyn;omega
   .obtain rfl:y=nn:=Y;go_wp2_with (go_at_call 7;refine(O2 (XZ.on a.one.eU)).mono ?_;rintro e wy ⟨rfl,rY⟩);go_ret;exact⟨rfl,cV.ds (a.one.eU.ds rY)⟩
  .obtain⟨i,rfl⟩:∃i,c=i+1:=⟨c-1,Y⟩;have e1:(((i+1:Nat):Int)-1)=(i:Int):=Y;rw[e1];clear e1 MU;obtain⟨g,cap,xa,xc,hv,CC,c0,c1,f,KW⟩:=V.one.tbs.aS (i:=i) (kG HN.o);rw[HN.o]at hv;injection hv with x1 x2 x3;clear x2 x3;subst x1;obtain⟨⟨nm,aT⟩,rN⟩:∃x,hJ L i EH=x:=⟨_,rfl⟩;rw[rN]at c0 c1 f KW;dsimp only at c0 c1 f KW;have KO:=Z rN;have HG8:=Z CC;have HC0:=Z c0;have Ik:=Z c1;have YI:O aT<=1048576:=by
    have h5:O aT<=ux L:=by
     have h6:=Nm (L:=L) (i:=i) (kG HN.o);rw[rN]at h6;exact h6
    have:=P;omega
   have e1:IntKind.i64.wrap ((O aT:Int)-1)=(O aT:Int)-1:=QY _ Y;clear KW rN CC;go_upto_region 19 with(fail);clear c0 c1 e1;have XM:i<O L:=kG HN.o;have ou:=YY.next XM hD2;rw[show hJ L i (bU,[])=(nm,aT)from KO.o]at ou;go_loopg [16] (O aT) (λgg s16 wz=>∃(e M2:Nat) (G:bC) (u2:iL),e<=O aT/\gg=e/\s16=X ((e:Int)-1)/\wT wa wz G q bt d k t (eC g 0 n vc) L vE bu M2 u2/\YY q 65536 u2.T (YA ((nm,aT.drop e)::L.drop (i+1)))/\M2=M+(O aT-e))
   .exact⟨O aT,M,gL,u,fV _,rfl,rfl,V,ou,Y⟩
   obtain⟨e,M2,G,u2,he,xC,rfl,a,hDz,hMz⟩:=hrel;by_cases Lh:e=0
   .subst Lh;have e2:IntKind.i64.wrap ((i:Int)-1)=(i:Int)-1:=QY _ Y;go_wp2;go_roundg i
    .have kW:L.drop i=(nm,aT)::L.drop (i+1):=by rw[aLD (d:=EH) XM,KO.o]
     refine⟨i,M2,G,u2,Y,rfl,eY,a,by rw[kW];exact hDz,?_⟩;rw[kW,LW,hMz,hM];dsimp only;omega
    have:=hgc;omega
   .obtain⟨j,rfl⟩:∃j,e=j+1:=⟨e-1,Y⟩;have e1:(((j+1:Nat):Int)-1)=(j:Int):=Y;rw[e1];clear e1 Lh;obtain⟨g2,gW,ya,yc,A8,CC,c0,c1,f,KW⟩:=a.one.tbs.aS (i:=i) XM;injection A8 with x1 x2 x3;injection x1 with x1;injection x1 with x1;subst x1;clear x2 x3;rw[KO.o]at c0 c1 f KW;dsimp only at c0 c1 f KW;obtain⟨gr,or,cpr,za,zc,hv3,cr,hRR⟩:=f.rws.aS (k:=j) Y;injection hv3 with x1 x2 x3;subst x1;clear x2 x3;obtain⟨x,hx⟩:=D (hJ aT j []);rw[hx]at cr hRR;have hfx:CE x:=hfi nm x ⟨(nm,aT),by rw[<-KO.o];exact bO XM,rfl,by rw[<-hx];exact bO (l:=aT) Y⟩;obtain⟨R2,rU⟩:=D (fC (aZ (aB q).2) 65536 (O q.aD) u2 qT (pD q nm) (d8 q x));have yd:=YY.vO nT.oU.ok a.one.oU.ZM a.uu.ZM hD XM (show hJ L i (bU,[])=(nm,aT)from KO.o) (j:=j) Y hDz (by rw[hx,rU]);have HC:=Z (λw' bV (hM:bI wr G eZ w' bV)=>PZ (add:=qT) (rel:=nm) (a.uu.eb hM vF) (by have:=hMz;have:=hM;have:=Um (i+1) L;have:=P;omega) (hRR.eb hM id) (zE (.inl E) E) hfx E);rw[rU]at HC;have Mv:=(f.rws.a34 (by omega:0<O aT));have su:=Z CC;have O7:=Z hRR;have HK0:=Z (eI (IL c0) (IL cr));have jr:(j:Int)<(O aT:Int):=Y;have inn:(i:Int)<(n:Int):=Y;have YW:=(show j+1<=O aT from he);clear KW hx hfx rU CC hRR he;go_upto_region 21 with(fail);go_cut [18] (λs18 wx=>∃oT,s18=X 0/\wT wa wx oT q bt d k t (eC g 0 n vc) L vE bu (M2+1) R2.1)
    case first=>
     refine e7 99 (ez c0<|ez c1<|ey cr) (λQ=> ?_);clear c0 c1 cr;obtain⟨wd,fF⟩:=D (wr.drew);have pH:U wr [] wd []:=A1 fF;rw[fF]at Q|-;have LL:=(pH.fL (S:=eZ) (ρ:=G));clear fF pH;refine ek [0,1,2,6,7,11,3,8,4,9,5,10,12,13,14] ?_;refine vG (i:=15) (j:=19) dJ rfl rfl rfl rfl (λvm hK=> ?_) (λvm hK=> ?_)
     .go_simp;go_at_call 8;refine(HC.o _ _ LL).mono ?_;rintro e w5 ⟨oT,rfl,F,FA⟩;dsimp only;rw[show((R2.2.2.2:Nat):Int)=0 by rw[yd.1];rfl];have L7:=Z ((a.on LL).O0 F FA);have C:=Q;have Q:=eI (F.cell C.1 (by show¬TI 20000 (G g);rw[su.o];exact zE (.inl E) E)) (eI (F.cell C.2.1 (by show¬TI 20000 (G g);rw[su.o];exact zE (.inl E) E)) (F.cell C.2.2 (by show¬TI 20000 (G gr);rw[Mv];exact zE (.inr Y) Y)));clear F FA C;refine Zk hK Q<|I 16 ?_;refine ek [17,18] ?_;refine Zo 19 λvm hK=> ?_;go_simp;obtain⟨w6,iA⟩:=D (i5 w5 (kd #[X 0,X 0] 38));have dR:=Za iA;have mK:=Zb iA;rw[iA];have C:=Q;replace Q:=dR.gm Q;have bf:=aN mK;have b0:=Zc mK 0;have b1:=Zc mK 1;have bl:=iP (dG mK);refine Zk hK Q<|Zo 20 λvm hK=> ?_;go_simp;obtain⟨w7,vV⟩:=D (hY (hY w6 ⟨w5,0,K⟩ (X (R2.2.1:Int))) ⟨w5,1,K⟩ (X (R2.2.2.1:Int)));have rT:U w6 [i7 w5.heap] w7 [i7 w5.heap]:=vV▸(UK mK).2;rw[vV];have sZ:=dR.bJ rT (λb hb=>by simp at hb;omega);have Q:=C;replace Q:=sZ.gm Q;have HW7:=(L7.on (sZ.fL (S:=eZ)));clear rT sZ C bf b0 b1 bl iA vV;refine Zk hK Q<|I 21 ?_;refine bD dJ ?_ _;clear Q;go_wp2;go_meet;exact⟨oT,rfl,HW7⟩
     .go_simp;obtain⟨w6,iA⟩:=D (i5 wd (kd #[X 0,X 0] 38));obtain⟨bk,Ta⟩:=D (i7 wd.heap);have dR:=Za iA;have mK:=Ze iA Ta;have SX:bI wd G eZ w6 (up wd 7 G):=dR.fK (S:=eZ) 7 (λ_ h=>dY h J);have rN:up wd 7 G bk=7:=cY Y;obtain⟨qJ,XG⟩:=D (up wd 7 G);rw[XG]at SX rN;rw[iA,Ta];replace Q:=dR.gm Q;have HMW:=(LL.ds SX);have dg:=Z rN;clear SX rN XG iA Ta;refine Zk hK Q<|Zo 15 λvm hK=> ?_;go_simp;go_at_call 8;refine(HC.o _ _ HMW).mono ?_;rintro e w5 ⟨oT,rfl,F,FA⟩;dsimp only;rw[show((R2.2.2.2:Nat):Int)=0 by rw[yd.1];rfl];have L7:=Z ((a.on HMW).O0 F FA);have t8:=(HMW.cE g HK0.1).ds su.o;have t4:=(HMW.cE gr HK0.2).ds Mv;have C:=Q;have Q:=eI (F.cell C.1 (by show¬TI 20000 (qJ g);rw[t8];exact zE (.inl E) E)) (eI (F.cell C.2.1 (by show¬TI 20000 (qJ g);rw[t8];exact zE (.inl E) E)) (F.cell C.2.2 (by show¬TI 20000 (qJ gr);rw[t4];exact zE (.inr Y) Y)));have uV:=F.aC mK (by rw[dg.o];exact zE (.inl E) E);have tb5:=(F.cE bk (dG mK)).ds dg.o;have bf:=aN uV;have b0:=Zc uV 0;have b1:=Zc uV 1;have bl:=iP (dG uV);have hng:¬g=bk:=λe=>by rw[e,dg.o]at t8;omega
      have aU0:¬gr=bk:=λe=>by rw[e,dg.o]at t4;omega
      clear F FA C t8 t4;refine Zk hK Q<|I 16 ?_;refine ek [17,18] ?_;refine Zo 20 λvm hK=> ?_;go_simp;obtain⟨w7,vV⟩:=D (hY (hY w5 (Ad bk 0) (X (R2.2.1:Int))) (Ad bk 1) (X (R2.2.2.1:Int)));have rT:U w5 [bk] w7 [bk]:=vV▸(UK uV).2;rw[vV];have C:=Q;have Q:=eI (rT.cell C.1 (eP hng)) (eI (rT.cell C.2.1 (eP hng)) (rT.cell C.2.2 (eP aU0)));have LA:=(rT.qO (ρ:=oT) (S:=(·=7)) (λk hk=> .inl (by rw[show k=bk by simpa using hk];exact tb5)));clear rT C bf b0 b1 bl vV uV tb5 hng aU0;refine Zk hK Q<|I 21 ?_;refine bD dJ ?_ _;clear Q;go_wp2;go_meet;exact⟨oT,rfl,L7.on7 LA⟩
    case rest=>
     obtain⟨oT,rfl,hW5⟩:=hcut;have L7:=Z hW5;clear hW5 c0 c1 cr;go_wp2;go_roundg j
     .exact⟨j,M2+1,oT,R2.1,kX YW,rfl,eY,L7,yd.2,pN hMz YW⟩
     have:=xC;omega
theorem Gu{q:bK}{cs:List Chg}(h:ED w hv av ps q)(hs:TJ w sv cs)(b:Tz w):
  uJ 3 #[.agg #[mX q.name,hv,av],sv] w λe w'=>e=mi (nj qT)/\U w [] w' []:=by
 by_cases a:mN q 65536=0
 .exact Og h hs b (MH a)
 .exact Gt h b a
end
end Go.Proofs.YtohhhhfdpceppaaGreatDoor
