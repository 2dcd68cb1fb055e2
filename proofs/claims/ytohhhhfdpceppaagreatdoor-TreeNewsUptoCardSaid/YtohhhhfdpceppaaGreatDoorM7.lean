/- Part of the proof that the tied card of a law of the tree holds; no condition is added. -/
import Derived.Test.YtohhhhfdpceppaaGreatDoorM3
import Derived.Test.YtohhhhfdpceppaaGreatDoorM6
namespace Go.Proofs.YtohhhhfdpceppaaGreatDoor
set_option maxHeartbeats 4000000
set_option maxRecDepth 100000
set_option linter.all false
open Go.RowKit Go.Maps Go.Proofs.Tryz Tryz
open _root_.Array renaming size→i7,replicate_succ→El,replicate_zero→EA
open _root_.Bool renaming false→rR,true→qT,not_false→JJ
open _root_.Go.Ending renaming returned→mi
open _root_.Go.IntKind renaming i64→mn
open _root_.Go.Obj renaming cells→kd
open _root_.Go.Value renaming bool→nj,int→mj,ownBlock→i6,pointer→lr,slice→jS,string→mX,tuple→mr
open _root_.Go.World renaming alloc→i5,cell?→h8,setCell→hY
open _root_.Inhabited renaming default→sT
open _root_.List renaming getD→hJ,length→O,length_singleton→oq,length_append→vW,length_nil→x',erase→y',length_pos_iff_exists_mem→zb,take_add_one→Bk,range→B0,length_take→B2,take_length→B4,getElem?_replicate→B5,take_append_drop→Co,replicate→Ct,nodup_nil→Dc,append_toArray→EB,size_toArray→F6,push_toArray→H3,nodup_range→Ic,range'→IF,sum_append→I2,length_zip→I3
open _root_.Option renaming none→K,some→H
open Go renaming World→aA,Value→aE,Calls→aK,TypeId→ap,maxLen→bH,Ending→cc,Addr→cg
open Go.RowKit renaming Hid→dT
open _root_.Nat renaming zero_le→gz,lt_of_lt_of_le→oj,zero_lt_of_lt→wn,le_refl→yo,not_lt_zero→zn,succ_mul→zo,add_zero→zN,mul_one→z',le_trans→B6
variable{i:Nat}{T:gZ}{r:Row}
section
theorem ZM151{P:Prop}(h:P:=by
  have:v≠i:=λe=>us.leaf hk u (e▸Q1);rw[hO v this,hO u hu];exact h.aJ u v Q1):P:=h
structure tC(P:AC)(T:gZ):Prop where
 all:TQ P T
 aJ:aIB P T
 eD:K1 P T 512
theorem P8:∀{xs l:List Row},l.Nodup->xs.foldl y' l=l.filter λx=>decide (x∉xs)
 |[],l,_=>by grind [List.filter_eq_self]
 |x::xs,l,h=>by
  rw[List.foldl_cons,P8 (h.erase x),h.erase_eq_filter,List.filter_filter];congr 1;funext y;by_cases e:y=x
  .subst e;simp
  .simp[e]
section
variable{P:AC}{sc D3:Nat->Nat}
theorem tC.xJ(f:tX P sc D3){T':gZ}(h:tC P T)(c:tC P T')(x:∀v,v<P.n->(P.spec v).aG=1\/(P.spec v).aG=2\/(P.spec v).aG=3)(hl:∀v,v<P.n->(P.spec v).aG=1->∀r,r∈(T v).aM↔r∈(T' v).aM):∀v,v<P.n->∀r,r∈(T v).aM↔r∈(T' v).aM:=by
 intro v;induction v using Nat.strongRecOn with
 |ind v ih=>
  intro hv r;rcases x v hv with y|j|p
  .exact hl v hv y r
  .let⟨b,q⟩:=f.fJ v hv Y;have m:=(f.up _ _ b).1;have d:=ih (sc v) m Y;have a:=h.aJ _ _ b;have e2:=c.aJ _ _ b;unfold eN at a e2;rw[bW j]at a e2;rw[(h.all v hv).FI j,(c.all v hv).FI j,a,e2,zb,zb];simp_all
  .let⟨b,q⟩:=f.fJ v hv Y;let⟨l,w⟩:=f.sd v hv p;have m:=(f.up _ _ b).1;have u:=(f.up _ _ l).1;have d:=ih (sc v) m Y;have i:=ih (D3 v) u Y;have a:=h.aJ _ _ b;have e2:=c.aJ _ _ b;have g:=h.aJ _ _ l;have e:=c.aJ _ _ l;unfold eN at a e2 g e;rw[R Y,q]at a e2;rw[R Y,w]at g e;simp only[Nc,E6,yN]at a e2 g e;rw[((h.all v hv).US p).2.2,((c.all v hv).US p).2.2,a,e2,g,e,d,i]
theorem tC.ext(f:tX P sc D3){T':gZ}(h:tC P T)(g:tC P T')(hl:∀v,v<P.n->(T v).aM=(T' v).aM)(l:∀v,P.n<=v->T v=T' v):T=T':=by
 funext v;rcases YB v P.n with hv|hv
 .have a:=h.all v hv;have b:=g.all v hv;have e:=hl v hv;have z:(T v).eG=(T' v).eG:=by
   rcases Nat.decEq (P.spec v).aG 2 with i|i
   .rw[a.z2 i,b.z2 i]
   .let⟨c,q⟩:=f.fJ v hv Y;have j:=h.aJ _ _ c;have e2:=g.aJ _ _ c;unfold eN at j e2;rw[bW i]at j e2;funext r;rw[j,e2,hl (sc v) (kX (f.up _ _ c).1)]
  have p:(T v).fJ=(T' v).fJ/\(T v).sd=(T' v).sd:=by
   rcases Nat.decEq (P.spec v).aG 3 with d|d
   .rw[(a.z3 d).1,(a.z3 d).2,(b.z3 d).1,(b.z3 d).2];exact⟨rfl,rfl⟩
   .let⟨c,q⟩:=f.fJ v hv Y;let⟨m,w⟩:=f.sd v hv d;have j:=h.aJ _ _ c;have e2:=g.aJ _ _ c;have y:=h.aJ _ _ m;have x:=g.aJ _ _ m;grind [eN]
  cases u:T v<;>simp_all
 .exact l v hv
theorem tX.leaf(c:tX P sc D3)(b:(P.spec i).aG=1):∀j,P.dI j≠H i:=λj h=>by rcases c.aG j i h with⟨a,_⟩|a<;>omega
theorem tX.o(b:tX P sc D3)(a:P.n<=i):∀j,P.dI j≠H i:=λj h=>by have:=(b.up j i h).2;omega
theorem SI(us:tX P sc D3){w:jU}(h:tC P w.T)(m:i<P.n)(hk:(P.spec i).aG=1)(hm:(P.spec i).aH=512):
  ((fE P qT w i rR r=(w,[],0,191)/\r∈(w.T i).aM)\/(fE P qT w i rR r=(w,[],0,31)/\r∉(w.T i).aM/\O (w.T i).aM=512)\/
  ((fE P qT w i rR r).2.2.2=0/\r∉(w.T i).aM/\O (w.T i).aM<512/\tC P (eT P qT P.n i (fE P qT w i rR r).2.1 (fE P qT w i rR r).1).T/\((eT P qT P.n i (fE P qT w i rR r).2.1 (fE P qT w i rR r).1).T i).aM=(w.T i).aM++[r]/\
   (∀j,j≠i->(P.spec j).aG=1->(eT P qT P.n i (fE P qT w i rR r).2.1 (fE P qT w i rR r).1).T j=w.T j)/\(∀j,P.n<=j->(eT P qT P.n i (fE P qT w i rR r).2.1 (fE P qT w i rR r).1).T j=w.T j)/\
   ∀v,∃new,((eT P qT P.n i (fE P qT w i rR r).2.1 (fE P qT w i rR r).1).T v).aM=(w.T v).aM++new))/\∀C,RC P qT 512 C->C P.n i (fE P qT w i rR r).2.1 (fE P qT w i rR r).1:=by
 have q:=h.all i m;have hS:=h.eD i m;by_cases c:r∈(w.T i).aM
 .have e:fE P qT w i rR r=(w,[],0,191):=by grind [fE,iX,OF]
  exact⟨.inl ⟨e,c⟩,λC l=>l.1 _ _ _ _ (.inr (by rw[e]))⟩
 .by_cases A:O (w.T i).aM=512
  .have e:fE P qT w i rR r=(w,[],0,31):=by grind [fE,iX,OF]
   exact⟨.inr (.inl ⟨e,c,A⟩),λC l=>l.1 _ _ _ _ (.inr (by rw[e]))⟩
  .have p:OF (P.spec i) (w.T i) rR r= .ok ({w.T i with aM:=(w.T i).aM++[r]},⟨[r],[r]⟩):=by unfold OF;rw[bW hk,R c,R (hm▸A)]
   let⟨V,y,z⟩:=aGz (w:=w) p;generalize hd:fE P qT w i rR r=d at V y z|-;have g:d.1.T i={w.T i with aM:=(w.T i).aM++[r]}:=by simp_all [n7]
   have hO:∀v,v≠i->d.1.T v=w.T v:=λv hv=>by simp_all [sO]
   have L:((w.T i).aM++[r]).Nodup:=by
    rw[Fh];exact⟨q.dD,J,λa ha b hb e=>by grind⟩
   have q1:TQ P d.1.T:=by
    intro v hv;by_cases e:v=i
    .subst e;rw[g];exact⟨L,λG=>Y,λG=>Y,q.z2,q.z3⟩
    .rw[hO v e];exact h.all v hv
   have W:∀u v,P.dI u=H v->u≠i->eN (P.spec v) (d.1.T v) (P.dN u) (d.1.T u).aM:=by
    intro u v Q1 hu;exact ZM151
   have k:∀v,P.dI i=H v->eN (P.spec v) (d.1.T v) (P.dN i) (w.T i).aM:=by
    intro v hv;rw[hO v (λe=>us.leaf hk i (e▸hv))];exact h.aJ i v hv
   have q4:(d.1.T i).aM=(w.T i).aM++d.2.1:=by
    rw[g,y]
   have N:K1 P d.1.T 512:=by
    intro v hv;by_cases e:v=i
    .grind
    .rw[hO v e];exact h.eD v hv
   let⟨r1,r2,S,Q,F⟩:=vu us (B:=512) E P.n i d.2.1 d.1 (w.T i).aM Y m q1 W k q4 N;refine⟨.inr (.inr ⟨z,c,Y,⟨r1,r2,S⟩,?_,λj x f=> ?_,λj x=> ?_,λv=> ?_⟩),F⟩
   .rw[sP (us.leaf hk),g]
   .rw[sP (us.leaf f),hO j x]
   .rw[sP (us.o x),hO j Y]
   .let⟨new,aFk⟩:=Q v;grind
theorem GQ(us:tX P sc D3){w:jU}(h:tC P w.T)(l:i<P.n)(hk:(P.spec i).aG=1):
  ((fE P rR w i rR r=(w,[],0,192)/\r∉(w.T i).aM)\/
  ((fE P rR w i rR r).2.2.2=0/\r∈(w.T i).aM/\tC P (eT P rR P.n i (fE P rR w i rR r).2.1 (fE P rR w i rR r).1).T/\((eT P rR P.n i (fE P rR w i rR r).2.1 (fE P rR w i rR r).1).T i).aM=(w.T i).aM.erase r/\
   (∀j,j≠i->(P.spec j).aG=1->(eT P rR P.n i (fE P rR w i rR r).2.1 (fE P rR w i rR r).1).T j=w.T j)/\(∀j,P.n<=j->(eT P rR P.n i (fE P rR w i rR r).2.1 (fE P rR w i rR r).1).T j=w.T j)/\
   ∀v,∃xs:List Row,((eT P rR P.n i (fE P rR w i rR r).2.1 (fE P rR w i rR r).1).T v).aM=xs.foldl y' (w.T v).aM))/\∀C,RC P rR 512 C->C P.n i (fE P rR w i rR r).2.1 (fE P rR w i rR r).1:=by
 have b:=h.all i l;have hS:=h.eD i l;by_cases p:r∈(w.T i).aM
 .have g:uN (P.spec i) (w.T i) rR r= .ok ({w.T i with aM:=(w.T i).aM.erase r},⟨[r],[r]⟩):=by unfold uN;rw[bW hk,bW p]
  let⟨L,a,q⟩:=zg (w:=w) g;generalize hd:fE P rR w i rR r=d at L a q|-;have c:d.1.T i={w.T i with aM:=(w.T i).aM.erase r}:=by simp_all [n7]
  have hO:∀v,v≠i->d.1.T v=w.T v:=λv hv=>by simp_all [sO]
  have S:TQ P d.1.T:=by
   intro v hv;by_cases e:v=i
   .subst e;rw[c];exact⟨b.dD.erase r,λy=>Y,λy=>Y,b.z2,b.z3⟩
   .rw[hO v e];exact h.all v hv
  have N:∀u v,P.dI u=H v->u≠i->eN (P.spec v) (d.1.T v) (P.dN u) (d.1.T u).aM:=by
   intro u v Q1 hu;exact ZM151
  have z:∀v,P.dI i=H v->eN (P.spec v) (d.1.T v) (P.dN i) (w.T i).aM:=by
   intro v hv;rw[hO v (λe=>us.leaf hk i (e▸hv))];exact h.aJ i v hv
  have V:(d.1.T i).aM=d.2.1.foldl y' (w.T i).aM:=by
   rw[c,a];rfl
  have A:K1 P d.1.T 512:=by
   intro v hv;by_cases e:v=i
   .grind
   .rw[hO v e];exact h.eD v hv
  let⟨W,r2,k,G,x⟩:=Vf us (B:=512) P.n i d.2.1 d.1 (w.T i).aM Y l S N z V b.dD (by rw[a];simp) BC A (by rw[a];simp);refine⟨.inr ⟨q,p,⟨W,r2,k⟩,?_,λj m F=> ?_,λj m=> ?_,λv=> ?_⟩,x⟩
  .rw[sP (us.leaf hk),c]
  .rw[sP (us.leaf F),hO j m]
  .rw[sP (us.o m),hO j Y]
  .let⟨xs,Q⟩:=G v;grind
 have e:fE P rR w i rR r=(w,[],0,192):=by grind [fE,iX,uN]
 exact⟨.inl ⟨e,p⟩,λC f=>f.1 _ _ _ _ (.inr (by rw[e]))⟩
end
end
variable{c e st:Nat}{t1:iL}
section
theorem ZM85{P:Prop}(h:P:=by
  let⟨a1,a2,a3,dn,a4,a5,a6,a7,a8⟩:=ih {w with aQ:=w.aQ+1} done h;exact⟨a1,a2,a3,dn,a4,a5,λj hj=>by simp[a6 j hj],a7,a8⟩):P:=h
theorem ZM159{P:Prop}(h:P:=by
  let⟨n1,h1⟩:=a2 v;let⟨n2,h2⟩:=e8 v;exact⟨n2++n1,by rw[h1,h2,QJ]⟩):P:=h
section
variable{P:AC}{sc D3:Nat->Nat}{jO:Nat->Bool}{bB:Nat->Option Row}
theorem JN(k:tX P sc D3):∀(l:List Nat) (w:jU) (done:List Nat),l.Nodup->(∀i∈l,i<P.n/\(P.spec i).aG=1/\(P.spec i).aH=512)->tC P w.T->
  tC P (bX P qT jO bB l w done).1.T/\(∀v,∃new,((bX P qT jO bB l w done).1.T v).aM=(w.T v).aM++new)/\(∀j,P.n<=j->(bX P qT jO bB l w done).1.T j=w.T j)/\
  ∃dn,(bX P qT jO bB l w done).2.1=done++dn/\dn.Nodup/\(∀i∈dn,i∈l)/\(∀i∈dn,∃r,bB i=H r/\r∉(w.T i).aM/\((bX P qT jO bB l w done).1.T i).aM=(w.T i).aM++[r])/\
   ∀j,(P.spec j).aG=1->j∉dn->(bX P qT jO bB l w done).1.T j=w.T j
 |[],w,done,_,_,h=>⟨h,λv=>⟨[],by simp[bX]⟩,λ_ _=>rfl,[],by simp[bX],J,J,J,λ_ _ _=>rfl⟩
 |i::l,w,done,hd,hl,h=>by
  rw[U8]at hd;let⟨Q,u,g⟩:=hl i J;have ih:=λ(w':jU) (AU:List Nat) (S:tC P w'.T)=>JN k l w' AU hd.2 (λj hj=>hl j (by simp[hj])) S;unfold bX;cases hh:jO i with
  |false=>
   simp only[JJ,yN];let⟨a1,a2,a3,dn,a4,a5,a6,a7,a8⟩:=ih w done h;exact⟨a1,a2,a3,dn,a4,a5,λj hj=>by simp[a6 j hj],a7,a8⟩
  |true=>
   simp only[Bool.not_true,Nc,E6];cases f:bB i with
   |none=>
    simp only;exact ZM85
   |some r=>
    simp only;have G:tC P ({w with aQ:=w.aQ+1}:jU).T:=h;rcases(SI (r:=r) k G Q u g).1 with⟨a,e2⟩|⟨a,e2,n⟩|⟨a,e2,n,B,C,c,y,A⟩
    .rw[a];simp only[true_or,yN];exact ZM85
    .rw[a];simp only[Nat.reduceEqDiff,or_self,E6,yN];exact⟨h,λv=>⟨[],J⟩,λ_ _=>trivial,[],J,J,J,J,λ_ _ _=>trivial⟩
    .let⟨d,x⟩:=D (fE P qT {w with aQ:=w.aQ+1} i rR r);rw[x]at a B C c y A;rw[x,a];rw[R Y,R Y];let⟨a1,a2,a3,dn,a4,a5,a6,a7,a8⟩:=ih (eT P qT P.n i d.2.1 d.1) (done++[i]) B;have b:i∉dn:=λg=>hd.1 (a6 i g);refine⟨a1,λv=> ?_,λj hj=>(a3 j hj).ds (y j hj),i::dn,by rw[a4];simp,U8.2 ⟨b,a5⟩,λj hj=> ?_,λj hj=> ?_,λj p hj=> ?_⟩
     .let⟨L,W⟩:=a2 v;let⟨n2,N⟩:=A v;exact⟨n2++L,by rw[W,N,zcV]⟩
     .rcases xZ.1 hj with rfl|hj
      .simp
      .simp[a6 j hj]
     .rcases xZ.1 hj with rfl|hj
      .exact⟨r,f,e2,by rw[a8 j u b,C]⟩
      .let⟨q,V,z,m⟩:=a7 j hj;have F:j≠i:=λe=>hd.1 (e▸a6 j hj);rw[c j F (hl j (by simp[a6 j hj])).2.1]at z m;exact⟨q,V,z,m⟩
     .have hj:j≠i/\j∉dn:=eP hj;exact(a8 j p hj.2).ds (c j hj.1 p)
theorem MY(f:tX P sc D3):∀(l:List Nat) (w:jU) (done:List Nat),l.Nodup->(∀i∈l,i<P.n/\(P.spec i).aG=1)->tC P w.T->
  tC P (bX P rR jO bB l w done).1.T/\(∀v,∃xs:List Row,((bX P rR jO bB l w done).1.T v).aM=xs.foldl y' (w.T v).aM)/\(∀j,P.n<=j->(bX P rR jO bB l w done).1.T j=w.T j)/\(bX P rR jO bB l w done).2.2=rR/\
   (∀j,(P.spec j).aG=1->j∉l->(bX P rR jO bB l w done).1.T j=w.T j)/\
   ∀i∈l,((bX P rR jO bB l w done).1.T i).aM=match (if jO i then bB i else K)with|some r=>(w.T i).aM.erase r|none=>(w.T i).aM
 |[],w,done,_,_,h=>⟨h,λv=>⟨[],rfl⟩,λ_ _=>rfl,rfl,λ_ _ _=>rfl,J⟩
 |i::l,w,done,hd,hl,h=>by
  rw[U8]at hd;let⟨G,c⟩:=hl i J;have ih:=λ(w':jU) (AU:List Nat) (C:tC P w'.T)=>MY f l w' AU hd.2 (λj a=>hl j (by simp[a])) C;unfold bX;cases m:jO i with
  |false=>
   simp only[JJ,yN];let⟨a1,a2,a3,a4,a5,a6⟩:=ih w done h;refine⟨a1,a2,a3,a4,λj b a=>a5 j b (λg=>a (by simp[g])),λj a=> ?_⟩;rcases xZ.1 a with rfl|a
   .rw[a5 j c hd.1,m];rfl
   .exact a6 j a
  |true=>
   simp only[Bool.not_true,Nc,E6];cases u:bB i with
   |none=>
    simp only;let⟨a1,a2,a3,a4,a5,a6⟩:=ih {w with aQ:=w.aQ+1} done h;refine⟨a1,a2,a3,a4,λj b a=>a5 j b (λg=>a (by simp[g])),λj a=> ?_⟩;rcases xZ.1 a with rfl|a
    .rw[a5 j c hd.1,m,u];rfl
    .exact a6 j a
   |some r=>
    simp only;have F:tC P ({w with aQ:=w.aQ+1}:jU).T:=h;rcases(GQ (r:=r) f F G c).1 with⟨p,e2⟩|⟨p,e2,y,A,q,x,e8⟩
    .rw[p];simp only[or_true,yN];let⟨a1,a2,a3,a4,a5,a6⟩:=ih {w with aQ:=w.aQ+1} done h;refine⟨a1,a2,a3,a4,λj b a=>a5 j b (λg=>a (by simp[g])),λj a=> ?_⟩;rcases xZ.1 a with rfl|a
     .rw[a5 j c hd.1,m,u];exact(List.erase_of_not_mem e2).symm
     .exact a6 j a
    .let⟨d,z⟩:=D (fE P rR {w with aQ:=w.aQ+1} i rR r);rw[z]at p y A q x e8;rw[z,p];rw[R Y,R Y];let⟨a1,a2,a3,a4,a5,a6⟩:=ih (eT P rR P.n i d.2.1 d.1) (done++[i]) y;refine⟨a1,λv=> ?_,λj a=>(a3 j a).ds (x j a),a4,λj b a=> ?_,λj a=> ?_⟩
     .exact ZM159
     .have a:j≠i/\j∉l:=eP a;exact(a5 j b a.2).ds (q j a.1 b)
     .rcases xZ.1 a with rfl|a
      .rw[a5 j c hd.1,A,m,u];rfl
      .have B:j≠i:=λe=>hd.1 (e▸a);rw[a6 j a,q j B (hl j (by simp[a])).2]
theorem Me(f:tX P sc D3):∀(l:List Nat) (w:jU),l.Nodup->(∀i∈l,i<P.n/\(P.spec i).aG=1)->tC P w.T->(∀i∈l,∃r,bB i=H r/\r∈(w.T i).aM)->
  tC P (nH P bB l w).T/\(∀v,∃xs:List Row,((nH P bB l w).T v).aM=xs.foldl y' (w.T v).aM)/\(∀j,P.n<=j->(nH P bB l w).T j=w.T j)/\
   (∀j,(P.spec j).aG=1->j∉l->(nH P bB l w).T j=w.T j)/\∀i∈l,∀r,bB i=H r->((nH P bB l w).T i).aM=(w.T i).aM.erase r
 |[],w,_,_,h,_=>⟨h,λv=>⟨[],rfl⟩,λ_ _=>rfl,λ_ _ _=>rfl,J⟩
 |i::l,w,hd,hl,h,hr=>by
  rw[U8]at hd;let⟨k,x⟩:=hl i J;let⟨r,c,C⟩:=hr i J;unfold nH;rw[c];simp only;rcases(GQ (r:=r) f h k x).1 with⟨y,e2⟩|⟨y,e2,z,B,g,u,e8⟩
  .exact dY C e2
  .let⟨d,A⟩:=D (fE P rR w i rR r);rw[A]at y z B g u e8;rw[A];have p:∀j∈l,j≠i:=λj a e=>hd.1 (e▸a);let⟨a1,a2,a3,a4,a5⟩:=Me f l (eT P rR P.n i d.2.1 d.1) hd.2 (λj a=>hl j (by simp[a])) z (λj a=>by
    let⟨q,F,G⟩:=hr j (by simp[a]);exact⟨q,F,g j (p j a) (hl j (by simp[a])).2▸G⟩)
   refine⟨a1,λv=> ?_,λj a=>(a3 j a).ds (u j a),λj m a=> ?_,λj a q b=> ?_⟩
   .exact ZM159
   .have a:j≠i/\j∉l:=eP a;exact(a4 j m a.2).ds (g j a.1 m)
   .rcases xZ.1 a with rfl|a
    .rw[c]at b;injection b with b;subst b;rw[a4 j x hd.1,B]
    .rw[a5 j a q b,g j (p j a) (hl j (by simp[a])).2]
theorem am{l new xs:List Row}(b:(l++new).Nodup)(h:∀r,r∈xs.foldl y' (l++new)↔r∈l):xs.foldl y' (l++new)=l:=by
 rw[P8 b]at h|-;rw[zdF];have c:=Fh.1 b;have g:l.filter (λx=>decide (x∉xs))=l:=List.filter_eq_self.2 λx a=>by
  have:=(h x).2 a;exact(LC.1 this).2
 have e:new.filter (λx=>decide (x∉xs))=[]:=zdE.2 λx a d=>by
  have:=(h x).1 (LC.2 ⟨yU.2 (.inr a),d⟩);exact c.2.2 x this x a rfl
 rw[g,e,ui]
theorem aHL(f:tX P sc D3)(l:List Nat)(w:jU)(d:w.T=T)(hd:l.Nodup)(hl:∀i∈l,i<P.n/\(P.spec i).aG=1/\(P.spec i).aH=512)(k:∀v,v<P.n->(P.spec v).aG=1\/(P.spec v).aG=2\/(P.spec v).aG=3)(h:tC P T):
  (nH P bB (bX P qT jO bB l w []).2.1.reverse (bX P qT jO bB l w []).1).T=T:=by
 subst d;let⟨a1,a2,a3,j,a4,a5,a6,a7,x⟩:=JN (jO:=jO) (bB:=bB) f l w [] hd hl h;generalize N:bX P qT jO bB l w []=g at a1 a2 a3 a4 a7 x|-;rw[Nb]at a4;rw[a4];let⟨z,b2,F,L,G⟩:=Me (bB:=bB) f j.reverse g.1 (List.nodup_iff_pairwise_ne.2 (List.pairwise_reverse.2 (a5.imp λh=>Ne.symm h))) (λi e=>by have:=hl i (a6 i (List.mem_reverse.1 e));exact⟨this.1,this.2.1⟩) a1 (λi e=>by
  let⟨r,p,A,m⟩:=a7 i (List.mem_reverse.1 e);exact⟨r,p,by rw[m];simp⟩)
 have C:∀v,v<P.n->(P.spec v).aG=1->((nH P bB j.reverse g.1).T v).aM=(w.T v).aM:=λv hv c=>by
  by_cases b:v∈j
  .let⟨r,p,A,m⟩:=a7 v b;rw[G v (List.mem_reverse.2 b) r p,m,List.erase_append_right _ A];simp
  .rw[L v c (λB=>b (List.mem_reverse.1 B)),x v c b]
 have u:=tC.xJ f z h k (λv hv c r=>by rw[C v hv c]);refine tC.ext f z h (λv hv=> ?_) (λv hv=>(F v hv).ds (a3 v hv));let⟨xs,a⟩:=b2 v;let⟨new,q⟩:=a2 v;have y:=(a1.all v hv).dD;rw[q]at a y;have:=u v hv;rw[a]at this|-;exact am y this
theorem Ei(f:tX P sc D3){cells aD:Nat}{t:iL}{add:Bool}(hl:∀i,i<aD->i<P.n/\(P.spec i).aG=1/\(P.spec i).aH=512)(j:∀v,v<P.n->(P.spec v).aG=1\/(P.spec v).aG=2\/(P.spec v).aG=3)(h:tC P t.T)(a:fC P cells aD t add jO bB=(t1,st,c,e))(g:e≠0):t1=t/\add=qT/\(e=110\/e=201)/\st=0/\c=0:=by
 have d:∀i∈B0 aD,i<P.n/\(P.spec i).aG=1/\(P.spec i).aH=512:=λi b=>hl i (wW.1 b);cases add with
 |false=>
  exfalso;obtain⟨a1,a2,a3,a4,-⟩:=MY (jO:=jO) (bB:=bB) f (B0 aD) ⟨t.T,0,λ_=>[]⟩ [] Ic (λi b=>⟨(d i b).1,(d i b).2.1⟩) h;unfold fC at a;simp only[a4,Nc,E6,Bool.false_and]at a;injection a with h1 a;injection a with h2 a;injection a with h3 a;exact g a.symm
 |true=>
  have l:=aHL (jO:=jO) (bB:=bB) f (B0 aD) ⟨t.T,0,λ_=>[]⟩ rfl Ic d j h;unfold fC at a;simp only[l]at a;split at a
  .injection a with h1 a;injection a with h2 a;injection a with h3 a;exact⟨h1.symm,rfl,.inl a.symm,h2.symm,h3.symm⟩
  .split at a
   .injection a with h1 a;injection a with h2 a;injection a with h3 a;exact⟨h1.symm,rfl,.inr a.symm,h2.symm,h3.symm⟩
   .injection a with h1 a;injection a with h2 a;injection a with h3 a;exact dY a.symm g
end
end
variable{q:bK}
theorem aAv(B:O (vars q)<=30)(y:aJ q≠[])(d:(aB q).1=0)(hs:fY q=0):gU (O (vars q)) (O (aJ q)) (aB q).2:=by
 have e:∀s,s∈aJ q->s<2^O (vars q):=λs m=>by
  obtain⟨a,_,rfl⟩:=AE.1 m;exact zD _ _
 have w:∀s,s∈aJ q->s<2^32:=λs m=>xF (e s m) (Fk E Y);unfold aB at d|-;rw[R (by rw[hs];simp)]at d|-;split at d
 .exact dY d E
 .rename_i z;rw[R z];cases j:dA (-1) (cL q) cI (cN (-1) (aJ q)) (cD (aJ q))with
  |none=>rw[j]at d;exact dY (show(170:Int)=0 from d) E
  |some x=>
   obtain⟨b,l⟩:=x;simp only;have r:=GB.cN (-1) (eb:=cL q) w y (W:=O (aJ q)+eS (cD (aJ q))) (fV _);have v:=Sj.cN (-1) e;have g:=Sj.dA (-1) _ _ _ b l v r j;have u:=(GB.dA (-1) _ _ _ b l r j).1;have p:=u.oP (keep':=0) (b.1,l.map λx=>hJ b.2 x.1 0) (.inl rfl) rfl;have i:=g.oP u.nd;have n:=GB.fH (-1) cI _ _ p;have c:=Sj.fH (-1) cI _ _ i p;generalize A:fH (-1) cI (b.1,l.map λx=>hJ b.2 x.1 0) (oP l)=bEs at n c|-;exact gU.of n.ok.below c.EN c.Nh c.CZ _ _ _ rfl
variable{sd:Bool}{n:Nat}{n':f7}
section
section
variable{P:AC}{add:Bool}{sc D3:Nat->Nat}
theorem Uk{s:lV}{n:f7}{m:R7}(h:iX add s n sd r= .ok (n',m)):
  O m.kC<=O m.aX/\O m.aX<=1+O n.fJ/\(sd=rR->O m.aX<=1)/\(sd=qT->n'.fJ=n.fJ):=by
 grind [iX,OF,uN]
theorem vB:∀(t l:List Row),O l<=O (cP l t)/\O (cP l t)<=O l+O t
 |[],l=>by simp[cP]
 |x::t,l=>by
  have ih:=vB t (if x∈l then l else l++[x]);have hl:(cP l (x::t))=cP (if x∈l then l else l++[x]) t:=rfl;rw[hl,TT];split at ih
  .rename_i h;rw[bW h];omega
  .rename_i h;rw[R h];simp only[E7,Ty]at ih;omega
theorem OT(f:Nat->Nat)(k a:Nat):∀n,((B0 n).map λi=>if i=k then a else f i).sum+(if k<n then f k else 0)=((B0 n).map f).sum+(if k<n then a else 0)
 |0=>J
 |n+1=>by
  have ih:=OT f k a n;rw[dr,QW,QW,I2,I2];grind
theorem jU.VF(w:jU)(T:gZ)(aQ:Nat){aS:Nat}(a:aS<n)(l:List Row):
  (jU.mk T aQ λi=>if i=aS then l else w.aX i).count n+O (w.aX aS)=w.count n+O l:=by
 unfold jU.count;have h:=OT (λi=>O (w.aX i)) aS (O l) n;rw[bW a,bW a]at h;rw[<-h];congr 2;apply List.map_congr_left;intro i _;show(if i=aS then l else w.aX i).length=_;split<;>rfl
theorem jU.Cd(w:jU)(a:i<n):O (w.aX i)<=w.count n:=by
 unfold jU.count;induction n<;>grind [List.range_succ]
theorem qS(w:jU){aS:Nat}(a:aS<n)(sd:Bool)(r:Row):
  O (fE P add w aS sd r).2.1<=(fE P add w aS sd r).2.2.1/\(fE P add w aS sd r).2.2.1<=1+O (w.T aS).fJ/\(sd=rR->(fE P add w aS sd r).2.2.1<=1)/\(sd=qT->((fE P add w aS sd r).1.T aS).fJ=(w.T aS).fJ)/\
  (fE P add w aS sd r).1.aQ=w.aQ/\w.count n<=(fE P add w aS sd r).1.count n/\(fE P add w aS sd r).1.count n<=w.count n+(fE P add w aS sd r).2.2.1:=by
 unfold fE;cases h:iX add (P.spec aS) (w.T aS) sd r with
 |error e=>simp
 |ok p=>
  obtain⟨n',m⟩:=p;let⟨c,d,b,g⟩:=Uk h;refine⟨c,d,b,λe=>by grind [n7],rfl,?_,?_⟩
  .have:=w.VF (yE w.T aS n') w.aQ a (cP (w.aX aS) m.aX);grind [vB]
  .have:=w.VF (yE w.T aS n') w.aQ a (cP (w.aX aS) m.aX);grind [vB]
theorem AQ{aS:Nat}(y:aS<n)(sd:Bool):∀(l:List Row) (w:jU) (next:List Row),
  w.aQ<=(gI P add aS sd l w next).1.aQ/\O next<=O (gI P add aS sd l w next).2/\O (gI P add aS sd l w next).2+w.aQ<=O next+(gI P add aS sd l w next).1.aQ/\
  w.count n<=(gI P add aS sd l w next).1.count n/\(gI P add aS sd l w next).1.count n+w.aQ<=w.count n+(gI P add aS sd l w next).1.aQ/\
  (sd=qT->((gI P add aS sd l w next).1.T aS).fJ=(w.T aS).fJ)/\(gI P add aS sd l w next).1.aQ<=w.aQ+O l*(2+(if sd=qT then(w.T aS).fJ.length else 0))
 |[],w,next=>by simp[gI]
 |r::l,w,next=>by
  let⟨A,C,m,u,G,B,z⟩:=qS (P:=P) (add:=add) w y sd r;let⟨d,hd⟩:=D (fE P add w aS sd r);rw[hd]at A C m u G B z;have e:gI P add aS sd (r::l) w next=gI P add aS sd l {d.1 with aQ:=d.1.aQ+1+if sd then d.2.2.1 else 0} (next++d.2.1):=by rw[gI,hd]
  rw[e];let⟨c,q,i,p,b,j,a⟩:=AQ y sd l {d.1 with aQ:=d.1.aQ+1+if sd then d.2.2.1 else 0} (next++d.2.1);let⟨g,v⟩:=D (gI P add aS sd l {d.1 with aQ:=d.1.aQ+1+if sd then d.2.2.1 else 0} (next++d.2.1));rw[v]at c q i p b j a;rw[v];have F:({d.1 with aQ:=d.1.aQ+1+if sd then d.2.2.1 else 0}:jU).count n=d.1.count n:=rfl;rw[F]at p b;simp only[E7,TT]at c q i a|-;cases sd with
  |false=>
   have:=m rfl;simp only[Nc,E6,qZ]at c i b a|-;refine⟨Y,Y,Y,Y,Y,J,?_⟩;rw[zo];omega
  |true=>
   have x:=u rfl;simp only[yN]at c i b a j|-;rw[x]at a;refine⟨Y,Y,Y,Y,Y,λ_=>by rw[j trivial,x],?_⟩;rw[zo];omega
theorem qC(a:∀u v,P.dI u=H v->v<n):∀(f aS:Nat) (fl:List Row) (w:jU),
  w.aQ<=(eT P add f aS fl w).aQ/\w.count n<=(eT P add f aS fl w).count n/\(eT P add f aS fl w).count n+w.aQ<=w.count n+(eT P add f aS fl w).aQ
 |0,_,_,w=>by simp[eT]
 |f+1,aS,fl,w=>by
  unfold eT;cases b:P.dI aS with
  |none=>simp
  |some up=>
   simp only;split
   .simp
   .obtain⟨a1,-,-,a4,a5,-,-⟩:=AQ (P:=P) (add:=add) (a aS up b) (P.dN aS) fl w [];let⟨d,b2,c⟩:=qC a f up (gI P add up (P.dN aS) fl w []).2 (gI P add up (P.dN aS) fl w []).1;refine⟨Y,Y,Y⟩
end
end
section
section
variable{P:AC}{sc D3:Nat->Nat}
theorem Vh(P:AC)(add:Bool)(B:Nat):RC P add B λf aS fl w=>(eT P add f aS fl w).aQ<=w.aQ+f*(B*(2+B)):=by
 refine⟨λf aS fl w h=> ?_,λf aS up fl w d q g p i c m j=> ?_⟩
 .cases f<;>grind [eT]
 .by_cases b:fl=[]
  .grind [eT]
  .have e:eT P add (f+1) aS fl w=eT P add f up (gI P add up (P.dN aS) fl w []).2 (gI P add up (P.dN aS) fl w []).1:=by
    rw[eT,d];exact R b
   have n:=(AQ (P:=P) (add:=add) g (P.dN aS) fl w []).2.2.2.2.2.2;have l:(if P.dN aS=qT then(w.T up).fJ.length else 0)<=B:=by
    split
    .rename_i h;exact(c h).2.2
    .omega
   have a:O fl*(2+(if P.dN aS=qT then(w.T up).fJ.length else 0))<=B*(2+B):=Nat.mul_le_mul i Y;show(eT P add (f+1) aS fl w).aQ<=w.aQ+(f+1)*(B*(2+B));change (eT P add f up _ _).aQ<=_ at j;rw[e,zo];omega
theorem RU(P:AC)(add:Bool)(f aS:Nat)(w:jU):eT P add f aS [] w=w:=by
 cases f with
 |zero=>rfl
 |succ f=>unfold eT;cases P.dI aS<;>simp
theorem IA{P:AC}{add:Bool}(w:jU)(aS:Nat)(sd:Bool)(r:Row):(fE P add w aS sd r).1.aQ=w.aQ:=by
 unfold fE;split<;>rfl
theorem Hg(d:tX P sc D3){w:jU}(h:tC P w.T)(c:i<P.n)(b:(P.spec i).aG=1)(a:(P.spec i).aH=512):
  (eT P qT P.n i (fE P qT w i rR r).2.1 (fE P qT w i rR r).1).aQ<=w.aQ+P.n*(512*(2+512)):=by
 have:=(SI (r:=r) d h c b a).2 _ (Vh P qT 512);rwa[IA]at this
theorem MK(c:tX P sc D3){w:jU}(h:tC P w.T)(b:i<P.n)(a:(P.spec i).aG=1):
  (eT P rR P.n i (fE P rR w i rR r).2.1 (fE P rR w i rR r).1).aQ<=w.aQ+P.n*(512*(2+512)):=by
 have:=(GQ (r:=r) c h b a).2 _ (Vh P rR 512);rwa[IA]at this
end
end
variable{pa:Int}
section
section
variable{V m:Nat}{p:vZ}
theorem Ut(p:vZ)(v:Nat):(eF p v).bT=O (eA p.aI v).vars:=by
 grind [lV.bT,eF,xL]
theorem gU.aDs(h:gU V m p){u v:Nat}(g:(aZ p).dI u=H v):
  (eF p u).bT=(if(aZ p).dN u=qT then(eF p v).bP.length else(eF p v).kJ)/\((aZ p).dN u=qT->(eF p v).aG=3):=by
 let⟨j,a,c,i⟩:=h.aEb g;have hs:=gU.RS c;rw[Ut,hs];rcases jH.1 i with⟨c1,c2⟩|⟨c1,c2⟩
 .by_cases e:(eA p.aI v).aG=3/\(eA p.aI v).bP=u
  .exact dY (c2.ds e.2.symm) ((h.EN v a).apart e.1)
  .have d:((eA p.aI v).aG==3&&(eA p.aI v).bP==u)=rR:=by
    grind
   rw[d];refine⟨?_,λh=>by cases h⟩;simp only[Nc,E6];unfold eF;simp only;rcases c1 with c1|c1
   .rw[bW c1,c2]
   .rw[R Y];let⟨s,t,_,_,b,e2,_⟩:=(h.EN v a).US c1;rw[b,<-e2,c2]
 grind [eF,xL]
end
theorem Ma(pa:Int)(b:r6)(l:List ES)(s:cU):∃tl,(gK pa b l s).1=b.1++tl:=by
 unfold gK;split<;>grind
theorem Av{eb:Nat}:∀(n:Nat) (b:r6) (l:List ES) (c:r6) (k:List ES),dA pa eb n b l=H (c,k)->∃tl,c.1=b.1++tl
 |0,b,l,c,k,h=>by
  simp_all [dA]
 |n+1,b,l,c,k,h=>by
  unfold dA at h;split at h
  .cases h;exact⟨[],J⟩
  .split at h
   .cases h
   .let⟨t1,d⟩:=Av n _ _ _ _ h;let⟨t2,a⟩:=Ma pa b l ‹_›;exact⟨t2++t1,by rw[d,a,zcV]⟩
theorem At:∀(n:Nat) (b:r6) (l:List ES),∃tl,(fH pa n b l).1.1=b.1++tl
 |0,b,l=>⟨[],by simp[fH]⟩
 |n+1,b,l=>by
  unfold fH;split
  .simp_all
  .obtain⟨t1,c⟩:=At n (gK pa b l ‹_›) (make l ‹_›);obtain⟨t2,a⟩:=Ma pa b l ‹_›;exact⟨t2++t1,by rw[c,a,zcV]⟩
theorem MB(a:(aB q).1=0)(j:i<O (aJ q)):(eA (aB q).2.aI i).vars=cB (hJ (aJ q) i 0)/\(aB q).2.vars=vars q:=by
 unfold aB at a|-;split at a
 .omega
 .rename_i hs;rw[R hs];split at a
  .omega
  .rename_i c;rw[R c];cases d:dA (-1) (cL q) cI (cN (-1) (aJ q)) (cD (aJ q))with
   |none=>grind
   |some x=>
    obtain⟨b,l⟩:=x;simp only;let⟨t1,g⟩:=Av _ _ _ _ _ d;let⟨t2,e⟩:=At (pa:= -1) cI (b.1,l.map λx=>hJ b.2 x.1 0) (oP l);grind [cN,eA,l9,DO]
theorem jz(w:O (vars q)<=30)(m:aJ q≠[])(c:(aB q).1=0)(z:eS (cD (aJ q))<=36)(y:O (aJ q)<=6):O (aB q).2.aI<=42:=by
 have d:∀s,s∈aJ q->s<2^O (vars q):=λs e=>by
  obtain⟨a,_,rfl⟩:=AE.1 e;exact zD _ _
 have v:∀s,s∈aJ q->s<2^32:=λs e=>xF (d s e) (Fk E Y);unfold aB at c|-;split at c
 .omega
 .rename_i hs;rw[R hs];split at c
  .omega
  .rename_i r;rw[R r];cases u:dA (-1) (cL q) cI (cN (-1) (aJ q)) (cD (aJ q))with
   |none=>grind
   |some x=>
    obtain⟨b,l⟩:=x;simp only;have j:=GB.cN (-1) (eb:=cL q) v m (W:=42) Y;have p:=(GB.dA (-1) _ _ _ b l j u).1;have i:=p.oP (keep':=0) (b.1,l.map λx=>hJ b.2 x.1 0) (.inl rfl) rfl;have g:=GB.fH (-1) cI _ _ i;have n:O (l9 (fH (-1) cI (b.1,l.map λx=>hJ b.2 x.1 0) (oP l)).1.1 (O b.1) (l.map λx=>hJ b.2 x.1 0))=O (fH (-1) cI (b.1,l.map λx=>hJ b.2 x.1 0) (oP l)).1.1:=by simp[l9]
    have:=g.wt;rw[n];omega
end
variable{vs:List dO}
theorem ZM119{P:Prop}(h:P:=by
  split at h
  .rcases C5 h x hx with h'|h'
   .exact .inl h'
   .exact .inr (by simp[h'])
  .cases h):P:=h
def kS(vs:List dO):List j6->Row->Row->Option Row
 |t::ts,x::xs,out=>
  if t.var=bU then(if x=t.xW then kS vs ts xs out else K)
  else if vs.idxOf t.var=O out then kS vs ts xs (out++[x])
  else if hJ out (vs.idxOf t.var) aR=x then kS vs ts xs out else K
 |_,_,out=>H out
def C4(a:pB)(r:Row):Option Row:=if O r=O a.aV then kS (cJ a) a.aV r []else K
def pQ(p:vZ)(a:pB)(i:Nat):List Nat:=(eA p.aI i).vars.map λv=>(cJ a).idxOf (hJ p.vars v bU)
def jI(p:vZ)(a:pB)(i:Nat)(r:Row):Option Row:=match C4 a r with
 |none=>K
 |some m=>if dS r=qT then H (dF m (pQ p a i))else K
theorem OR:∀(ts:List j6) (out:List dO),∃tl,bL ts out=out++tl
 |[],out=>⟨[],by simp[bL]⟩
 |t::ts,out=>by
  rw[sL];let⟨t1,a⟩:=OR ts (if t.var=bU then out else i9 out t.var);grind [i9]
theorem Cl{a:pB}{k:Nat}(g:k<O a.aV){t:j6}(d:a.aV[k]=t):
  (t.var=bU->bL (a.aV.take (k+1)) []=bL (a.aV.take k) [])/\
  (t.var≠bU->(((cJ a).idxOf t.var<O (bL (a.aV.take k) [])/\bL (a.aV.take (k+1)) []=bL (a.aV.take k) [])\/
   ((cJ a).idxOf t.var=O (bL (a.aV.take k) [])/\O (bL (a.aV.take (k+1)) [])=O (bL (a.aV.take k) [])+1))):=by
 have b:a.aV.take (k+1)=a.aV.take k++[t]:=by grind [List.take_succ]
 have e:bL (a.aV.take (k+1)) []=if t.var=bU then bL (a.aV.take k) []else i9 (bL (a.aV.take k) []) t.var:=by
  rw[b,tH,sL];rfl
 have c:cJ a=bL (a.aV.drop (k+1)) (bL (a.aV.take (k+1)) []):=by
  rw[<-tH,Co];rfl
 let⟨tl,i⟩:=OR (a.aV.drop (k+1)) (bL (a.aV.take (k+1)) []);grind [i9]
theorem C5:∀{ts:List j6} {xs out m:Row},kS vs ts xs out=H m->∀x∈m,x∈out\/x∈xs
 |[],xs,out,m,h,x,hx=>by
  grind [kS]
 |t::ts,[],out,m,h,x,hx=>by
  grind [kS]
 |t::ts,y::ys,out,m,h,x,hx=>by
  unfold kS at h;split at h
  .exact ZM119
  .split at h
   .rcases C5 h x hx with h'|h'
    .rcases yU.1 h' with h'|h'
     .exact .inl h'
     .exact .inr (by simp at h';simp[h'])
    .exact .inr (by simp[h'])
   .exact ZM119
theorem F1{a:pB}:∀(n k:Nat) (xs out m:Row),O a.aV-k=n->k+O xs=O a.aV->O out=O (bL (a.aV.take k) [])->kS (cJ a) (a.aV.drop k) xs out=H m->O m=O (cJ a)
 |0,k,xs,out,m,hn,hl,ho,h=>by
  have hd:a.aV.drop k=[]:=by grind [List.drop_eq_nil_iff]
  rw[hd]at h;unfold kS at h;cases h
  rw[ho,zdH Y];rfl
 |n+1,k,xs,out,m,hn,hl,ho,h=>by
  have c:k<O a.aV:=Y;have hd:=Ge c;rw[hd]at h;generalize d:a.aV[k]=t at h;let⟨g,e⟩:=Cl c d;cases xs with
  |nil=>simp at hl;omega
  |cons x xs=>
   simp only[TT]at hl;unfold kS at h;split at h
   .rename_i hv;split at h
    .exact F1 n (k+1) xs out m Y Y (g hv▸ho) h
    .cases h
   .rename_i hv;rcases e hv with⟨i,b⟩|⟨i,b⟩
    .rw[R Y]at h;split at h
     .exact F1 n (k+1) xs out m Y Y (b▸ho) h
     .cases h
    .rw[bW Y]at h;exact F1 n (k+1) xs (out++[x]) m Y Y BC h
theorem SC{a:pB}{m:Row}(h:C4 a r=H m):O m=O (cJ a)/\∀x∈m,x∈r:=by
 unfold C4 at h;split at h
 .rename_i hl;refine⟨F1 (O a.aV) 0 r [] m Y Y rfl h,λx b=> ?_⟩;rcases C5 h x b with c|c<;>grind
 .cases h
theorem Vp(b:(aB q).1=0)(d:i<O q.aD){a:pB}(ha:q.aD[i]=a):∀c∈pQ (aB q).2 a i,c<O (cJ a):=by
 grind [aJ,MB,pQ,nA,sK]
theorem GN(p:vZ)(a:pB)(i:Nat):O (pQ p a i)=O (eA p.aI i).vars:=by unfold pQ;simp
theorem Cb(c:(aB q).1=0)(l:i<O q.aD){a:pB}(ha:q.aD[i]=a){x:Row}(j:∀v∈r,rng v)(h:jI (aB q).2 a i r=H x)(p:O (pQ (aB q).2 a i)<=30):
  dU x/\O x=O (eA (aB q).2.aI i).vars:=by
 unfold jI at h;split at h
 .cases h
 .rename_i m g;split at h
  .rename_i hv;cases h
   let⟨m1,u⟩:=SC g;have w:=Vp c l ha;have d:∀y∈dF m (pQ (aB q).2 a i),y∈r:=λy n=>by
    grind [dF]
   have b:O (dF m (pQ (aB q).2 a i))=O (pQ (aB q).2 a i):=by unfold dF;simp
   unfold dS at hv;simp only[My,QX,Tv]at hv;refine⟨⟨?_,λv e=>j v (d v e)⟩,by rw[b,GN]⟩;grind [dS]
  .cases h
variable{v:aE}{w:aA}
theorem ZM100{P:Prop}(h:P:=by
  rename_i h;refine⟨λh=>dY h E,λe=> ?_⟩;injection e with e1 _;subst e1;exact dY h (UInt8.lt_irrefl a)):P:=h
theorem ZM135{P:Prop}(h:P:=by
  go_wp2_with (go_at_call 214;apply(UY _ _).dC;rintro w' rfl);go_ret;exact⟨rfl,rfl⟩):P:=h
theorem ZM136{P:Prop}(h:P:=by
  go_wp2_with (go_at_call 215;apply(Ci _ _).dC;rintro w' rfl);go_ret;exact⟨rfl,rfl⟩):P:=h
def BK(x y:Int):Int:=if x<y then-1 else if y<x then 1 else 0
theorem wR{x y:Int}:BK x y=0↔x=y:=by
 unfold BK;split
 .constructor<;>intro h<;>omega
 .split<;>constructor<;>intro h<;>omega
def vJ(s t:dO):Int:=Lib.compareBytes s.data.toList t.data.toList
theorem FB:∀{a b:List UInt8},Lib.compareBytes a b=0↔a=b
 |[],[]=>by simp[Lib.compareBytes]
 |[],_::_=>by simp[Lib.compareBytes]
 |_::_,[]=>by simp[Lib.compareBytes]
 |a::xs,b::ys=>by
  unfold Lib.compareBytes;have ih:=FB (a:=xs) (b:=ys);split
  .exact ZM100
  .rename_i d;split
   .exact ZM100
   .rename_i c;have:a=b:=UInt8.le_antisymm (UInt8.not_lt.1 c) (UInt8.not_lt.1 d);rw[ih,this];simp
theorem Uq{s t:dO}:vJ s t=0↔s=t:=by
 unfold vJ;rw[FB];refine⟨λh=> ?_,λh=>by rw[h]⟩;cases s with|mk a=>cases t with|mk b=>
  exact xE ByteArray.mk (Array.toList_inj.1 h)
def pO(a b:L4):Int:=if BK a.aG b.aG≠0 then BK a.aG b.aG else if BK a.num b.num≠0 then BK a.num b.num else vJ a.dZ b.dZ
theorem ER{a b:L4}:pO a b=0↔a=b:=by
 unfold pO;cases a with|mk k n t=>cases b with|mk k' n' d=>
  simp only[ne_eq,wR,L4.mk.injEq];split
  .rename_i h;rw[wR];exact⟨λe=>dY e h,λe=>dY e.1 h⟩
  .rename_i h;split
   .rename_i c;rw[wR];exact⟨λe=>dY e c,λe=>dY e.2.1 c⟩
   .rename_i c;rw[Uq];exact⟨λe=>⟨Decidable.not_not.1 h,Decidable.not_not.1 c,e⟩,λe=>e.2.2⟩
def gO:Row->Row->Int
 |[],[]=>0
 |[],_::_=> -1
 |_::_,[]=>1
 |a::xs,b::ys=>if pO a b≠0 then pO a b else gO xs ys
theorem AI:∀{a b:Row},gO a b=0↔a=b
 |[],[]=>by simp[gO]
 |[],_::_=>by simp[gO]
 |_::_,[]=>by simp[gO]
 |a::xs,b::ys=>by
  unfold gO;have ih:=AI (a:=xs) (b:=ys);split
  .rename_i h;refine⟨λe=>dY e h,λe=> ?_⟩;injection e with e1 _;exact dY (ER.2 e1) h
  .rename_i h;rw[ih,ER.1 (Decidable.not_not.1 h)];simp
theorem aCO(a b:dO)(w:aA):
  aK prog 216 #[mX a,mX b] w λe w'=>e=mi (mj mn (vJ a b))/\w'=w:=by
 go_in;go_wp2;rw[run_callFunc_extern func235 dJ dJ dJ (e:=Extern.BytealgCompare.compare) dJ,Lib.run_compareString];simp only[Result.andThen];rw[Oper.upon_value];go_wp2;go_ret;exact⟨rfl,rfl⟩
theorem ZU(a b:dO)(w:aA):
  aK prog 191 #[mX a,mX b] w λe w'=>e=mi (mj mn (vJ a b))/\w'=w:=by
 go_in;go_wp2_with (go_at_call 216;apply(aCO _ _ _).dC;rintro w' rfl);go_ret;exact⟨rfl,rfl⟩
theorem UY(x:Int)(w:aA):
  aK prog 214 #[mj mn x] w λe w'=>e=mi (nj rR)/\w'=w:=by
 have h:(x !=x)=rR:=J;exact ZM184
theorem aLJ(x y:Int)(w:aA):
  aK prog 189 #[mj mn x,mj mn y] w λe w'=>e=mi (mj mn (BK x y))/\w'=w:=by
 unfold BK;by_cases b:x<y
 .rw[bW b];go_in;exact ZM135
 .rw[R b];by_cases a:y<x
  .rw[bW a];go_in;exact ZM135
  .rw[R a];go_in;exact ZM135
theorem Ci(x:Int)(w:aA):
  aK prog 215 #[mj mn x] w λe w'=>e=mi (nj rR)/\w'=w:=by
 have h:(x !=x)=rR:=J;exact ZM184
theorem aQn(x y:Int)(w:aA):
  aK prog 190 #[mj mn x,mj mn y] w λe w'=>e=mi (mj mn (BK x y))/\w'=w:=by
 unfold BK;by_cases b:x<y
 .rw[bW b];go_in;exact ZM136
 .rw[R b];by_cases a:y<x
  .rw[bW a];go_in;exact ZM136
  .rw[R a];go_in;exact ZM136
def fIz(x:Int)(_:Nat):aE:=mj mn x
def orI:List Int->Int
 |[]=>0
 |x::l=>if x≠0 then x else orI l
theorem aEg{l:List Int}{k:Nat}(a:k<O l):orI (l.drop k)=if hJ l k 0≠0 then hJ l k 0 else orI (l.drop (k+1)):=by
 rw[Ge a,gV,kU a];rfl
theorem aWc{l:List Int}(h:fM fIz 0 1 w v l):
  aK prog 188 #[v] w λe w'=>e=mi (mj mn (orI l))/\U w [] w' []:=by
 obtain⟨a,cap,rfl,n⟩:=h.len;unfold bH at n;go_in;go_wp2;go_loopg [8] (O l) (λr i wr=>U w [] wr []/\∃k:Nat,k<=O l/\r=O l-k/\i=X k/\orI l=orI (l.drop k))
 .exact ZM186
 obtain⟨b,k,y,rfl,rfl,d⟩:=hrel;by_cases j:k<O l
 .obtain⟨u,o,cap',hv,-,m⟩:=fM.aS (h.on b) j;have c0:=m 0 E;simp only[yC,qZ,fIz]at c0;obtain rfl:=IK hv;clear m;have g:=(aEg j);generalize p:hJ l k 0=x at c0 g;clear p;by_cases c:x=0
  .subst c;go_wp2;go_roundg (O l-(k+1))
   .exact⟨b,k+1,Y,rfl,eY,by rw[d,g];rfl⟩
   omega
  .have q:(x !=0)=qT:=eP c;go_wp2;go_ret;exact⟨by rw[d,g,bW c];rfl,b⟩
 .go_wp2;go_ret;refine⟨?_,b⟩;rw[d,List.drop_eq_nil_iff.2 Y];rfl
variable{b bx:Nat}{av bv xv yv:aE}
theorem ZM137{P:Prop}(h:P:=by
  go_in;go_wp2_with (go_at_call 114;apply HC.o.dC;intro w2 bM);go_ret;exact⟨rfl,bM⟩):P:=h
theorem aE1(x y z:Int)(a:w.heap[b]? =H (kd #[mj mn x,mj mn y,mj mn z] 3 (0,0))):fM fIz 0 1 w (jS (H ⟨b,0,K⟩) 3 3) [x,y,z]:=
 .inr ⟨b,0,3,rfl,by simp,(by decide:3<=bH),dG a,λi j d g=>by
  have c:j=0:=by omega
  subst c;have e:i<3:=d;have:i=0\/i=1\/i=2:=by omega
  rcases this with rfl|rfl|rfl
  .exact aP a rfl
  .exact aP a rfl
  .exact aP a rfl⟩
theorem Ng(x y:L4)(w:aA):
  aK prog 153 #[xH x,xH y] w λe w'=>e=mi (mj mn (pO x y))/\U w [] w' []:=by
 unfold xH;let⟨wa,z⟩:=D (i5 w (kd #[X x.aG,X x.num,mX x.dZ] 90));have B:=Za z;have g:=Zb z;let⟨wb,v⟩:=D (i5 wa (kd #[X y.aG,X y.num,mX y.dZ] 90));have A:=Za v;have u:=Zb v;have g:=A.aC g J;let⟨m,f⟩:=D (i7 w.heap);let⟨bb,P⟩:=D (i7 wa.heap);rw[f]at g;rw[P]at u;obtain⟨a0,a1,a2⟩:=Z3 g;obtain⟨b0,N,b2⟩:=Z3 u;have L:=(B.ds A);go_in;go_upto_region 1 with(fail);refine fj 99 (ez a0<|ez a1<|ez a2<|ez b0<|ez N<|ey b2) (λwd r F Q=> ?_);have k:=(L.ds F);refine ek [0,2,5,7,10,12,1,3,6,8,11,13] ?_;refine Zo 4 λo hK=> ?_;go_simp;go_at_call 189;apply(aLJ _ _ _).cX;rintro e w1 ⟨rfl,rfl⟩;dsimp only;refine Zk hK Q<|Zo 9 λo hK=> ?_;go_simp;go_at_call 190;apply(aQn _ _ _).cX;rintro e w2 ⟨rfl,rfl⟩;dsimp only;refine Zk hK Q<|Zo 14 λo hK=> ?_;go_simp;go_at_call 191;apply(ZU _ _ _).cX;rintro e w3 ⟨rfl,rfl⟩;dsimp only;refine Zk hK Q<|Zo 15 λo hK=> ?_;go_simp;have d:U w3 [] (i5 w3 (kd #[X (BK x.aG y.aG),X (BK x.num y.num),X (vJ x.dZ y.dZ)] 3)) []:=(U.refl w3 []).alloc _;have j:=aE1 (w:=i5 w3 (kd #[X (BK x.aG y.aG),X (BK x.num y.num),X (vJ x.dZ y.dZ)] 3)) _ _ _ (mE w3 _);obtain⟨q,l,i,p,a,c⟩:=Q;have Q:=eI ((d).cell q J) (eI ((d).cell l J) (eI ((d).cell i J) (eI ((d).cell p J) (eI ((d).cell a J) ((d).cell c J)))));have G:=(aWc j);have n:=(k.ds d);refine Zk hK Q<|Zo 16 λo hK=> ?_;go_simp;go_at_call 188;apply G.cX;rintro e w4 ⟨rfl,b⟩;dsimp only;obtain⟨q,l,i,p,a,c⟩:=Q;have Q:=eI ((b).cell q J) (eI ((b).cell l J) (eI ((b).cell i J) (eI ((b).cell p J) (eI ((b).cell a J) ((b).cell c J)))));have C:=(n.ds b);refine Zk hK Q<|I 17 ?_;refine bD dJ ?_ _;go_wp2;go_ret;refine⟨?_,C⟩;unfold orI pO;congr 2;split
 .rfl
 .unfold orI;split
  .rfl
  .unfold orI;split
   .rfl
   .rename_i h;simpa[orI]using(Decidable.not_not.1 h).symm
theorem VR{a b:Row}{k:Nat}(ha:k<O a)(c:k<O b):gO (a.drop k) (b.drop k)=if pO (hJ a k aR) (hJ b k aR)≠0 then pO (hJ a k aR) (hJ b k aR)else gO (a.drop (k+1)) (b.drop (k+1)):=by
 rw[Ge ha,Ge c,gV,kU ha,gV,kU c];rfl
theorem Zw{a b:Row}(ha:fM dV aR 3 w av a)(A:fM dV aR 3 w bv b):
  aK prog 152 #[av,bv,.func (.func 153) #[] #[]] w λe w'=>e=mi (mj mn (gO a b))/\U w [] w' []:=by
 obtain⟨aa,W,rfl,P⟩:=ha.len;obtain⟨ba,bc,rfl,n⟩:=A.len;unfold bH at P n;have V:=enters_of func153 dJ rfl;go_in;go_wp2;go_loopg [13] (O a) (λgg i wr=>U w [] wr []/\∃k:Nat,k<=O a/\k<=O b/\gg=O a-k/\i=X k/\gO a b=gO (a.drop k) (b.drop k))
 .exact⟨U.refl _ _,0,Y,Y,rfl,rfl,rfl⟩
 obtain⟨c,k,f,KE,rfl,rfl,m⟩:=hrel;by_cases j:k<O a
 .let⟨gx,o,cap',hv,c0,c1,c2⟩:=uZ (ha.on c) j;obtain rfl:=IK hv;by_cases B:k<O b
  .let⟨gy,o2,gW,hv,F,h,T⟩:=uZ (A.on c) B;obtain rfl:=IK hv;have g:=(VR j B);have N:=iP (IL F);have s:=iP (IL c0);let⟨x,C⟩:=D (hJ a k aR);let⟨y,v⟩:=D (hJ b k aR);rw[C]at c0 c1 c2 g;rw[v]at F h T g;have z:¬O b<=k:=Y;clear C v;have l:=(λw=>Ng x y w);unfold xH at l;generalize L:pO x y=q at l g;clear L;by_cases p:q=0
   .subst p;go_wp2_with (first
     |(go_at_call 153;apply(l _).dC;intro w2 r))
    go_roundg (O a-(k+1))
    .exact⟨(((c.alloc _).alloc _).ds r),k+1,Y,Y,rfl,eY,by rw[m,g];rfl⟩
    omega
   .have G:(q !=0)=qT:=eP p;go_wp2_with (first
     |(go_at_call 153;apply(l _).dC;intro w2 r))
    go_ret;exact⟨by rw[m,g,bW p];rfl,((c.alloc _).alloc _).ds r⟩
  .have z:O b<=k:=Y;go_wp2;go_ret;refine⟨?_,c.alloc _⟩;rw[m,Ge j,List.drop_eq_nil_iff.2 z];rfl
 .have Q:k=O a:=Y;subst Q;clear f j;have d:=m;rw[List.drop_eq_nil_iff.2 (fV _)]at d;by_cases S:O a<O b
  .have u:gO a b= -1:=by rw[d,Ge S];rfl
   clear d;go_wp2;go_ret;exact⟨by rw[u];rfl,c⟩
  .have u:gO a b=0:=by rw[d,List.drop_eq_nil_iff.2 Y];rfl
   clear d;go_wp2;go_ret;exact⟨by rw[u];rfl,c⟩
theorem jk{a b:Row}(ha:fM dV aR 3 w av a)(c:fM dV aR 3 w bv b):
  aK prog 114 #[av,bv] w λe w'=>e=mi (mj mn (gO a b))/\U w [] w' []:=by
 have d:=Z (Zw ha c);obtain⟨i,l,rfl,-⟩:=ha.len;obtain⟨j,bc,rfl,-⟩:=c.len;go_in;go_wp2_with (go_at_call 152;apply d.dC;intro w2 g);go_ret;exact⟨rfl,g⟩
def aKw(x:Row×aE)(_:Nat):aE:=x.2
theorem me(v:aE)(l:List (Row×aE))(g:Nat)(q:Array aE)(p:Row×aE->Bool)(w:aA)(L:∀args w,(callFunc g args).run prog w= .ok (.enter g args) w)(h:fM aKw ([],undef) 1 w v l)(y:∀x,x∈l->∃a n c,x.2=jS a n c)(B:ID g q (λx:Row×aE=>x.2) p l w):
  aK prog 154 #[v,.func (.func g) #[] q] w λe w'=>e=mi (mj mn (UZ p l))/\U w [] w' []:=by
 obtain⟨a,cap,rfl,A⟩:=h.len;unfold bH at A;go_in;go_wp2;go_loopg [8] (O l) (λC i wr=>U w [] wr []/\∃k:Nat,k<=O l/\C=O l-k/\i=X k/\∀j,j<k->p (hJ l j ([],undef))=rR)
 .exact ZM179
 obtain⟨hU,k,s,rfl,rfl,fX⟩:=hrel;by_cases m:k<O l
 .obtain⟨G,o,cap',hv,-,r⟩:=fM.aS (h.on hU) m;have c0:=r 0 E;simp only[yC,qZ,aKw]at c0;obtain rfl:=IK hv;clear r;have b:=bO (d:=([],undef)) m;have EI:=B _ b wr hU;generalize hx:hJ l k ([],undef)=x at c0 EI b;let⟨F,N,f,u⟩:=y x b;dsimp only at EI;rw[u]at c0 EI;clear b u;cases hb:p x with
  |true=>
   rw[hb]at EI;go_wp2_with (first
    |(go_at_fn g;apply EI.dC;intro w2 bM))
   go_ret;exact⟨xE (λz=>mi (X z)) (vU (d:=([],undef)) m (by rw[hx];exact hb) fX).symm,hU.ds bM⟩
  |false=>
   exact ZM54
 .go_wp2;go_ret;exact⟨xE (λz=>mi (X z)) (zI (d:=([],undef)) λj hj=>fX j Y).symm,hU⟩
theorem po(v:aE)(l:List (Row×aE))(g:Nat)(b:Array aE)(p:Row×aE->Bool)(w:aA)(i:∀args w,(callFunc g args).run prog w= .ok (.enter g args) w)(h:fM aKw ([],undef) 1 w v l)(d:∀x,x∈l->∃a n c,x.2=jS a n c)(j:ID g b (λx:Row×aE=>x.2) p l w):
  aK prog 115 #[v,.func (.func g) #[] b] w λe w'=>e=mi (nj (l.any p))/\U w [] w' []:=by
 go_in;go_wp2_with (go_at_call 154;apply(me v l g b p w i h d j).dC;intro w' hU);exact ZM185
theorem aJH{x y:Row}(j:h8 w ⟨bx,0,K⟩=H xv)(d:fM dV aR 3 w xv x)(c:fM dV aR 3 w yv y):
  aK prog 113 #[yv,lr (H ⟨bx,0,K⟩)] w λe w'=>e=mi (nj (decide (x=y)))/\U w [] w' []:=by
 have HC:=Z (jk d c);obtain⟨n,l,rfl,-⟩:=d.len;obtain⟨m,bc,rfl,-⟩:=c.len;by_cases b:x=y
 .have a:gO x y=0:=AI.2 b;rw[a]at HC;rw[kY b];clear d c a b;exact ZM137
 .have a:¬gO x y=0:=λe=>b (AI.1 e);rw[kE b];generalize g:gO x y=q at HC a;have i:(q==0)=rR:=eP a;clear d c g b a;exact ZM137
theorem ZM63{P:Prop}(h:P:=by
  have eB:¬a=b:=λe=>hl (by rw[e]);have XL:((O a:Int)==(O b:Int))=rR:=by rw[dH];exact kE hl
  rw[kE eB];clear eB hl;exact ZM201):P:=h
theorem ZM65{P:Prop}(h:P:=by
  have wG:=Z eB;clear eB;go_upto_region 6 with(fail);go_quiet (fail);go_wp2;go_ret;refine⟨?_,hU.ds ((U.refl _ _).drewN _)⟩;rw[kE λe=>wG.o (HD.1 (ho.1 e)).1];rfl):P:=h
theorem ZM77{P:Prop}(h:P:=by
  go_wp2;go_ret;refine⟨?_,hU⟩;have pt:a=b:=by
   rw[ho,List.drop_eq_nil_iff.2 (kG HL.o),List.drop_eq_nil_iff.2 (kG HN.o)]
  rw[kY pt];rfl):P:=h
theorem ze{α:Type}{d:α}{a b:List α}{k:Nat}(ha:k<O a)(c:k<O b):(a.drop k=b.drop k)↔(hJ a k d=hJ b k d/\a.drop (k+1)=b.drop (k+1)):=by
 rw[Ge ha,Ge c,gV,kU ha,gV,kU c,List.cons.injEq];rfl
theorem UD(x y:L4):x=y\/((x.aG==y.aG)=rR/\¬x=y)\/((x.aG==y.aG)=qT/\(x.num==y.num)=rR/\¬x=y)\/((x.aG==y.aG)=qT/\(x.num==y.num)=qT/\(x.dZ.toList==y.dZ.toList)=rR/\¬x=y):=by
 by_cases h:x=y
 .exact .inl h
 .refine .inr ?_;cases b:x.aG==y.aG with
  |false=>exact .inl ⟨rfl,h⟩
  |true=>
   refine .inr ?_;cases c:x.num==y.num with
   |false=>exact .inl ⟨rfl,rfl,h⟩
   |true=>
    refine .inr ⟨rfl,rfl,ZV λa=>h ?_,h⟩;cases x;cases y
    simp only[LQ]at b c a;rw[b,c,a]
theorem Nz{a b:Row}(ha:fM dV aR 3 w av a)(q:fM dV aR 3 w bv b):
  aK prog 28 #[av,bv] w λe w'=>e=mi (nj (decide (a=b)))/\U w [] w' []:=by
 obtain⟨Q,s,rfl,j⟩:=ha.len;obtain⟨P,bc,rfl,c⟩:=q.len;unfold bH at j c;by_cases hl:O a=O b
 .rw[hl]at j;let⟨n,g⟩:=D (O b);rw[g]at hl j c;rw[hl,g];have HL:=Z hl;have HN:=Z g;clear hl g;go_in;go_wp2;go_loopg [5] n (λz i wr=>U w [] wr []/\∃k:Nat,k<=n/\z=n-k/\i=X k/\(a=b↔a.drop k=b.drop k))
  .exact⟨U.refl _ _,0,Y,rfl,rfl,Iff.rfl⟩
  obtain⟨hU,k,t,rfl,rfl,ho⟩:=hrel;by_cases r:k<n
  .have l:k<O a:=by rw[HL.o];exact r
   have m:k<O b:=by rw[HN.o];exact r
   let⟨N,o,cap',hv,c0,c1,c2⟩:=uZ (ha.on hU) l;obtain rfl:=IK hv;let⟨S,o2,L,hv,C,A,G⟩:=uZ (q.on hU) m;obtain rfl:=IK hv;have HD:=(ze (d:=aR) l m);let⟨x,u⟩:=D (hJ a k aR);let⟨y,p⟩:=D (hJ b k aR);rw[u]at c0 c1 c2 HD;rw[p]at C A G HD;clear u p l m;have f:(k:Int)<(n:Int):=Y;rcases UD x y with rfl|⟨v,eB⟩|⟨v,F,eB⟩|⟨v,F,T,eB⟩
   .have B:=A2 x.dZ x.dZ;go_upto_region 6 with(fail);go_quiet (fail);go_wp2;go_roundg (n-(k+1))
    .exact⟨hU.ds ((U.refl _ _).drewN _),k+1,Y,rfl,eY,ho.ds (HD.ds J)⟩
    omega
   .exact ZM65
   .exact ZM65
   .exact ZM65
  .exact ZM77
 .exact ZM63
variable{S':List Nat}{aT:List Row}{tO:Nat}{ρ:bC}{w' w0:aA}
theorem ZM73{P:Prop}(h:P:=by
  have h4:=h3 k hk;obtain⟨ra,rc,e2,-⟩:=h4.len;have c0:=hc 0 E;simp only[yC,qZ,GA]at c0;rw[e2]at h4 c0;exact⟨g,o,cap,ra,rc,by rw[e,h1],c0,h4⟩):P:=h
theorem ZM153{P:Prop}(h:P:=by
  obtain⟨cG,h1,h2,h3⟩:=h;exact⟨cG,h1,h2.on hu,λi hi=>(h3 i hi).on hu⟩):P:=h
theorem aIo:wV prog 34 90 3 32 #[mj mn 0,mj mn 0,mX {data:=#[]}]:=
 .QZ (z:= .agg #[X 0,X 0,mX {data:=#[]}]) underlying34 dJ rfl rfl
theorem Nd:wV prog 46 34 1 24 #[jS K 0 0]:= .QZ (z:=cR) underlying46 dJ rfl rfl
def XW(w:aA)(v:aE)(aT:List Row):Prop:=
 ∃cG:List aE,O cG=O aT/\fM GA undef 1 w v cG/\∀i,i<O aT->fM dV aR 3 w (hJ cG i undef) (hJ aT i [])
def az(w0 w:aA)(v:aE)(aT:List Row):Prop:=
 ∃cG:List aE,O cG=O aT/\bN GA undef 34 1 w0 w v cG/\∀i,i<O aT->bN dV aR 90 3 w0 w (hJ cG i undef) (hJ aT i [])
theorem iY.rw{t:Nat}(h:iY w ρ tO t v aT):XW w v aT:=by
 obtain⟨cG,b,c,a⟩:=h;exact⟨cG,b,c.1,λi d=>(a i d).1⟩
theorem QO.rw{t:Nat}(h:QO w ρ tO t v aT):XW w v aT:=h.rws.rw
theorem az.rw(h:az w0 w v aT):XW w v aT:=by
 obtain⟨cG,b,c,a⟩:=h;exact⟨cG,b,c.rd,λi d=>(a i d).rd⟩
theorem XW.on(h:XW w v aT)(hu:U w [] w' S'):XW w' v aT:=ZM153
theorem XW.len(h:XW w v aT):∃a cap,v=jS a (O aT) cap/\O aT<=bH:=ZM120
theorem XW.aS(h:XW w v aT){k:Nat}(hk:k<O aT):
  ∃g o cap ra rc,v=jS (H ⟨g,o,K⟩) (O aT) cap/\h8 w ⟨g,o+k,K⟩=H (jS ra (O (hJ aT k [])) rc)/\fM dV aR 3 w (jS ra (O (hJ aT k [])) rc) (hJ aT k []):=by
 obtain⟨cG,h1,a,h3⟩:=h;obtain⟨g,o,cap,e,-,hc⟩:=a.aS (i:=k) Y;exact ZM73
theorem aEZ{a b:List Row}(ha:XW w av a)(G:XW w bv b):
  aK prog 14 #[av,bv] w λe w'=>e=mi (nj (decide (a=b)))/\U w [] w' []:=by
 obtain⟨aa,ac,rfl,r⟩:=ha.len;obtain⟨ba,bc,rfl,g⟩:=G.len;unfold bH at r g;by_cases hl:O a=O b
 .rw[hl]at r;let⟨n,j⟩:=D (O b);rw[j]at hl r g;rw[hl,j];have HL:=Z hl;have HN:=Z j;clear hl j;go_in;go_wp2;go_loopg [5] n (λS i wr=>U w [] wr []/\∃k:Nat,k<=n/\S=n-k/\i=X k/\(a=b↔a.drop k=b.drop k))
  .exact⟨U.refl _ _,0,Y,rfl,rfl,Iff.rfl⟩
  obtain⟨hU,k,hk,rfl,rfl,ho⟩:=hrel;by_cases L:k<n
  .have z:k<O a:=by rw[HL.o];exact L
   have A:k<O b:=by rw[HN.o];exact L
   let⟨W,o,cap',ra,rc,hv,c0,f⟩:=(ha.on hU).aS z;obtain rfl:=IK hv;let⟨gy,o2,gW,rb,rd,hv,v,P⟩:=(G.on hU).aS A;obtain rfl:=IK hv;have p:=(ze (d:=[]) z A);have m:=Z (λn=>Nz (f.on ((U.refl wr []).drewN n)) (P.on ((U.refl wr []).drewN n)));let⟨x,N⟩:=D (hJ a k []);let⟨y,C⟩:=D (hJ b k []);rw[N]at c0 p m;rw[C]at v p m;clear N C z A f P;have BH:(k:Int)<(n:Int):=Y;go_upto_region 6 with(fail);refine e7 99 (ez c0<|ey v) (λQ=> ?_);clear c0 v;let⟨wd,l⟩:=D (wr.drew);have F:U wr [] wd []:=A1 l;have q:=m.o 1;rw[show wr.drewN 1=wd from l]at q;rw[l]at Q|-;have V:=Z q;have T:=(hU.ds F);clear l F q m;refine ek [0,1,4,5,2,6,3,7] ?_;refine Zo 8 λt hK=> ?_;go_simp;go_at_call 28;apply V.o.cX;rintro e w2 ⟨rfl,B⟩;dsimp only;replace Q:=B.YZ Q;have s:=(T.ds B);clear B;refine j5 ?_;clear hK t;by_cases c:x=y
   .rw[kY c];have u:=Z c;clear c;refine I 9 ?_;refine bD dJ ?_ _;clear Q;go_wp2;go_roundg (n-(k+1))
    .exact⟨s,k+1,Y,rfl,eY,ho.ds (p.ds (by simp[u.o]))⟩
    omega
   .rw[kE c];have wG:=Z c;clear c;refine I 9 ?_;refine bD dJ ?_ _;clear Q;go_wp2;go_ret;refine⟨?_,s⟩;rw[kE λe=>wG.o (p.1 (ho.1 e)).1];rfl
  .exact ZM77
 .exact ZM63
theorem YG{l:Row}(h:fM dV aR 3 w v l)(c:O l<=1048576):
  aK prog 31 #[v] w λe w'=>∃u,e=mi u/\bN dV aR 90 3 w w' u l/\U w [] w' []:=by
 obtain⟨a,cap,hv,iQ⟩:=h.len;subst hv;have d:=aIo.xO (O l) (O l) (fV _) Y iQ;obtain⟨w2,b,hL,hU,-⟩:=T8 (w0:=w) aLB Y 3 w.heap.size (aIo.yY (O l) (O l) (fV _) iQ w Y) (fV _) ((U.refl w []).alloc _) (h.on ((U.refl w []).alloc _)) (λx _ j _=>aEj x j);exact ZM154
variable{cap g:Nat}{rv:aE}
structure aNt(w wr:aA)(aT:List Row)(b k:Nat):Prop where
 ex:∃cG:List aE,O cG=O aT/\bN GA undef 34 1 w wr (jS (H ⟨b,0,K⟩) (O aT) (O aT)) cG/\∀i,i<k->bN dV aR 90 3 w wr (hJ cG i undef) (hJ aT i [])
 eU:U w [] wr []
theorem Ve(h:XW w v aT)(hm:O aT<=1048576)(A:∀i,i<O aT->O (hJ aT i [])<=1048576):
  aK prog 32 #[v] w λe w'=>∃u,e=mi u/\az w w' u aT/\U w [] w' []:=by
 obtain⟨a,cap,rfl,C⟩:=h.len;generalize F:O aT=n at hm C|-;have uS:=Nd.xO n n (fV _) Y C w;have t:=Nd.yY n n (fV _) C w E;let⟨b,hb⟩:=D (i7 w.heap);let⟨wa,P⟩:=D (i5 w (kd (madeCells #[cR] (n*1)) 34));have cV:=Za P;rw[hb,P]at t uS;have S:bN GA undef 34 1 w wa (eC b 0 n n) (Ct n cR):=⟨by
  rw[ic];refine eV.congr t λi j G hj=> ?_;obtain rfl:j=0:=Y;rw[gV,B5,bW G];rfl,λg hg=>by simp[i6]at hg;omega⟩
 have HM:dT (aNt w wa aT b 0):=Z ⟨⟨Ct n cR,by rw[F,ic],F▸S,λi G=>dY G (Gd i)⟩,cV⟩;have HR:=Z A;have m:=Z F;unfold bH at C;clear A t S cV F;go_in;go_wp2;clear uS P;go_loopg [4] n (λgg s4 wr=>∃k:Nat,k<=n/\gg=n-k/\s4=X k/\aNt w wr aT b k)
 .exact⟨0,Y,rfl,rfl,HM⟩
 obtain⟨k,hk,CP,rfl,Q⟩:=hrel;have JY:=Z CP;clear CP;by_cases L:k<n
 .obtain⟨⟨cG,l,c,d⟩,z⟩:=Q;have q:k<O aT:=m.o▸L;let⟨g,o,cap',ra,rc,hv,c0,hR⟩:=(h.on z).aS q;rw[m.o]at hv;obtain rfl:=IK hv;have V:=(YG hR (HR.o k q));generalize A:hJ aT k []=r at c0 V;rw[m.o]at c l;have HE:=Z d;have N:=Z A;have y:=Z L;have BH:(k:Int)<(n:Int):=Y;clear d A hR q L hk;go_wp2_with (go_at_call 31;apply V.cX;rintro e w2 ⟨u,rfl,T,s⟩;obtain⟨ua,uc,rfl,-⟩:=T.len;obtain⟨g2,gW,A8,-,IQ,W,B,f⟩:=eV.block (c.on s).1 (l▸wn y);injection A8 with x1 x2 x3;injection x1 with x1;injection x1 with x1;subst x1;have bj:=W k 0 (l▸y) E;rw[yC,qZ]at bj;have bf:=B k;have bl:=iP IQ;clear W B IQ x2 x3);go_roundg (n-(k+1))
  .have h1:=(c.on s).EW (i:=k) (j:=0) (l▸y) E (jS ua (O r) uc) (jS ua (O r) uc) (λj' uU=>by
    obtain rfl:j'=0:=Y;rw[bW rfl];rfl)
   rw[yC,qZ]at h1;obtain⟨cur,kB⟩:=f;have p:U w2 [b] (hY w2 (Ad b k) (jS ua (O r) uc)) [b]:=qX w2 b k _;refine⟨k+1,y,rfl,eY,⟨cG.set k (jS ua (O r) uc),by rw[TS,l,m.o],m.o▸h1,λi G=> ?_⟩,(z.ds s).bJ p (λx hx=>by simp at hx;rw[hx];have:=hb;omega)⟩;rw[gV,List.getElem?_set];by_cases e:k=i
   .subst e;rw[bW rfl,bW (l▸y),O8,N.o];exact(T.eO z.size).set kB E p
   .rw[R e,<-gV];exact((HE.o i Y).on s).set kB E p
  have:=JY.o;have:=y.o;omega
 .obtain rfl:k=n:=Y;have HC:=Z Q;clear Q;go_wp2;go_ret;obtain⟨⟨cG,l,c,d⟩,z⟩:=HC.o;rw[m.o]at c;exact⟨_,rfl,⟨cG,l,c,m.o▸d⟩,z⟩
structure Chg where
 add:Bool
 rel:dO
 rv:aE
 row:Row
def aKx(c:Chg):Nat->aE
 |0=>nj c.add
 |1=>mX c.rel
 |_=>c.rv
def Kb:Chg:=⟨rR,bU,jS K 0 0,[]⟩
theorem a0I:wV prog 26 36 3 48 #[nj rR,mX {data:=#[]},jS K 0 0]:=
 .QZ (z:= .agg #[nj rR,mX {data:=#[]},cR]) underlying26 dJ rfl rfl
theorem wj(n:Int)(w:aA):aK prog 25 #[mj mn n] w λe w'=>e=mi (.agg #[mj mn 1,mj mn n,mX bU])/\U w [] w' []:=by
 go_in;go_wp2;refine mY (iI (T:=90) (v:= .agg #[X 1,X n,mX {data:=#[]}]) ⟨w,0,K⟩ rfl Yr (by go_simp)) rfl ?_;exact⟨rfl,(U.refl w []).alloc _⟩
structure ChO(w w':aA)(b:Nat)(add:Bool)(rel:dO)(u:aE)(r:Row):Prop where
 cF:w'.heap[b]? =H (kd #[nj add,mX rel,u] 36 (0,0))
 ge:i7 w.heap<=b
 row:bN dV aR 90 3 w w' u r
 eU:U w [] w' []
theorem aLN{o:Nat}{add:Bool}{rel:dO}(G:h8 w ⟨g,o,K⟩=H (nj add))(W:h8 w ⟨g,o+1,K⟩=H (mX rel))(P:h8 w ⟨g,o+2,K⟩=H rv)(B:fM dV aR 3 w rv r)(S:O r<=1048576):
  aK prog 27 #[jS (H ⟨g,o,K⟩) 1 cap] w λe w'=>∃b u,e=mi (jS (H ⟨b,0,K⟩) 1 1)/\ChO w w' b add rel u r:=by
 obtain⟨V,rc,rfl,h⟩:=B.len;have q:=a0I.xO 1 1 (fV _) E E w;rw[show((1:Nat):Int)=1 from rfl,show madeCells #[nj rR,mX {data:=#[]},cR] (1*3)=#[nj rR,mX {data:=#[]},cR] by kernel_rfl]at q;let⟨b,l⟩:=D (i7 w.heap);let⟨wa,n⟩:=D (i5 w (kd #[nj rR,mX {data:=#[]},cR] 36));have a:=Za n;have T:=Ze n l;rw[l,n]at q;have c0:=a.cell G J;have c1:=a.cell W J;have c2:=a.cell P J;have f:=(λw2 (L:U wa [] w2 [])=>YG (B.on (a.ds L)) S);unfold bH at h;go_in;go_upto_region 3 with(fail);refine wp_loop_rounds 2 ?_;rw[rounds_succ];go_upto_region 5 with(fail);refine fj 20 (ez c0<|ez c1<|ey c2) (λwd A i Q=> ?_);have j:=(i.aC T J);refine ek [0,1,2,3,7,8,12,13,4,9,14,5,10,15,6,11,16] ?_;refine Zo 17 λk hK=> ?_;go_simp;go_at_call 31;apply(f wd i).cX;rintro e w2 ⟨u,rfl,p,d⟩;obtain⟨ua,uc,rfl,-⟩:=p.len;dsimp only;have c:=d.aC j J;obtain⟨tK,N,F⟩:=Q;have Q:=eI ((d).cell tK J) (eI ((d).cell N J) ((d).cell F J));obtain⟨b0,b1,b2⟩:=Z3 c;have bf:=aN c;have bl:=iP (dG c);refine j5 ?_;clear hK k;refine ek [18,19] ?_;refine Zo 20 λk hK=> ?_;go_simp;refine LP ?_;clear hK k;go_wp2;rw[rounds_succ];go_wp2;go_ret;have m:=PQ (x:=nj add) (y:=mX rel) (z:=jS ua (O r) uc) c;have C:=Nat.le_of_eq l;exact⟨b,_,rfl,m.1,C,((p.eO (j8 a.size i.size)).set c E m.2),(a.ds (i.ds d)).bJ m.2 (λx v=>by simp at v;rw[v];exact C)⟩
variable{wS:List Nat}{x:Nat}
theorem Wn{l:List Nat}{k:Nat}(b:k<O l)(a:hJ l k 0=x)(c:∀j,j<k->hJ l j 0≠x):l.idxOf x=k:=by
 induction l generalizing k with
 |nil=>simp at b
 |cons y l ih=>
  rw[List.idxOf_cons];cases k with
  |zero=>
   have:y=x:=a;subst this;simp
  |succ k=>
   have d:y≠x:=c 0 Y;have e:(y==x)=rR:=eP d;rw[e];simp only[cond_false];rw[ih (eP b) a (λj g=>c (j+1) Y)]
theorem aFR{l:List Nat}(h:fM fN 0 1 w v l)(u:x∈l):
  aK prog 130 #[v,mj mn (x:Int)] w λe w'=>e=mi (mj mn (l.idxOf x:Int))/\w=w':=by
 obtain⟨a,cap,rfl,r⟩:=h.len;unfold bH at r;go_in;go_wp2;go_loopg [8] (O l) (λB i wr=>w=wr/\∃k:Nat,k<=O l/\B=O l-k/\i=X k/\∀j,j<k->hJ l j 0≠x)
 .exact ZM183
 obtain⟨rfl,k,F,p,rfl,d⟩:=hrel;have A:=Z p;clear p;by_cases m:k<O l
 .obtain⟨g,o,cap',hv,-,n⟩:=fM.aS h m;have c0:=n 0 E;simp only[yC,qZ,fN]at c0;obtain rfl:=IK hv;let⟨y,b⟩:=D (hJ l k 0);rw[b]at c0;clear n;by_cases hs:x=y
  .have z:((x:Int)==(y:Int))=qT:=by rw[dH];exact kY hs
   have c:=Z hs;clear hs;go_wp2;go_ret;exact⟨by rw[Wn m (b.ds c.o.symm) d];rfl,rfl⟩
  .have z:((x:Int)==(y:Int))=rR:=by rw[dH];exact kE hs
   have c:=Z hs;clear hs;go_wp2;go_roundg (O l-(k+1))
   .exact⟨rfl,k+1,Y,rfl,eY,λj hj=>by
    by_cases q:j=k
    .subst q;rw[b];exact λe=>c.o e.symm
    .exact d j Y⟩
   have:=A.o;omega
 .exfalso;let⟨i,C,e⟩:=Na u;refine d i Y ?_;rw[gV,kU C,O8,e]
theorem Gs(vs wS:List Nat){k:Nat}(a:k<O vs):iJ (vs.take (k+1)) wS=iJ (vs.take k) wS++[wS.idxOf (hJ vs k 0)]:=by
 unfold iJ;rw[Bk,kU a,QW,gV,kU a];rfl
theorem sU{vs:List Nat}(h:fM fN 0 1 w v vs)(ha:fM fN 0 1 w av wS)(iD:∀x∈vs,x∈wS)(hl:O vs<=1000):
  aK prog 83 #[v,av] w λe w'=>∃u,e=mi u/\bN fN 0 3 1 w w' u (iJ vs wS)/\U w [] w' []:=by
 obtain⟨a,cap,rfl,S⟩:=h.len;obtain⟨aa,ac,rfl,-⟩:=ha.len;unfold bH at S;have s:=Z h;have HA:=Z ha;have L:=Z iD;obtain⟨n,q⟩:=D (O vs);have C:=Z q;rw[q]at s hl S;rw[q];have r:=Z0.xO 0 n (gz _) (by omega) (by unfold bH;omega) w;have t:=Z0.yY 0 n (gz _) (by unfold bH;omega) w (by omega);obtain⟨wa,G⟩:=D (i5 w (kd (madeCells #[mj mn 0] (n*1)) 3));have T:=Za G;rw[G]at r t;have b:bN fN 0 3 1 w wa (jS (H ⟨i7 w.heap,0,K⟩) 0 n) []:=⟨t.congr λi j hi _=>absurd hi (zn i),λg hg=>by
  have:i7 w.heap=g:=by simpa[i6]using hg
  omega⟩
 obtain⟨b5,Qd⟩:=D (i7 w.heap);rw[Qd]at r b;simp only[Int.natCast_zero]at r;have m:=Z b;have yM:=Z T;clear h ha iD q t G b T Qd;go_enter func83,ntmps83;go_upto_region 3 with(fail);clear r;go_loopg [5,13] n (λgg s5 N wr=>∃k:Nat,k<=n/\gg=n-k/\N=mj mn k/\bN fN 0 3 1 w wr s5 (iJ (vs.take k) wS)/\U w [] wr [])
 case atStart=>exact⟨0,gz _,rfl,rfl,m.o,yM.o⟩
 case round=>
  obtain⟨k,hk,B,rfl,b,c⟩:=hrel;obtain⟨oa,oc,rfl,-⟩:=b.len;by_cases aY:k<n
  .have z:k<O vs:=by rw[C.o];exact aY
   obtain⟨g,o,cap',hv,-,hc⟩:=fM.aS (s.o.on c) z;have c0:=hc 0 (by decide);simp only[z',zN,fN]at c0;injection hv with x1 x2 x3;clear x2 x3;subst x1;have A:=Gs vs wS z;have P:=L.o _ (bO (d:=0) z);obtain⟨y,Q⟩:=D (hJ vs k 0);rw[Q]at c0 A P;have p:=Z (aFR (HA.o.on c) P);obtain⟨ix,l⟩:=D (wS.idxOf y);rw[l]at A p;have V:O (iJ (vs.take k) wS)=k:=by rw[xL,B2];omega
   have F:=Z A;have m:=Z b;have f:=Z c;have JY:=Z B;have Fb:=Z V;clear hc Q A P l b c B z V;go_wp2_with (first
    |(at_builtin;refine cK QL rfl _ _ rfl m.o f.o (by rfl) [mj mn (ix:Int)] ix (by rfl) rfl (dE rfl) rfl (by rw[Fb.o];omega) (by rw[Fb.o];unfold bH;omega) ?_;rintro g5 c5 w5 W cO- -;have pL:=Z W;have gN:=Z cO;clear W cO)
    |(go_at_call 130;refine p.o.mono ?_;rintro e w2 ⟨rfl,rfl⟩))
   go_roundg (n-(k+1))
   case measure=>have:=JY.o;omega
   case rel=>exact⟨k+1,by omega,rfl,by go_num,by rw[F.o];exact pL.o,gN.o⟩
  .obtain rfl:k=n:=by omega
   have m:=Z b;have f:=Z c;clear b c B;go_wp2;go_ret;have ho:=m.o;rw[<-C.o,B4]at ho;rw[<-C.o,B4];exact⟨_,rfl,ho,f.o⟩
variable{ts:List j6}{tv:aE}
theorem ZM43{P:Prop}(h:P:=by
  have wG:=Z eB;clear eB;go_upto_region 14 with(go_at_call 36;refine(HIX.o _ (by first|exact VK.o|(rw[qG];exact VK.o))).mono ?_;rintro e w9 ⟨rfl,rfl⟩);try rw[qG]
  go_quiet (fail);go_wp2;go_ret2;refine⟨EO.o.ds ((U.refl _ _).drewN _),?_⟩;rw[Sh.o,AX.o,if_neg HV.o,if_neg (Nat.ne_of_lt HJ.o.1),if_neg wG.o];rfl):P:=h
theorem ZM62{P:Prop}(h:P:=by
  have wG:=Z eB;clear eB;go_upto_region 9 with(fail);try rw[qG]
  go_quiet (fail);go_wp2;go_ret2;refine⟨EO.o.ds ((U.refl _ _).drewN _),?_⟩;rw[Sh.o,AX.o,if_pos HV.o,if_neg wG.o];rfl):P:=h
def zx(w:aA)(x:Option Row)(e:cc)(w':aA):Prop:=
 U w [] w' []/\match x with
 |none=>e=mi (mr #[jS K 0 0,nj rR])
 |some m=>∃u,e=mi (mr #[u,nj qT])/\bN dV aR 90 3 w w' u m
theorem aLW{l:List dO}{s:dO}(h:s∈l):aj l s=(l.idxOf s:Int):=bW h
theorem aEF{a:pB}{k:Nat}(b:k<O a.aV){t:j6}(c:hJ a.aV k sT=t)(hv:t.var≠bU):t.var∈cJ a:=by
 unfold cJ;rw[uP];refine .inr ⟨t,?_,hv,rfl⟩;rw[<-c];exact bO b
theorem Ow{out:Row}{k:Nat}(d:k<O ts)(c:k<O r){t:j6}{x:L4}(b:hJ ts k sT=t)(a:hJ r k aR=x):
  kS vs (ts.drop k) (r.drop k) out=if t.var=bU then(if x=t.xW then kS vs (ts.drop (k+1)) (r.drop (k+1)) out else K)
   else if vs.idxOf t.var=O out then kS vs (ts.drop (k+1)) (r.drop (k+1)) (out++[x])
   else if hJ out (vs.idxOf t.var) aR=x then kS vs (ts.drop (k+1)) (r.drop (k+1)) out else K:=by
 rw[Ge d,Ge c];rw[gV,kU d]at b;rw[gV,kU c]at a;simp only[O8]at b a;rw[b,a];rfl
theorem aBS{a:pB}(c:AW w tv a.aV)(hr:fM dV aR 3 w rv r)(hs:O a.aV<=1048576):
  aK prog 108 #[.agg #[mX a.rel,tv],rv] w (zx w (C4 a r)):=by
 obtain⟨ta,tc,rfl,Pv⟩:=c.len;obtain⟨ra,rc,rfl,hmr⟩:=hr.len;unfold bH at Pv hmr;obtain⟨wa,dM⟩:=D (i5 w (kd #[mX a.rel,jS ta (O a.aV) tc] 87));have cV:=Za dM;have N:=Zb dM;obtain⟨bx,mJ⟩:=D (i7 w.heap);rw[mJ]at N;obtain⟨b0,G⟩:=Z2 N;have HT:=Z c;have HR:=Z hr;have yM:=Z cV;have tE:=Z N;have m:=Z (λS (hz:U wa [] S [])=>CJ _ a.rel a.aV S ((c.on cV).on hz) hs);by_cases hl:O r=O a.aV
 .have vm:C4 a r=kS (cJ a) a.aV r []:=if_pos hl;have HM:=Z vm;rw[vm];clear vm;obtain⟨n,hn⟩:=D (O a.aV);rw[hn]at hl Pv hs dM b0 G tE HT m;have HL:=Z hl;have q:=Z hn;rw[hl]at HR;rw[hl,hn];clear hl hn c hr cV N;go_enter func108,ntmps108;have XI:O (cJ a)<=n:=by rw[<-q.o];have:=iB a.aV [];simpa[cJ]using this
  obtain⟨nv,mw⟩:=D (O (cJ a));have V:O (bL a.aV [])=nv:=mw;rw[mw]at XI;have HNV:=Z mw;clear mw;go_upto_region 4 with(go_at_call 37;refine(m.o _ (U.refl _ _)).mono ?_;rintro e w2 ⟨u,rfl,d,bM⟩;obtain⟨ua,uc,rfl,-⟩:=d.len;rw[V]at d|-;have G:=bM.cell G (by simp);have HO:=Z d;have eQ:=Z (yM.o.ds bM);clear d bM);clear V m;have uS:=aIo.xO 0 nv (gz _) (by omega) (by unfold bH;omega) w2;have rN:=aIo.yY 0 nv (gz _) (by unfold bH;omega) w2 (by omega);obtain⟨w3,jA⟩:=D (i5 w2 (kd (madeCells #[mj mn 0,mj mn 0,mX {data:=#[]}] (nv*3)) 90));have cW:=Za jA;rw[jA]at uS rN;have yp:bN dV aR 90 3 w w3 (jS (H ⟨i7 w2.heap,0,K⟩) 0 nv) []:=⟨rN.congr λi j hi _=>absurd hi (zn i),λg hg=>by
   have:i7 w2.heap=g:=by simpa[i6]using hg
   have:=eQ.o.size;omega⟩
  obtain⟨b7,OK⟩:=D (i7 w2.heap);rw[OK]at uS yp;simp only[Int.natCast_zero]at uS;have G:=cW.cell G (by simp);have Sc:=Z yp;have iF:=Z (eQ.o.ds cW);have HVS:=Z (HO.o.on cW);clear rN jA cW yp OK;go_upto_region 5 with(fail);clear uS;go_upto_region 6 with(fail);clear G;have EE:=Z HM.o;go_loopg [7,25] n (λgg s7 s25 wr=>∃(k:Nat) (out:Row),k<=n/\gg=n-k/\s25=mj mn k/\bN dV aR 90 3 w wr s7 out/\U w [] wr []/\wU wa wr (jS ua nv uc) (bL a.aV [])/\O out=O (bL (a.aV.take k) [])/\kS (cJ a) a.aV r []=kS (cJ a) (a.aV.drop k) (r.drop k) out)
  case atStart=>exact⟨0,[],gz _,rfl,rfl,Sc.o,iF.o,HVS.o,rfl,rfl⟩
  case round=>
   obtain⟨k,out,hk,rfl,rfl,d,s,T,z,JH⟩:=hrel;obtain⟨oa,oc,rfl,-⟩:=d.len;have Sh:=Z JH;have Y3:=Z z;clear JH z;by_cases aY:k<n
   .have b:k<O a.aV:=by rw[q.o];exact aY
    have C:k<O r:=by rw[HL.o];exact aY
    obtain⟨gt,ot,ct,hv,-,F⟩:=fM.aS (HT.o.on s) b;injection hv with x1 x2 x3;clear x2 x3;subst x1;obtain⟨gr,o,cr,hv,c0,c1,c2⟩:=uZ (HR.o.on s) C;injection hv with x1 x2 x3;clear x2 x3;subst x1;obtain⟨t,c⟩:=D (hJ a.aV k sT);obtain⟨x,hx⟩:=D (hJ r k aR);have AX:=Z (Ow (vs:=cJ a) (out:=out) b C c hx);have aXq:=Z (Cl b (t:=t) (by rw[List.getD_eq_getElem?_getD,List.getElem?_eq_getElem b]at c;exact c));have ue:=Z (aEF b c);rw[c]at F;rw[hx]at c0 c1 c2;have p0:h8 wr ⟨gt,ot+k*4,K⟩=H (mX t.var):=F 0 (by omega);have p1:h8 wr ⟨gt,ot+k*4+1,K⟩=H (mj mn t.xW.aG):=F 1 (by omega);have p2:h8 wr ⟨gt,ot+k*4+2,K⟩=H (mj mn t.xW.num):=F 2 (by omega);have p3:h8 wr ⟨gt,ot+k*4+3,K⟩=H (mX t.xW.dZ):=F 3 (by omega);obtain⟨wb,qG⟩:=D (i5 wr (kd #[mX t.var,mj mn t.xW.aG,mj mn t.xW.num,mX t.xW.dZ] 92));have A:=Za qG;have VB:=Zb qG;obtain⟨e0,e1,e2,e3⟩:=Z4 VB;have c0:=(A).cell c0 (by simp);have c1:=(A).cell c1 (by simp);have c2:=(A).cell c2 (by simp);have EO:=Z (s.ds A);have VK:=Z (T.on A);have f:=Z (d.on A);have BH:(k:Int)<(n:Int):=by omega
    clear F c hx b C d s T A VB;by_cases hv:t.var=bU
    .have Sw:=oV hv;have HV:=Z hv;clear hv;rcases UD x t.xW with B|⟨P,eB⟩|⟨P,h2,eB⟩|⟨P,h2,h3,eB⟩
     .have hsx:=A2 x.dZ x.dZ;have HX:=Z B;rw[<-B]at e1 e2 e3 qG p1 p2 p3;clear B;go_upto_region 9 with(fail);try rw[qG]
      go_quiet (fail);go_wp2;go_roundg (n-(k+1))
      case measure=>omega
      case rel=>exact⟨k+1,out,by omega,rfl,by go_num,f.o.on ((U.refl _ _).drewN _),EO.o.ds ((U.refl _ _).drewN _),VK.o.on ((U.refl _ _).drewN _),by rw[aXq.o.1 HV.o];exact Y3.o,by rw[Sh.o,AX.o,if_pos HV.o,if_pos HX.o]⟩
     .exact ZM62
     .exact ZM62
     .exact ZM62
    .have Sw:=jJ hv;have IQ:=qE hv;have HV:=Z hv;have v:=aLW (show t.var∈bL a.aV []from ue.o hv);have Xr:=aXq.o.2 hv;obtain⟨W,p⟩:=D ((cJ a).idxOf t.var);have L:(bL a.aV []).idxOf t.var=W:=p;rw[L]at v;rw[p]at Xr AX;rw[<-Y3.o]at Xr;have HIX:=Z (λS (hz:wU wa S (jS ua nv uc) (bL a.aV []))=>D4 _ _ t.var S hz.rd);rw[v]at HIX;clear hv v p L;rcases Xr with l|l
     .have HJ:=Z l;obtain⟨go,oo,co,hvo,q0,q1,q2⟩:=uZ f.o.rd l.1;injection hvo with x1 x2 x3;clear x2 x3;subst x1;obtain⟨y,hy⟩:=D (hJ out W aR);rw[hy]at q0 q1 q2 AX;have oC:((W:Int)==(O out:Int))=rR:=by rw[dH];exact decide_eq_false (by omega)
      have qP:(W:Int)<(O out:Int):=by omega
      clear l hy;rcases UD y x with B|⟨P,eB⟩|⟨P,h2,eB⟩|⟨P,h2,h3,eB⟩
      .have hsx:=A2 x.dZ x.dZ;have HX:=Z B;rw[B]at q0 q1 q2;clear B;go_upto_region 14 with(go_at_call 36;refine(HIX.o _ (by first|exact VK.o|(rw[qG];exact VK.o))).mono ?_;rintro e w9 ⟨rfl,rfl⟩);try rw[qG]
       go_quiet (fail);go_wp2;go_roundg (n-(k+1))
       case measure=>omega
       case rel=>exact⟨k+1,out,by omega,rfl,by go_num,f.o.on ((U.refl _ _).drewN _),EO.o.ds ((U.refl _ _).drewN _),VK.o.on ((U.refl _ _).drewN _),by rw[HJ.o.2];exact Y3.o,by rw[Sh.o,AX.o,if_neg HV.o,if_neg (Nat.ne_of_lt HJ.o.1),if_pos HX.o]⟩
      .exact ZM43
      .exact ZM43
      .exact ZM43
     .have HJ:=Z l;have oC:((W:Int)==(O out:Int))=qT:=by rw[dH];exact decide_eq_true l.1
      have z:O out<=1048576:=by rw[Y3.o];have:=iB (a.aV.take k) [];have:=List.length_take_le k a.aV;simp only[x']at*;omega
      clear l;go_upto_region 13 with(go_at_call 36;refine(HIX.o _ (by first|exact VK.o|(rw[qG];exact VK.o))).mono ?_;rintro e w9 ⟨rfl,rfl⟩);try rw[qG]
      have lgr:=iP (block_lt_of_cell c0);go_wp2_with (at_builtin;refine cK aLB rfl _ _ rfl f.o EO.o (by rfl) [mj mn x.aG,mj mn x.num,mX x.dZ] x (by rfl) rfl (λj l=>by match j,l with|0,_=>rfl|1,_=>rfl|2,_=>rfl) rfl (by omega) (by unfold bH;omega) ?_;rintro g5 c5 w5 lU cO Q hg5;have pL:=Z lU;have gN:=Z cO;have a4R:=Z Q;clear lU cO Q);go_roundg (n-(k+1))
      case measure=>omega
      case rel=>exact⟨k+1,out++[x],by omega,rfl,by go_num,pL.o,gN.o,VK.o.jT f.o (by decide) a4R.o,by rw[HJ.o.2,vW];rfl,by rw[Sh.o,AX.o,if_neg HV.o,if_pos HJ.o.1]⟩
   .obtain rfl:k=n:=by omega
    rw[List.drop_eq_nil_iff.2 (by rw[q.o];exact yo _)]at Sh;have NG:=Z d;have a4T:=Z s;clear d s;go_wp2;go_ret2;refine⟨a4T.out,?_⟩;rw[Sh.o];unfold kS;exact⟨_,rfl,NG.o⟩
 .have vm:C4 a r=K:=if_neg hl;have XL:((O r:Int)==(O a.aV:Int))=rR:=by rw[dH];exact decide_eq_false hl
  rw[vm];clear c hr cV N vm hl m;go_enter func108,ntmps108;go_wp2;go_ret2;exact⟨yM.o,rfl⟩
variable{ns:List (bE×aE)}{ps:List (dO×aE)}{L' bs:List Nat}{xB:List aE}{F G j tg β:Nat}{p:vZ}{bV:bC}{hv nv v0 v1 v2 v4:aE}
structure QT(w:aA)(ρ:bC)(tg:Nat)(hv av:aE)(ps:List (dO×aE))(q:bK):Prop where
 head:lW yK bU 1 w ρ tg hv q.head
 cap:yT hv
 aD:lW xV sT 2 w ρ tg av ps
 len:O ps=O q.aD
 lD:∀i,i<O q.aD->(hJ ps i sT).1=(hJ q.aD i sT).rel/\lW j6.cell sT 4 w ρ tg (hJ ps i sT).2 (hJ q.aD i sT).aV
 eD:q.kM
theorem QT.eb{S:Nat->Prop}(h:QT w ρ tg hv av ps q)(a:bI w ρ S w' bV)(b:¬S tg):QT w' bV tg hv av ps q:=
 ⟨h.head.eb a b,h.cap,h.aD.eb a b,h.len,λi c=>⟨(h.lD i c).1,(h.lD i c).2.eb a b⟩,h.eD⟩
def mR(β i:Nat):Nat:=β+1000+100*i
structure Eu(w:aA)(ρ:bC)(β:Nat)(q:bK)(p:vZ)(hv av v0 v1 v2 v4 nv ov:aE)(ps:List (dO×aE))(ns:List (bE×aE))(xB:List aE)(bs:List Nat):Prop where
 qt:QT w ρ (β+1) hv av ps q
 aI:lW nS sT 7 w ρ (β+1) v2 ns
 nsp:ns.map (·.1)=p.aI
 nvs:∀x,x∈ns->∃a n c,x.2=jS a n c
 nM:lW GA undef 1 w ρ (β+1) ov xB
 aO3:O xB=O q.aD
 aJS:∀i,i<O q.aD->lW fN 0 1 w ρ (β+1) (hJ xB i undef) (pQ p (hJ q.aD i sT) i)
 nds:lW Zd 0 1 w ρ (β+1) nv bs
 ndn:O bs=O p.aI
 vs:(∃a n c,v0=jS a n c)/\(∃a n c,v1=jS a n c)/\∃a n c,v4=jS a n c
theorem Eu.eb{ov:aE}{S:Nat->Prop}(h:Eu w ρ β q p hv av v0 v1 v2 v4 nv ov ps ns xB bs)(a:bI w ρ S w' bV)(b:¬S (β+1)):Eu w' bV β q p hv av v0 v1 v2 v4 nv ov ps ns xB bs:=
 ⟨h.qt.eb a b,h.aI.eb a b,h.nsp,h.nvs,h.nM.eb a b,h.aO3,λi c=>(h.aJS i c).eb a b,h.nds.eb a b,h.ndn,h.vs⟩
structure bo(q:bK):Prop where
 aEa:(aB q).1=0
 wf:gU (O (vars q)) (O q.aD) (aB q).2
 oE:O (aB q).2.aI<=42
 six:O q.aD<=6
 wide:O (vars q)<=30
 a38:∀a,a∈q.aD->O a.aV<=5
def iO(q:bK)(p:vZ)(hv av v0 v1 v2 v4 nv ov:aE)(cells:Nat)(state lK:Nat):Array aE:=
 #[mX q.name,hv,av,v0,v1,v2,mj mn (p.dQ:Int),v4,mj mn (cells:Int),nv,ov,mj mn (state:Int),mj mn (lK:Int),nj rR,mj mn 0]
structure gT(w:aA)(ρ:bC)(β b:Nat)(q:bK)(cells st ls:Nat)(T:gZ)(F G:Nat):Prop where
 ex:∃hv av v0 v1 v2 v4 nv ov ps ns xB bs,w.heap[b]? =H (kd (iO q (aB q).2 hv av v0 v1 v2 v4 nv ov cells st ls) 105 (0,0))/\
  Eu w ρ β q (aB q).2 hv av v0 v1 v2 v4 nv ov ps ns xB bs/\∀i,i<O (aB q).2.aI->p9 w ρ (mR β i) (hJ bs i 0) (eF (aB q).2 i) (T i) F G
 cE:ρ b=β
theorem gT.eb{cells ls:Nat}{S:Nat->Prop}(h:gT w ρ β b q cells st ls T F G)(a:bI w ρ S w' bV)(g:¬S β)(p:¬S (β+1))(n:∀i c,i<O (aB q).2.aI->c<80->¬S (mR β i+c)):gT w' bV β b q cells st ls T F G:=by
 obtain⟨hv,av,v0,v1,v2,v4,nv,ov,ps,ns,xB,bs,d,l,j⟩:=h.ex;exact⟨⟨hv,av,v0,v1,v2,v4,nv,ov,ps,ns,xB,bs,a.aC d (h.cE▸g),l.eb a p,λi e=>(j i e).eb a (λc m=>n i c e m)⟩,(a.cE _ (dG d)).ds h.cE⟩
theorem gT.on{cells ls:Nat}(h:gT w ρ β b q cells st ls T F G)(a:U w [] w' L'):gT w' ρ β b q cells st ls T F G:=
 h.eb (S:=eZ) a.fL id id (λ_ _ _ _ h=>h)
structure lR(w:aA)(ρ:bC)(β b:Nat)(q:bK)(cells:Nat)(t:iL)(F G:Nat):Prop where
 bd:gT w ρ β b q cells t.state t.lK t.T F G
 ok:bo q
 ZM:tC (aZ (aB q).2) t.T
 num:t.state<=t.lK/\t.lK<=G
 cel:1<=cells/\cells<=65536
def CK(β x:Nat):Prop:=β<=x/\x<β+10000/\x≠β+1
theorem kt(a:i<42)(h:fU (mR β i) x):CK β x:=by
 unfold fU eX mR at h;unfold CK;omega
theorem PW(h:fU (mR β i) x):β+1000<=x:=by
 unfold fU eX mR at h;omega
theorem aBL(a:i≠j)(b:c<100):¬fU (mR β i) (mR β j+c):=by
 unfold fU eX mR;omega
theorem Qy{α:Type}{l:List α}{d x:α}(a:i<O l)(h:hJ l i d=x):l[i]=x:=by
 rw[gV,kU a]at h;exact h
theorem WC{cells ls:Nat}{ov:aE}{a:pB}(hb:w.heap[b]? =H (kd (iO q (aB q).2 hv av v0 v1 v2 v4 nv ov cells st ls) 105 (0,0)))(h:Eu w ρ β q (aB q).2 hv av v0 v1 v2 v4 nv ov ps ns xB bs)(B:bo q)(j:i<O q.aD)(ha:hJ q.aD i sT=a)(S:fM dV aR 3 w rv r)(hf:CE r):
  aK prog 63 #[lr (H ⟨b,0,K⟩),mj mn (i:Int),rv] w (zx w (jI (aB q).2 a i r)):=by
 have hik:(i:Int)<(O q.aD:Int):=Y;obtain⟨ga,oa,ca,F,-,T⟩:=fM.aS h.qt.aD.1 (i:=i) (h.qt.len▸j);let⟨hrel,z⟩:=h.qt.lD i j;rw[ha]at hrel z;obtain⟨ta,tc,W,-⟩:=z.len;have p0:h8 w (Ad ga (oa+i*2))=H (mX a.rel):=by have:=T 0 E;rwa[show xV (hJ ps i sT) 0=mX (hJ ps i sT).1 from rfl,hrel]at this
 have p1:h8 w (Ad ga (oa+i*2+1))=H (jS ta (O a.aV) tc):=by have:=T 1 E;rwa[show xV (hJ ps i sT) 1=(hJ ps i sT).2 from rfl,W]at this
 rw[h.qt.len]at F;obtain⟨go,oo,co,L,-,G⟩:=fM.aS h.nM.1 (i:=i) (h.aO3▸j);have d:=h.aJS i j;rw[ha]at d;obtain⟨da,dc,p,-⟩:=d.len;have o0:h8 w (Ad go (oo+i))=H (jS da (O (pQ (aB q).2 a i)) dc):=by have:=G 0 E;rwa[show GA (hJ xB i undef) 0=hJ xB i undef from rfl,p,yC,qZ]at this
 rw[h.aO3]at L;rw[p]at d;rw[W]at z;subst F L;have aF7:O a.aV<=1048576:=by
  have:=B.a38 a (ha▸bO j);omega
 have C:=Z (aBS (a:=a) z.1 S aF7);have f:=Z (λwz (hz:U w [] wz [])=>M9 rv r wz (S.on hz) hf);have HOR:=Z d.1;have hol:O (pQ (aB q).2 a i)<=30:=by
  rw[GN];let⟨s,hs,e⟩:=(B.wf.EN i (xF j B.wf.CZ)).vars;rw[e];exact DB B.wide hs
 have Y3:=Z hol;have YW:=Z (Vp B.aEa j (Qy j ha));obtain⟨ra,rc,rfl,-⟩:=S.len;have Q:=hb;unfold iO at Q;have b2:=Zc Q 2;have A:=Zc Q 10;clear T hrel z W G d p S hf h ha hb Q;cases g:C4 a r with
 |none=>
  have hl:jI (aB q).2 a i r=K:=by unfold jI;rw[g]
  rw[g]at C;rw[hl];clear g hl;go_in;go_wp2_with (go_at_call 108;apply C.cX;rintro e w2 ⟨l,rfl⟩;have n:=Z l;clear l);go_ret2;exact⟨n,rfl⟩
 |some m=>
  let⟨P,k⟩:=SC g;have HML:=Z P;rw[g]at C;cases N:dS r with
  |false=>
   have hl:jI (aB q).2 a i r=K:=by unfold jI;rw[g];simp only;rw[N];rfl
   rw[hl];rw[N]at f;clear g hl k P;go_in;go_wp2_with (first
    |(go_at_call 108;apply C.cX;rintro e w2 ⟨l,u,rfl,v⟩;obtain⟨ua,uc,rfl,-⟩:=v.len;have n:=Z l;clear l v)
    |(go_at_call 109;apply(f.o _ n).dC;intro w3 x;have y:=Z (n.ds x);clear x))
   go_ret2;exact⟨y,rfl⟩
  |true=>
   have hl:jI (aB q).2 a i r=H (dF m (pQ (aB q).2 a i)):=by unfold jI;rw[g];simp only;rw[N];rfl
   rw[hl];rw[N]at f;have o:O m<=1048576:=by rw[P];have:=iB a.aV [];unfold cJ;simp only[x']at this;omega
   have a5A:=Z o;clear g hl k P o;go_in;go_wp2_with (first
    |(go_at_call 110;refine(J0 _ _ m (pQ (aB q).2 a i) _ (HO.rd.on V) (HOR.on y) Y3 (λc hc=>by rw[HML.o];exact YW c hc) a5A).mono ?_;rintro e w4 ⟨u4,rfl,SV,eJ⟩;obtain⟨ua4,uc4,rfl,-⟩:=SV.len;have lH:=Z eJ;have Sb:=Z SV;clear eJ SV)
    |(go_at_call 109;apply(f.o _ n).dC;intro w3 x;have y:=Z (n.ds x);have V:=Z x;let⟨A,o0⟩:=y.zc2 A o0;clear x)
    |(go_at_call 108;apply C.cX;rintro e w2 ⟨l,u,rfl,v⟩;obtain⟨ua,uc,rfl,-⟩:=v.len;have n:=Z l;have HO:=Z v;clear l v))
   go_ret2;exact⟨y.ds lH,_,rfl,Sb.eO y.size⟩
variable{V m:Nat}{u z:aE}
theorem ZM202{P:Prop}(h:P:=by
  have lA:=Z (Nv (x:=X (S.aG:Int)) (y:=X (S.kJ:Int)) (z:=jS ka (O S.eb) kc) (u:=jS sa (O S.bP) sc) (v:=jS ua (O S.up) uc) (s:=X (S.aH:Int)) sF);generalize Hn:(hY (hY (hY (hY (hY (hY wf (Ad br 0) (X (S.aG:Int))) (Ad br 1) (X (S.kJ:Int))) (Ad br 2) (jS ka (O S.eb) kc)) (Ad br 3) (jS sa (O S.bP) sc)) (Ad br 4) (jS ua (O S.up) uc)) (Ad br 5) (X (S.aH:Int)))=wz at lA;have AP:=lA.out.1;obtain⟨s0,s1,s2,s3,s4,s5⟩:=Z6 AP;clear AP;go_wp2;refine mY (iI (T:=114) (Ad br 0) rfl Yr (v:=nO S ka kc sa sc ua uc) (by unfold nO;go_simp)) rfl ?_;unfold G1;rw[HSQ.o];exact⟨ka,kc,sa,sc,ua,uc,rfl,(rF.set sF E lA.out.2).rd,(BT.set sF E lA.out.2).rd,(cu.set sF E lA.out.2).rd,cz.bJ lA.out.2 (λb hb=>by have:b=br:=(eP hb);have:=HBP.o;omega)⟩):P:=h
theorem ZM188{P:Prop}(h:P:=by
  rw[<-HU.o]at pK;clear Ks;go_upto_region 18 with(go_at_call 83;apply pK.cX;rintro e w2 ⟨u,rfl,hO,bM⟩;obtain⟨ua,uc,rfl,-⟩:=hO.len;have pK:=Z (bM.aC HCQ J);have d4:=Lx pK.o;have df:=aN pK.o;have dl:=iP (dG pK);have tY:=Z bM;have NG:=Z (hO.eO (wb:=w) LI.size);clear bM hO);clear d4 df dl y0 y2 e2;let⟨wf,tT⟩:=D (hY w2 (Ad bs 4) (jS ua (O S.up) uc));have yB:U w2 [bs] wf [bs]:=tT▸qX w2 bs 4 _;have WS:wf.heap[bs]? =H (kd #[X (S.aG:Int),X (S.kJ:Int),jS ka (O S.eb) kc,jS sa (O S.bP) sc,jS ua (O S.up) uc,X (S.aH:Int)] 114 (0,0)):=by rw[<-tT,aF _ pK.o];rfl
  have cz:=Z ((LI.ds tY).bJ yB (λb hb=>by have:b=bs:=(eP hb);have:=lX.o;omega));replace rF:=Z ((rF.on (X4.ds tY)).set pK E yB);replace BT:=Z ((BT.on (X4.ds tY)).set pK E yB);have cu:=Z (NG.set pK E yB);have sF:=Z (yB.aC (tY.aC di J) (by simp;have:=lX.o;omega));have tU:=sF.o;obtain⟨d0,d1,d2,d3,d4,d5⟩:=Z6 WS;obtain⟨r0,r1,r2,r3,r4,r5⟩:=Z6 tU;have rl:=iP (dG tU);have rf:=aN tU;clear yB tU WS;rw[tT];clear tT;exact ZM202):P:=h
theorem ZM0{P:Prop}(h:P:=by
  have Yg:=HUX.aC Y4 (by simp;have:=lX.o;omega);have Qm:=HUX.aC tt (by simp;have:=lX.o;omega);have sF:=Z (HUX.aC HR4 (by simp;have:=lX.o;omega));have L7:=Z (lH.bJ HUX (λb hb=>by have:b=bs:=(eP hb);have:=lX.o;omega));obtain⟨e0,e1,e2,e3,e4,e5,e6⟩:=Z7 Yg;have q2:=Zc Qm 2;clear Qm;rcases Int.lt_or_le x.bS 0 with hp|hp
  .have gp:decide (x.bS<0)=qT:=kY hp;have F4:S.up=[]:=by rw[dh.o.2.2.2.2.1,bW hp]
   have hul:O S.up=0:=by rw[F4];rfl
   obtain⟨ua,uc,WS,cu⟩:∃ua uc,wx.heap[bs]? =H (kd #[X (S.aG:Int),X (S.kJ:Int),jS ka (O S.eb) kc,jS sa (O S.bP) sc,jS ua (O S.up) uc,X (S.aH:Int)] 114 (0,0))/\dT (bN fN 0 3 1 w wx (jS ua (O S.up) uc) S.up):=⟨K,0,by rw[hul];exact HC,Z (by rw[F4];exact bN.nil _ _)⟩;have cz:=L7;have tU:=sF.o;obtain⟨d0,d1,d2,d3,d4,d5⟩:=Z6 WS;obtain⟨r0,r1,r2,r3,r4,r5⟩:=Z6 tU;have rl:=iP (dG tU);have rf:=aN tU;clear hp F4 hul WS tU Yg;obtain⟨wf,tT⟩:∃wf,wf=wx:=⟨_,rfl⟩;subst tT;exact ZM202
  .obtain⟨j,hj⟩:∃j:Nat,x.bS=(j:Int):=⟨x.bS.toNat,Y⟩;have gp:decide ((j:Int)<0)=rR:=kE Y;rw[hj]at e5;let⟨Py,hjm⟩:=HS.2.2 j hj;have Hv:(j:Int)<(N:Int):=kX E4.o;let⟨ya,yc,OI,n0,n1,n2,n3,n4,n5,n6⟩:=FH.o j Py;have F4:=dh.2.2.2.2.1;rw[R Y,hj,zbX]at F4;have sp:=Z (by have:=Tm.o i (kX E4.o);rw[HX.o]at this;exact this);have zz:=Z (Tm.o j Py);generalize hy:eA p.aI j=y at n0 n1 n2 n3 n4 n5 n6 OI F4 hjm zz;replace n0:=L7.cell n0 J;replace n1:=L7.cell n1 J;replace n2:=L7.cell n2 J;replace n3:=L7.cell n3 J;replace n4:=L7.cell n4 J;replace n5:=L7.cell n5 J;replace n6:=L7.cell n6 J;have HYV:=Z OI;have cd:=Z F4;have HJM:=Z hjm;have HPJ:=Z hj;have Sd:=Z Yg;clear hp Py hjm OI F4 hj hy Yg;go_upto_region 15 with(fail);clear n0 n1 n2 n3 n4 n5 n6 e0 e1 e2 e3 e4 e5 e6 q2;let⟨wq,MP⟩:=D (i5 wx (kd #[X (y.aG:Int),X (y.qV:Int),jS ya (O y.vars) yc,X (y.cM:Int),X (y.bP:Int),X y.bS,nj y.mL] 79));let⟨bq,EK⟩:=D (i7 wx.heap);have X4:dT (U wx [] wq []):=Z (Za MP);have hQ:=Ze MP EK;rw[MP,EK];have LI:=Z (L7.ds X4);have hNQ:=X4.aC Sd J;have HCQ:=Z (X4.aC HC J);have di:=Z (X4.aC sF J);have y0:=Zc hQ 0;have y2:=Zc hQ 2;have e2:=Zc hNQ 2;clear hQ hNQ MP EK;by_cases Ks:y.aG=2
   .have gy:((y.aG:Int)==2)=qT:=kG LQ;have HU:dT (S.up=iJ y.vars x.vars):=Z (by rw[cd.o,bW Ks]);have HJ:dT (∀z∈y.vars,z∈x.vars):=Z (λz hz=>HJM.o z (by rw[bW Ks];exact hz));have pK:=Z (sU (HYV.on LI) (HXV.on LI) HJ (pN zz.o sp.o));exact ZM188
   .have gy:((y.aG:Int)==2)=rR:=kG GD;have HU:dT (S.up=iJ x.vars x.vars):=Z (by rw[cd.o,R Ks]);have HJ:dT (∀z∈x.vars,z∈x.vars):=Z (λz hz=>HJM.o z (by rw[R Ks];exact hz));have pK:=Z (sU (HXV.on LI) (HXV.on LI) HJ (pN zz.o sp.o));exact ZM188):P:=h
theorem gU.a0O(h:gU V m p)(d:i<O p.aI):
  ((eA p.aI i).aG=2->(eA p.aI i).cM<O p.aI/\∀x∈(eA p.aI i).vars,x∈(eA p.aI (eA p.aI i).cM).vars)/\
  ((eA p.aI i).aG=3->(eA p.aI i).bP<O p.aI/\∀x∈(eA p.aI (eA p.aI i).bP).vars,x∈(eA p.aI i).vars)/\
  (∀j:Nat,(eA p.aI i).bS=(j:Int)->j<O p.aI/\∀x∈(if(eA p.aI j).aG=2 then(eA p.aI j).vars else(eA p.aI i).vars),x∈(eA p.aI i).vars):=by
 let⟨w,b2,q⟩:=h.below i d;have e:∀{s t:Nat},part s t=qT->∀x∈cB s,x∈cB t:=λu x n=>by
  let⟨x1,x2⟩:=nA.1 n;exact nA.2 ⟨x1,jV.1 u x x2⟩
 refine⟨λa=> ?_,λa=> ?_,λj y=> ?_⟩
 .have hs:(eA p.aI i).cM<i:=b2 (by have:(eA p.aI i).aG=(hJ p.aI i sT).aG:=rfl;omega);obtain⟨s,t,-,-,c,e2,b,-⟩:=(h.EN i d).FI a;exact⟨Y,by rw[c,e2];exact e b⟩
 .have hs:(eA p.aI i).bP<i:=q a;obtain⟨s,t,-,-,c,-,e2,b⟩:=(h.EN i d).US a;exact⟨Y,by rw[c,e2];exact e b⟩
 .let⟨v,g,z,r⟩:=h.aAy i d Y;obtain rfl:j=v:=Y;refine⟨g,?_⟩;by_cases a:(eA p.aI j).aG=2
  .rw[bW a];obtain⟨s,t,-,-,c,e2,b,-⟩:=(h.EN j g).FI a;have l:(eA p.aI j).cM=i:=by
    rcases jH.1 r with⟨-,c2⟩|⟨c1,-⟩
    .exact c2
    .omega
   rw[l]at e2;rw[c,e2];exact e b
  .rw[R a];exact λ_ h=>h
theorem gU.uq(a:V<=30)(h:gU V m p)(b:i<O p.aI):O (eA p.aI i).vars<=30:=by
 let⟨s,hs,e⟩:=(h.EN i b).vars;rw[e];exact DB a hs
theorem wl(v:fM nS sT 7 w v2 ns)(b:ns.map (·.1)=p.aI)(A:∀x,x∈ns->fM fN 0 1 w x.2 x.1.vars)(B:0<O p.aI):
  ∃g o cap,v2=jS (H ⟨g,o,K⟩) (O p.aI) cap/\∀j,j<O p.aI->∃va vc,fM fN 0 1 w (jS va (O (eA p.aI j).vars) vc) (eA p.aI j).vars/\
   h8 w ⟨g,o+j*7,K⟩=H (mj mn ((eA p.aI j).aG:Int))/\h8 w ⟨g,o+j*7+1,K⟩=H (mj mn ((eA p.aI j).qV:Int))/\h8 w ⟨g,o+j*7+2,K⟩=H (jS va (O (eA p.aI j).vars) vc)/\
   h8 w ⟨g,o+j*7+3,K⟩=H (mj mn ((eA p.aI j).cM:Int))/\h8 w ⟨g,o+j*7+4,K⟩=H (mj mn ((eA p.aI j).bP:Int))/\h8 w ⟨g,o+j*7+5,K⟩=H (mj mn (eA p.aI j).bS)/\
   h8 w ⟨g,o+j*7+6,K⟩=H (nj (eA p.aI j).mL):=by
 have hl:O ns=O p.aI:=by rw[<-b,r8]
 obtain⟨g,o,cap,rfl,-,-⟩:=v.aS (i:=0) Y;refine⟨g,o,cap,by rw[hl],λj F=> ?_⟩;have l:j<O ns:=Y;obtain⟨g',C,cap',e,-,a⟩:=v.aS l;injection e with e1 e2 e3;injection e1 with e1;injection e1 with e1 e4 e5;subst e1 e4;have c:(hJ ns j sT).1=eA p.aI j:=by
  unfold eA;rw[<-b,gV,gV,So,kU l];rfl
 have hv:=A _ (bO (d:=sT) l);rw[c]at hv;obtain⟨va,vc,q,-⟩:=hv.len;rw[q]at hv;have r:=a 0 E;have m:=a 1 E;have n2:=a 2 E;have n:=a 3 E;have y:=a 4 E;have u:=a 5 E;have z:=a 6 E;simp only[nS,qZ,c,q]at r m n2 n y u z;exact⟨va,vc,hv,r,m,n2,n,y,u,z⟩
def G1(w:aA)(s:lV)(e:cc)(w':aA):Prop:=
 ∃ka kc sa sc ua uc,e=mi (nO s ka kc sa sc ua uc)/\fM fN 0 1 w' (jS ka (O s.eb) kc) s.eb/\fM fN 0 1 w' (jS sa (O s.bP) sc) s.bP/\fM fN 0 1 w' (jS ua (O s.up) uc) s.up/\U w [] w' []
theorem Nv{B:Nat}{a b c d e f x y s:aE}{t:ap}(h:w.heap[B]? =H (kd #[a,b,c,d,e,f] t (0,0))):
  (hY (hY (hY (hY (hY (hY w ⟨B,0,K⟩ x) ⟨B,1,K⟩ y) ⟨B,2,K⟩ z) ⟨B,3,K⟩ u) ⟨B,4,K⟩ v) ⟨B,5,K⟩ s).heap[B]? =H (kd #[x,y,z,u,v,s] t (0,0))/\U w [B] (hY (hY (hY (hY (hY (hY w ⟨B,0,K⟩ x) ⟨B,1,K⟩ y) ⟨B,2,K⟩ z) ⟨B,3,K⟩ u) ⟨B,4,K⟩ v) ⟨B,5,K⟩ s) [B]:=
 ⟨by rw[aF _ (aF _ (aF _ (aF _ (aF _ (aF _ h)))))];rfl,(((((qX w B 0 x).setCell (a:=Ad B 1) (.inl J) y).setCell (a:=Ad B 2) (.inl J) z).setCell (a:=Ad B 3) (.inl J) u).setCell (a:=Ad B 4) (.inl J) v).setCell (a:=Ad B 5) (.inl J) s⟩
theorem Lx{B:Nat}{a b c d e f:aE}{t:ap}(h:w.heap[B]? =H (kd #[a,b,c,d,e,f] t (0,0))):h8 w ⟨B,4,K⟩=H e:=by
 have g:=Zc h 4;exact g
theorem aWf{B:Nat}{a b c d e f:aE}{t:ap}(h:w.heap[B]? =H (kd #[a,b,c,d,e,f] t (0,0))):h8 w ⟨B,1,K⟩=H b:=by
 have g:=Zc h 1;exact g
theorem aWe{B:Nat}{a b c d e f:aE}{t:ap}(h:w.heap[B]? =H (kd #[a,b,c,d,e,f] t (0,0))):h8 w ⟨B,2,K⟩=H c:=by
 have g:=Zc h 2;exact g
theorem aWd{B:Nat}{a b c d e f:aE}{t:ap}(h:w.heap[B]? =H (kd #[a,b,c,d,e,f] t (0,0))):h8 w ⟨B,3,K⟩=H d:=by
 have g:=Zc h 3;exact g
theorem aEO(h0:∃a n c,v0=jS a n c)(h1:∃a n c,v1=jS a n c)(A:∃a n c,v4=jS a n c)(hn:fM nS sT 7 w v2 ns)(hnp:ns.map (·.1)=p.aI)(oN:∀x,x∈ns->fM fN 0 1 w x.2 x.1.vars)(tT:gU V m p)(hV:V<=30)(hi:i<O p.aI):
  aK prog 39 #[.agg #[v0,v1,v2,mj mn (p.dQ:Int),v4],mj mn (i:Int)] w (G1 w (eF p i)):=by
 obtain⟨a0,l0,c0,rfl⟩:=h0;obtain⟨a1,l1,c1,rfl⟩:=h1;obtain⟨a4,l4,c4,rfl⟩:=A;obtain⟨g,o,cap,rfl,p8⟩:=wl hn hnp oN Y;let⟨xa,xc,Kt,n0,n1,n2,n3,n4,n5,n6⟩:=p8 i hi;have FH:=Z p8;have HS:=Z (tT.a0O hi);have Tm:=Z (λj (hj:j<O p.aI)=>tT.uq hV hj);have fz:=Z (tT.below i hi).1;have hik:(i:Int)<(O p.aI:Int):=Y;have HXV:=Z Kt;generalize hx:eA p.aI i=x at n0 n1 n2 n3 n4 n5 n6 HXV HS;have HX:=Z hx;let⟨N,hN⟩:=D (O p.aI);have E4:=Z hN;rw[hN]at hik|-;have HB:=Z (IL n0);let⟨w1,eW⟩:=D (i5 w (kd #[jS a0 l0 c0,jS a1 l1 c1,eC g o N cap,X (p.dQ:Int),jS a4 l4 c4] 75));let⟨bp,XN⟩:=D (i7 w.heap);have cT:=Za eW;have hP1:=Ze eW XN;let⟨w2,rM⟩:=D (i5 w1 (kd #[X 0,X 0,cR,cR,cR,X 0] 114));let⟨br,hbr⟩:=D (i7 w1.heap);have bM:=Za rM;have rU:=Ze rM hbr;have hP2:=bM.aC hP1 J;have HP2:=Z hP2;have II:=Z rU;have F:=Z (cT.ds bM);have HBP:dT (i7 w.heap<=bp/\i7 w.heap<=br):=Z ⟨Y,kX cT.size⟩;have m0:=F.cell n0 J;have m1:=F.cell n1 J;have m2:=F.cell n2 J;have m3:=F.cell n3 J;have m4:=F.cell n4 J;have m5:=F.cell n5 J;have m6:=F.cell n6 J;have b2:=Zc hP2 2;clear hn hnp oN tT p8 Kt hx hN n0 n1 n2 n3 n4 n5 n6 cT hP1 bM rU hP2;go_in;go_upto_region 2 with(fail);clear m0 m1 m2 m3 m4 m5 m6 eW rM b2;let⟨w3,jA⟩:=D (i5 w2 (kd #[X (x.aG:Int),X (x.qV:Int),jS xa (O x.vars) xc,X (x.cM:Int),X (x.bP:Int),X x.bS,nj x.mL] 79));let⟨bn,Qc⟩:=D (i7 w2.heap);have cW:=Za jA;have B:=Ze jA Qc;let⟨w4,uC⟩:=D (i5 w3 (kd #[X (x.aG:Int),X (O x.vars:Int),cR,cR,cR,X 65536] 114));let⟨bs,hbs⟩:=D (i7 w3.heap);have eJ:=Za uC;have Qi:=Ze uC hbs;have r:=Zc B 0;have q:=Zc B 2;rw[jA,Qc];have lX:dT (bs≠bp/\bs≠br/\bs≠bn/\i7 w.heap<=bs):=Z (by
  have k:=dG HP2.o;have G:=dG II.o;have A:=dG B;have L:=cW.size;have h6:=F.size;omega)
 have Y4:=Z (eJ.aC B J);have tt:=Z (eJ.aC (cW.aC HP2 J) J);have HR4:=Z (eJ.aC (cW.aC II J) J);have lH:=Z (F.ds (cW.ds eJ));have Y1:=Z Qi;clear B cW eJ Qi HP2 II F jA;go_upto_region 3 with(fail);try rw[uC]
 try rw[hbs]
 have aRc:=Y4.o;have r:=Zc aRc 0;have q:=Zc aRc 2;clear uC aRc;go_upto_region 4 with(fail);clear r q;have Qi:=Y1.o;obtain⟨r,f,q,c3',c4',c5'⟩:=Z6 Qi;have cf:=aN Qi;have cl:=iP (dG Qi);let⟨S,hS⟩:=D (eF p i);have dh:dT (S.aG=x.aG/\S.kJ=(if x.aG=2 then(eA p.aI x.cM).vars.length else O x.vars)/\S.eb=(if x.aG=2 then iJ x.vars (eA p.aI x.cM).vars else[])/\
   S.bP=(if x.aG=3 then iJ (eA p.aI x.bP).vars x.vars else[])/\S.up=(if x.bS<0 then[]else iJ (if(eA p.aI x.bS.toNat).aG=2 then(eA p.aI x.bS.toNat).vars else x.vars) x.vars)/\
   S.aH=(if x.aG=1 then 512 else 65536)):=Z (by rw[<-hS,<-HX.o];exact⟨rfl,rfl,rfl,rfl,rfl,rfl⟩)
 have HSQ:=Z hS;clear hS Qi;have d:x.aG=1\/x.aG=2\/x.aG=3:=by have:=fz.o;rw[<-HX.o];exact this
 rcases d with d|d|d
 .have g1:((x.aG:Int)==1)=qT:=kG LQ;have g2:((x.aG:Int)==2)=rR:=kG GD;have g3:((x.aG:Int)==3)=rR:=kG GD;have HK:=Z d;clear d;go_upto_region 11 with(fail);let⟨wx,l⟩:=D (hY w4 (Ad bs 5) (X 512));have HUX:dT (U w4 [bs] wx [bs]):=Z (l▸qX w4 bs 5 _);obtain⟨ka,kc,sa,sc,HC,rF,BT⟩:∃ka kc sa sc,dT (wx.heap[bs]? =H (kd #[X (S.aG:Int),X (S.kJ:Int),jS ka (O S.eb) kc,jS sa (O S.bP) sc,cR,X (S.aH:Int)] 114 (0,0)))/\dT (bN fN 0 3 1 w wx (jS ka (O S.eb) kc) S.eb)/\dT (bN fN 0 3 1 w wx (jS sa (O S.bP) sc) S.bP):=by
   obtain⟨s1,s2,s3,s4,-,s5⟩:=dh.o;have hK:=HK.o;rw[R Y]at s2 s3 s4;rw[bW hK]at s5;rw[s1,s2,s3,s4,s5];exact⟨K,0,K,0,Z (by rw[<-l,aF _ Y1.o];rfl),Z (bN.nil _ _),Z (bN.nil _ _)⟩
  rw[l];clear l r f q c3' c4' c5' cf cl;exact ZM0
 .have g1:((x.aG:Int)==1)=rR:=kG GD;have g2:((x.aG:Int)==2)=qT:=kG LQ;let⟨P4,P⟩:=HS.1 d;have hgs:(x.cM:Int)<(N:Int):=kX E4.o;obtain⟨ya,yc,OI,-,-,n2,-,-,-,-⟩:=FH.o x.cM P4;obtain⟨h1,k,G,A,-,L⟩:=dh.o;rw[bW d]at k G;rw[R Y]at A L;have sp:=Z (by have:=Tm.o i (kX E4.o);rw[HX.o]at this;exact this);generalize hy:eA p.aI x.cM=y at OI n2 P k G;replace n2:=lH.cell n2 J;have pK:=Z (sU (HXV.on lH) (OI.on lH) P (kX sp.o));rw[<-G]at pK;have HH:=Z (show S.aG=x.aG/\S.kJ=O y.vars/\S.bP=[]/\S.aH=65536 from⟨h1,k,A,L⟩);have W:=Y4.o;have C:=tt.o;have e2:=Zc W 2;have e3:=Zc W 3;have q2:=Zc C 2;have HK:=Z d;clear d P4 P OI hy h1 k G A L W C;go_upto_region 11 with(go_at_call 83;apply pK.cX;rintro e w2 ⟨u,rfl,hO,bM⟩;obtain⟨ka,kc,rfl,-⟩:=hO.len;have pK:=Z (bM.aC Y1 J);have d1:=aWf pK.o;have d2:=aWe pK.o;have df:=aN pK.o;have dl:=iP (dG pK);have tY:=Z bM;have NG:=Z (hO.eO (wb:=w) lH.size);clear bM hO);let⟨wx,l⟩:=D (hY (hY w2 (Ad bs 1) (X (O y.vars:Int))) (Ad bs 2) (jS ka (O S.eb) kc));have V9:U w2 [bs] wx [bs]:=l▸(qX w2 bs 1 _).setCell (a:=Ad bs 2) (.inl J) _;have HUX:dT (U w4 [bs] wx [bs]):=Z (tY.Kc.ds V9);obtain⟨sa,sc,HC,rF,BT⟩:∃sa sc,dT (wx.heap[bs]? =H (kd #[X (S.aG:Int),X (S.kJ:Int),jS ka (O S.eb) kc,jS sa (O S.bP) sc,cR,X (S.aH:Int)] 114 (0,0)))/\dT (bN fN 0 3 1 w wx (jS ka (O S.eb) kc) S.eb)/\dT (bN fN 0 3 1 w wx (jS sa (O S.bP) sc) S.bP):=by
   obtain⟨s1,s2,s4,s5⟩:=HH.o;have GW:=NG.set pK E V9;rw[s1,s2,s4,s5];exact⟨K,0,Z (by rw[<-l,aF _ (aF _ pK.o)];rfl),Z GW,Z (bN.nil _ _)⟩
  rw[l];clear l r f q c3' c4' c5' cf cl d1 d2 df dl V9 e2 e3 q2 n2 hgs;exact ZM0
 .have g1:((x.aG:Int)==1)=rR:=kG GD;have g2:((x.aG:Int)==2)=rR:=kG GD;have g3:((x.aG:Int)==3)=qT:=kG LQ;let⟨P4,P⟩:=HS.2.1 d;have hgs:(x.bP:Int)<(N:Int):=kX E4.o;obtain⟨ya,yc,OI,-,-,n2,-,-,-,-⟩:=FH.o x.bP P4;obtain⟨h1,k,G,A,-,L⟩:=dh.o;rw[R Y]at k G;rw[bW d]at A;rw[R Y]at L;have zz:=Z (Tm.o x.bP P4);generalize hy:eA p.aI x.bP=y at OI n2 P A zz;replace n2:=lH.cell n2 J;have pK:=Z (λwd (hd:U w4 [] wd [])=>sU (OI.on (lH.ds hd)) (HXV.on (lH.ds hd)) P (kX zz.o));rw[<-A]at pK;have HH:=Z (show S.aG=x.aG/\S.kJ=O x.vars/\S.eb=[]/\S.aH=65536 from⟨h1,k,G,L⟩);have W:=Y4.o;have C:=tt.o;have e2:=Zc W 2;have e4:=Zc W 4;have q2:=Zc C 2;have HK:=Z d;clear d P4 P OI hy h1 k G A L W C;go_upto_region 10 with(fail);refine fj 11 (ez q2<|ez e4<|ez n2<|ey e2) (λwd fF kP Q=> ?_);have o9:=Z kP;clear fF kP r f q c3' c4' c5' cf cl q2 e4 n2 e2;refine ek [0,2,7,1,3,8,4,5,6] ?_;refine Zo 9 λt hK=> ?_;go_simp;go_at_call 83;apply(pK.o _ o9).cX;rintro e w2 ⟨u,rfl,hO,bM⟩;obtain⟨sa,sc,rfl,-⟩:=hO.len;dsimp only;replace Q:=bM.zh4 Q;have tY:=Z (o9.ds bM);have pK:=Z (tY.aC Y1 J);have d3:=aWd pK.o;have df:=aN pK.o;have dl:=iP (dG pK);have NG:=Z (hO.eO (wb:=w) (lH.ds o9).size);clear bM hO;refine j5 ?_;clear hK t;refine I 10 ?_;refine Zo 11 λt hK=> ?_;go_simp;refine LP ?_;clear hK t;let⟨wx,l⟩:=D (hY w2 (Ad bs 3) (jS sa (O S.bP) sc));have V9:U w2 [bs] wx [bs]:=l▸qX w2 bs 3 _;have HUX:dT (U w4 [bs] wx [bs]):=Z (tY.Kc.ds V9);obtain⟨ka,kc,HC,rF,BT⟩:∃ka kc,dT (wx.heap[bs]? =H (kd #[X (S.aG:Int),X (S.kJ:Int),jS ka (O S.eb) kc,jS sa (O S.bP) sc,cR,X (S.aH:Int)] 114 (0,0)))/\dT (bN fN 0 3 1 w wx (jS ka (O S.eb) kc) S.eb)/\dT (bN fN 0 3 1 w wx (jS sa (O S.bP) sc) S.bP):=by
   obtain⟨s1,s2,s4,s5⟩:=HH.o;have GW:=NG.set pK E V9;rw[s1,s2,s4,s5];exact⟨K,0,Z (by rw[<-l,aF _ pK.o];rfl),Z (bN.nil _ _),Z GW⟩
  rw[l];clear l d3 df dl V9 hgs Q;exact ZM0
theorem ZM40{P:Prop}(h:P:=by
  go_wp2_with (go_at_call 33;apply HM.cX;rintro e w2 ⟨v,rfl,hP⟩;have HU:=Z hP.eU;obtain⟨v0,v1,v2,v4,ns,rfl,o0,o1,o2,-,o4⟩:=(hP.ok (HC.ds h0)).1.ex;obtain⟨a0,c0,rfl,-⟩:=o0.len;obtain⟨a1,c1,rfl,-⟩:=o1.len;obtain⟨a2,c2,rfl,-⟩:=o2.n.len;obtain⟨a4,c4,rfl,-⟩:=o4.len);go_ret2;exact⟨by rw[HE5.o];rfl,cV.ds HU.o|>.alloc _⟩):P:=h
theorem ZM108{P:Prop}(h:P:=by
  rcases Int.lt_or_le 65536 cells with h|h
  .exact h
  .exact dY (by rw[wG.o,R (by rw[h0];simp),R Y]) HE.o):P:=h
theorem VU(h:fY q=0)(a:nK q=rR){x:r6×List ES}(c:dA (-1) (cL q) cI (cN (-1) (aJ q)) (cD (aJ q))=H x):(aB q).1=0:=by
 unfold aB;unfold nK at a;rw[R (by simp[h]),a,R E];obtain⟨b,l⟩:=x;rw[c]
structure aWn(q:bK)(w:aA)(v:aE)(w':aA):Prop where
 eU:U w [] w' []
 ok:(aB q).1=0->aN0 w w' v (aB q).2/\fY q=0
 no:(aB q).1≠0->v=FR
theorem Jm(h:ED w hv av ps q)(jD:yT hv)(i:Tz w):
  uJ 33 #[.agg #[mX q.name,hv,av]] w λe w'=>∃v,e=mi (mr #[v,mj mn (aB q).1])/\aWn q w v w':=by
 by_cases hs:fY q=0
 .cases d:nK q with
  |true=>
   apply(Of hv av ps q w h jD hs d).cX;rintro e w' ⟨rfl,c⟩;have a:=OX hs d;exact⟨FR,by rw[a],c,λb=>dY (a▸b:(_:Int)=0) E,λ_=>rfl⟩
  |false=>
   cases g:dA (-1) (cL q) cI (cN (-1) (aJ q)) (cD (aJ q))with
   |none=>
    apply(Az hv av ps q w h jD i hs d g).cX;rintro e w' ⟨rfl,c⟩;have a:=VV hs d (-1) g;exact⟨FR,by rw[a],c,λb=>dY (a▸b:(_:Int)=0) E,λ_=>rfl⟩
   |some x=>
    apply(Az hv av ps q w h jD i hs d g).cX;rintro e w' ⟨v,rfl,l,c⟩;have a:=VU hs d g;exact⟨v,by rw[a],c,λ_=>⟨l,hs⟩,λb=>dY a b⟩
 .have j:=hs;apply(aBA hv av ps q w h jD hs).cX;rintro e w' ⟨rfl,c⟩;have a:=PU hs;exact⟨FR,by rw[a],c,λb=>dY (by rw[a]at b;exact b) j,λ_=>rfl⟩
def LU:iL:=⟨λ_=>OY,0,0⟩
def mN(q:bK)(cells:Int):Int:=if(aB q).1≠0 then(aB q).1 else if cells<1\/65536<cells then 50 else 0
theorem Oc(hs:fY q=0)(a:(aB q).1=0):bo q:=by
 obtain⟨l,j,c,i,-,-⟩:=gG hs;have b:O (aJ q)=O q.aD:=by unfold aJ;simp
 have d:aJ q≠[]:=λe=>by rw[e]at b;simp at b;omega
 have g:=aAv c d a hs;rw[b]at g;exact⟨a,g,jz c d a (IT j i) Y,j,c,i⟩
theorem a0K(P:AC):tC P (λ_=>OY):=
 ⟨λv _=>⟨Dc,λ_ r=>by simp[OY],λ_=>⟨Dc,Dc,λr=>by simp[OY]⟩,λ_=>rfl,λ_=>⟨rfl,rfl⟩⟩,
  λu v _=>by
   unfold eN;split
   .intro r;rfl
   .split<;>rfl,
  λv _=>O9 _⟩
theorem Ul(cells:Int)(h:ED w hv av ps q)(jD:yT hv)(y:Tz w)(r:mN q cells≠0):
  aK prog 10 #[.agg #[mX q.name,hv,av],mj mn cells] w λe w'=>e=mi (mr #[lr K,mj mn (mN q cells)])/\U w [] w' []:=by
 obtain⟨ha,z,rfl,-⟩:=h.head.len;obtain⟨x,u,rfl,-⟩:=h.aD.len;have b:=h.len;rw[b]at h|-;let⟨wa,j⟩:=D (i5 w (kd #[mX q.name,jS ha (O q.head) z,jS x (O q.aD) u] 25));have cV:=Za j;have A:=Zb j;obtain⟨b0,B,b2⟩:=Z3 A;have HM:=(Jm (h.on cV) jD (y.on cV));let⟨c,a⟩:=D ((aB q).1);have l:mN q cells=if c≠0 then c else if cells<1\/65536<cells then 50 else 0:=by unfold mN;rw[a]
 rw[a]at HM;have wG:=Z l;have HE:=Z r;have HC:=Z a;go_in;by_cases h0:c=0
 .have p:(c==0)=qT:=kG LQ;by_cases g:cells<1
  .have m:decide (cells<1)=qT:=kY g;have HE5:dT (mN q cells=50):=Z (by rw[wG.o,R (by rw[h0];simp),bW (.inl g)]);exact ZM40
  .have m:decide (cells<1)=rR:=kE g;have i:65536<cells:=ZM108;have g2:decide (65536<cells)=qT:=kY i;have HE5:dT (mN q cells=50):=Z (by rw[wG.o,R (by rw[h0];simp),bW (.inr i)]);exact ZM40
 .have p:(c==0)=rR:=by rw[GD];exact h0
  have d:dT (mN q cells=c):=Z (by rw[wG.o,bW h0]);go_wp2_with (go_at_call 33;apply HM.cX;rintro e w2 ⟨v,rfl,hP⟩;have HU:=Z hP.eU;obtain rfl:=hP.no (λe=>h0 (HC.symm.ds e)));go_ret2;exact⟨by rw[d.o];rfl,cV.ds HU.o|>.alloc _⟩
theorem aA7(es:List Nat):(cD es).map (·.2)=es:=by
 unfold cD;rw[List.map_map];apply List.ext_getElem
 .simp
 .intro i b a;simp[kU a]
theorem Rf(es:List Nat):zS es=AG (cD es):=Fj λv=>by
 rw[rH];unfold zS ET;rw[T3,TU];conv=>lhs;rw[<-aA7 es]
 rw[List.any_map];simp only[Nat.zero_testBit,Bool.false_or];rfl
theorem aE8(hs:fY q=0):
  (kT (aJ q) (O (vars q))=rR/\aB q=(161,sT))\/(kT (aJ q) (O (vars q))=qT/\CH (aJ q) (O (vars q)) (cL q)=rR/\aB q=(170,sT))\/
   (kT (aJ q) (O (vars q))=qT/\CH (aJ q) (O (vars q)) (cL q)=qT/\(aB q).1=0/\∃bF lF,dA 0 (cL q) cI (cN 0 (aJ q)) (cD (aJ q))=H (bF,lF)):=by
 obtain⟨w,v,-,-,-,-⟩:=gG hs;have a:=qQ hs;have n:O (aJ q)=O q.aD:=by unfold aJ;simp
 have l:aJ q≠[]:=λe=>by rw[e]at n;simp at n;omega
 have r:=PB a.xJ a.hv a.hm l;have p:=Ri (head:=cL q) a.xJ a.hv Y;rw[<-Rf]at p;have j:=λpa b=>VX (eb:=cL q) (pa:=pa) cI b (cD (aJ q)) (lY a.hm) (qD _) (oG a.eD);cases i:kT (aJ q) (O (vars q)) with
 |false=>
  refine .inl ⟨rfl,OX hs ?_⟩;rw[i]at r;unfold nK;simpa using r.symm
 |true=>
  have d:=Ee a.xJ a.hv a.hm l i;have u:CH (aJ q) (O (vars q)) (cL q)=iN (run (cL q) cI (cD (aJ q))).2 (cL q):=by
   unfold CH;rw[i,p,VN]
  cases g:dA 0 (cL q) cI (cN 0 (aJ q)) (cD (aJ q))with
  |none=>
   refine .inr (.inl ⟨rfl,?_,VV hs d 0 g⟩);rw[u];exact(j 0 _).1 g
  |some x=>
   have c:iN (run (cL q) cI (cD (aJ q))).2 (cL q)=qT:=by
    cases c:iN (run (cL q) cI (cD (aJ q))).2 (cL q)with
    |true=>rfl
    |false=>rw[(j 0 _).2 c]at g;cases g
   refine .inr (.inr ⟨rfl,by rw[u,c],?_,x.1,x.2,rfl⟩);cases m:dA (-1) (cL q) cI (cN (-1) (aJ q)) (cD (aJ q))with
   |none=>rw[(j (-1) _).1 m]at c;cases c
   |some y=>exact VU hs d m
structure aWl(q:bK)(w:aA)(v:aE)(w':aA):Prop where
 eU:U w [] w' []
 ok:(aB q).1=0->PC w w' v (aB q).2
 no:(aB q).1≠0->v=RA
theorem Am(h:ED w hv av ps q):
  uJ 59 #[.agg #[mX q.name,hv,av]] w λe w'=>∃v,e=mi (mr #[v,mj mn (aB q).1])/\aWl q w v w':=by
 by_cases hs:fY q=0
 .rcases aE8 hs with⟨d,a⟩|⟨d,g,a⟩|⟨d,g,a,bF,lF,j⟩
  .refine(Vk hv av ps q w h hs (λh=>dY h (by rw[d];decide))).mono ?_;rintro e w' ⟨rfl,c⟩;exact⟨RA,by rw[a,d];rfl,c,λb=>dY (by rw[a]at b;exact b:(161:Int)=0) E,λ_=>rfl⟩
  .apply(Vk hv av ps q w h hs (λ_=>g)).cX;rintro e w' ⟨rfl,c⟩;exact⟨RA,by rw[a,d];rfl,c,λb=>dY (by rw[a]at b;exact b:(170:Int)=0) E,λ_=>rfl⟩
  .apply(aE3 hv av ps q w h hs d g bF lF j).cX;rintro e w' ⟨v,rfl,i,c⟩;exact⟨v,by rw[a],c,λ_=>i,λb=>dY a b⟩
 .apply(aAs hv av ps q w h hs).cX;rintro e w' ⟨rfl,c⟩;have a:=PU hs;exact⟨RA,by rw[a],c,λb=>dY (by rw[a]at b;exact b) hs,λ_=>rfl⟩
variable{lb:Nat}{wb:aA}
theorem ZM22{P:Prop}(h:P:=by
  refine I 8 ?_;refine Zo 9 λvm hK=> ?_;go_simp;let⟨w6,iA⟩:=D (i5 w5 (kd #[mX q.name,jS da (O q.head) dc,jS ea (O q.aD) ec,jS a0 (O (aB q).2.vars) c0,jS a1 (O (aB q).2.head) c1,jS a2 (O ns) c2,X (aB q).2.dQ,jS a4 (O (aB q).2.tops) c4,It cells,eC lb 0 (O ns) (O ns),X 0,X 0,nj rR,cR,X 0] 56));have dR:=Za iA;have mK:=Zb iA;rw[iA];replace Q:=dR.zh8 Q;refine j5 ?_;clear hK vm;refine ek [10,11] ?_;refine bD dJ ?_ _;clear Q;go_wp2;go_ret2;refine⟨w5,rfl,⟨⟨_,_,_,_,_,_,_,_,_,_,by rw[<-E4.o],mK,(HQO.on dR).eO iF.size,((HRP.on (o9.ds (gN.ds dR))).eO cV.size),?_⟩,j8 iF.size gN.size⟩,iF.ds (gN.ds dR)⟩;rw[<-E4.o];exact HTL.on dR):P:=h
theorem ZM41{P:Prop}(h:P:=by
  go_wp2_with (go_at_call 59;apply HM.cX;rintro e w2 ⟨v,rfl,hP⟩;have HU:=Z hP.eU;obtain⟨v0,v1,v2,v4,ns,rfl,o0,o1,o2,-,-,o4⟩:=(hP.ok (HC.ds h0)).ex;obtain⟨a0,c0,rfl,-⟩:=o0.len;obtain⟨a1,c1,rfl,-⟩:=o1.len;obtain⟨a2,c2,rfl,-⟩:=o2.len;obtain⟨a4,c4,rfl,-⟩:=o4.len);go_ret2;exact⟨by rw[HE5.o];rfl,cV.ds HU.o|>.alloc _⟩):P:=h
theorem uo:wV prog 54 46 1 24 #[jS K 0 0]:= .QZ (z:=cR) underlying54 dJ rfl rfl
theorem Il(c:eV w (jS (H ⟨lb,0,K⟩) n n) 46 1 n λ_ j=>#[jS K 0 0].getD j undef)(hs:i7 w0.heap<=lb):bN GA undef 46 1 w0 w (jS (H ⟨lb,0,K⟩) n n) (Ct n (jS K 0 0)):=
 ⟨by
  rw[ic];refine eV.congr c λi j b d=> ?_;obtain rfl:j=0:=Y;rw[gV,B5,bW b];rfl,λg a=>by simp[i6]at a;omega⟩
theorem PC.eO(h:PC w0 w v p)(hs:i7 wb.heap<=i7 w0.heap):PC wb w v p:=by
 obtain⟨v0,v1,v2,v4,ns,e,b,g,a,j,d,i⟩:=h.ex;exact⟨v0,v1,v2,v4,ns,e,b.eO hs,g.eO hs,a.eO hs,j,λx c=>(d x c).eO hs,i.eO hs⟩
structure aSH(w0 w:aA)(d:Nat)(q:bK)(cells:Nat):Prop where
 ex:∃hv av ps v0 v1 v2 v4 a c lv,v2=jS a (O (aB q).2.aI) c/\w.heap[d]? =H (kd #[mX q.name,hv,av,v0,v1,v2,mj mn (aB q).2.dQ,v4,mj mn (cells:Int),lv,mj mn 0,mj mn 0,nj rR,jS K 0 0,mj mn 0] 56 (0,0))/\
  yL w0 w hv av ps q.head q.aD/\PC w0 w (.agg #[v0,v1,v2,mj mn (aB q).2.dQ,v4]) (aB q).2/\bN GA undef 46 1 w0 w lv (List.replicate (O (aB q).2.aI) (jS K 0 0))
 ge:i7 w0.heap<=d
theorem aCI(cells:Nat)(h:ED w hv av ps q)(G:(aB q).1=0)(Da:1<=cells/\cells<=65536)(hf:O (aB q).2.aI<=42):
  aK prog 22 #[.agg #[mX q.name,hv,av],mj mn (cells:Int)] w λe w'=>∃d,e=mi (mr #[lr (H ⟨d,0,K⟩),mj mn 0])/\aSH w w' d q cells/\U w [] w' []:=by
 obtain⟨ha,hc,rfl,-⟩:=h.head.len;obtain⟨aa,V,rfl,-⟩:=h.aD.len;have g:=h.len;rw[g]at h|-;let⟨wa,F⟩:=D (i5 w (kd #[mX q.name,jS ha (O q.head) hc,jS aa (O q.aD) V] 25));let⟨C,N⟩:=D (i7 w.heap);have cV:=Za F;have lC:=Ze F N;obtain⟨b0,b1,b2⟩:=Z3 lC;have HM:=(Am (h.on cV));have HC:=Z G;rw[G]at HM;have g1:decide ((cells:Int)<1)=rR:=kE Y;have g2:decide (65536<(cells:Int))=rR:=kE Y;have HBW:=Z N;clear g G Da;go_in;go_upto_region 6 with(first
  |(go_at_call 59;apply HM.cX;rintro e w2 ⟨v,rfl,z⟩;have HU:=Z z.eU;have HRP:=(z.ok HC);obtain⟨v0,v1,v2,v4,ns,rfl,W,o1,o2,o3,o5,o4⟩:=(z.ok HC).ex;obtain⟨a0,c0,rfl,-⟩:=W.len;obtain⟨a1,c1,rfl,-⟩:=o1.len;obtain⟨a2,c2,rfl,-⟩:=o2.len;obtain⟨a4,c4,rfl,-⟩:=o4.len;have yG:O ns=O (aB q).2.aI:=(by rw[<-o3,r8]);have E4:=Z yG;clear yG z W o1 o2 o3 o4 o5))
 let⟨w3,y⟩:=D (i5 w2 (kd #[jS a0 (O (aB q).2.vars) c0,jS a1 (O (aB q).2.head) c1,jS a2 (O ns) c2,X (aB q).2.dQ,jS a4 (O (aB q).2.tops) c4] 53));have x:=Za y;have B:=Zb y;let⟨n,T⟩:=D (i7 w2.heap);rw[y,T];rw[T]at B;have u:=(HU.ds x).aC lC J;obtain⟨q0,q1,q2⟩:=Z3 u;obtain⟨p0,S,p2,P,p4⟩:=Z5 B;let⟨wd,L⟩:=D (w3.drew);have A:U w3 [] wd []:=A1 L;have iF:=(cV.ds (HU.ds (x.ds A)));have o9:=(x.ds A);clear x B u b0 b1 b2 F N;have hn4:O ns<=42:=E4.o▸hf;refine e7 99 (ez q0<|ez q1<|ez q2<|ez p0<|ez S<|ez p2<|ez P<|ey p4) (λQ=> ?_);clear q0 q1 q2 p0 S p2 P p4;rw[L]at Q|-;clear L A y;refine ek [0,2,3,4,5,6] ?_;refine vG (i:=1) (j:=7) dJ rfl rfl rfl rfl (λvm hK=> ?_) (λvm hK=> ?_)
 .go_simp;go_at_call 11;apply(GL _ _ ps q wd (h.on iF)).cX;rintro e w4 ⟨yP,av',Ss,rfl,a,b⟩;obtain⟨da,dc,rfl,-⟩:=a.head.len;obtain⟨ea,ec,p,-⟩:=a.aD.len;rw[a.len]at p;subst p;dsimp only;replace Q:=b.zh8 Q;refine j5 ?_;clear hK vm;have r:=uo.xO (O ns) (O ns) (fV _) Y GC w4;have l:=uo.yY (O ns) (O ns) (fV _) GC w4 E;let⟨w5,f⟩:=D (i5 w4 (kd (madeCells #[cR] (O ns*1)) 46));have c:=Za f;let⟨lb,m⟩:=D (i7 w4.heap);rw[f,m]at r l;refine Zo 7 λvm hK=> ?_;go_simp;replace Q:=c.zh8 Q;have HQO:=(a.on c);have gN:=(b.ds c);refine j5 ?_;clear hK vm;have HTL:=(Il (w0:=w) l (by rw[<-m];have:=iF.size;have:=b.size;omega));clear a b f c m r l;exact ZM22
 .have r:=uo.xO (O ns) (O ns) (fV _) Y GC wd;have l:=uo.yY (O ns) (O ns) (fV _) GC wd E;let⟨w4,k⟩:=D (i5 wd (kd (madeCells #[cR] (O ns*1)) 46));have b:=Za k;let⟨lb,m⟩:=D (i7 wd.heap);rw[k,m]at r l;go_simp;replace Q:=b.zh8 Q;refine j5 ?_;clear hK vm;refine Zo 1 λvm hK=> ?_;go_simp;go_at_call 11;apply(GL _ _ ps q w4 (h.on (iF.ds b))).cX;rintro e w5 ⟨yP,av',Ss,rfl,a,c⟩;obtain⟨da,dc,rfl,-⟩:=a.head.len;obtain⟨ea,ec,p,-⟩:=a.aD.len;rw[a.len]at p;subst p;dsimp only;replace Q:=c.zh8 Q;refine j5 ?_;clear hK vm;have HQO:=(a.eO b.size);have gN:=(b.ds c);have HTL:=((Il (w0:=w) l (m▸iF.size)).on c);clear a b k c m r l;exact ZM22
theorem qu(cells:Int)(h:ED w hv av ps q)(p:mN q cells≠0):
  aK prog 22 #[.agg #[mX q.name,hv,av],mj mn cells] w λe w'=>e=mi (mr #[lr K,mj mn (mN q cells)])/\U w [] w' []:=by
 obtain⟨ha,x,rfl,-⟩:=h.head.len;obtain⟨u,r,rfl,-⟩:=h.aD.len;have b:=h.len;rw[b]at h|-;let⟨wa,j⟩:=D (i5 w (kd #[mX q.name,jS ha (O q.head) x,jS u (O q.aD) r] 25));have cV:=Za j;have y:=Zb j;obtain⟨b0,z,b2⟩:=Z3 y;have HM:=(Am (h.on cV));let⟨c,a⟩:=D ((aB q).1);have l:mN q cells=if c≠0 then c else if cells<1\/65536<cells then 50 else 0:=by unfold mN;rw[a]
 rw[a]at HM;have wG:=Z l;have HE:=Z p;have HC:=Z a;go_in;by_cases h0:c=0
 .have n:(c !=0)=rR:=by rw[bne_eq_false_iff_eq];exact h0
  by_cases g:cells<1
  .have m:decide (cells<1)=qT:=kY g;have HE5:dT (mN q cells=50):=Z (by rw[wG.o,R (by rw[h0];simp),bW (.inl g)]);exact ZM41
  .have m:decide (cells<1)=rR:=kE g;have i:65536<cells:=ZM108;have g2:decide (65536<cells)=qT:=kY i;have HE5:dT (mN q cells=50):=Z (by rw[wG.o,R (by rw[h0];simp),bW (.inr i)]);exact ZM41
 .have n:(c !=0)=qT:=by rw[bne_iff_ne];exact h0
  have d:dT (mN q cells=c):=Z (by rw[wG.o,bW h0]);go_wp2_with (go_at_call 59;apply HM.cX;rintro e w2 ⟨v,rfl,hP⟩;have HU:=Z hP.eU;obtain rfl:=hP.no (λe=>h0 (HC.symm.ds e)));go_ret2;exact⟨by rw[d.o];rfl,cV.ds HU.o|>.alloc _⟩
variable{cs:Array aE}{al:List pB}{hl:List dO}{bt sz:Nat}{dX:bC}{hd ov':aE}{w6 wa wq:aA}
theorem yL.nW(h:yL w0 w hv av ps hl al)(c:w.heap[b]? =H (kd cs 105 (0,0)))(a:U w [b] w' S'):yL w0 w' hv av ps hl al:=
 ⟨h.head.set c E a,h.aD.set c E a,h.len,λi d=>⟨(h.lD i d).1,(h.lD i d).2.set c E a⟩⟩
theorem aWa:kD prog 103 50 1 24:= .QZ (z:=cR) underlying103 dJ rfl
structure FD(w0 w:aA)(p:vZ)(al:List pB)(ov:aE)(xB:List aE)(k:Nat):Prop where
 cZ:bN GA undef 50 1 w0 w ov xB
 len:O xB=k
 lD:∀j,j<k->bN fN 0 3 1 w0 w (hJ xB j undef) (pQ p (hJ al j sT) j)
theorem FD.on{ov:aE}{k:Nat}(h:FD w0 w p al ov xB k)(a:U w [] w' S'):FD w0 w' p al ov xB k:=
 ⟨h.cZ.on a,h.len,λj b=>(h.lD j b).on a⟩
theorem FD.nW{ov:aE}{k:Nat}(h:FD w0 w p al ov xB k)(c:w.heap[b]? =H (kd cs 105 (0,0)))(a:U w [b] w' S'):FD w0 w' p al ov xB k:=
 ⟨h.cZ.set c E a,h.len,λj d=>(h.lD j d).set c E a⟩
theorem FD.jT{α:Type}{f:α->Nat->aE}{d:α}{e:ap}{ov:aE}{k:Nat}{l:List α}(h:FD w0 w p al ov xB k)(b:bN f d e sz w0 w v l)(i:50≠e)(c:3≠e)(a:U w v.ownBlock.toList w' S'):FD w0 w' p al ov xB k:=
 ⟨h.cZ.jT b i a,h.len,λj g=>(h.lD j g).jT b c a⟩
theorem aJk(g:(aB q).1=0){k:Nat}(b:k<O q.aD){a:pB}(ha:hJ q.aD k sT=a)(d:i<O (eA (aB q).2.aI k).vars):
  hJ (eA (aB q).2.aI k).vars i 0<O (aB q).2.vars/\hJ (aB q).2.vars (hJ (eA (aB q).2.aI k).vars i 0) bU∈cJ a/\
   (pQ (aB q).2 a k).take (i+1)=(pQ (aB q).2 a k).take i++[(cJ a).idxOf (hJ (aB q).2.vars (hJ (eA (aB q).2.aI k).vars i 0) bU)]:=by
 have n:k<O (aJ q):=by unfold aJ;simpa using b
 have c:=Qy b ha;let⟨p,e⟩:=MB g n;have j:hJ (eA (aB q).2.aI k).vars i 0∈cB (hJ (aJ q) k 0):=p▸bO d;obtain⟨-,v2⟩:=nA.1 j;have m:hJ (aJ q) k 0=uE (vars q) (cJ a):=by
  unfold aJ;rw[gV,So,kU b,c];rfl
 rw[m,sK]at v2;simp only[My,QX]at v2;rw[e];refine⟨v2.1,v2.2,?_⟩;unfold pQ;rw[e,Bk,So,kU d,gV (l:=(eA (aB q).2.aI k).vars),kU d];rfl
theorem FD.vO{ov:aE}{k:Nat}(h:FD w0 w p al ov xB k)(a:U w ov.ownBlock.toList w' S')(c:bN GA undef 50 1 w0 w' ov' (xB++[u]))(b:bN fN 0 3 1 w0 w u (pQ p (hJ al k sT) k)):FD w0 w' p al ov' (xB++[u]) (k+1):=by
 refine⟨c,by simp[h.len],λj d=> ?_⟩;rw[iZ,h.len];by_cases e:j=k
 .rw[bW e,e];exact b.jT h.cZ E a
 .rw[R e];exact(h.lD j Y).jT h.cZ E a
def tg0(bt n β:Nat)(ρ:bC):bC:=λk=>if k=bt then β else if n<=k then β+1 else ρ k
theorem bN.aAZ{α:Type}{f:α->Nat->aE}{d:α}{e:ap}{l:List α}(h:bN f d e sz w0 w v l)(i:w.heap[bt]? =H (kd cs 105 (0,0)))(b:e≠105)(hs:n<=i7 w0.heap):lW f d sz w (tg0 bt n β ρ) (β+1) v l:=
 ⟨h.rd,λ_ k g=>by
  have a:=eV.cZ h.1 g;have j:=h.2 k a;have c:k≠bt:=λe=>by subst e;exact h.ne i b (eP a)
  unfold tg0;rw[R c,bW Y]⟩
theorem yL.zk{α:Type}{f:α->Nat->aE}{d:α}{e:ap}{l:List α}(h:yL w0 w hv av ps hl al)(b:bN f d e sz wb w v l)(m:9≠e)(j:87≠e)(g:92≠e)(a:U w v.ownBlock.toList w' S'):yL w0 w' hv av ps hl al:=
 ⟨h.head.jT b m a,h.aD.jT b j a,h.len,λi c=>⟨(h.lD i c).1,(h.lD i c).2.jT b g a⟩⟩
structure Ex(wa w6 wr:aA)(q:bK)(hd av v2 ov:aE)(ps:List (dO×aE))(ns:List (bE×aE))(xB:List aE):Prop where
 hd:bN yK bU 9 1 wa wr hd q.head
 qo:yL w6 wr (jS K 0 0) av ps [] q.aD
 nd:Ey wa wr v2 ns
 od:FD w6 wr (aB q).2 q.aD ov xB (O q.aD)
theorem Ex.on{ov:aE}(h:Ex wa w6 w q hd av v2 ov ps ns xB)(a:U w [] w' S'):Ex wa w6 w' q hd av v2 ov ps ns xB:=
 ⟨h.hd.on a,h.qo.on a,⟨h.nd.n.on a,λx b=>(h.nd.o x b).on a⟩,h.od.on a⟩
theorem Ex.nW{ov:aE}(h:Ex wa w6 w q hd av v2 ov ps ns xB)(c:w.heap[b]? =H (kd cs 105 (0,0)))(a:U w [b] w' S'):Ex wa w6 w' q hd av v2 ov ps ns xB:=
 ⟨h.hd.set c E a,h.qo.nW c a,⟨h.nd.n.set c E a,λx d=>(h.nd.o x d).set c E a⟩,h.od.nW c a⟩
theorem Ex.jT{ov:aE}(h:Ex wa w6 w q hd av v2 ov ps ns xB)(b:bN Zd 0 110 1 wq w v bs)(a:U w v.ownBlock.toList w' S'):Ex wa w6 w' q hd av v2 ov ps ns xB:=
 ⟨h.hd.jT b E a,h.qo.zk b E E E a,⟨h.nd.n.jT b E a,λx c=>(h.nd.o x c).jT b E a⟩,⟨h.od.cZ.jT b E a,h.od.len,λj d=>(h.od.lD j d).jT b E a⟩⟩
theorem a3i:kD prog 102 110 1 8:= .QZ (z:=lr K) underlying102 dJ rfl
theorem lW.later{α:Type}{f:α->Nat->aE}{d:α}{t:Nat}{l:List α}(a:lW f d sz wq dX t v l)(h:fM f d sz w v l)(c:∀k,k<i7 wq.heap->ρ k=dX k):lW f d sz w ρ t v l:=
 ⟨h,λhl k b=>(c k (Rd.cF a.1 hl b)).ds (a.2 hl k b)⟩
theorem aOi(β j:Nat):(∀c,c<80->mR β j+c≠β+1)/\(∀c,c<80->mR β j+c≠β):=⟨λc _=>by unfold mR;omega,λc _=>by unfold mR;omega⟩
structure aHY(wa w6 wq wr:aA)(dX ρ:bC)(β:Nat)(q:bK)(bt:Nat)(hd av v0 v1 v2 v4 ov nv:aE)(ps:List (dO×aE))(ns:List (bE×aE))(xB:List aE)(bs:List Nat)(cells i:Nat):Prop where
 cF:wr.heap[bt]? =H (kd (iO q (aB q).2 hd av v0 v1 v2 v4 nv ov cells 0 0) 105 (0,0))
 kp:Ex wa w6 wr q hd av v2 ov ps ns xB
 lst:pI Zd 0 110 1 wr ρ (β+1) nv bs
 len:O bs=i
 lD:∀j,j<i->p9 wr ρ (mR β j) (hJ bs j 0) (eF (aB q).2 j) OY 0 0
 old:∀k,k<i7 wq.heap->ρ k=dX k
 fre:∀g,i6 nv=H g->i7 wq.heap<=g
 eU:U wq [bt] wr [bt]
structure a4A(wq:aA)(dX:bC)(β:Nat)(q:bK)(hd av v2 ov:aE)(ps:List (dO×aE))(ns:List (bE×aE))(xB:List aE):Prop where
 qt:QT wq dX (β+1) hd av ps q
 aI:lW nS sT 7 wq dX (β+1) v2 ns
 nM:lW GA undef 1 wq dX (β+1) ov xB
 aJS:∀j,j<O q.aD->lW fN 0 1 wq dX (β+1) (hJ xB j undef) (pQ (aB q).2 (hJ q.aD j sT) j)
structure sj(w6 wr:aA)(q:bK)(bt:Nat)(hd v0 v1 v2 v4:aE)(cells k:Nat):Prop where
 ex:∃(xa:Option cg) (xc:Nat) (oa:Option cg) (oc:Nat) (psk:List (dO×aE)) (xB:List aE),wr.heap[bt]? =H (kd (iO q (aB q).2 hd (jS xa k xc) v0 v1 v2 v4 (jS K 0 0) (jS oa k oc) cells 0 0) 105 (0,0))/\
  yL w6 wr (jS K 0 0) (jS xa k xc) psk [] (q.aD.take k)/\FD w6 wr (aB q).2 q.aD (jS oa k oc) xB k
 eU:U w6 [bt] wr [bt]
theorem PM(β cells:Nat)(h:ED w hv av ps q)(jD:yT hv)(hw:Tz w)(h0:(aB q).1=0)(Da:1<=cells/\cells<=65536):
  aK prog 10 #[.agg #[mX q.name,hv,av],mj mn (cells:Int)] w λe w'=>∃b bV,e=mi (mr #[lr (H ⟨b,0,K⟩),mj mn 0])/\U w [] w' []/\(∀k,k<i7 w.heap->bV k=ρ k)/\lR w' bV β b q cells LU 0 0:=by
 obtain⟨ha,hc,rfl,-⟩:=h.head.len;obtain⟨aa,ac,rfl,-⟩:=h.aD.len;have F:=h.len;rw[F]at h|-;obtain⟨wa,dM⟩:=D (i5 w (kd #[mX q.name,jS ha (O q.head) hc,jS aa (O q.aD) ac] 25));obtain⟨bq,EK⟩:=D (i7 w.heap);have cV:=Za dM;have lC:=Ze dM EK;obtain⟨b0,b1,b2⟩:=Z3 lC;have HBQ:=Z lC;have yM:=Z cV;have HQ:=Z (h.on cV);have HM:=Z (Jm (h.on cV) jD (hw.on cV));have HC:=Z h0;rw[h0]at HM;have HCE:=Z Da;have g1:decide ((cells:Int)<1)=rR:=decide_eq_false Y;have g2:decide (65536<(cells:Int))=rR:=decide_eq_false Y;have HBW:=Z EK;clear h jD hw F lC cV h0 Da;go_enter func10,ntmps10;go_upto_region 2 with(go_at_call 33;refine HM.o.mono ?_;rintro e w2 ⟨v,rfl,hP⟩;have HU:=Z hP.eU;have IG:=Z (hP.ok HC.o).2;obtain⟨v0,v1,v2,v4,ns,rfl,o0,o1,o2,aUX,o4⟩:=(hP.ok HC.o).1.ex;obtain⟨a0,c0,rfl,-⟩:=o0.len;obtain⟨a1,c1,rfl,-⟩:=o1.len;obtain⟨a2,c2,rfl,-⟩:=o2.n.len;obtain⟨a4,c4,rfl,-⟩:=o4.len;have HO0:=Z o0;have HO1:=Z o1;have NG:=Z o2;have Sb:=Z o4;have aLg:=Z aUX;clear hP o0 o1 o2 o4 aUX);obtain⟨w3,jA⟩:=D (i5 w2 (kd #[jS a0 (O (aB q).2.vars) c0,jS a1 (O (aB q).2.head) c1,jS a2 (O ns) c2,mj mn ((aB q).2.dQ:Int),jS a4 (O (aB q).2.tops) c4] 75));obtain⟨bp,XN⟩:=D (i7 w2.heap);have cW:=Za jA;have hP3:=Ze jA XN;rw[jA,XN];have aWQ:=cW.aC (HU.o.aC HBQ.o J) J;obtain⟨p0,p1,p2,p3,p4⟩:=Z5 hP3;have HP3:=Z hP3;have aRw:=Z aWQ;have iF:=Z (HU.o.ds cW);have aXe:=Z (HO0.o.on cW);have aXd:=Z (HO1.o.on cW);have aX9:=Z (Sb.o.on cW);have aR5:dT (Ey wa w3 (jS a2 (O ns) c2) ns):=Z (by
  have:=NG.o;exact⟨this.n.on cW,λx hx=>(this.o x hx).on cW⟩)
 clear hP3 aWQ cW jA HO0 HO1 NG Sb b0 b1 b2 HU;go_upto_region 7 with(fail);obtain⟨w4,uC⟩:=D (i5 w3 (kd #[mX ⟨#[]⟩,jS K 0 0,jS K 0 0,jS a0 (O (aB q).2.vars) c0,jS a1 (O (aB q).2.head) c1,jS a2 (O ns) c2,mj mn ((aB q).2.dQ:Int),jS a4 (O (aB q).2.tops) c4,It cells,jS K 0 0,jS K 0 0,mj mn 0,mj mn 0,nj rR,mj mn 0] 105));obtain⟨bt,KX⟩:=D (i7 w3.heap);have eJ:=Za uC;have Lm:=Ze uC KX;rw[uC,KX];have HT4:=Z Lm;have lH:=Z eJ;have aWP:=eJ.aC aRw.o J;obtain⟨b0,b1,b2⟩:=Z3 aWP;have r:dT (bq<bt/\bp<bt/\i7 wa.heap<=bt):=Z ⟨by have:=lt_of_block aRw.o;omega,by have:=lt_of_block HP3.o;omega,by have:=iF.o.size;omega⟩;clear Lm eJ uC aWP KX XN p0 p1 p2 p3 p4;refine e7 9 (ez b0<|ey b1) (λQ=> ?_);obtain⟨wd,fF⟩:=D (w4.drew);have kP:U w4 [] wd []:=fF▸(U.refl w4 []).drew;rw[fF]at Q|-;have aXB:=Z kP;have o9:=Z (lH.o.ds kP);clear fF kP b0 b1 b2;refine ek [0,1,3,2,4] ?_;refine Zo 5 λvm hK=> ?_;go_simp;go_at_call 34;refine(aCQ _ q.head wd (HQ.o.head.on (iF.o.ds o9.o)) (by have:=(gG IG.o).2.2.1;have:=A7 (zB (gG IG.o).2.2.2.2.1) (gG IG.o).2.2.2.2.2;omega)).mono ?_;rintro e w5 ⟨u,rfl,hO,cO⟩;obtain⟨da,dc,rfl,-⟩:=hO.len;dsimp only;obtain⟨tK,tJ⟩:=Q;have Q:=And.intro ((cO).cell tK J) ((cO).cell tJ J);clear tK tJ;have gN:=Z (o9.o.ds cO);have G:=(aXB.o.ds cO).aC HT4.o J;have W:=Z G;have HHD:=Z (hO.eO (wb:=wa) (iF.o.ds o9.o).size);obtain⟨t0,t1,t2⟩:=Z3 G;have tf:=aN G;have tl:=iP (lt_of_block G);clear cO G hO;refine Zk hK Q ?_;clear hK vm;refine I 6 ?_;refine Zo 7 λvm hK=> ?_;go_simp;refine Zk hK Q ?_;clear hK vm;refine I 8 ?_;refine Zo 9 λvm hK=> ?_;go_simp;refine Zl hK ?_;clear hK vm;clear Q t0 t1 t2 tf tl;obtain⟨w6,iA⟩:=D (hY (hY (hY w5 (Ad bt 0) (mX q.name)) (Ad bt 1) (jS da (O q.head) dc)) (Ad bt 2) (jS K 0 0));have dR:U w5 [bt] w6 [bt]:=iA▸(((U.refl w5 [bt]).setCell (a:=Ad bt 0) (.inl J) _).setCell (a:=Ad bt 1) (.inl J) _).setCell (a:=Ad bt 2) (.inl J) _;have s:dT (w6.heap[bt]? =H (kd (iO q (aB q).2 (jS da (O q.head) dc) (jS K 0 0) (jS a0 (O (aB q).2.vars) c0) (jS a1 (O (aB q).2.head) c1) (jS a2 (O ns) c2) (jS a4 (O (aB q).2.tops) c4) (jS K 0 0) (jS K 0 0) cells 0 0) 105 (0,0))):=Z (by
  rw[<-iA,aF _ (aF _ (aF _ W.o))];rfl)
 try rw[iA]
 have aRx:=Z (dR.aC (gN.o.aC HP3.o J) (by simp;have:=r.o;omega));have aRv:=Z (dR.aC (gN.o.aC aRw.o J) (by simp;have:=r.o;omega));have lM:dT (U wa [] w6 []):=Z ((iF.o.ds gN.o).bJ dR (λb hb=>by have:b=bt:=(by simpa using hb);have:=r.o;omega));have HQ6:dT (sj w6 w6 q bt (jS da (O q.head) dc) (jS a0 (O (aB q).2.vars) c0) (jS a1 (O (aB q).2.head) c1) (jS a2 (O ns) c2) (jS a4 (O (aB q).2.tops) c4) cells 0):=
  Z ⟨⟨K,0,K,0,[],[],s.o,⟨bN.nil _ _,bN.nil _ _,rfl,λi hi=>absurd hi J⟩,⟨bN.nil _ _,rfl,λj p=>absurd p (zn j)⟩⟩,U.refl _ _⟩
 have tq:dT (bN yK bU 9 1 wa w6 (jS a0 (O (aB q).2.vars) c0) (aB q).2.vars/\iC wa w6 (jS a1 (O (aB q).2.head) c1) (aB q).2.head/\Ey wa w6 (jS a2 (O ns) c2) ns/\iC wa w6 (jS a4 (O (aB q).2.tops) c4) (aB q).2.tops):=Z
  ⟨(aXe.out.on gN.o).set W.o E dR,(aXd.out.on gN.o).set W.o E dR,
   ⟨(aR5.out.n.on gN.o).set W.o E dR,λx hx=>((aR5.out.o x hx).on gN.o).set W.o E dR⟩,(aX9.out.on gN.o).set W.o E dR⟩
 have aXu:=Z (HHD.o.set W.o E dR);have aWO:=aRv.o;obtain⟨b0,b1,b2⟩:=Z3 aWO;have TL:=Z (gG IG.o);clear aWO dR iA aXe aXd aR5 aX9 HHD W HT4 lH gN o9 aXB;go_upto_region 9 with(fail);go_loopg [47] (O q.aD) (λgg s47 wr=>∃k:Nat,k<=O q.aD/\gg=O q.aD-k/\s47=mj mn k/\sj w6 wr q bt (jS da (O q.head) dc) (jS a0 (O (aB q).2.vars) c0) (jS a1 (O (aB q).2.head) c1) (jS a2 (O ns) c2) (jS a4 (O (aB q).2.tops) c4) cells k)
 case atStart=>exact⟨0,gz _,rfl,rfl,HQ6.o⟩
 case round=>
  obtain⟨k,N,CP,rfl,hN⟩:=hrel;by_cases aY:k<O q.aD
  .obtain⟨⟨xa,xc,oa,oc,dw,xB,A,hQ,qe⟩,m⟩:=hN;obtain⟨g,o,cap,ga,gc,hg,hv,m0,m1,hTm⟩:=HQ.o.qV aY;injection hv with x1 x2 x3;subst x1 x3;have hUW:U wa [] wr []:=lM.o.bJ m (λb hb=>by have:b=bt:=(by simpa using hb);have:=r.o;omega);replace m0:=hUW.cell m0 J;replace m1:=hUW.cell m1 J;have HTM:=Z (hTm.on hUW);have nI:=Z hTm;have aWN:=m.aC aRv.o (by simp;have:=r.o;omega);have ue:=Z (bO (d:=sT) aY);have HX:=Z (fW (d:=sT) aY);have rF:=Z aY;obtain⟨x,hx⟩:=D (hJ q.aD k sT);rw[hx]at m0 m1 HTM nI HX ue;have HXE:=Z hx;have HT:=Z A;have HQN:=Z hQ;have R8:=Z qe;have HU:=Z m;have Fa:=Z hUW;have JY:=Z CP;have a5h:=Z aWN;clear A hQ qe m hUW hTm hx CP x2 b0 b1 b2 aWN;go_upto_region 11 with(fail);obtain⟨wb,qG⟩:=D (i5 wr (kd #[mX x.rel,jS ga (O x.aV) gc] 87));obtain⟨bx,mJ⟩:=D (i7 wr.heap);have oD:=Za qG;have hX:=Ze qG mJ;rw[qG,mJ];have hTb:=oD.aC HT.o J;have Tu:dT (i7 wr.heap=bx/\bt<bx):=Z ⟨mJ,by have:=lt_of_block HT.o;omega⟩;have HXB:=Z hX;have KO:=Z hTb;have EO:=Z oD;unfold iO at hTb;have e2:=Zc hTb 2;obtain⟨f0,f1⟩:=Z2 hX;clear hX hTb oD qG mJ m0 m1;refine e7 17 (ez e2<|ez f0<|ey f1) (λQ=> ?_);obtain⟨wd,fF⟩:=D (wb.drew);have kP:U wb [] wd []:=fF▸(U.refl wb []).drew;rw[fF]at Q|-;have o9:=Z (EO.o.ds kP);have aXD:=Z kP;clear fF kP e2 f0 f1;refine ek [0,1,6,8,2,7,9,3,4,5] ?_;refine Zo 10 λvm hK=> ?_;go_simp;go_at_call 35;refine(rg _ x.aV wd (HTM.o.on o9.o) (by have:=TL.o.2.2.2.1 x ue.o;omega)).mono ?_;rintro e w7 ⟨u,rfl,hO,S⟩;obtain⟨ua,uc,rfl,-⟩:=hO.len;dsimp only;obtain⟨tK,tJ,OD⟩:=Q;have Q:=And.intro ((S).cell tK J) (And.intro ((S).cell tJ J) ((S).cell OD J));clear tK tJ OD;have PF:=Z (o9.o.ds S);have aRM:=Z (aXD.o.ds S);have HO:=Z (hO.eO (wb:=w6) (B6 HU.o.size o9.o.size));clear S hO;refine Zk hK Q ?_;clear hK vm;refine I 11 ?_;refine Zo 12 λvm hK=> ?_;go_simp;obtain⟨w8,DH⟩:=D (i5 w7 (kd #[mX x.rel,jS ua (O x.aV) uc] 87));have L:=Za DH;have P:w8.heap[i7 w7.heap]? =H (kd [mX x.rel,jS ua (O x.aV) uc].toArray 87 (0,0)):=by rw[<-DH];exact heap_alloc_new ..
   obtain⟨tK,tJ,OD⟩:=Q;have Q:=And.intro ((L).cell tK J) (And.intro ((L).cell tJ J) ((L).cell OD J));clear tK tJ OD;rw[DH];refine Zk hK Q ?_;clear hK vm;refine Zo 13 λvm hK=> ?_;have C:=PF.o.ds L;have n:=HQN.o.on C;have EJ:O dw=k:=by rw[n.len,B2];have:=rF.o;omega
   have hk6:=TL.o.2.1;have HHV:dT (∀(v:aE),v=jS xa (O dw) xc->v=jS xa k xc):=Z (λv hv=>by rw[hv,EJ]);obtain⟨v',w9,dK,Lo,rY,T,a9,aCR,rfl⟩:=jX (wb:=wa) (w:=w8) aNT Y 23 n.aD (Fa.o.ds C) lM.o.size (B6 HU.o.size C.size) (FM (f:=xV) (d:=sT) P rfl (x.rel,jS ua (O x.aV) uc) (λj p=>by
    match j,p with
    |0,_=>rfl
    |1,_=>rfl)) (λy hy j p=>by
    obtain rfl:=List.mem_singleton.1 hy;match j,p with
    |0,_=>rfl
    |1,_=>rfl) (by simp;omega) (by unfold bH;simp;omega)
   refine dL _ _ rfl Yr Yr dK ?_;have Hz:=(aRM.o.ds L).aC KO.o J;have Qh:=T.aC Hz (n.aD.ne Hz E);have hX8:=(aRM.o.ds L).aC HXB.o J;have aK5:bx∉(jS xa k xc).ownBlock.toList:=λhm=>by
    have:=eV.lt HQN.o.aD.1 bx (by simpa using hm);have:=Tu.o.1;omega
   have aVP:=n.aD.ne Hz E;have hX9:=T.aC hX8 aK5;have hl9:O dw+O [(x.rel,jS ua (O x.aV) uc)]=k+1:=by simp[EJ]
   rw[hl9]at Lo T|-;have Q:=And.intro (T.cell Q.1 aVP) (And.intro (T.cell Q.2.1 aK5) (T.cell Q.2.2 aK5));have HQ9:=Z (n.vO (x:=x) T Lo (HO.o.on L));have aX8:=Z ((R8.o.on C).jT n.aD E E T);have aXE:dT (U w6 [bt] w9 [bt]):=Z ((HU.o.ds C.Kc).yW T (λb hb=> .inr (n.aD.2 b (by simpa using hb))));have sx:=Z Qh;have HX9:=Z hX9;unfold iO at Qh;have e2:=Zc Qh 2;have ef:=aN Qh;have el:=iP (lt_of_block Qh);clear dK Lo rY T Hz Qh hX8 hX9 aK5 aVP hl9 HHV EJ hk6 n C P L DH;refine Zk hK Q ?_;clear hK vm;refine Zo 14 λvm hK=> ?_;go_simp;refine Zk hK Q ?_;clear hK vm;refine Zo 15 λvm hK=> ?_;go_simp;refine Zk hK Q ?_;clear hK vm;refine I 16 ?_;refine Zo 17 λvm hK=> ?_;go_simp;refine Zl hK ?_;clear hK vm;obtain⟨wz,Hn⟩:=D (hY w9 (Ad bt 2) (jS a9 (k+1) aCR));have yn:U w9 [bt] wz [bt]:=Hn▸(U.refl w9 [bt]).setCell (a:=Ad bt 2) (.inl J) _;have XZ:dT (wz.heap[bt]? =H (kd (iO q (aB q).2 (jS da (O q.head) dc) (jS a9 (k+1) aCR) (jS a0 (O (aB q).2.vars) c0) (jS a1 (O (aB q).2.head) c1) (jS a2 (O ns) c2) (jS a4 (O (aB q).2.tops) c4) (jS K 0 0) (jS oa k oc) cells 0 0) 105 (0,0))):=Z (by
    rw[<-Hn,aF _ sx.o];rfl)
   rw[Hn];have HQZ:=Z (HQ9.o.nW sx.o yn);rw[<-HX.o]at HQZ;have aX7:=Z (aX8.o.nW sx.o yn);have HUZ:=Z (aXE.o.ds yn);have HXZ:=Z (yn.aC HX9.o (by simp;have:=Tu.o;omega));have aKp:=HUZ.o.aC aRx.o (by simp;have:=r.o;omega);have aYR:=Z aKp;clear Hn yn HQ9 sx aX8 aXE HX9 Q e2 ef el HQN R8 HU HTM KO HXB EO o9 aXD PF aRM HO HT Fa a5h;have HWZ:dT (U wa [] wz []):=Z (lM.o.bJ HUZ.o (λb hb=>by have:b=bt:=(by simpa using hb);have:=r.o;omega));have HVZ:dT (fM yK bU 1 wz (jS a0 (O (aB q).2.vars) c0) (aB q).2.vars):=Z (tq.o.1.set s.o E HUZ.o).rd;have HNZ:dT (fM nS sT 7 wz (jS a2 (O ns) c2) ns/\∀z,z∈ns->fM fN 0 1 wz z.2 z.1.vars):=Z ⟨(tq.o.2.2.1.n.set s.o E HUZ.o).rd,λz hz=>((tq.o.2.2.1.o z hz).set s.o E HUZ.o).rd⟩;have IP:k<O (aB q).2.aI:=oj rF.o (Oc IG.o HC.o).wf.CZ;obtain⟨ng,no,a9t,mw,aU2⟩:=wl HNZ.o.1 aLg.o HNZ.o.2 Y;obtain⟨va,vc,hvr,-,-,n2,-,-,-,-⟩:=aU2 k IP;injection mw with y1 y2 y3;subst y1 y3;have yG:k<O ns:=Y;have hol:=GN (aB q).2 x k;have HVR:=Z hvr;have bC1:=Z IP;obtain⟨V,hV⟩:=D ((eA (aB q).2.aI k).vars);rw[hV]at n2 HVR hol;have HVE:=Z hV;have Y3:=Z hol;have aV3:O V<=30:=by rw[<-hV];exact(Oc IG.o HC.o).wf.uq (Oc IG.o HC.o).wide IP
   have aWz:=Z aV3;have p0:=Zc aKp 0;have p2:=Zc aKp 2;clear aU2 hvr IP y2 hV hol aV3 aKp;go_upto_region 14 with(fail);go_loopg [76,11] (O V) (λgg s76 s11 wy=>∃(i:Nat) (ra:Option cg) (rc:Nat),i<=O V/\gg=O V-i/\s76=mj mn i/\s11=jS ra i rc/\bN fN 0 3 1 wz wy (jS ra i rc) ((pQ (aB q).2 x k).take i)/\U wz [] wy [])
   case atStart=>exact⟨0,K,0,gz _,rfl,rfl,rfl,bN.nil _ _,U.refl _ _⟩
   case round=>
    obtain⟨i,ra,rc,hi,hgi,rfl,rfl,hL,m⟩:=hrel;by_cases Cs:i<O V
    .obtain⟨vg,vo,a9W,em,-,hvc⟩:=fM.aS (HVR.o.on m) Cs;have r0:=hvc 0 E;simp only[z',zN,fN]at r0;injection em with x1 x2 x3;clear x2 x3;subst x1;obtain⟨l1,l2,l3⟩:=aJk HC.o rF.o HXE.o (i:=i) (by rw[HVE.o];exact Cs);rw[HVE.o]at l1 l2 l3;obtain⟨z,hz⟩:=D (hJ V i 0);rw[hz]at r0 l1 l2 l3;obtain⟨sg,so,a93,hsv,-,hsc⟩:=fM.aS (HVZ.o.on m) l1;have s0:=hsc 0 E;simp only[z',zN,yK]at s0;injection hsv with x1 x2 x3;clear x2 x3;subst x1;have HSG:dT (sg<i7 wz.heap):=Z (by
      obtain⟨sg',so',a6I,e,Hs,-⟩:=fM.aS HVZ.o l1;injection e with e1 e2 e3;injection e1 with e1;injection e1 with e1 e4 e5;omega)
     obtain⟨y,hy⟩:=D (hJ (aB q).2.vars z bU);rw[hy]at s0 l2 l3;have HMY:=Z l2;have HSN:=Z l3;have HGI:=Z hgi;have HL:=Z hL;have HUI:=Z m;have hXr:=m.aC HXZ.o J;have hPr:=m.aC aYR.o J;obtain⟨f0,f1⟩:=Z2 hXr;have q0:=Zc hPr 0;clear hvc hz hsc hy l2 l3 hgi hL m hXr hPr;go_upto_region 16 with(fail);refine e7 11 (ez f0<|ez f1<|ez q0<|ey s0) (λQ=> ?_);obtain⟨wd,fF⟩:=D (wr.drew);have kP:U wr [] wd []:=fF▸(U.refl wr []).drew;rw[fF]at Q|-;have o9:=Z kP;clear fF kP f0 f1 q0 s0 r0;refine ek [0,1,3,5,4,6,7] ?_;refine Zo 2 λvm hK=> ?_;go_simp;go_at_call 37;refine(CJ _ x.rel x.aV wd (nI.o.on (HWZ.o.ds (HUI.o.ds o9.o))) (by have:=TL.o.2.2.2.1 x ue.o;omega)).mono ?_;rintro e w7 ⟨u,rfl,hO,S⟩;obtain⟨ua,uc,rfl,-⟩:=hO.len;dsimp only;obtain⟨tK,tJ,OD,Nt⟩:=Q;have Q:=And.intro ((S).cell tK J) (And.intro ((S).cell tJ J) (And.intro ((S).cell OD J) ((S).cell Nt J)));clear tK tJ OD Nt;have PF:=Z (o9.o.ds S);have HIX:=Z (D4 _ _ y w7 hO.rd);clear S hO;refine Zk hK Q ?_;clear hK vm;refine Zo 8 λvm hK=> ?_;go_simp;go_at_call 36;refine HIX.o.mono ?_;rintro e w8 ⟨rfl,rfl⟩;dsimp only;have hai:aj (bL x.aV []) y=((cJ x).idxOf y:Int):=YQ HMY.o;rw[hai];obtain⟨c,hc⟩:=D ((cJ x).idxOf y);rw[hc];have HCI:=Z hc;clear hai hc;refine Zk hK Q ?_;clear hK vm;refine Zo 9 λvm hK=> ?_;go_simp;obtain⟨w8,DH⟩:=D (i5 w7 (kd #[It c] 3));have L:=Za DH;have P:w8.heap[i7 w7.heap]? =H (kd [It c].toArray 3 (0,0)):=by rw[<-DH];exact heap_alloc_new ..
     obtain⟨tK,tJ,OD,Nt⟩:=Q;have Q:=And.intro ((L).cell tK J) (And.intro ((L).cell tJ J) (And.intro ((L).cell OD J) ((L).cell Nt J)));clear tK tJ OD Nt;rw[DH];refine Zk hK Q ?_;clear hK vm;refine Zo 10 λvm hK=> ?_;have C:=PF.o.ds L;have I1:=HL.o.on C;have XM:O ((pQ (aB q).2 x k).take i)=i:=by rw[B2,Y3.o];omega
     have aFx:=aWz.o;obtain⟨v',w9,dK,Lo,rY,T,a9,aCR,rfl⟩:=jX (wb:=wz) (w:=w8) QL Y 50 I1 (HUI.o.ds C) (yo _) (HUI.o.ds C).size (FM (f:=fN) (d:=0) P rfl c (dE rfl)) (λy hy j p=>by
      obtain rfl:=List.mem_singleton.1 hy;rfl) (by simp;omega) (by unfold bH;simp;omega)
     refine dL _ _ rfl Yr Yr dK ?_;have hl9:O ((pQ (aB q).2 x k).take i)+O [c]=i+1:=by simp[XM]
     rw[hl9]at Lo|-;rw[<-HCI.o,<-HSN.o]at Lo;have HL9:=Z Lo;have Fx:=Z rY;have Q:=And.intro (T.cell Q.1 (I1.BJ (lt_of_block HXZ.o))) (And.intro (T.cell Q.2.1 (I1.BJ (lt_of_block HXZ.o))) (And.intro (T.cell Q.2.2.1 (I1.BJ (lt_of_block aYR.o))) (T.cell Q.2.2.2 (I1.BJ HSG.o))));clear dK Lo rY T C I1 XM aFx hl9 L P DH;refine Zk hK Q ?_;clear hK vm;refine Zo 11 λvm hK=> ?_;go_simp;refine Zl hK ?_;clear hK vm;clear Q;have xx:IntKind.i64.wrap ((i:Int)+1)=((i+1:Nat):Int):=by
      have:=aWz.o;rw[IntWalk.i64_in _ Y];omega
     go_wp2;go_roundg (O V-(i+1))
     case measure=>have:=HGI.o;omega
     case rel=>exact⟨i+1,a9,aCR,Y,rfl,by go_num,rfl,HL9.o,Fx.o⟩
    .obtain rfl:i=O V:=Y;have HLF:=Z hL;have hTr:=m.aC XZ.o J;have O5:=Z hTr;have aHj:=Z (aX7.o.on m);have HQR:=Z (HQZ.o.on m);have HWR:=Z (HWZ.o.ds m);have HUR:=Z (HUZ.o.ds m.Kc);have HZS:=Z m.size;have hod:=aX7.o.len;unfold iO at hTr;have e10:=Zc hTr 10;have hk6:=TL.o.2.1;clear hL m hTr p0 p2 n2;go_upto_region 19 with(at_builtin;refine C2 aWa rfl _ _ rfl aHj.o.cZ HWR.o lM.o.size HUR.o.size Yr [jS ra (O V) rc] (jS ra (O V) rc) Yr rfl (dE rfl) rfl Y (by unfold bH;omega) ?_;rintro g5 c5 w5 lU-qc-;have pL:=Z lU;have aH7:=Z qc;have G:=qc.aC O5.o (aHj.o.cZ.ne O5.o E);have W:=Z G;unfold iO at G;have t10:=Zc G 10;have tf:=aN G;have tl:=iP (lt_of_block G);clear lU qc G);obtain⟨wf,tT⟩:=D (hY w5 (Ad bt 10) (jS (H (Ad g5 0)) (k+1) c5));have yB:U w5 [bt] wf [bt]:=tT▸(U.refl w5 [bt]).setCell (a:=Ad bt 10) (.inl J) _;have hTf:wf.heap[bt]? =H (kd (iO q (aB q).2 (jS da (O q.head) dc) (jS a9 (k+1) aCR) (jS a0 (O (aB q).2.vars) c0) (jS a1 (O (aB q).2.head) c1) (jS (H (Ad ng no)) (O ns) c2) (jS a4 (O (aB q).2.tops) c4) (jS K 0 0) (jS (H (Ad g5 0)) (k+1) c5) cells 0 0) 105 (0,0)):=by
      rw[<-tT,aF _ W.o];rfl
     have hLo:bN fN 0 3 1 w6 wr (jS ra (O V) rc) (pQ (aB q).2 (hJ q.aD k sT) k):=by
      have h:=HLF.o.eO (wb:=w6) HUZ.o.size;rw[List.take_of_length_le (Nat.le_of_eq Y3.o)]at h;rw[HXE.o];exact h
     have Xj:=pL.o;rw[hod]at Xj;have hOf:=(aHj.o.vO aH7.o Xj hLo).nW W.o yB;have hQf:=(HQR.o.zk aHj.o.cZ E E E aH7.o).nW W.o yB;have hUU:U w6 [bt] wf [bt]:=(HUR.o.yW aH7.o (λb hb=> .inr (aHj.o.cZ.2 b (by simpa using hb)))).ds yB;have HNM:=Z (show sj w6 wf q bt (jS da (O q.head) dc) (jS a0 (O (aB q).2.vars) c0) (jS a1 (O (aB q).2.head) c1) (jS (H (Ad ng no)) (O ns) c2) (jS a4 (O (aB q).2.tops) c4) cells (k+1)from⟨⟨a9,aCR,_,c5,_,_,hTf,hQf,hOf⟩,hUU⟩);rw[tT];clear tT yB hTf hLo Xj hOf hQf hUU t10 tf tl e10;go_wp2;go_roundg (O q.aD-(k+1))
     case measure=>have:=JY.o;omega
     case rel=>exact⟨k+1,Y,rfl,by go_num,HNM.o⟩
  .obtain rfl:k=O q.aD:=Y;obtain⟨⟨xa,xc,oa,oc,dw,xB,A,hQ,qe⟩,m⟩:=hN;rw[B4]at hQ;have hsa:=yM.o.size;have hs6:=lM.o.size;have Hy:U wa [] wr []:=lM.o.bJ m (λb hb=>by have:b=bt:=(by simpa using hb);have:=r.o;omega);obtain⟨dX,oM⟩:=D (tg0 bt w.heap.size β ρ);have hhd:=(aXu.o.set s.o E m);have su:dT (a4A wr dX β q (jS da (O q.head) dc) (jS xa (O q.aD) xc) (jS a2 (O ns) c2) (jS oa (O q.aD) oc) dw ns xB):=Z (by
    subst oM;exact⟨⟨hhd.aAZ A E Y,hhd.N4,hQ.aD.aAZ A E Y,hQ.len,λj p=>⟨(hQ.lD j p).1,(hQ.lD j p).2.aAZ A E Y⟩,HQ.o.eD⟩,(tq.o.2.2.1.n.set s.o E m).aAZ A E Y,qe.cZ.aAZ A E Y,λj p=>(qe.lD j p).aAZ A E Y⟩)
   have HNM:dT (aHY wa w6 wr wr dX dX β q bt (jS da (O q.head) dc) (jS xa (O q.aD) xc) (jS a0 (O (aB q).2.vars) c0) (jS a1 (O (aB q).2.head) c1) (jS a2 (O ns) c2) (jS a4 (O (aB q).2.tops) c4) (jS oa (O q.aD) oc) (jS K 0 0) dw ns xB [] cells 0):=Z
    ⟨A,⟨hhd,hQ,⟨tq.o.2.2.1.n.set s.o E m,λz hz=>(tq.o.2.2.1.o z hz).set s.o E m⟩,qe⟩,pI.nil _ _ _,rfl,λj p=>absurd p (zn j),λ_ _=>rfl,λg hg=>(by cases hg),U.refl _ _⟩
   have aXY:dT (dX bt=β):=Z (by subst oM;exact if_pos rfl);have aR0:dT ((∀k,k<i7 w.heap->dX k=ρ k)):=Z (λk N=>by
    subst oM;unfold tg0;rw[if_neg (by have:=r.o;omega),if_neg Y])
   have aYQ:=Z (m.aC aRx.o (by simp;have:=r.o;omega));have HWR:=Z Hy;have XN:=aYQ.o;have yG:O ns=O (aB q).2.aI:=by rw[<-aLg.o,List.length_map]
   have E4:=Z yG;have aCc:=Z (Oc IG.o HC.o);obtain⟨p0,p1,p2,p3,p4⟩:=Z5 XN;clear A hQ qe m hsa hs6 Hy oM hhd XN yG CP aY N b0 b1 b2 lM HQ6 aXu tq s aRx aRv;go_upto_region 21 with(fail);obtain⟨wq,MP⟩:=D (wr);subst MP;go_loopg [106] (O ns) (λgg aOS wy=>∃(i:Nat) (ρy:bC) (na:Option cg) (nc:Nat) (bs:List Nat),i<=O ns/\gg=O ns-i/\aOS=mj mn i/\aHY wa w6 wr wy dX ρy β q bt (jS da (O q.head) dc) (jS xa (O q.aD) xc) (jS a0 (O (aB q).2.vars) c0) (jS a1 (O (aB q).2.head) c1) (jS a2 (O ns) c2) (jS a4 (O (aB q).2.tops) c4) (jS oa (O q.aD) oc) (jS na i nc) dw ns xB bs cells i)
   case atStart=>exact⟨0,dX,K,0,[],gz _,rfl,rfl,HNM.o⟩
   case round=>
    obtain⟨i,ρy,na,nc,bs,hi,hgi,rfl,B⟩:=hrel;by_cases Cs:i<O ns
    .have HGI:=Z hgi;have HI:=Z Cs;have LL:=Z B;have iD:i<O (aB q).2.aI:=by rw[<-E4.o];exact Cs
     have XN:=B.eU.aC aYQ.o (by simp;have:=r.o;omega);have bDE:=Z XN;have HSP:=Z (aEO (v0:=jS a0 (O (aB q).2.vars) c0) (v1:=jS a1 (O (aB q).2.head) c1) (v4:=jS a4 (O (aB q).2.tops) c4) ⟨_,_,_,rfl⟩ ⟨_,_,_,rfl⟩ ⟨_,_,_,rfl⟩ B.kp.nd.n.rd aLg.o (λz hz=>(B.kp.nd.o z hz).rd) aCc.o.wf aCc.o.wide iD);have HSO:=Z (aCc.o.wf.aEQ aCc.o.wide iD);obtain⟨p0,p1,p2,p3,p4⟩:=Z5 XN;clear hgi B iD XN;go_upto_region 24 with(first
      |(go_at_call 39;refine HSP.o.mono ?_;rintro e w7 ⟨ka,kc,sa,sc,ua,uc,rfl,Sw,IQ,hl3,S⟩;have PF:=Z S;have HND:=Z (aJ1 (ρ:=up wr.heap.size (β+1) ρy) (mR β i) _ ka kc sa sc ua uc HSO.o Sw IQ hl3);clear Sw IQ hl3 S)
      |(go_at_call 38;refine HND.o.mono ?_;rintro e w8 ⟨nb,CM,rfl,L,ht8,P⟩;have LJ:=Z L;have HT8:=Z ht8;have HN8:=Z P;clear L ht8 P))
     have C:=PF.o.ds LJ.o;have pW:bI wr ρy (λ_=>False) w8 CM:=⟨C.os,C.tape,C.output,C.size,λk N _=>C.block k N J,λk N=>(HT8.o k (oj N PF.o.size)).ds (fG N)⟩;have Y8:=Z (LL.o.lst.eb pW (λh=>h));have HK8:=Z (LL.o.kp.on C);have HE8:=Z (λj p=>(LL.o.lD j p).eb pW (λ_ _ h=>h));have dd:=Z C;have a4W:=Z pW.cE;have Hz:=C.aC LL.o.cF J;have HB8:=Z Hz;unfold iO at Hz;have e9:=Zc Hz 9;have F:=LL.o.len;have qj:i<42:=by have:=HI.o;have:=E4.o;have:=aCc.o.oE;omega
     clear C pW Hz p0 p1 p2 p3 p4;go_upto_region 25 with(at_builtin;refine C2 a3i rfl _ _ rfl (Y8.o.cZ w8) (OB w8) (yo _) (gz _) Yr [Pt nb] nb Yr rfl (dE rfl) rfl Y (by unfold bH;omega) ?_;rintro g5 c5 w5 lU-qc-;have pL:=Z lU;have aH7:=Z qc;have G:=qc.aC HB8.o ((Y8.o.cZ w8).ne HB8.o E);have W:=Z G;unfold iO at G;have t9:=Zc G 9;have tf:=aN G;have tl:=iP (lt_of_block G);clear lU qc G);obtain⟨wf,tT⟩:=D (hY w5 (Ad bt 9) (jS (H (Ad g5 0)) (i+1) c5));have yB:U w5 [bt] wf [bt]:=tT▸(U.refl w5 [bt]).setCell (a:=Ad bt 9) (.inl J) _;have hTf:wf.heap[bt]? =H (kd (iO q (aB q).2 (jS da (O q.head) dc) (jS xa (O q.aD) xc) (jS a0 (O (aB q).2.vars) c0) (jS a1 (O (aB q).2.head) c1) (jS a2 (O ns) c2) (jS a4 (O (aB q).2.tops) c4) (jS (H (Ad g5 0)) (i+1) c5) (jS oa (O q.aD) oc) cells 0 0) 105 (0,0)):=by
      rw[<-tT,aF _ W.o];rfl
     have Xj:=pL.o;have hua:=aH7.o;rw[F]at Xj;have aJv:U w8 (jS na i nc).ownBlock.toList w5 (jS (H (Ad g5 0)) (i+1) c5).ownBlock.toList:=hua;obtain⟨oT,GS⟩:=D (up w8.heap.size (β+1) CM);have kK:bI w8 CM (λt=>t=β+1) w5 oT:=GS▸Y8.o.fK aJv rfl;have hLt:pI Zd 0 110 1 w5 oT (β+1) (jS (H (Ad g5 0)) (i+1) c5) (bs++[nb]):=GS▸Xj.ON Y8.o aJv;have aVO:bt<i7 wr.heap:=lt_of_block LL.o.cF;have l:∀k,k<i7 wr.heap->oT k=ρy k:=λk N=>(kK.cE k (oj N dd.o.size)).ds (a4W.o k N);have h5t:oT bt=ρy bt:=l bt aVO;have HRY:ρy bt=β:=by
      rw[LL.o.old bt (by have:=HNM.o.cF;exact lt_of_block this)];exact aXY.o
     have hMf:bI w5 oT (λt=>t=β) wf oT:=⟨yB.os,yB.tape,yB.output,yB.size,λk N hn=>yB.block k N (λhm=>hn (by have:k=bt:=(by simpa using hm);rw[this,h5t,HRY])),λ_ _=>rfl⟩;have zK:=λj:Nat=>aOi β j;have hEf:∀j,j<i+1->p9 wf oT (mR β j) (hJ (bs++[nb]) j 0) (eF (aB q).2 j) OY 0 0:=λj p=>by
      rw[iZ,F];by_cases e:j=i
      .rw[if_pos e,e];exact(HN8.o.eb kK (zK i).1).eb hMf (zK i).2
      .rw[if_neg e];exact((HE8.o j Y).eb kK (zK j).1).eb hMf (zK j).2
     have hKf:Ex wa w6 wf q (jS da (O q.head) dc) (jS xa (O q.aD) xc) (jS a2 (O ns) c2) (jS oa (O q.aD) oc) dw ns xB:=(HK8.o.jT (Y8.o.cZ w8) hua).nW W.o yB;have hLf:=hLt.eU yB (λg hg hm=>by
      have:g=bt:=by simpa using hm
      subst this;exact hLt.ne W.o E hg)
     have aPb:∀g,g∈(jS na i nc).ownBlock.toList->_<=g:=λg hg=>LL.o.fre g (by simpa using hg);have hUU:=((LL.o.eU.ds dd.o.Kc).yW hua (λb hb=> .inr (aPb b hb))).ds yB;have HNX:=Z (aHY.mk hTf hKf hLf (by simp[F]) hEf (λk N=>(l k (oj N LL.o.eU.size)).ds (LL.o.old k N)) (λg hg=>by
      rcases aJv.fresh g (by rw[hg];simp)with h'|h'
      .exact aPb g h'
      .exact B6 (B6 LL.o.eU.size dd.o.size) h') hUU)
     rw[tT];clear tT yB hTf Xj hua aJv GS kK hLt aVO l h5t HRY hMf zK hEf hKf hLf aPb hUU t9 tf tl e9;go_wp2;go_roundg (O ns-(i+1))
     case measure=>have:=HGI.o;have:=HI.o;omega
     case rel=>exact⟨i+1,oT,_,c5,_,by have:=HI.o;omega,rfl,by go_num,HNX.o⟩
    .obtain rfl:i=O ns:=Y;have LL:=Z B;have HQS:=Z (lt_of_block HNM.o.cF);clear B hgi p0 p1 p2 p3 p4;go_wp2;go_ret2;have B:=LL.o;have A:=su.o;have l:=B.old;have hbs:O bs=O (aB q).2.aI:=B.len.ds E4.o;refine⟨bt,ρy,rfl,yM.o.ds (HWR.o.bJ B.eU (λb hb=>by have:b=bt:=(by simpa using hb);have:=r.o;omega)),λk N=>(l k (by have:=yM.o.size;have:=HWR.o.size;omega)).ds (aR0.o k N),?_⟩;refine⟨⟨⟨_,_,_,_,_,_,_,_,dw,ns,xB,bs,B.cF,⟨⟨A.qt.head.later B.kp.hd.rd l,A.qt.cap,A.qt.aD.later B.kp.qo.aD.rd l,A.qt.len,λj p=>⟨(A.qt.lD j p).1,(A.qt.lD j p).2.later (B.kp.qo.lD j p).2.rd l⟩,A.qt.eD⟩,
      A.aI.later B.kp.nd.n.rd l,aLg.o,λz hz=>(by obtain⟨a,c,e,-⟩:=(B.kp.nd.o z hz).len;exact⟨a,_,c,e⟩),A.nM.later B.kp.od.cZ.rd l,B.kp.od.len,λj p=>(A.aJS j p).later (B.kp.od.lD j p).rd l,B.lst.rd,hbs,⟨⟨_,_,_,rfl⟩,⟨_,_,_,rfl⟩,⟨_,_,_,rfl⟩⟩⟩,
      λj p=>B.lD j (by rw[E4.o];exact p)⟩,(l bt HQS.o).ds aXY.o⟩,aCc.o,a0K _,⟨yo _,gz _⟩,HCE.o⟩
variable{wr:aA}
theorem ZM45{P:Prop}(h:P:=by
  rcases hT with⟨rfl,rfl⟩|⟨g,cap,cur,rfl,hg,hn,hm,hs,dW⟩
  .omega
  .let⟨Ef,h2,h3⟩:=h.fY g cur e hg;refine⟨g,cap,rfl,rfl,dG h3,aN h3,⟨cur,hg⟩,λi j hi hj=> ?_⟩;have:=dW i j hi hj;have aY:=(Array.getElem?_eq_some_iff.1 this).1;exact⟨_,aP h3 (Array.getElem?_eq_getElem (h2▸aY))⟩):P:=h
theorem ZM60{P:Prop}(h:P:=by
  by_cases e:k=g
  .subst e;let⟨c2,h2,h3⟩:=h.fY k Ef T' hk;exact⟨_,by rw[Array.size_setIfInBounds];exact h2,aF v h3⟩
  .rw[Mz wr (Ad g j) k v (λe'=>e e')];exact h.fY k Ef T' hk):P:=h
theorem ZM102{P:Prop}(h:P:=by
  obtain rfl:j=O tl:=Y;go_wp2;go_roundg (O q.aD-(k+1))
  .exact⟨k+1,Y,rfl,eY,LF⟩
  have:=JY.o;omega):P:=h
theorem ZM152{P:Prop}(h:P:=by
  have hb:=(YV.lD k aY).2;rw[IM,Cp]at hb;exact CC g (hb.2 g hg) (eV.lt hb.1 g hg)):P:=h
structure Mj(w wr:aA)(ρ:bC)(t:Nat):Prop where
 fK:bI w ρ (λx=>x=t) wr ρ
 OE:∀(k:Nat) (cs:Array aE) (T:ap),w.heap[k]? =H (kd cs T (0,0))->T≠92->T≠9->wr.heap[k]? =w.heap[k]?
 fY:∀(k:Nat) (cs:Array aE) (T:ap),w.heap[k]? =H (kd cs T (0,0))->∃cs',cs'.size=cs.size/\wr.heap[k]? =H (kd cs' T (0,0))
theorem Mj.refl(w:aA)(ρ:bC)(t:Nat):Mj w w ρ t:=⟨bI.refl _ _ _,λ_ _ _ _ _ _=>rfl,λk cs T h=>⟨cs,rfl,h⟩⟩
theorem Mj.set{t:Nat}(h:Mj w wr ρ t){T:ap}(a:w.heap[g]? =H (kd cs T (0,0)))(i:T=92\/T=9)(d:ρ g=t)(v:aE):Mj w (hY wr ⟨g,j,K⟩ v) ρ t:=by
 let⟨n,m,l⟩:=h.fY g cs T a;refine⟨h.fK.setCell (.inl d) v,λk Ef T' hk b n2=> ?_,λk Ef T' hk=> ?_⟩
 .have c:k≠g:=λe=>by
   subst e;rw[a]at hk;injection hk with hk;injection hk with _ hk;subst hk;rcases i with e|e
   .exact b e
   .exact n2 e
  rw[Mz wr (Ad g j) k v (λe=>c e)];exact h.OE k Ef T' hk b n2
 .exact ZM60
theorem Mj.cell{t:Nat}(h:Mj w wr ρ t){k:Nat}{T:ap}(c:w.heap[k]? =H (kd cs T (0,0)))(a:T≠92)(b:T≠9)(d:h8 w ⟨k,j,K⟩=H v):h8 wr ⟨k,j,K⟩=H v:=
 (World.cell?_of_block (h.OE k cs T c a b)).ds d
theorem Mj.has{t:Nat}(h:Mj w wr ρ t){e:ap}{c:Nat->Nat->aE}(hT:eV w v e sz n c)(a:0<n):
  ∃g cap,v=jS (H ⟨g,0,K⟩) n cap/\i6 v=H g/\g<i7 wr.heap/\(∀j,wr.frozen? ⟨g,j,K⟩=rR)/\(∃cs,w.heap[g]? =H (kd cs e (0,0)))/\∀i j,i<n->j<sz->∃u,h8 wr ⟨g,i*sz+j,K⟩=H u:=by
 exact ZM45
theorem Mj.Nw{t:Nat}(h:Mj w wr ρ t){T:ap}(a:w.heap[g]? =H (kd cs T (0,0)))(c:T=92\/T=9)(b:ρ g=t)(x0 x1 x2 x3:aE):
  Mj w (hY (hY (hY (hY wr ⟨g,j,K⟩ x0) ⟨g,j+1,K⟩ x1) ⟨g,j+2,K⟩ x2) ⟨g,j+3,K⟩ x3) ρ t:=
 (((h.set a c b x0).set a c b x1).set a c b x2).set a c b x3
theorem bI.aT1{S:Nat->Prop}(h:bI w ρ S w' bV)(b:∀k,k<i7 w.heap->¬S (ρ k)):bI w ρ eZ w' bV:=⟨h.os,h.tape,h.output,h.size,λk a _=>h.block k a (b k a),h.cE⟩
theorem lR.eb{cells:Nat}{t:iL}{S:Nat->Prop}(h:lR w ρ β b q cells t F G)(d:bI w ρ S w' bV)(a:∀x,β<=x->¬S x):lR w' bV β b q cells t F G:=
 ⟨h.bd.eb d (a _ (fV _)) (a _ Y) (λi c _ _=>a _ (by unfold mR;omega)),h.ok,h.ZM,h.num,h.cel⟩
theorem bI.uz{S:Nat->Prop}(h:bI w ρ S w' bV)(b:∀k,k<i7 w.heap->¬S (ρ k)):U w [] w' []:=⟨h.os,h.tape,h.output,h.size,λk a _=>h.block k a (b k a),J⟩
def Ff(w:aA)(ρ:bC)(t d:Nat)(n:Nat):Prop:=∃cs a c,w.heap[d]? =H (kd cs 56 (0,0))/\cs[5]? =H (jS a n c)/\ρ d=t
theorem Ff.eb{t d:Nat}{S:Nat->Prop}(h:Ff w ρ t d n)(b:bI w ρ S w' bV)(i:¬S t):Ff w' bV t d n:=by
 obtain⟨cs,a,c,g,j,e⟩:=h;exact⟨cs,a,c,b.aC g (e▸i),j,(b.cE d (dG g)).ds e⟩
def uh(w:aA)(ρ:bC)(t d:Nat)(q:bK)(cells:Nat):Prop:=∃qh qa v0 v1 v2 v4 lv ns,
 w.heap[d]? =H (kd #[mX q.name,qh,qa,v0,v1,v2,mj mn (aB q).2.dQ,v4,mj mn (cells:Int),lv,mj mn 0,mj mn 0,nj rR,jS K 0 0,mj mn 0] 56 (0,0))/\ρ d=t/\
  lW yK bU 1 w ρ t v0 (aB q).2.vars/\lW fN 0 1 w ρ t v1 (aB q).2.head/\lW nS sT 7 w ρ t v2 ns/\ns.map (·.1)=(aB q).2.aI/\(∀x,x∈ns->lW fN 0 1 w ρ t x.2 x.1.vars)/\lW fN 0 1 w ρ t v4 (aB q).2.tops/\lW GA undef 1 w ρ t lv (List.replicate (O (aB q).2.aI) (jS K 0 0))
theorem uh.eb{t d cells:Nat}{S:Nat->Prop}(h:uh w ρ t d q cells)(a:bI w ρ S w' bV)(b:¬S t):uh w' bV t d q cells:=by
 obtain⟨n,m,v0,v1,v2,v4,lv,ns,c,e,p,r,j,l,u,v,g⟩:=h;exact⟨n,m,v0,v1,v2,v4,lv,ns,a.aC c (e▸b),(a.cE d (dG c)).ds e,p.eb a b,r.eb a b,j.eb a b,l,λx i=>(u x i).eb a b,v.eb a b,g.eb a b⟩
theorem uh.is{t d cells:Nat}(h:uh w ρ t d q cells):Ff w ρ t d (O (aB q).2.aI):=by
 obtain⟨j,l,v0,v1,v2,v4,lv,ns,i,e,-,-,b,g,-⟩:=h;obtain⟨a,c,rfl,-⟩:=b.1.len;exact⟨_,a,c,i,by rw[<-g,r8];rfl,e⟩
theorem Wb(β cells:Nat)(h:ED w hv av ps q)(hw:Tz w)(h0:(aB q).1=0)(Da:1<=cells/\cells<=65536)(KC:∀k,k<i7 w.heap->ρ k=0)(hβ:10<=β):
  aK prog 6 #[.agg #[mX q.name,hv,av],mj mn (cells:Int)] w λe w'=>∃b d bV,e=mi (mr #[lr (H ⟨b,0,K⟩),lr (H ⟨d,0,K⟩),nj qT])/\bI w ρ eZ w' bV/\lR w' bV β b q cells LU 0 0/\uh w' bV 2 d q cells:=by
 obtain⟨ha,hc,rfl,-⟩:=h.head.len;obtain⟨aa,ac,rfl,-⟩:=h.aD.len;have z:=h.len;rw[z]at h|-;let⟨wa,dM⟩:=D (i5 w (kd #[mX q.name,jS ha (O q.head) hc,jS aa (O q.aD) ac] 25));let⟨bq,EK⟩:=D (i7 w.heap);have cV:=Za dM;have lC:=Ze dM EK;obtain⟨b0,b1,b2⟩:=Z3 lC;have HC:=Z h0;have aR0:=Z KC;have HBW:=Z EK;clear z h0 KC;go_in;go_upto_region 2 with(first
  |(go_at_call 11;apply(GL _ _ ps q wa (h.on cV)).cX;rintro e w1 ⟨yP,av',f,rfl,hO,cT⟩;obtain⟨da,dc,rfl,-⟩:=hO.head.len;obtain⟨ea,ec,e1,-⟩:=hO.aD.len;rw[hO.len]at e1;subst e1;have nN:=(cV.ds cT)))
 let⟨wb,qG⟩:=D (i5 w1 (kd #[mX q.name,jS da (O q.head) dc,jS ea (O q.aD) ec] 25));let⟨bi,G⟩:=D (i7 w1.heap);have oD:=Za qG;have T:=Ze qG G;rw[qG,G];obtain⟨i0,o,s⟩:=Z3 T;have EO:=(nN.ds oD);have YV:=(hO.on oD);have A:=(((cT.ds oD).aC lC J));have HN:=Z (PM (ρ:=up w.heap.size 1 ρ) β cells (YV.qin h.eD) YV.head.N4 (hw.on EO) HC Da);clear oD b0 b1 b2 dM qG G;go_upto_region 3 with(first
  |(go_at_call 10;apply HN.cX;rintro e w2 ⟨bt,fD,rfl,l,y,hT⟩;have aCb:=Z y;have b0:=l.cell (aP A (j:=0) rfl) J;have b1:=l.cell (aP A (j:=1) rfl) J;have b2:=l.cell (aP A (j:=2) rfl) J;clear y))
 have HD:=(aCI (w:=w2) cells (h.on (EO.ds l)) HC Da hT.ok.oE);go_upto_region 4 with(first
  |(go_at_call 22;apply HD.cX;rintro e w3 ⟨d,rfl,hD,m⟩;have i0':=(l.ds m).cell i0 J;have W:=(l.ds m).cell o J;have i2':=(l.ds m).cell s J;have b0':=m.cell b0 J;have b1':=m.cell b1 J;have b2':=m.cell b2 J;clear i0 o s b0 b1 b2))
 have TL:=(Vj _ _ _ _ f ps q w3 ((YV.on (l.ds m)).qin h.eD) (h.on (EO.ds (l.ds m))));go_upto_region 5 with(first
  |(go_at_call 23;apply TL.dC;intro w4 i;have i0:=i.cell i0' J;have o:=i.cell W J;have s:=i.cell i2' J;clear i0' W i2' b0' b1' b2'))
 let⟨mI,nD⟩:=D (up w2.heap.size 2 fD);have F:bI w2 fD eZ w4 mI:=nD▸(m.ds i).fK (S:=eZ) 2 (λ_ h=>dY h J);have Lm:=hT.eb F vF;have L:∀k,k<i7 wb.heap->mI k=up w.heap.size 1 ρ k:=λk p=>(F.cE k (xF p l.size)).ds (aCb.o k p);have hD4:uh w4 mI 2 d q cells:=by
  obtain⟨⟨A8,av2,ps2,v0,v1,v2,v4,a,c,lv,-,hb,-,hr,hl⟩,xC⟩:=hD;obtain⟨u0,u1,u2,u4,ns,e,k0,k1,k2,k3,k4,k5⟩:=hr.ex;simp only[Value.agg.injEq,Array.mk.injEq,List.cons.injEq]at e;obtain⟨rfl,rfl,rfl,-,rfl,-⟩:=e;exact nD▸⟨A8,av2,v0,v1,v2,v4,lv,ns,i.aC hb J,cY xC,((k0.on i).jR 2 fD).rd,((k1.on i).jR 2 fD).rd,((k2.on i).jR 2 fD).rd,k3,λx hx=>(((k4 x hx).on i).jR 2 fD).rd,((k5.on i).jR 2 fD).rd,((hl.on i).jR 2 fD).rd⟩
 have aG9:bI w ρ (λx=>x=1) w4 mI:=by
  have hu:=EO.ds (l.ds (m.ds i));exact⟨hu.os,hu.tape,hu.output,hu.size,λk p _=>hu.block k p J,λk p=>(L k (xF p EO.size)).ds (fG p)⟩
 have SV:=YV.on (l.ds (m.ds i));have hI4:=(l.ds (m.ds i)).aC T J;have CC:∀g,i7 wa.heap<=g->g<i7 wb.heap->mI g=1:=λg h1 h2=>(L g h2).ds (cY (j8 cV.size h1));have r:=Z hI4;have oB:=h.eD;have KD:=oB.aD;have hh6:=oB.head;clear nD F L hI4 oB i0;go_upto_region 6 with(fail);clear o s;go_loopg [48] (O q.aD) (λgg s48 wr=>∃k:Nat,k<=O q.aD/\gg=O q.aD-k/\s48=X k/\Mj w4 wr mI 1)
 .exact⟨0,Y,rfl,rfl,Mj.refl _ _ _⟩
 obtain⟨k,p,CP,rfl,Hy⟩:=hrel;have JY:=Z CP;clear CP;by_cases aY:k<O q.aD
 .have LD:k<O f:=SV.len▸aY;obtain⟨ga,cap,oN,-,-,fh,-,⟨a3p,Cy⟩⟩:=eV.block SV.aD.1 (wn LD);injection oN with x1 x2 x3;subst x1;obtain⟨-,SL⟩:=SV.lD k aY;obtain⟨ta,tc,IM,-⟩:=SL.len;have a1:=Hy.cell Cy E E (fh k 1 LD E);rw[show xV (hJ f k sT) 1=(hJ f k sT).2 from rfl,IM]at a1;rw[IM]at SL;have s:=Hy.cell r E E (aP r (j:=2) rfl);let⟨tl,Cp⟩:=D ((hJ q.aD k sT).aV);have htm:O tl<=1048576:=Cp▸j8 (GH aY) h.eD.aV;rw[Cp]at SL a1;have BG:∀g,i6 (jS ta (O tl) tc)=H g->mI g=1:=λg hg=>by
   exact ZM152
  have HCA:=(eI Cy (fh k 1 LD E));have BH:(k:Int)<(O q.aD:Int):=Y;clear fh Cy LD x2 x3;go_upto_region 9 with(fail);clear a1 s;go_loopg [58] (O tl) (λgg s58 B=>∃j:Nat,j<=O tl/\gg=O tl-j/\s58=X j/\Mj w4 B mI 1)
  .exact⟨0,Y,rfl,rfl,Hy⟩
  obtain⟨j,hj,V,rfl,LF⟩:=hrel;have C:=Z V;clear V;by_cases n:j<O tl
  .let⟨gt,aQo,mh,N,Cr,Cu,⟨cst,P⟩,u⟩:=LF.has SL.1 (wn n);injection mh with x1 x2 x3;subst x1;let⟨u0,c0⟩:=u j 0 n E;let⟨u1,c1⟩:=u j 1 n E;let⟨u2,c2⟩:=u j 2 n E;let⟨u3,c3⟩:=u j 3 n E;rw[qZ]at c0;have a1:=LF.cell HCA.1 E E HCA.2;rw[show xV (hJ f k sT) 1=(hJ f k sT).2 from rfl,IM,Cp]at a1;have s:=LF.cell r E E (aP r (j:=2) rfl);have bl:=iP Cr;have AY:=(LF.Nw (j:=j*4) P (.inl rfl) (BG gt N));have uU:(j:Int)<(O tl:Int):=Y;have Q:=Z n;clear u P N Cr x2 x3 n hj;go_wp2;go_roundg (O tl-(j+1))
   .exact⟨j+1,Q,rfl,eY,AY _ _ _ _⟩
   have:=C.o;have:=Q.o;omega
  .exact ZM102
 .obtain rfl:k=O q.aD:=Y;have o:=Hy.cell r E E (aP r (j:=1) rfl);go_upto_region 15 with(fail);clear o;go_loopg [75] (O q.head) (λgg s75 B=>∃j:Nat,j<=O q.head/\gg=O q.head-j/\s75=X j/\Mj w4 B mI 1)
  .exact⟨0,Y,rfl,rfl,Hy⟩
  obtain⟨j,hj,V,rfl,LF⟩:=hrel;have C:=Z V;clear V;by_cases n:j<O q.head
  .let⟨gt,aQo,mh,N,Cr,Cu,⟨cst,P⟩,u⟩:=LF.has SV.head.1 (wn n);injection mh with x1 x2 x3;subst x1;let⟨u0,c0⟩:=u j 0 n E;rw[yC,qZ]at c0;have o:=LF.cell r E E (aP r (j:=1) rfl);have bl:=iP Cr;have AY:=(λv=>LF.set (j:=j) P (.inr rfl) (CC gt (YV.head.2 gt N) (eV.lt YV.head.1 gt N)) v);have uU:(j:Int)<(O q.head:Int):=Y;have Q:=Z n;clear u P N Cr x2 x3 n hj;go_wp2;go_roundg (O q.head-(j+1))
   .exact⟨j+1,Q,rfl,eY,AY _⟩
   have:=C.o;have:=Q.o;omega
  .obtain rfl:j=O q.head:=Y;go_wp2;refine mY (results_tmp3 rfl _ _ _) rfl ?_;have hS:∀x,β<=x->¬x=1:=λx hx=>Y;exact⟨bt,d,mI,rfl,(aG9.ds LF.fK).aT1 (λk p=>by rw[aR0.o k p];decide),Lm.eb LF.fK hS,hD4.eb LF.fK E⟩
theorem aJa(β cells:Nat)(h:ED w hv av ps q)(j:Tz w)(c:(aB q).1=0)(i:1<=cells/\cells<=65536)(g:∀k,k<i7 w.heap->ρ k=0)(a:10<=β):
  uJ 6 #[.agg #[mX q.name,hv,av],mj mn (cells:Int)] w λe w'=>∃b d bV,e=mi (mr #[lr (H ⟨b,0,K⟩),lr (H ⟨d,0,K⟩),nj qT])/\bI w ρ eZ w' bV/\lR w' bV β b q cells LU 0 0/\Ff w' bV 2 d (O (aB q).2.aI):=
 (Wb β cells h j c i g a).mono λe w' ⟨b,d,bV,he,hM,hT,hD⟩=>⟨b,d,bV,he,hM,hT,hD.is⟩
theorem Wc(cells:Int)(h:ED w hv av ps q)(hw:Tz w)(he:mN q cells≠0):
  aK prog 6 #[.agg #[mX q.name,hv,av],mj mn cells] w λe w'=>e=mi (mr #[lr K,lr K,nj qT])/\U w [] w' []:=by
 obtain⟨ha,hc,rfl,-⟩:=h.head.len;obtain⟨aa,ac,rfl,-⟩:=h.aD.len;have m:=h.len;rw[m]at h|-;let⟨wa,dM⟩:=D (i5 w (kd #[mX q.name,jS ha (O q.head) hc,jS aa (O q.aD) ac] 25));let⟨bq,EK⟩:=D (i7 w.heap);have cV:=Za dM;have lC:=Ze dM EK;obtain⟨b0,b1,b2⟩:=Z3 lC;have HE:=Z he;have HBW:=Z EK;clear m he;go_in;go_upto_region 2 with(first
  |(go_at_call 11;apply(GL _ _ ps q wa (h.on cV)).cX;rintro e w1 ⟨yP,av',C,rfl,hO,cT⟩;obtain⟨da,dc,rfl,-⟩:=hO.head.len;obtain⟨ea,ec,e1,-⟩:=hO.aD.len;rw[hO.len]at e1;subst e1;have nN:=(cV.ds cT)))
 let⟨wb,qG⟩:=D (i5 w1 (kd #[mX q.name,jS da (O q.head) dc,jS ea (O q.aD) ec] 25));let⟨bi,u⟩:=D (i7 w1.heap);have oD:=Za qG;have s:=Ze qG u;rw[qG,u];obtain⟨i0,y,z⟩:=Z3 s;have EO:=(nN.ds oD);have YV:=(hO.on oD);have n:=(((cT.ds oD).aC lC J));have HN:=Z (Ul cells (YV.qin h.eD) YV.head.N4 (hw.on EO) HE.o);generalize A:mN q cells=c at HN;have g1:(c==0)=rR:=by rw[GD,<-A];exact HE.o
 have HCE:=Z A;clear oD b0 b1 b2 dM qG u A;go_upto_region 3 with(first
  |(go_at_call 10;apply HN.o.dC;intro w2 b;have b0:=b.cell (aP n (j:=0) rfl) J;have b1:=b.cell (aP n (j:=1) rfl) J;have b2:=b.cell (aP n (j:=2) rfl) J))
 have HD:=(qu (w:=w2) cells (h.on (EO.ds b)) HE.o);rw[HCE.o]at HD;go_upto_region 4 with(first
  |(go_at_call 22;apply HD.dC;intro w3 d;have V:=(b.ds d).cell i0 J;have N:=(b.ds d).cell y J;have i2':=(b.ds d).cell z J;have b0':=d.cell b0 J;have b1':=d.cell b1 J;have b2':=d.cell b2 J;clear i0 y z b0 b1 b2))
 have TL:=(Vj _ _ _ _ C ps q w3 ((YV.on (b.ds d)).qin h.eD) (h.on (EO.ds (b.ds d))));go_upto_region 5 with(first
  |(go_at_call 23;apply TL.dC;intro w4 F;have i0:=F.cell V J;have y:=F.cell N J;have z:=F.cell i2' J;clear V N i2' b0' b1' b2'))
 let⟨mI,nD⟩:=D (up w.heap.size 1 (λ_=>0));have aG9:bI w (λ_=>0) (λx=>x=1) w4 mI:=nD▸(EO.ds (b.ds (d.ds F))).fK 1 (λ_ h=>dY h J);have SV:=YV.on (b.ds (d.ds F));have W:=(b.ds (d.ds F)).aC s J;have CC:∀g,i7 wa.heap<=g->g<i7 wb.heap->mI g=1:=λg h1 _=>by rw[<-nD];exact cY (j8 cV.size h1)
 have i:=Z W;have oB:=h.eD;have KD:=oB.aD;have hh6:=oB.head;clear nD W oB i0;go_upto_region 6 with(fail);clear y z;go_loopg [48] (O q.aD) (λT s48 wr=>∃k:Nat,k<=O q.aD/\T=O q.aD-k/\s48=X k/\Mj w4 wr mI 1)
 .exact⟨0,Y,rfl,rfl,Mj.refl _ _ _⟩
 obtain⟨k,hk,CP,rfl,S⟩:=hrel;have JY:=Z CP;clear CP;by_cases aY:k<O q.aD
 .have LD:k<O C:=by rw[SV.len];exact aY
  obtain⟨ga,cap,oN,-,-,fh,-,⟨a3p,Cy⟩⟩:=eV.block SV.aD.1 (wn LD);injection oN with x1 x2 x3;subst x1;obtain⟨-,SL⟩:=SV.lD k aY;obtain⟨ta,tc,IM,-⟩:=SL.len;have a1:=S.cell Cy E E (fh k 1 LD E);rw[show xV (hJ C k sT) 1=(hJ C k sT).2 from rfl,IM]at a1;rw[IM]at SL;have z:=S.cell i.o E E (aP i.o (j:=2) rfl);let⟨tl,Cp⟩:=D ((hJ q.aD k sT).aV);have htm:O tl<=1048576:=by rw[<-Cp];exact j8 (GH aY) h.eD.aV
  rw[Cp]at SL a1;have BG:∀g,i6 (jS ta (O tl) tc)=H g->mI g=1:=λg hg=>by
   exact ZM152
  have f:=(eI Cy (fh k 1 LD E));have BH:(k:Int)<(O q.aD:Int):=Y;clear fh Cy LD x2 x3;go_upto_region 9 with(fail);clear a1 z;go_loopg [58] (O tl) (λT s58 p=>∃j:Nat,j<=O tl/\T=O tl-j/\s58=X j/\Mj w4 p mI 1)
  .exact⟨0,Y,rfl,rfl,S⟩
  obtain⟨j,hj,L,rfl,LF⟩:=hrel;have r:=Z L;clear L;by_cases a:j<O tl
  .let⟨P,aQo,mh,B,Q,Cu,⟨cst,G⟩,l⟩:=LF.has SL.1 (wn a);injection mh with x1 x2 x3;subst x1;let⟨u0,c0⟩:=l j 0 a E;let⟨u1,c1⟩:=l j 1 a E;let⟨u2,c2⟩:=l j 2 a E;let⟨u3,c3⟩:=l j 3 a E;rw[qZ]at c0;have a1:=LF.cell f.1 E E f.2;rw[show xV (hJ C k sT) 1=(hJ C k sT).2 from rfl,IM,Cp]at a1;have z:=LF.cell i.o E E (aP i.o (j:=2) rfl);have bl:=iP Q;have AY:=(LF.Nw (j:=j*4) G (.inl rfl) (BG P B));have uU:(j:Int)<(O tl:Int):=Y;have o:=Z a;clear l G B Q x2 x3 a hj;go_wp2;go_roundg (O tl-(j+1))
   .exact⟨j+1,o.o,rfl,eY,AY _ _ _ _⟩
   have:=r.o;have:=o.o;omega
  .exact ZM102
 .obtain rfl:k=O q.aD:=Y;have y:=S.cell i.o E E (aP i.o (j:=1) rfl);go_upto_region 15 with(fail);clear y;go_loopg [75] (O q.head) (λT s75 p=>∃j:Nat,j<=O q.head/\T=O q.head-j/\s75=X j/\Mj w4 p mI 1)
  .exact⟨0,Y,rfl,rfl,S⟩
  obtain⟨j,hj,L,rfl,LF⟩:=hrel;have r:=Z L;clear L;by_cases a:j<O q.head
  .let⟨P,aQo,mh,B,Q,Cu,⟨cst,G⟩,l⟩:=LF.has SV.head.1 (wn a);injection mh with x1 x2 x3;subst x1;let⟨u0,c0⟩:=l j 0 a E;rw[yC,qZ]at c0;have y:=LF.cell i.o E E (aP i.o (j:=1) rfl);have bl:=iP Q;have AY:=(λv=>LF.set (j:=j) G (.inr rfl) (CC P (YV.head.2 P B) (eV.lt YV.head.1 P B)) v);have uU:(j:Int)<(O q.head:Int):=Y;have o:=Z a;clear l G B Q x2 x3 a hj;go_wp2;go_roundg (O q.head-(j+1))
   .exact⟨j+1,o.o,rfl,eY,AY _⟩
   have:=r.o;have:=o.o;omega
  .obtain rfl:j=O q.head:=Y;go_wp2;refine mY (results_tmp3 rfl _ _ _) rfl ?_;exact⟨rfl,(aG9.ds LF.fK).uz (λk hk=>E)⟩
variable{aH ub:Nat}{XD:Nat->List Row}{W:jU}
structure X3(w:aA)(ρ:bC)(β M n:Nat)(XD:Nat->List Row)(aH:Nat):Prop where
 ex:∃m c,gM w 3 M m c/\c<=aH/\∀i,i<n->∃cG:List aE,pI GA undef 34 1 w ρ (β+200+i) ((m (.int mn (i:Int))).getD (jS K 0 0)) cG/\O cG=O (XD i)/\
  ∀j,j<O (XD i)->lW dV aR 3 w ρ (β+3) (cG.getD j undef) ((XD i).getD j [])
 cE:ρ M=β+4
theorem X3.eb{M:Nat}{S:Nat->Prop}(h:X3 w ρ β M n XD aH)(a:bI w ρ S w' bV)(u:¬S (β+4))(p:¬S (β+3))(x:∀i,i<n->¬S (β+200+i)):X3 w' bV β M n XD aH:=by
 obtain⟨m,c,d,q,l⟩:=h.ex;refine⟨⟨m,c,d.eb a (h.cE▸u),q,λi b=> ?_⟩,(a.cE _ d.lt).ds h.cE⟩;let⟨cG,v,e,g⟩:=l i b;exact⟨cG,v.eb a (x i b),e,λj r=>(g j r).eb a p⟩
def lS(b:Nat)(dQ:Nat)(u0 u1 u2 u4:aE)(add:Bool)(aQ eG M:Nat):Array aE:=
 #[lr (H ⟨b,0,K⟩),u0,u1,u2,mj mn (dQ:Int),u4,nj add,mj mn (aQ:Int),mj mn (eG:Int),.map (H M)]
structure xY(w:aA)(ρ:bC)(β b ub M:Nat)(q:bK)(add:Bool)(aQ eG:Nat):Prop where
 ex:∃u0 u1 u2 u4 ns,w.heap[ub]? =H (kd (lS b (aB q).2.dQ u0 u1 u2 u4 add aQ eG M) 145 (0,0))/\lW nS sT 7 w ρ (β+1) u2 ns/\ns.map (·.1)=(aB q).2.aI/\(∀x,x∈ns->∃a n c,x.2=jS a n c)/\
  (∃a n c,u0=jS a n c)/\(∃a n c,u1=jS a n c)/\∃a n c,u4=jS a n c
 cE:ρ ub=β+2
theorem xY.eb{M:Nat}{add:Bool}{aQ eG:Nat}{S:Nat->Prop}(h:xY w ρ β b ub M q add aQ eG)(a:bI w ρ S w' bV)(e:¬S (β+1))(g:¬S (β+2)):xY w' bV β b ub M q add aQ eG:=by
 obtain⟨u0,u1,u2,u4,ns,c,i,d⟩:=h.ex;exact⟨⟨u0,u1,u2,u4,ns,a.aC c (h.cE▸g),i.eb a e,d⟩,(a.cE _ (dG c)).ds h.cE⟩
structure f9(w:aA)(ρ:bC)(β b ub M:Nat)(q:bK)(cells st ls:Nat)(add:Bool)(W:jU)(F G:Nat):Prop where
 bd:gT w ρ β b q cells st ls W.T F G
 ub:xY w ρ β b ub M q add W.aQ (W.count (O (aB q).2.aI))
 XD:X3 w ρ β M (O (aB q).2.aI) W.aX (W.count (O (aB q).2.aI))
 ok:bo q
theorem f9.eb{M cells ls:Nat}{add:Bool}{S:Nat->Prop}(h:f9 w ρ β b ub M q cells st ls add W F G)(d:bI w ρ S w' bV)(a:∀c,c<5->¬S (β+c))(j:∀i,i<42->¬S (β+200+i))(g:∀i c,i<42->c<80->¬S (mR β i+c)):f9 w' bV β b ub M q cells st ls add W F G:=by
 have m:=h.ok.oE;exact⟨h.bd.eb d (a 0 Y) (a 1 Y) (λi c l e=>g i c Y e),h.ub.eb d (a 1 Y) (a 2 Y),h.XD.eb d (a 4 Y) (a 3 Y) (λi l=>j i Y),h.ok⟩
theorem f9.on{M cells ls:Nat}{add:Bool}(h:f9 w ρ β b ub M q cells st ls add W F G)(a:U w [] w' L'):f9 w' ρ β b ub M q cells st ls add W F G:=
 h.eb (S:=eZ) a.fL vF vF (λ_ _ _ _ h=>h)
variable{s' τ:Nat}
def DoW(β aS x:Nat):Prop:=fU (mR β aS) x\/x=β+2\/x=β+4\/x=β+200+aS
def LpW(β aS x:Nat):Prop:=x=β+2\/x=β+4\/x=β+200+aS
theorem OQ(l ts:List Row)(x:Row):cP l (ts++[x])=if x∈cP l ts then cP l ts else cP l ts++[x]:=by
 unfold cP;rw[um];rfl
theorem Nl(l ts a:List Row):cP l (ts++a)=cP (cP l ts) a:=by
 unfold cP;rw[um]
def rA(W:jU)(T:gZ)(aS:Nat)(l:List Row):jU:=⟨T,W.aQ,λi=>if i=aS then l else W.aX i⟩
theorem sJ(W:jU)(T:gZ){aS:Nat}(a:aS<n)(l:List Row):(rA W T aS l).count n+O (W.aX aS)=W.count n+O l:=W.VF T W.aQ a l
def aIC(w:aA)(ρ:bC)(β b ub M:Nat)(q:bK)(cells st ls:Nat)(add:Bool)(F G aS:Nat)(d:jU×List Row×Nat×Nat)(e:cc)(w':aA):Prop:=
 ∃bV fv tO,e=mi (mr #[fv,mj mn (d.2.2.1:Int),mj mn (d.2.2.2:Int)])/\bI w ρ (DoW β aS) w' bV/\f9 w' bV β b ub M q cells st ls add d.1 F G/\(tO=β+3\/tO=mR β aS+97)/\iY w' bV tO (β+3) fv d.2.1
theorem Re{P:AC}{add:Bool}{w:jU}{aS:Nat}{n:f7}{m:R7}(h:iX add (P.spec aS) (w.T aS) sd r= .ok (n,m)):fE P add w aS sd r=(rA w (yE w.T aS n) aS (cP (w.aX aS) m.aX),m.kC,O m.aX,0):=by
 unfold fE;rw[h];rfl
theorem zh{P:AC}{add:Bool}{w:jU}{aS:Nat}(h:iX add (P.spec aS) (w.T aS) sd r= .error e):fE P add w aS sd r=(w,[],0,e):=by
 unfold fE;rw[h]
theorem fU.BJ(h:fU τ x):τ+1<=x/\x<τ+80:=by unfold fU eX at h;omega
theorem gT.zC{cells ls:Nat}(h:gT w ρ β b q cells st ls T F G)(u:i<O (aB q).2.aI):
  ∃nb go oo co,h8 w ⟨b,9,K⟩=H (jS (H ⟨go,oo,K⟩) (O (aB q).2.aI) co)/\h8 w ⟨go,oo+i,K⟩=H (lr (H ⟨nb,0,K⟩))/\p9 w ρ (mR β i) nb (eF (aB q).2 i) (T i) F G/\
   ∀w' bV n' (_:bI w ρ (fU (mR β i)) w' bV) (_:O (aB q).2.aI<=42) (_:p9 w' bV (mR β i) nb (eF (aB q).2 i) n' F G),gT w' bV β b q cells st ls (yE T i n') F G:=by
 obtain⟨hv,av,v0,v1,v2,v4,nv,ov,ps,ns,xB,bs,l,d,p⟩:=h.ex;obtain⟨go,oo,co,m,-,r⟩:=fM.aS d.nds.1 (i:=i) (d.ndn▸u);have c0:=r 0 E;simp only[yC,qZ,Zd]at c0;rw[d.ndn]at m;refine⟨hJ bs i 0,go,oo,co,?_,c0,p i u,λw' bV n' a C z=> ?_⟩
 .have n:=l;unfold iO at n;rw[<-m];exact aP n (j:=9) rfl
 .have f:=λx (y:fU (mR β i) x)=>fU.BJ y;have B:¬fU (mR β i) (β+1):=λg=>by have:=f _ g;unfold mR at this;omega
  refine⟨⟨hv,av,v0,v1,v2,v4,nv,ov,ps,ns,xB,bs,a.aC l (by rw[h.cE];exact λg=>by have:=f _ g;unfold mR at this;omega),d.eb a B,λj A=> ?_⟩,(a.cE _ (dG l)).ds h.cE⟩;by_cases e:j=i
  .subst e;rw[n7];exact z
  .rw[sO _ _ e];exact(p j A).eb a (λc r=>aBL (λv=>e v.symm) Y)
theorem xY.cells{M:Nat}{add:Bool}{aQ eG:Nat}(h:xY w ρ β b ub M q add aQ eG):
  h8 w ⟨ub,0,K⟩=H (lr (H ⟨b,0,K⟩))/\h8 w ⟨ub,6,K⟩=H (nj add)/\h8 w ⟨ub,7,K⟩=H (mj mn (aQ:Int))/\h8 w ⟨ub,8,K⟩=H (mj mn (eG:Int))/\h8 w ⟨ub,9,K⟩=H (.map (H M))/\ub<i7 w.heap/\w.frozen? ⟨ub,7,K⟩=rR/\w.frozen? ⟨ub,8,K⟩=rR:=by
 obtain⟨u0,u1,u2,u4,ns,a,-⟩:=h.ex;unfold lS at a;have c:=aN a;exact⟨aP a (j:=0) rfl,aP a (j:=6) rfl,aP a (j:=7) rfl,aP a (j:=8) rfl,aP a (j:=9) rfl,dG a,c 7,c 8⟩
theorem xY.M0{M:Nat}{add:Bool}{aQ eG:Nat}(h:xY w ρ β b ub M q add aQ eG):xY (hY w ⟨ub,7,K⟩ (mj mn (s':Int))) ρ β b ub M q add s' eG:=by
 obtain⟨u0,u1,u2,u4,ns,e,i,g⟩:=h.ex;have c:U w [ub] (hY w (Ad ub 7) (It s')) [ub]:=qX w ub 7 _;have a:bI w ρ (·=β+2) (hY w (Ad ub 7) (It s')) ρ:=c.qO (λk d=> .inl ((show k=ub by simpa using d)▸h.cE));refine⟨⟨u0,u1,u2,u4,ns,?_,i.eb a Y,g⟩,h.cE⟩;rw[aF _ e];rfl
theorem xY.fQ{M:Nat}{add:Bool}{aQ eG:Nat}(h:xY w ρ β b ub M q add aQ eG):xY (hY w ⟨ub,8,K⟩ (mj mn (s':Int))) ρ β b ub M q add aQ s':=by
 obtain⟨u0,u1,u2,u4,ns,e,i,g⟩:=h.ex;have c:U w [ub] (hY w (Ad ub 8) (It s')) [ub]:=qX w ub 8 _;have a:bI w ρ (·=β+2) (hY w (Ad ub 8) (It s')) ρ:=c.qO (λk d=> .inl ((show k=ub by simpa using d)▸h.cE));refine⟨⟨u0,u1,u2,u4,ns,?_,i.eb a Y,g⟩,h.cE⟩;rw[aF _ e];rfl
variable{er:Nat}
section
theorem ZM71{P:Prop}(h:P:=by
  go_ret3;have hT:=HH.Nj hM tD H8;rw[Ip]at hT;exact⟨dX,cR,β+3,rfl,(hM.aL (λ_=>YO)).alloc _,hT.on ((U.refl _ []).alloc _),.inl rfl,iY.nil _ _ _ _⟩):P:=h
theorem ZM147{P:Prop}(h:P:=by
  repeat' split at h
  all_goals first|cases h;done|(injection h with h;subst h;simp)):P:=h
theorem ZJ{add:Bool}{s:lV}{n:f7}(h:iX add s n sd r= .error e):e=191\/e=192\/e=31:=by
 cases add with
 |true=>
  simp only[iX,yN]at h;unfold OF at h;exact ZM147
 |false=>
  simp only[iX,Nc,E6]at h;unfold uN at h;exact ZM147
theorem Ip(W:jU)(aS:Nat):rA W (yE W.T aS (W.T aS)) aS (W.aX aS)=W:=by
 cases W with
 |mk T s XD=>
  unfold rA yE;simp only[jU.mk.injEq,true_and];constructor
  .funext j;split
   .rename_i h;rw[h]
   .rfl
  .funext j;split
   .rename_i h;rw[h]
   .rfl
theorem RH(W:jU)(T:gZ)(aS:Nat):(rA W T aS (W.aX aS)).aX=W.aX:=by
 unfold rA;funext j;simp only;split
 .rename_i h;rw[h]
 .rfl
theorem Iq(W:jU)(T:gZ)(aS n:Nat):(rA W T aS (W.aX aS)).count n=W.count n:=by
 unfold jU.count;rw[RH]
section
variable{w w1:aA}{ρ dX:bC}{β b ub M cells st ls F G aS nb:Nat}{q:bK}{add:Bool}{W:jU}{n':f7}
theorem f9.Nj(h:f9 w ρ β b ub M q cells st ls add W F G)(a:bI w ρ (fU (mR β aS)) w1 dX)(d:p9 w1 dX (mR β aS) nb (eF (aB q).2 aS) n' F G)(e:∀w' bV n' (_:bI w ρ (fU (mR β aS)) w' bV) (_:O (aB q).2.aI<=42) (_:p9 w' bV (mR β aS) nb (eF (aB q).2 aS) n' F G),gT w' bV β b q cells st ls (yE W.T aS n') F G):
  f9 w1 dX β b ub M q cells st ls add (rA W (yE W.T aS n') aS (W.aX aS)) F G:=by
 have BJ:∀x,x<β+1000->¬fU (mR β aS) x:=λx j c=>by have:=PW c;omega
 refine⟨e _ _ _ a h.ok.oE d,?_,?_,h.ok⟩
 .rw[Iq];exact h.ub.eb a (BJ _ Y) (BJ _ Y)
 .rw[RH,Iq];have l:=h.ok.oE;exact h.XD.eb a (BJ _ Y) (BJ _ Y) (λi g=>BJ _ Y)
end
theorem YO{β aS:Nat}(h:fU (mR β aS) x):DoW β aS x:= .inl h
theorem S9{β aS:Nat}(h:x<β+1000)(b:x≠β+2)(d:x≠β+4)(c:x≠β+200+aS):¬DoW β aS x:=λa=>by
 rcases a with a|a|a|a
 .have:=PW a;omega
 .exact b a
 .exact d a
 .exact c a
theorem aLE{w:aA}{ρ:bC}{β b ub M cells st ls F G aS tr:Nat}{q:bK}{W:jU}(sd:Bool)(h:f9 w ρ β b ub M q cells st ls qT W F G)(m:aS<O (aB q).2.aI)(hv:lW dV aR 3 w ρ tr rv r)(j:¬fU (mR β aS) tr)(p:qW (eF (aB q).2 aS) sd r)(g:if qT=qT then F+1<=G else G<=F)(y:G<1073741824)(a:OF (eF (aB q).2 aS) (W.T aS) sd r= .error er):
  aK prog 64 #[lr (H ⟨ub,0,K⟩),mj mn (aS:Int),mj mn (DP sd),rv] w (aIC w ρ β b ub M q cells st ls qT F G aS (fE (aZ (aB q).2) qT W aS sd r)):=by
 have hd:fE (aZ (aB q).2) qT W aS sd r=(W,[],0,er):=zh (by show iX qT (eF (aB q).2 aS) _ _ _=_;simpa[iX]using a);have l:((er:Int)==0)=rR:=by
  have:=ZJ (add:=qT) (s:=eF (aB q).2 aS) (by simpa[iX]using a);rw[show((0:Int))=((0:Nat):Int)from rfl,dH];exact kE Y
 rw[hd];let⟨nb,gn,on,z,u,C,n,H8⟩:=h.bd.zC m;obtain⟨x,A,-,-,-,-,-⟩:=h.ub.cells;have c:=Z (aEp (t:=β+3) sd n hv j p (eP g) Y (by unfold mR;omega));rw[a]at c;obtain⟨v,rc,rfl,-⟩:=hv.1.len;have B:=enters_of func112 dJ rfl;have d:(aS:Int)<(O (aB q).2.aI:Int):=Y;have HH:=Z h;go_in;go_wp2_with (go_at_call 112;apply c.cX;rintro e w1 ⟨dX,hM,rfl,i⟩;unfold BF;have tD:=Z i);exact ZM71
theorem aHC{w:aA}{ρ:bC}{β b ub M cells st ls F G aS tr:Nat}{q:bK}{W:jU}(sd:Bool)(h:f9 w ρ β b ub M q cells st ls rR W F G)(m:aS<O (aB q).2.aI)(hv:lW dV aR 3 w ρ tr rv r)(j:¬fU (mR β aS) tr)(p:qW (eF (aB q).2 aS) sd r)(g:if rR=qT then F+1<=G else G<=F)(y:G<1073741824)(a:uN (eF (aB q).2 aS) (W.T aS) sd r= .error er):
  aK prog 64 #[lr (H ⟨ub,0,K⟩),mj mn (aS:Int),mj mn (DP sd),rv] w (aIC w ρ β b ub M q cells st ls rR F G aS (fE (aZ (aB q).2) rR W aS sd r)):=by
 have hd:fE (aZ (aB q).2) rR W aS sd r=(W,[],0,er):=zh (by show iX rR (eF (aB q).2 aS) _ _ _=_;simpa[iX]using a);have l:((er:Int)==0)=rR:=by
  have:=ZJ (add:=rR) (s:=eF (aB q).2 aS) (by simpa[iX]using a);rw[show((0:Int))=((0:Nat):Int)from rfl,dH];exact kE Y
 rw[hd];let⟨nb,gn,on,z,u,C,n,H8⟩:=h.bd.zC m;obtain⟨x,A,-,-,-,-,-⟩:=h.ub.cells;have c:=Z (ws (t:=β+3) sd n hv j p (eP g) Y (by unfold mR;omega));rw[a]at c;obtain⟨v,rc,rfl,-⟩:=hv.1.len;have B:=enters_of func111 dJ rfl;have d:(aS:Int)<(O (aB q).2.aI:Int):=Y;have HH:=Z h;go_in;go_wp2_with (go_at_call 111;apply c.cX;rintro e w1 ⟨dX,hM,rfl,i⟩;unfold BF;have tD:=Z i);exact ZM71
end
theorem X3.vR{M:Nat}(h:X3 w ρ β M n XD aH)(N:i<n)(hn:n<=1000000):
  ∃a c,∃cG:List aE,M<i7 w.heap/\pI GA undef 34 1 w ρ (β+200+i) (jS a (O (XD i)) c) cG/\O cG=O (XD i)/\(∀j,j<O (XD i)->lW dV aR 3 w ρ (β+3) (hJ cG j undef) (hJ (XD i) j []))/\
   (∀w',w'.heap[M]? =w.heap[M]?->(Instr.lookup 143 (.map (H M)) (.int mn (i:Int)) rR).run prog w'= .ok (jS a (O (XD i)) c) w')/\
   (∀w' bV (v':aE) (l:List aE) (g:List Row),bI w ρ (LpW β i) w' bV->w'.heap[M]? =w.heap[M]?->pI GA undef 34 1 w' bV (β+200+i) v' l->O l=O g->(∀j,j<O g->lW dV aR 3 w' bV (β+3) (hJ l j undef) (hJ g j []))->aH<bH->
    ∃b,(Instr.mapUpdate 143 (.map (H M)) (.int mn (i:Int)) v').run prog w'= .ok () b/\U w' [M] b [M]/\X3 b bV β M n (λj=>if j=i then g else XD j) (aH+1)):=by
 obtain⟨m,c,d,hc,z⟩:=h.ex;let⟨cG,C,A,V⟩:=z i N;obtain⟨a,cap,e,-⟩:=C.len;rw[A]at e;have S:∀w,(zeroValue 46).run prog w= .ok cR w:=λ_=>by kernel_rfl
 refine⟨a,cap,cG,d.lt,by rw[<-e];exact C,A,V,λw' T=> ?_,λw' bV v' l g q x F hl L W=> ?_⟩
 .rw[<-e];exact(d.zr T).vR nB underlying143 (S w') (Maps.keyOf_int_mk underlying3 (AF Y))
 .have r:gM w' 3 M m c:=d.zr x;let⟨b,Q,u,B⟩:=r.put nB underlying143 Y (gP:= .int mn (i:Int)) (kl:= .int mn (i:Int)) (Maps.keyOf_int_mk underlying3 (AF Y)) (by trivial) v';refine⟨b,Q,B,⟨_,_,u,?_,λj y=> ?_⟩,(q.cE _ d.lt).ds h.cE⟩
  .split<;>omega
  .have p:bI w' bV (·=β+4) b bV:=B.qO (λk v=> .inl (by rw[show k=M by simpa using v];exact(q.cE _ d.lt).ds h.cE));by_cases e2:j=i
   .subst e2;simp only[yN,Vw];exact⟨l,F.eb p Y,hl,λj y=>(L j y).eb p Y⟩
   .simp only[e2,E6,Vw];let⟨vs,P,g2,g3⟩:=z j y;have f:¬(Lit.int mn (j:Int))= .int mn (i:Int):=λs=>e2 (Oz s);rw[R f];have o:¬LpW β i (β+200+j):=by unfold LpW;omega
    have G:¬LpW β i (β+3):=by unfold LpW;omega
    exact⟨vs,(P.eb q o).eb p Y,g2,λk v=>((g3 k v).eb q G).eb p Y⟩
theorem Df{x:Row}{a:Option cg}{l:List Row}{cG:List aE}(v:w.heap[bx]? =H (kd #[xv] 34 (0,0)))(u:fM dV aR 3 w xv x)(hl:fM GA undef 1 w (jS a (O l) c) cG)(q:O cG=O l)(r:∀j,j<O l->fM dV aR 3 w (hJ cG j undef) (hJ l j [])):
  uJ 115 #[jS a (O l) c,.func (.func 113) #[] #[lr (H ⟨bx,0,K⟩)]] w λe w'=>e=mi (nj (decide (x∈l)))/\U w [] w' []:=by
 have n:∀i,i<O l->hJ (l.zip cG) i ([],undef)=(hJ l i [],hJ cG i undef):=λi b=>by
  rw[gV,kU (kG I3),O8,List.getElem_zip,gV,kU b,gV,kU Y];rfl
 have g:O (l.zip cG)=O l:=kG I3;have m:∀y,y∈l.zip cG->∃i,i<O l/\y=(hJ l i [],hJ cG i undef):=λy d=>by
  let⟨i,b,e⟩:=Na d;rw[g]at b;refine⟨i,b,?_⟩;rw[<-n i b,gV,kU Y,O8,e]
 have A:fM aKw ([],undef) 1 w (jS a (O l) c) (l.zip cG):=by
  unfold fM at hl|-;rw[g,<-q];rw[<-q]at hl;refine Rd.congr hl λi j b B=> ?_;rw[n i Y];rfl
 have z:(l.zip cG).any (λy=>decide (x=y.1))=decide (x∈l):=by
  rw[Fi,uj,QX];constructor
  .rintro⟨y,d,e⟩;obtain⟨i,b,rfl⟩:=m y d;rw[of_decide_eq_true e];exact bO b
  .intro h;let⟨i,b,e⟩:=Na h;refine⟨hJ (l.zip cG) i ([],undef),bO Y,kY ?_⟩;rw[n i b,gV,kU b,O8,e]
 have h:=po (jS a (O l) c) (l.zip cG) 113 #[Pt bx] (λy=>decide (x=y.1)) w (enters_of func113 dJ rfl) A
  (λy d=>by obtain⟨i,b,rfl⟩:=m y d;obtain⟨a',c',e,-⟩:=(r i b).len;exact⟨a',_,c',e⟩)
  (λy d C p=>by
   obtain⟨i,b,rfl⟩:=m y d;exact aJH (p.cell (aP v (j:=0) rfl) J) (u.on p) ((r i b).on p))
 rw[z]at h;exact h
theorem f9.vO{M cells ls aS:Nat}{add:Bool}{l:List Row}{x:Row}(h:f9 w ρ β b ub M q cells st ls add (rA W T aS l) F G)(d:aS<O (aB q).2.aI)(a:gT w' bV β b q cells st ls T F G)(g:xY w' bV β b ub M q add W.aQ ((rA W T aS (l++[x])).count (O (aB q).2.aI)))(c:X3 w' bV β M (O (aB q).2.aI) (λj=>if j=aS then l++[x]else(rA W T aS l).aX j) ((rA W T aS l).count (O (aB q).2.aI)+1)):f9 w' bV β b ub M q cells st ls add (rA W T aS (l++[x])) F G:=by
 refine⟨a,g,?_,h.ok⟩;have m:=sJ W T d l;have i:=sJ W T d (l++[x]);rw[E7,Ty]at i;have e:(rA W T aS (l++[x])).count (O (aB q).2.aI)=(rA W T aS l).count (O (aB q).2.aI)+1:=Y;rw[e];have e2:(λj=>if j=aS then l++[x]else(rA W T aS l).aX j)=(rA W T aS (l++[x])).aX:=by
  funext j;unfold rA;simp only;split
  .rfl
  .rfl
 rw[e2]at c;exact c
variable{mo:R7}
theorem ZM20{P:Prop}(h:P:=by
  obtain rfl:k=O mt:=by omega
  rw[List.take_length]at hl;obtain⟨m0,m1⟩:h8 wr ⟨bm,0,K⟩=H (jS fa (O fl) fc)/\h8 wr ⟨bm,1,K⟩=H (jS ta (O mt) tc):=by
   have hb:=MW.aC HBM.o.1 (by rw[HBM.o.2];exact AD (by omega) (by omega) (by omega));exact⟨aP hb (j:=0) rfl,aP hb (j:=1) rfl⟩
  have CT:=Z hTk;have R9:=Z MW;have HL:=Z hl;clear hTk MW hl;go_upto_region 16 with(fail);go_quiet (fail);go_wp2;go_ret3;obtain⟨tO,ht,hf⟩:=HFV.o;subst R3 Pv;refine⟨pC,_,tO,rfl,((HMw.o.ds (R9.o.aL (λ_=>aHZ))).drewN _),?_,ht,(hf.eb R9.o (AD (by unfold mR at ht;omega) (by unfold mR at ht;omega) (by unfold mR at ht;omega)) (AD (by omega) (by omega) (by omega))).on ((U.refl _ []).drewN _)⟩;rw[<-HL.o];exact CT.o.on ((U.refl _ []).drewN _)):P:=h
theorem ZM36{P:Prop}(h:P:=by
  have Yh:bI w2 fD (LpW β aS) IU CM:=(R9.o.ds (Qq.aL (λ_ h=> .inr h))).ds (SW.aL (λ_ h=> .inl h));have nI:=Z hTA;have aHm:=Z Yh;have hcw:IntKind.i64.wrap ((eG:Int)+1)=(eG:Int)+1:=IntWalk.i64_in _ (by omega);clear hTA Yh Dn Xs Wx SW yH aGS aFX V1 Qq Dp Qh rY Do Qr hO8 Q6 V0 e1 aH6 o9 LJ Y8 R8 R9;go_wp2;go_roundg (O mt-(k+1))
  case measure=>omega
  case rel=>exact⟨k+1,l++[x],CM,by omega,rfl,by go_num,Mq.o.symm,aHm.o,nI.o⟩):P:=h
theorem ZM47{P:Prop}(h:P:=by
  rw[decide_eq_true iD]at Sg;rw[if_pos iD]at Mq;clear iD;go_wp2_with (go_at_call 115;refine Sg.o.mono ?_;rintro e w3 ⟨rfl,cW⟩;have iF:=Z cW;clear cW);go_roundg (O mt-(k+1))
  case measure=>omega
  case rel=>exact⟨k+1,l,pC,by omega,rfl,by go_num,Mq.o.symm,(R9.o.kV EO.o).kV iF.o,KO.o.on iF.o⟩):P:=h
theorem AD{aS:Nat}(h:x≠β+2)(c:x≠β+4)(b:x≠β+200+aS):¬LpW β aS x:=λa=>a.elim h (λa=>a.elim c b)
theorem aHZ{aS:Nat}(h:LpW β aS x):DoW β aS x:= .inr h
theorem EU(l ts:List Row)(k:Nat):O (cP l (ts.take k))<=O (cP l ts):=by
 have h:=(vB (ts.drop k) (cP l (ts.take k))).1;rw[<-Nl,Co]at h;exact h
theorem ZO{α:Type}{l:List α}{d x:α}{k:Nat}(b:k<O l)(a:hJ l k d=x):l.take (k+1)=l.take k++[x]:=by
 rw[Bk,kU b];rw[gV,kU b]at a;simp only[O8]at a;rw[a];rfl
theorem aQh{M cells ls aS tr:Nat}(sd:Bool)(h:f9 w ρ β b ub M q cells st ls qT W F G)(p8:aS<O (aB q).2.aI)(hv:lW dV aR 3 w ρ tr rv r)(pY:¬fU (mR β aS) tr)(hr:qW (eF (aB q).2 aS) sd r)(qH:if qT=qT then F+1<=G else G<=F)(hG:G<1073741824)(hx:OF (eF (aB q).2 aS) (W.T aS) sd r= .ok (n',mo))(V:(rA W (yE W.T aS n') aS (cP (W.aX aS) mo.aX)).count (O (aB q).2.aI)<=1099511627776):
  aK prog 64 #[lr (H ⟨ub,0,K⟩),mj mn (aS:Int),mj mn (DP sd),rv] w (aIC w ρ β b ub M q cells st ls qT F G aS (fE (aZ (aB q).2) qT W aS sd r)):=by
 have hd:fE (aZ (aB q).2) qT W aS sd r=(rA W (yE W.T aS n') aS (cP (W.aX aS) mo.aX),mo.kC,O mo.aX,0):=Re (by show iX qT (eF (aB q).2 aS) _ _ _=_;simpa[iX]using hx);rw[hd];clear hd;obtain⟨nb,gn,on,cn,b9,n0,hN,H8⟩:=h.bd.zC p8;obtain⟨k0,k6,-,-,-,-,-⟩:=h.ub.cells;have HN:=Z (aEp (t:=β+3) sd hN hv pY hr (by simpa using qH) (by omega) (by unfold mR;omega));rw[hx]at HN;obtain⟨ra,rc,rfl,-⟩:=hv.1.len;have eg:=enters_of func112 (by kernel_rfl) rfl;have aK9:(aS:Int)<(O (aB q).2.aI:Int):=by omega
 have HB:=Z H8;have HH:=Z h;have o:=Z p8;have L:=Z V;obtain⟨g,zP⟩:=D (yE W.T aS n');rw[zP]at L|-;have tZ:=Z zP;have qj:=h.ok.oE;have HF:=Z qj;clear H8 h hN hv hx V zP p8 qj;go_enter func64,ntmps64;go_upto_region 5 with(go_at_call 112;refine HN.o.mono ?_;rintro e w1 ⟨dX,hM,mv,rfl,I0,fv,tv,t1,t2,rfl,ht1,E8,Sy,IM⟩;obtain⟨UC,c1,c2,c3⟩:=Sy;obtain⟨XA,d1,d2,d3⟩:=IM;obtain⟨fa,fc,rfl,-⟩:=c2.1.len;obtain⟨ta,tc,rfl,-⟩:=d2.1.len;rw[c1]at c2|-;rw[d1]at d2|-;have HM:=Z hM;have tD:=Z I0;clear hM I0);clear k0 k6 b9 n0 HN;obtain⟨fl,R3⟩:=D (mo.kC);obtain⟨mt,Pv⟩:=D (mo.aX);rw[R3]at c1 c2 c3|-;rw[Pv]at d1 d2 d3 L|-;have HT:=Z (HH.o.Nj HM.o tD.o HB.o);rw[tZ.o]at HT;obtain⟨w2,rM⟩:=D (i5 w1 (kd #[jS fa (O fl) fc,jS ta (O mt) tc] 228));have bM:=Za rM;have iU:=Zb rM;obtain⟨bm,LE⟩:=D (i7 w1.heap);rw[LE]at iU;have z:bI w1 dX (λ_=>False) w2 (up w1.heap.size (β+5) dX):=bM.fK (S:=λ_=>False) (β+5) (λ_ h=>absurd h (by simp));obtain⟨fD,Hl⟩:=D (up w1.heap.size (β+5) dX);have rN:fD bm=β+5:=by rw[<-Hl];exact cY (by omega)
 rw[Hl]at z;have Ih:=Z (HT.o.eb z (λ_ _ h=>h) (λ_ _ h=>h) (λ_ _ _ _ h=>h));have HMw:=Z ((HM.o.aL (T:=DoW β aS) (λ_=>YO)).ds (z.aL (λ_ h=>h.elim)));have HFV:=Z (show∃tO,(tO=β+3\/tO=mR β aS+97)/\iY w2 fD tO (β+3) (jS fa (O fl) fc) fl from⟨t1,ht1,iY.eb ⟨UC,c1,c2,c3⟩ z (λh=>h) (λh=>h)⟩);have Rz:=Z (show t2≠β+2/\t2≠β+4/\t2≠β+200+aS from by unfold mR at E8;omega);have HD2:=Z (d2.eb z (λh=>h));have HD3:=Z (λi hi=>(d3 i hi).eb z (λh=>h));have HBM:=Z (And.intro iU rN);obtain⟨m0,m1⟩:=Z2 iU;rw[rM,LE];clear z Hl rN bM rM iU c1 c2 c3 HT HM tD HB HH LE ht1 E8;go_upto_region 8 with(fail);clear m0 m1;obtain⟨-,-,-,G9⟩:=HD2.o.1.len;rw[d1]at G9;unfold bH at G9;have eg2:=enters_of func113 (by kernel_rfl) rfl;go_loopg [57] (O mt) (λgg s57 wr=>∃(k:Nat) (l:List Row) (pC:bC),k<=O mt/\gg=O mt-k/\s57=mj mn k/\l=cP (W.aX aS) (mt.take k)/\bI w2 fD (LpW β aS) wr pC/\f9 wr pC β b ub M q cells st ls qT (rA W g aS l) F G)
 case atStart=>exact⟨0,_,fD,gz _,rfl,rfl,rfl,bI.refl _ _ _,Ih.o⟩
 case round=>
  obtain⟨k,l,pC,hk,rfl,rfl,hl,MW,hTk⟩:=hrel;by_cases aY:k<O mt
  .obtain⟨gt,ot,ct,hv,-,hc⟩:=fM.aS (HD2.o.eb MW (AD Rz.o.1 Rz.o.2.1 Rz.o.2.2)).1 (i:=k) (by rw[d1];exact aY);have d:=(HD3.o k aY).eb MW (AD (by omega) (by omega) (by omega));obtain⟨xa,N,Kt,-⟩:=d.1.len;have c0:=hc 0 (by decide);simp only[z',zN,GA]at c0;obtain⟨x,A⟩:=D (hJ mt k []);rw[A]at d Kt;rw[Kt]at c0 d;injection hv with x1 x2 x3;clear x2 x3;subst x1;have et:cP (W.aX aS) (mt.take (k+1))=if x∈l then l else l++[x]:=by rw[ZO aY A,OQ,<-hl]
   have v:O l<=O (cP (W.aX aS) mt):=by rw[hl];exact EU _ _ _
   obtain⟨wb,qG⟩:=D (i5 wr (kd #[jS xa (O x) N] 34));have y:=Za qG;have VB:=Zb qG;have C:=hTk.on y;obtain⟨k0,k6,-,k8,k9,klt,-,kf8⟩:=C.ub.cells;obtain⟨la,lc,lv,u,hO,n,m,nQ,iV⟩:=hTk.XD.vR o.o (by have:=HF.o;omega);have yg:(rA W g aS l).aX aS=l:=if_pos rfl;rw[yg]at hO n m nQ;have Sg:=Z (Df VB (d.1.on y) (hO.rd.1.on y) n (λj hj=>(m j hj).1.on y));have mS:=nQ wb (y.block _ u (by simp));have x0:=Zc VB 0;have R9:=Z MW;have CT:=Z hTk;have KO:=Z C;have EO:=Z y;have Tu:=Z VB;have Sf:=Z (λw' (hu:U wr [] w' [])=>nQ w' (hu.block _ u (by simp)));have B:=Z (And.intro u nQ);have p:=Z (And.intro hO (And.intro n m));have aR4:=Z iV;have HRX:=Z (d.on y);have Mq:=Z et;have U5:=Z v;clear MW hTk hc d Kt A hl y VB C hO n m nQ iV et v u;by_cases iD:x∈l
   .exact ZM47
   .rw[decide_eq_false iD]at Sg;rw[if_neg iD]at Mq;clear iD;have c1:=sJ W g o.o l;have c2:=sJ W g o.o (cP (W.aX aS) mt);have c3:=sJ W g o.o (l++[x]);have c4:=L.o;have c5:=EU (W.aX aS) mt (k+1);have c6:=(rA W g aS l).Cd o.o;rw[show(rA W g aS l).aX aS=l from if_pos rfl]at c6;rw[Mq.o,vW,oq]at c5;rw[vW,oq]at c3;obtain⟨eG,V⟩:=D ((rA W g aS l).count (O (aB q).2.aI));have JK:eG+1<=1099511627776:=by omega
    have JI:(rA W g aS (l++[x])).count (O (aB q).2.aI)=eG+1:=by omega
    have yg:O l<=1099511627776:=by omega
    have HCX:=Z JI;have Tt:=Z V;rw[V]at k8;clear c1 c2 c3 c4 c5 c6 V JI;go_upto_region 12 with(go_at_call 115;refine Sg.o.mono ?_;rintro e w3 ⟨rfl,cW⟩;have k8:=cW.cell k8 (by simp);have k9:=cW.cell k9 (by simp);have x0:=cW.cell x0 (by simp);have mS:=Sf.o w3 (EO.o.ds cW);have iF:=Z cW;clear cW);clear c0 k0 k6 k8;refine aO 99 (λw'=>h8 w' ⟨ub,9,K⟩=H (.map (H M))/\h8 w' ⟨i7 wr.heap,0,K⟩=H (jS xa (O x) N)/\(Instr.lookup 143 (.map (H M)) (mj mn (aS:Int)) rR).run prog w'= .ok (jS la (O l) lc) w') (by kernel_rfl) ⟨k9,x0,Sf.o _ (EO.o.ds (iF.o.ds (U.refl w3 []).drew))⟩ (λQ=> ?_);clear k9 x0 mS;obtain⟨wd,fF⟩:=D (w3.drew);have pH:U w3 [] wd []:=fF▸(U.refl w3 []).drew;rw[fF]at Q|-;have o9:=Z (EO.o.ds (iF.o.ds pH));have aH6:=Z (iF.o.ds pH);clear fF pH;refine ek [0,4,6,1,2,3,5] ?_;refine Zo 7 λs hK=> ?_;go_simp;have nY:U wd [] (i5 wd (kd #[jS xa (O x) N] 34)) []:=(U.refl wd []).alloc _;obtain⟨tK,tJ,OD⟩:=Q;have Q:=And.intro (nY.cell tK (by simp)) (And.intro (nY.cell tJ (by simp)) (Sf.o _ (o9.o.ds nY)));refine Zk hK Q ?_;clear hK s;refine Zo 8 λs hK=> ?_;have qe:=p.o.1.on o9.o;obtain⟨g8,c8,P,dK,I1,-,jB,-⟩:=iT (ty:=46) (news:=[jS xa (O x) N]) (T:=34) Zj (by omega) (qe.cZ wd) (OB wd) (yo _) (gz _) (jS xa (O x) N:aE) rfl (dE rfl) (λj hj=>rfl) (by rw[p.o.2.1];omega) (by rw[p.o.2.1];unfold bH;omega);rw[p.o.2.1]at dK I1;refine dL _ _ rfl (by rfl) (by rfl) dK ?_;have Kx:ub∉(jS la (O l) lc).ownBlock.toList:=λhm=>by
     have:=p.o.1.RO ub hm;have:=KO.o.ub.cE;omega
    have hMn:M∉(jS la (O l) lc).ownBlock.toList:=λhm=>by
     have:=p.o.1.RO M hm;have:=KO.o.XD.cE;omega
    have Qc:i7 wr.heap∉(jS la (O l) lc).ownBlock.toList:=λhm=>by
     have:=p.o.1.lt wr.heap.size (by simpa using hm);omega
    have pW:P.heap[M]? =wr.heap[M]? :=(jB.block M (oj B.o.1 o9.o.size) hMn).ds (o9.o.block M B.o.1 (by simp));have Q:=And.intro (jB.cell tK Kx) (And.intro (jB.cell tJ Qc) (B.o.2 P pW));have R8:=Z qe;have Y8:=Z I1;have LJ:=Z jB;have TO:=Z pW;clear qe I1 jB pW dK Kx hMn Qc tK tJ OD nY;refine Zk hK Q ?_;clear hK s;refine I 9 ?_;refine bD (by kernel_rfl) ?_ _;clear Q;obtain⟨CM,V0⟩:=D (up wd.heap.size (β+200+aS) pC);have Qr:bI wd pC (·=β+200+aS) P (up wd.heap.size (β+200+aS) pC):=R8.o.fK (v':=jS (H ⟨g8,0,K⟩) (O l+1) c8) LJ.o rfl;have hO8:=Y8.o.ON R8.o LJ.o;rw[V0]at Qr hO8;have Do:bI wr pC (λt=>t=β+4\/t=β+200+aS) P CM:=(o9.o.fL).ds (Qr.aL (λ_ h=> .inr h));have Q6:=p.o.2.1;obtain⟨f,aUN,rY,Qh⟩:=aR4.o P CM _ (lv++([jS xa (O x) N]:List aE)) (l++[x]) (Do.aL (λ_ h=> .inr h)) TO.o hO8 (by simp[Q6]) (λj hj=>by
     rw[iZ,iZ,Q6];by_cases e:j=O l
     .rw[if_pos e,if_pos e];exact HRX.o.eb ((aH6.out.fL).ds Qr) (by omega)
     .rw[if_neg e,if_neg e];rw[vW,oq]at hj;exact(p.o.2.2 j (by omega)).eb Do (by omega)) (by rw[Tt.o];unfold bH;omega)
    rw[Tt.o]at Qh;have Dp:bI P CM (·=β+4) f CM:=rY.qO (λk hk=> .inl (by rw[show k=M by simpa using hk];exact Qh.cE));have Qq:bI wr pC (λt=>t=β+4\/t=β+200+aS) f CM:=Do.ds (Dp.aL (λ_ h=> .inl h));have aFX:=CT.o.ub.eb Do (by omega) (by omega);have V1:=CT.o.ub.eb Qq (by omega) (by omega);have aGS:=CT.o.bd.eb Qq (by omega) (by omega) (λi c _ _=>by unfold mR;have:=o.o;have:=HF.o;omega);obtain⟨-,-,-,-,r9,-,-,-⟩:=aFX.cells;obtain⟨-,-,-,q8,q9,qlt,-,qf8⟩:=V1.cells;have e1:(rA W g aS l).aQ=W.aQ:=rfl;rw[Tt.o]at q8 V1;rw[e1]at V1;obtain⟨IU,GT⟩:=D (hY f ⟨ub,8,K⟩ (mj mn ((eG:Int)+1)));have yH:U f [ub] IU [ub]:=GT▸(U.refl f [ub]).setCell (a:=⟨ub,8,K⟩) (.inl (by simp)) _;have SW:bI f CM (·=β+2) IU CM:=yH.qO (λk hk=> .inl (by rw[show k=ub by simpa using hk];exact V1.cE));have Wx:xY IU CM β b ub M q qT W.aQ (eG+1):=by rw[<-GT];exact V1.fQ (s':=eG+1)
    have Dn:=Qh.eb SW (by omega) (by omega) (λi _=>by omega);have Xs:=aGS.eb SW (by omega) (by omega) (λi c _ _=>by unfold mR;omega);have hTA:f9 IU CM β b ub M q cells st ls qT (rA W g aS (l++[x])) F G:=CT.o.vO o.o Xs (by rw[HCX.o];exact Wx) (by rw[Tt.o];exact Dn);exact ZM36
  .exact ZM20
theorem aLF{M cells ls aS tr:Nat}(sd:Bool)(h:f9 w ρ β b ub M q cells st ls rR W F G)(p8:aS<O (aB q).2.aI)(hv:lW dV aR 3 w ρ tr rv r)(pY:¬fU (mR β aS) tr)(hr:qW (eF (aB q).2 aS) sd r)(qH:if rR=qT then F+1<=G else G<=F)(hG:G<1073741824)(hx:uN (eF (aB q).2 aS) (W.T aS) sd r= .ok (n',mo))(V:(rA W (yE W.T aS n') aS (cP (W.aX aS) mo.aX)).count (O (aB q).2.aI)<=1099511627776):
  aK prog 64 #[lr (H ⟨ub,0,K⟩),mj mn (aS:Int),mj mn (DP sd),rv] w (aIC w ρ β b ub M q cells st ls rR F G aS (fE (aZ (aB q).2) rR W aS sd r)):=by
 have hd:fE (aZ (aB q).2) rR W aS sd r=(rA W (yE W.T aS n') aS (cP (W.aX aS) mo.aX),mo.kC,O mo.aX,0):=Re (by show iX rR (eF (aB q).2 aS) _ _ _=_;simpa[iX]using hx);rw[hd];clear hd;obtain⟨nb,gn,on,cn,b9,n0,hN,H8⟩:=h.bd.zC p8;obtain⟨k0,k6,-,-,-,-,-⟩:=h.ub.cells;have HN:=Z (ws (t:=β+3) sd hN hv pY hr (by simpa using qH) (by omega) (by unfold mR;omega));rw[hx]at HN;obtain⟨ra,rc,rfl,-⟩:=hv.1.len;have eg:=enters_of func111 (by kernel_rfl) rfl;have aK9:(aS:Int)<(O (aB q).2.aI:Int):=by omega
 have HB:=Z H8;have HH:=Z h;have o:=Z p8;have L:=Z V;obtain⟨g,zP⟩:=D (yE W.T aS n');rw[zP]at L|-;have tZ:=Z zP;have qj:=h.ok.oE;have HF:=Z qj;clear H8 h hN hv hx V zP p8 qj;go_enter func64,ntmps64;go_upto_region 5 with(go_at_call 111;refine HN.o.mono ?_;rintro e w1 ⟨dX,hM,mv,rfl,I0,fv,tv,t1,t2,rfl,ht1,E8,Sy,IM⟩;obtain⟨UC,c1,c2,c3⟩:=Sy;obtain⟨XA,d1,d2,d3⟩:=IM;obtain⟨fa,fc,rfl,-⟩:=c2.1.len;obtain⟨ta,tc,rfl,-⟩:=d2.1.len;rw[c1]at c2|-;rw[d1]at d2|-;have HM:=Z hM;have tD:=Z I0;clear hM I0);clear k0 k6 b9 n0 HN;obtain⟨fl,R3⟩:=D (mo.kC);obtain⟨mt,Pv⟩:=D (mo.aX);rw[R3]at c1 c2 c3|-;rw[Pv]at d1 d2 d3 L|-;have HT:=Z (HH.o.Nj HM.o tD.o HB.o);rw[tZ.o]at HT;obtain⟨w2,rM⟩:=D (i5 w1 (kd #[jS fa (O fl) fc,jS ta (O mt) tc] 228));have bM:=Za rM;have iU:=Zb rM;obtain⟨bm,LE⟩:=D (i7 w1.heap);rw[LE]at iU;have z:bI w1 dX (λ_=>False) w2 (up w1.heap.size (β+5) dX):=bM.fK (S:=λ_=>False) (β+5) (λ_ h=>absurd h (by simp));obtain⟨fD,Hl⟩:=D (up w1.heap.size (β+5) dX);have rN:fD bm=β+5:=by rw[<-Hl];exact cY (by omega)
 rw[Hl]at z;have Ih:=Z (HT.o.eb z (λ_ _ h=>h) (λ_ _ h=>h) (λ_ _ _ _ h=>h));have HMw:=Z ((HM.o.aL (T:=DoW β aS) (λ_=>YO)).ds (z.aL (λ_ h=>h.elim)));have HFV:=Z (show∃tO,(tO=β+3\/tO=mR β aS+97)/\iY w2 fD tO (β+3) (jS fa (O fl) fc) fl from⟨t1,ht1,iY.eb ⟨UC,c1,c2,c3⟩ z (λh=>h) (λh=>h)⟩);have Rz:=Z (show t2≠β+2/\t2≠β+4/\t2≠β+200+aS from by unfold mR at E8;omega);have HD2:=Z (d2.eb z (λh=>h));have HD3:=Z (λi hi=>(d3 i hi).eb z (λh=>h));have HBM:=Z (And.intro iU rN);obtain⟨m0,m1⟩:=Z2 iU;rw[rM,LE];clear z Hl rN bM rM iU c1 c2 c3 HT HM tD HB HH LE ht1 E8;go_upto_region 8 with(fail);clear m0 m1;obtain⟨-,-,-,G9⟩:=HD2.o.1.len;rw[d1]at G9;unfold bH at G9;have eg2:=enters_of func113 (by kernel_rfl) rfl;go_loopg [57] (O mt) (λgg s57 wr=>∃(k:Nat) (l:List Row) (pC:bC),k<=O mt/\gg=O mt-k/\s57=mj mn k/\l=cP (W.aX aS) (mt.take k)/\bI w2 fD (LpW β aS) wr pC/\f9 wr pC β b ub M q cells st ls rR (rA W g aS l) F G)
 case atStart=>exact⟨0,_,fD,gz _,rfl,rfl,rfl,bI.refl _ _ _,Ih.o⟩
 case round=>
  obtain⟨k,l,pC,hk,rfl,rfl,hl,MW,hTk⟩:=hrel;by_cases aY:k<O mt
  .obtain⟨gt,ot,ct,hv,-,hc⟩:=fM.aS (HD2.o.eb MW (AD Rz.o.1 Rz.o.2.1 Rz.o.2.2)).1 (i:=k) (by rw[d1];exact aY);have d:=(HD3.o k aY).eb MW (AD (by omega) (by omega) (by omega));obtain⟨xa,N,Kt,-⟩:=d.1.len;have c0:=hc 0 (by decide);simp only[z',zN,GA]at c0;obtain⟨x,A⟩:=D (hJ mt k []);rw[A]at d Kt;rw[Kt]at c0 d;injection hv with x1 x2 x3;clear x2 x3;subst x1;have et:cP (W.aX aS) (mt.take (k+1))=if x∈l then l else l++[x]:=by rw[ZO aY A,OQ,<-hl]
   have v:O l<=O (cP (W.aX aS) mt):=by rw[hl];exact EU _ _ _
   obtain⟨wb,qG⟩:=D (i5 wr (kd #[jS xa (O x) N] 34));have y:=Za qG;have VB:=Zb qG;have C:=hTk.on y;obtain⟨k0,k6,-,k8,k9,klt,-,kf8⟩:=C.ub.cells;obtain⟨la,lc,lv,u,hO,n,m,nQ,iV⟩:=hTk.XD.vR o.o (by have:=HF.o;omega);have yg:(rA W g aS l).aX aS=l:=if_pos rfl;rw[yg]at hO n m nQ;have Sg:=Z (Df VB (d.1.on y) (hO.rd.1.on y) n (λj hj=>(m j hj).1.on y));have mS:=nQ wb (y.block _ u (by simp));have x0:=Zc VB 0;have R9:=Z MW;have CT:=Z hTk;have KO:=Z C;have EO:=Z y;have Tu:=Z VB;have Sf:=Z (λw' (hu:U wr [] w' [])=>nQ w' (hu.block _ u (by simp)));have B:=Z (And.intro u nQ);have p:=Z (And.intro hO (And.intro n m));have aR4:=Z iV;have HRX:=Z (d.on y);have Mq:=Z et;have U5:=Z v;clear MW hTk hc d Kt A hl y VB C hO n m nQ iV et v u;by_cases iD:x∈l
   .exact ZM47
   .rw[decide_eq_false iD]at Sg;rw[if_neg iD]at Mq;clear iD;have c1:=sJ W g o.o l;have c2:=sJ W g o.o (cP (W.aX aS) mt);have c3:=sJ W g o.o (l++[x]);have c4:=L.o;have c5:=EU (W.aX aS) mt (k+1);have c6:=(rA W g aS l).Cd o.o;rw[show(rA W g aS l).aX aS=l from if_pos rfl]at c6;rw[Mq.o,vW,oq]at c5;rw[vW,oq]at c3;obtain⟨eG,V⟩:=D ((rA W g aS l).count (O (aB q).2.aI));have JK:eG+1<=1099511627776:=by omega
    have JI:(rA W g aS (l++[x])).count (O (aB q).2.aI)=eG+1:=by omega
    have yg:O l<=1099511627776:=by omega
    have HCX:=Z JI;have Tt:=Z V;rw[V]at k8;clear c1 c2 c3 c4 c5 c6 V JI;go_upto_region 12 with(go_at_call 115;refine Sg.o.mono ?_;rintro e w3 ⟨rfl,cW⟩;have k8:=cW.cell k8 (by simp);have k9:=cW.cell k9 (by simp);have x0:=cW.cell x0 (by simp);have mS:=Sf.o w3 (EO.o.ds cW);have iF:=Z cW;clear cW);clear c0 k0 k6 k8;refine aO 99 (λw'=>h8 w' ⟨ub,9,K⟩=H (.map (H M))/\h8 w' ⟨i7 wr.heap,0,K⟩=H (jS xa (O x) N)/\(Instr.lookup 143 (.map (H M)) (mj mn (aS:Int)) rR).run prog w'= .ok (jS la (O l) lc) w') (by kernel_rfl) ⟨k9,x0,Sf.o _ (EO.o.ds (iF.o.ds (U.refl w3 []).drew))⟩ (λQ=> ?_);clear k9 x0 mS;obtain⟨wd,fF⟩:=D (w3.drew);have pH:U w3 [] wd []:=fF▸(U.refl w3 []).drew;rw[fF]at Q|-;have o9:=Z (EO.o.ds (iF.o.ds pH));have aH6:=Z (iF.o.ds pH);clear fF pH;refine ek [0,4,6,1,2,3,5] ?_;refine Zo 7 λs hK=> ?_;go_simp;have nY:U wd [] (i5 wd (kd #[jS xa (O x) N] 34)) []:=(U.refl wd []).alloc _;obtain⟨tK,tJ,OD⟩:=Q;have Q:=And.intro (nY.cell tK (by simp)) (And.intro (nY.cell tJ (by simp)) (Sf.o _ (o9.o.ds nY)));refine Zk hK Q ?_;clear hK s;refine Zo 8 λs hK=> ?_;have qe:=p.o.1.on o9.o;obtain⟨g8,c8,P,dK,I1,-,jB,-⟩:=iT (ty:=46) (news:=[jS xa (O x) N]) (T:=34) Zj (by omega) (qe.cZ wd) (OB wd) (yo _) (gz _) (jS xa (O x) N:aE) rfl (dE rfl) (λj hj=>rfl) (by rw[p.o.2.1];omega) (by rw[p.o.2.1];unfold bH;omega);rw[p.o.2.1]at dK I1;refine dL _ _ rfl (by rfl) (by rfl) dK ?_;have Kx:ub∉(jS la (O l) lc).ownBlock.toList:=λhm=>by
     have:=p.o.1.RO ub hm;have:=KO.o.ub.cE;omega
    have hMn:M∉(jS la (O l) lc).ownBlock.toList:=λhm=>by
     have:=p.o.1.RO M hm;have:=KO.o.XD.cE;omega
    have Qc:i7 wr.heap∉(jS la (O l) lc).ownBlock.toList:=λhm=>by
     have:=p.o.1.lt wr.heap.size (by simpa using hm);omega
    have pW:P.heap[M]? =wr.heap[M]? :=(jB.block M (oj B.o.1 o9.o.size) hMn).ds (o9.o.block M B.o.1 (by simp));have Q:=And.intro (jB.cell tK Kx) (And.intro (jB.cell tJ Qc) (B.o.2 P pW));have R8:=Z qe;have Y8:=Z I1;have LJ:=Z jB;have TO:=Z pW;clear qe I1 jB pW dK Kx hMn Qc tK tJ OD nY;refine Zk hK Q ?_;clear hK s;refine I 9 ?_;refine bD (by kernel_rfl) ?_ _;clear Q;obtain⟨CM,V0⟩:=D (up wd.heap.size (β+200+aS) pC);have Qr:bI wd pC (·=β+200+aS) P (up wd.heap.size (β+200+aS) pC):=R8.o.fK (v':=jS (H ⟨g8,0,K⟩) (O l+1) c8) LJ.o rfl;have hO8:=Y8.o.ON R8.o LJ.o;rw[V0]at Qr hO8;have Do:bI wr pC (λt=>t=β+4\/t=β+200+aS) P CM:=(o9.o.fL).ds (Qr.aL (λ_ h=> .inr h));have Q6:=p.o.2.1;obtain⟨f,aUN,rY,Qh⟩:=aR4.o P CM _ (lv++([jS xa (O x) N]:List aE)) (l++[x]) (Do.aL (λ_ h=> .inr h)) TO.o hO8 (by simp[Q6]) (λj hj=>by
     rw[iZ,iZ,Q6];by_cases e:j=O l
     .rw[if_pos e,if_pos e];exact HRX.o.eb ((aH6.out.fL).ds Qr) (by omega)
     .rw[if_neg e,if_neg e];rw[vW,oq]at hj;exact(p.o.2.2 j (by omega)).eb Do (by omega)) (by rw[Tt.o];unfold bH;omega)
    rw[Tt.o]at Qh;have Dp:bI P CM (·=β+4) f CM:=rY.qO (λk hk=> .inl (by rw[show k=M by simpa using hk];exact Qh.cE));have Qq:bI wr pC (λt=>t=β+4\/t=β+200+aS) f CM:=Do.ds (Dp.aL (λ_ h=> .inl h));have aFX:=CT.o.ub.eb Do (by omega) (by omega);have V1:=CT.o.ub.eb Qq (by omega) (by omega);have aGS:=CT.o.bd.eb Qq (by omega) (by omega) (λi c _ _=>by unfold mR;have:=o.o;have:=HF.o;omega);obtain⟨-,-,-,-,r9,-,-,-⟩:=aFX.cells;obtain⟨-,-,-,q8,q9,qlt,-,qf8⟩:=V1.cells;have e1:(rA W g aS l).aQ=W.aQ:=rfl;rw[Tt.o]at q8 V1;rw[e1]at V1;obtain⟨IU,GT⟩:=D (hY f ⟨ub,8,K⟩ (mj mn ((eG:Int)+1)));have yH:U f [ub] IU [ub]:=GT▸(U.refl f [ub]).setCell (a:=⟨ub,8,K⟩) (.inl (by simp)) _;have SW:bI f CM (·=β+2) IU CM:=yH.qO (λk hk=> .inl (by rw[show k=ub by simpa using hk];exact V1.cE));have Wx:xY IU CM β b ub M q rR W.aQ (eG+1):=by rw[<-GT];exact V1.fQ (s':=eG+1)
    have Dn:=Qh.eb SW (by omega) (by omega) (λi _=>by omega);have Xs:=aGS.eb SW (by omega) (by omega) (λi c _ _=>by unfold mR;omega);have hTA:f9 IU CM β b ub M q cells st ls rR (rA W g aS (l++[x])) F G:=CT.o.vO o.o Xs (by rw[HCX.o];exact Wx) (by rw[Tt.o];exact Dn);exact ZM36
  .exact ZM20
theorem qv{M cells ls aS tr:Nat}{add:Bool}(sd:Bool)(h:f9 w ρ β b ub M q cells st ls add W F G)(c:aS<O (aB q).2.aI)(hv:lW dV aR 3 w ρ tr rv r)(j:¬fU (mR β aS) tr)(g:qW (eF (aB q).2 aS) sd r)(e:if add=qT then F+1<=G else G<=F)(i:G<1073741824)(d:(fE (aZ (aB q).2) add W aS sd r).1.count (O (aB q).2.aI)<=1099511627776):
  uJ 64 #[lr (H ⟨ub,0,K⟩),mj mn (aS:Int),mj mn (DP sd),rv] w (aIC w ρ β b ub M q cells st ls add F G aS (fE (aZ (aB q).2) add W aS sd r)):=by
 cases add with
 |true=>
  cases a:OF (eF (aB q).2 aS) (W.T aS) sd r with
  |error er=>exact aLE sd h c hv j g e i a
  |ok p=>
   obtain⟨n',m⟩:=p;rw[Re (P:=aZ (aB q).2) (add:=qT) (by show iX qT (eF (aB q).2 aS) _ _ _=_;simpa[iX]using a)]at d;exact aQh sd h c hv j g e i a d
 |false=>
  cases a:uN (eF (aB q).2 aS) (W.T aS) sd r with
  |error er=>exact aHC sd h c hv j g e i a
  |ok p=>
   obtain⟨n',m⟩:=p;rw[Re (P:=aZ (aB q).2) (add:=rR) (by show iX rR (eF (aB q).2 aS) _ _ _=_;simpa[iX]using a)]at d;exact aLF sd h c hv j g e i a d
variable{fl:List Row}
theorem aAT{add:Bool}{s:lV}{n:f7}{m:R7}(d:QN s)(u:qW s sd r)(A:s.aG=3->∀x∈n.fJ,dU x/\O x=s.kJ)(h:iX add s n sd r= .ok (n',m)):∀x∈m.kC,dU x/\O x=s.bT:=by
 obtain⟨l,q,z⟩:=u;have w:=d.aG;have y:s.aG≠2->s.bT=s.kJ:=λe=>by unfold lV.bT;rw[R e]
 have i:s.aG=2->s.bT=O s.eb:=λe=>by unfold lV.bT;rw[bW e]
 have v:s.aG=2->sd=rR->dU (dF r s.eb)/\O (dF r s.eb)=s.bT:=λe a=>by
  have g:=d.eb;rw[bW e]at g;subst a;have b:=q;refine⟨l.dF (kX d.kJ) (λc p=>by rw[b];exact g.1.2 c p),?_⟩;rw[sV,i e]
 have j:s.aG≠2->sd=rR->dU r/\O r=s.bT:=λe a=>by
  grind
 grind [iX,OF,uN]
def G5(p:vZ)(aS:Nat)(fl:List Row):Prop:=∀x∈fl,dU x/\O x=(eF p aS).bT
theorem G5.aOW(e:gU V m p){aS up:Nat}(b:(aZ p).dI aS=H up)(h:G5 p aS fl){x:Row}(c:x∈fl):qW (eF p up) ((aZ p).dN aS) x:=by
 let⟨a,d⟩:=h x c;let⟨w1,w2⟩:=e.aDs b;exact⟨a,d▸w1,w2⟩
theorem p9.Nr{s:lV}{n:f7}(h:p9 w ρ τ b s n F G)(e:s.aG=3):∀x∈n.fJ,dU x/\O x=s.kJ:=by
 obtain⟨lb,rb,iv,-,-,a⟩:=h;rcases a with⟨g,-⟩|⟨d,-⟩|⟨-,kb,sb,db,-,c⟩
 .omega
 .omega
 .exact c.fJ.good
theorem Ec(i:gU V m p)(b:V<=30){add:Bool}{aS:Nat}(a:aS<O p.aI)(g:qW (eF p aS) sd r)(d:(eF p aS).aG=3->∀x∈(W.T aS).fJ,dU x/\O x=(eF p aS).kJ):G5 p aS (fE (aZ p) add W aS sd r).2.1:=by
 unfold fE;cases h:iX add ((aZ p).spec aS) (W.T aS) sd r with
 |error e=>intro x c;cases c
 |ok q=>obtain⟨n',m⟩:=q;exact aAT (i.aEQ b a) g d h
theorem aCB{P:AC}{add:Bool}{aS:Nat}{l:List Row}{next:List Row}{bEs:jU×List Row}(h:gI P add aS sd (r::l) W next=bEs)(d:aS<n):
  gI P add aS sd l {(fE P add W aS sd r).1 with aQ:=W.aQ+1+if sd then(fE P add W aS sd r).2.2.1 else 0} (next++(fE P add W aS sd r).2.1)=bEs/\
  (fE P add W aS sd r).1.count n<=bEs.1.count n/\W.aQ+1+(if sd then(fE P add W aS sd r).2.2.1 else 0)<=bEs.1.aQ/\O (next++(fE P add W aS sd r).2.1)<=O bEs.2/\(fE P add W aS sd r).1.aQ=W.aQ:=by
 have b:=IA (P:=P) (add:=add) W aS sd r;rw[gI]at h;simp only at h;rw[b]at h;obtain⟨c,b2,e,a,-,-,-⟩:=AQ (P:=P) (add:=add) d sd l {(fE P add W aS sd r).1 with aQ:=W.aQ+1+if sd then(fE P add W aS sd r).2.2.1 else 0} (next++(fE P add W aS sd r).2.1);rw[h]at c b2 a;exact⟨h,a,c,b2,b⟩
theorem a09{up:Nat}(h:(aZ p).dI i=H up):i<O p.aI/\(eA p.aI i).bS=(up:Int):=by
 grind [aZ]
theorem a08(a:i<O p.aI)(h:(aZ p).dI i=K):(eA p.aI i).bS<0:=by
 grind [aZ]
variable{tO2:Nat}
theorem ZM84{P:Prop}(h:P:=by
  rw[E7]at hi;rw[AS,AS,h1];split
  .rename_i aY;exact(h3 i aY).eb hM (λe=>Pp e.symm)
  .exact(k3 _ Y).eb hM (λe=>Pp e.symm)):P:=h
def FlT(β t:Nat):Prop:=t=β+3\/(β+100<=t/\t<β+200)\/∃j,j<42/\t=mR β j+97
theorem FlT.aTc{t aS:Nat}(h:FlT β t)(ha:aS<42):¬DoW β aS t:=by
 intro hd;rcases h with rfl|⟨c,b⟩|⟨j,a,rfl⟩
 .exact S9 Y Y Y Y hd
 .exact S9 Y Y Y Y hd
 .rcases hd with hd|hd|hd|hd
  .have:=hd.BJ;unfold mR at this;omega
  .unfold mR at hd;omega
  .unfold mR at hd;omega
  .unfold mR at hd;omega
def BB(β x:Nat):Prop:=(β+1000<=x/\x<β+10000)\/x=β+2\/x=β+4\/(β+100<=x/\x<β+300)
theorem DoW.cl{aS:Nat}(ha:aS<42)(h:DoW β aS x):BB β x:=by
 rcases h with h|h|h|h
 .have:=h.BJ;unfold mR at this;unfold BB;omega
 .unfold BB;omega
 .unfold BB;omega
 .unfold BB;omega
theorem iY.len{t:Nat}(h:iY w ρ tO t v aT):∃a cap,v=jS a (O aT) cap/\O aT<=bH:=ZM120
theorem iY.aS{t:Nat}(h:iY w ρ tO t v aT){k:Nat}(hk:k<O aT):
  ∃g o cap ra rc,v=jS (H ⟨g,o,K⟩) (O aT) cap/\h8 w ⟨g,o+k,K⟩=H (jS ra (O (hJ aT k [])) rc)/\lW dV aR 3 w ρ t (jS ra (O (hJ aT k [])) rc) (hJ aT k []):=by
 obtain⟨cG,h1,a,h3⟩:=h;obtain⟨g,o,cap,e,-,hc⟩:=fM.aS a.1 (i:=k) Y;exact ZM73
theorem Vc{t:Nat}{l m:List Row}(hl:QO w ρ tO t v l)(B:iY w ρ tO2 t u m)(G:O l+O m<=1099511627776)(Pp:tO≠t):
  ∀{ops:Array Oper} {rest:List Oper} {o:Oper} {a:Act} {bEr:Exit->Act->aA->Prop} (_:o.guard=K) (s y:Operand) (_:o.op= .call {callee:= .builtin .append,args:=#[s,y],argTypes:=#[46,46]}) (_:a.eval s=v) (_:a.eval y=u)
   (_:∀g cap w' bV,bI w ρ (·=tO) w' bV->QO w' bV tO t (jS g (O l+O m) cap) (l++m)->wpList prog ops bEr rest (a.put o.dst (jS g (O l+O m) cap)) w'),wpList prog ops bEr (o::rest) a w:=by
 intro ops rest o a bEr A s y z hs p hK;obtain⟨r,h1,d,h3⟩:=hl;obtain⟨C,b,k2,k3⟩:=B;refine jP Zj Y A s y z (d.cZ w) (OB w) (fV _) (O9 _) k2.1 (λx q j f=> ?_) hs p (by rw[h1,b];omega) (by rw[h1,b];unfold bH;omega) ?_
 .let⟨i,hi,e⟩:=Na q;have h:=k3 i Y;obtain⟨a',c',e2,-⟩:=h.len;rw[gV,kU hi,O8,e]at e2;rw[e2];rfl
 .intro g cap w' n F c;rw[h1,b]at n c|-;have hM:bI w ρ (·=tO) w' (up w tO ρ):=d.fK c rfl;refine hK g cap w' _ hM ⟨r++C,by simp[h1,b],n.ON d c,λi hi=> ?_⟩;exact ZM84
variable{fv:aE}
theorem ZM118{P:Prop}(h:P:=by
  go_wp2;refine mY (v:=mr #[]) (by simp[results,go_sem]) rfl ?_;exact⟨dX,rfl,CU,HE.o▸tZ.o⟩):P:=h
theorem f9.M0{M cells ls:Nat}{add:Bool}(h:f9 w ρ β b ub M q cells st ls add W F G)(s':Nat):f9 (hY w ⟨ub,7,K⟩ (mj mn (s':Int))) ρ β b ub M q cells st ls add {W with aQ:=s'} F G:=by
 have e:U w [ub] (hY w (Ad ub 7) (It s')) [ub]:=(U.refl w [ub]).setCell (.inl J) _;have a:bI w ρ (·=β+2) (hY w (Ad ub 7) (It s')) ρ:=e.qO (λk d=> .inl ((show k=ub by simpa using d)▸h.ub.cE));exact⟨h.bd.eb a Y Y (λi c _ _=>by unfold mR;omega),h.ub.M0,h.XD.eb a Y Y (λi _=>Y),h.ok⟩
theorem xY.Bh{M:Nat}{add:Bool}{aQ eG:Nat}(h:xY w ρ β b ub M q add aQ eG)(s':Nat):bI w ρ (·=β+2) (hY w ⟨ub,7,K⟩ (mj mn (s':Int))) ρ:=
 (qX w ub 7 _).qO (L':=[ub]) (λk a=> .inl ((show k=ub by simpa using a)▸h.cE))
theorem xY.node{M:Nat}{add:Bool}{aQ eG:Nat}(h:xY w ρ β b ub M q add aQ eG)(x:i<O (aB q).2.aI):
  ∃g o cap va a vc,h8 w ⟨ub,3,K⟩=H (jS (H ⟨g,o,K⟩) (O (aB q).2.aI) cap)/\g<i7 w.heap/\h8 w ⟨g,o+i*7,K⟩=H (mj mn ((eA (aB q).2.aI i).aG:Int))/\h8 w ⟨g,o+i*7+1,K⟩=H (mj mn ((eA (aB q).2.aI i).qV:Int))/\
   h8 w ⟨g,o+i*7+2,K⟩=H (jS va a vc)/\h8 w ⟨g,o+i*7+3,K⟩=H (mj mn ((eA (aB q).2.aI i).cM:Int))/\h8 w ⟨g,o+i*7+4,K⟩=H (mj mn ((eA (aB q).2.aI i).bP:Int))/\
   h8 w ⟨g,o+i*7+5,K⟩=H (mj mn (eA (aB q).2.aI i).bS)/\h8 w ⟨g,o+i*7+6,K⟩=H (nj (eA (aB q).2.aI i).mL):=by
 obtain⟨u0,u1,u2,u4,ns,j,v,p,hv,-⟩:=h.ex;have hl:O ns=O (aB q).2.aI:=by rw[<-p,r8]
 let⟨g,o,cap,l,u,c0,c1,c2,c3,n,m,c⟩:=fM.at7 v.1 (i:=i) Y;have r:(hJ ns i sT).1=eA (aB q).2.aI i:=by
  rw[<-p];unfold eA;rw[gV,gV,So,kU Y];rfl
 let⟨va,a,vc,e⟩:=hv _ (bO (d:=sT) (show i<O ns by omega));rw[r]at c0 c1 c3 n m c;rw[e]at c2;unfold lS at j;rw[hl]at l;exact⟨g,o,cap,va,a,vc,l▸aP j rfl,u,c0,c1,c2,c3,n,m,c⟩
def InW(β up x:Nat):Prop:=DoW β up x\/x=β+100+up
theorem InW.cl{up:Nat}(a:up<42)(h:InW β up x):BB β x:=h.elim (DoW.cl a) (λe=>by unfold BB;omega)
theorem FlT.Bc{t aS up:Nat}(h:FlT β t)(b:∀up,aS<up->up<42->t≠β+100+up)(ha:aS<up)(a:up<42):¬InW β up t:=λc=>c.elim (h.aTc a) (b up ha a)
theorem aOb{up:Nat}:¬InW β up (β+3):=λh=>h.elim (S9 Y Y Y Y) Y
def aLw(w:aA)(ρ:bC)(β b ub M:Nat)(q:bK)(cells st ls:Nat)(add:Bool)(F G:Nat)(bEs:jU)(e:cc)(w':aA):Prop:=
 ∃bV,e=mi (mr #[])/\bI w ρ (BB β) w' bV/\f9 w' bV β b ub M q cells st ls add bEs F G
theorem aAk{P:AC}{add:Bool}{f aS:Nat}(h:P.dI aS=K):eT P add f aS fl W=W:=by
 cases f with
 |zero=>rfl
 |succ f=>unfold eT;rw[h]
theorem aAj{P:AC}{add:Bool}{f aS up:Nat}(h:P.dI aS=H up)(a:fl≠[]):eT P add (f+1) aS fl W=eT P add f up (gI P add up (P.dN aS) fl W []).2 (gI P add up (P.dN aS) fl W []).1:=by
 rw[eT,h];simp only;rw[R a]
theorem Lv{M cells ls aS:Nat}{add:Bool}(h:f9 w ρ β b ub M q cells st ls add W F G)(p8:aS<O (aB q).2.aI)(R3:iY w ρ tO (β+3) fv fl)(htO:FlT β tO)(htU:∀up,aS<up->up<42->tO≠β+100+up)(DJ:G5 (aB q).2 aS fl)(qH:if add=qT then F+1<=G else G<=F)(hG:G<1073741824)(hs:(eT (aZ (aB q).2) add (O (aB q).2.aI) aS fl W).aQ<=549755813888)(hc:(eT (aZ (aB q).2) add (O (aB q).2.aI) aS fl W).count (O (aB q).2.aI)<=1099511627776):
  aK prog 65 #[lr (H ⟨ub,0,K⟩),mj mn (aS:Int),fv] w (aLw w ρ β b ub M q cells st ls add F G (eT (aZ (aB q).2) add (O (aB q).2.aI) aS fl W)):=by
 generalize hR:eT (aZ (aB q).2) add (O (aB q).2.aI) aS fl W=bEs at hs hc|-;let⟨N,hN⟩:=D (O (aB q).2.aI);have bB1:N<=42:=by rw[<-hN];exact h.ok.oE
 obtain⟨g,o,cap,va,vn,vc,k3,hg,-,-,-,-,-,k5,-⟩:=h.ub.node p8;rw[hN]at k3 hR p8 hc;obtain⟨fa,fc,rfl,hfm⟩:=R3.len;have aK9:(aS:Int)<(N:Int):=Y;have HH:=Z h;have Rz:=(eI htO htU);have y:=Z hN;have U6:=(eI qH hG);have HS:=Z (eI hs hc);have B:=Z h.ok.wf;have HWD:=Z h.ok.wide;clear h htO htU hN qH hG hs hc;go_in;go_upto_region 1 with(fail);clear k3 k5;go_loopg [1,2,6] N (λgg s1 s2 s6 wr=>∃(f0 FC:Nat) (l:List Row) (W1:jU) (dX:bC) (t1:Nat) (fa1:Option cg) (fc1:Nat),gg=f0/\s1= It FC/\s2=jS fa1 (O l) fc1/\s6=X (eA (aB q).2.aI FC).bS/\FC<N/\N<=FC+f0/\
  eT (aZ (aB q).2) add f0 FC l W1=bEs/\G5 (aB q).2 FC l/\FlT β t1/\(∀up,FC<up->up<42->t1≠β+100+up)/\iY wr dX t1 (β+3) (jS fa1 (O l) fc1) l/\bI w ρ (BB β) wr dX/\f9 wr dX β b ub M q cells st ls add W1 F G)
 .exact⟨N,aS,fl,W,ρ,tO,fa,fc,rfl,rfl,rfl,rfl,Y,Y,hR,DJ,Rz.1,Rz.2,R3,bI.refl _ _ _,HH⟩
 obtain⟨f0,FC,l,W1,dX,t1,fa1,fc1,hgf,rfl,rfl,rfl,s,hgg,p,a2C,k,C,Q,pJ,V⟩:=hrel;cases hp:(aZ (aB q).2).dI FC with
 |none=>
  have aFl:=a08 (by rw[y.o];exact s) hp;rw[aAk hp]at p;generalize hpz:(eA (aB q).2.aI FC).bS=pz at aFl|-;have a6x:decide (0<=pz)=rR:=kE Y;have CU:=Z pJ;have tZ:=Z V;have HE:=Z p;clear p Q pJ V hpz k C;exact ZM118
 |some up=>
  obtain⟨-,Xf⟩:=a09 hp;let⟨hu1,XK⟩:=B.l9.up _ _ hp;have XK:up<N:=by rw[<-y.o];exact XK
  rw[Xf];by_cases hz:l=[]
  .subst hz;rw[RU]at p;have CU:=Z pJ;have tZ:=Z V;have HE:=Z p;clear p Q pJ V Xf k C;exact ZM118
  .obtain⟨f,rfl⟩:∃f,f0=f+1:=⟨f0-1,Y⟩;rw[aAj hp hz]at p;let⟨sd,hsd⟩:=D ((aZ (aB q).2).dN FC);have L:=gU.RS Xf;rw[hsd]at L p;generalize EM:gI (aZ (aB q).2) add up sd l W1 []=GF at p;have hfn:=List.length_pos_iff.2 hz;have bAz:(0:Int)<(O l:Int):=Y;let⟨g,o,cap,va,vn,vc,k3,hg,c0,c1,c2,c3,c4,c5,c6⟩:=V.ub.node (i:=up) (by rw[y.o];exact XK);obtain⟨g',o',cap',-,-,-,k3',-,-,-,-,-,-,q5,-⟩:=V.ub.node (i:=FC) (by rw[y.o];exact s);rw[y.o]at k3;have bAL:(up:Int)<(N:Int):=Y;have bAK:(0:Int)<=(up:Int):=Y;generalize hpn:eA (aB q).2.aI up=pn at c0 c1 c3 c4 c5 c6 L;let⟨wb,qG⟩:=D (i5 wr (kd #[X (pn.aG:Int),X (pn.qV:Int),jS va vn vc,X (pn.cM:Int),X (pn.bP:Int),X pn.bS,nj pn.mL] 79));have oD:=Za qG;have VB:=Zb qG;have e0:=Zc VB 0;have e4:=Zc VB 4;have CU:=Z (pJ.kV oD);have tZ:=Z (V.on oD);have aXz:=(Q.eb (S:=eZ) oD.fL id id);have HR1:=Z p;have HU:=(eI hu1 XK);have HFT:=(eI k C);have FH:=(eI s hgg);clear p Q pJ V Xf oD VB hz hu1 XK k C k3' q5 s hgg hpn;go_upto_region 5 with(fail);try rw[qG]
   clear k3 c0 c1 c2 c3 c4 c5 c6 hg;go_cut [56]from 24 to 98 (λs56 wx=>s56=nj sd/\wx=wb)
   case first=>
    by_cases A9:pn.aG=3
    .have f1:((pn.aG:Int)==3)=qT:=by rw[show((3:Int))=((3:Nat):Int)from rfl,dH];exact kY A9
     by_cases V5:pn.bP=FC
     .have f2:((pn.bP:Int)==(FC:Int))=qT:=by rw[dH];exact kY V5
      have HX:=(show sd=qT by rw[L];simp[A9,V5]);clear A9 V5 L;go_wp2;go_meet;exact⟨by rw[HX],rfl⟩
     .have f2:((pn.bP:Int)==(FC:Int))=rR:=by rw[dH];exact kE V5
      have HX:=(show sd=rR by rw[L];simp[V5]);clear A9 V5 L;go_wp2;go_meet;exact⟨by rw[HX],rfl⟩
    .have f1:((pn.aG:Int)==3)=rR:=by rw[show((3:Int))=((3:Nat):Int)from rfl,dH];exact kE A9
     have HX:=(show sd=rR by rw[L];simp[A9]);clear A9 L;go_wp2;go_meet;exact⟨by rw[HX],rfl⟩
   case rest=>
    obtain⟨rfl,rfl⟩:=hcut;clear e0 e4 L;go_upto_if 56 with(fail);go_cut [7]from 24 to 98 (λs7 wx=>s7=X (DP sd)/\wx=wc)
    case first=>
     cases sd with
     |true=>go_wp2;go_meet;exact⟨rfl,rfl⟩
     |false=>go_wp2;go_meet;exact⟨rfl,rfl⟩
    case rest=>
     obtain⟨rfl,rfl⟩:=hcut;have hb:=AQ (P:=aZ (aB q).2) (add:=add) HU.2 sd l W1 [];rw[EM]at hb;have hrb:=qC (add:=add) (n:=N) (λu v Q1=>by rw[<-y.o];exact(B.l9.up u v Q1).2) f up GF.2 GF.1;rw[HR1.o]at hrb;have lX:=(show GF.1.aQ<=549755813888/\GF.1.count N<=1099511627776/\O GF.2<=549755813888 by
      obtain⟨s1,s2⟩:=HS.o;have b3:=hb.2.2.1;simp only[x']at b3;omega)
     clear hb hrb;obtain⟨-,-,-,a2J⟩:=aXz.len;unfold bH at a2J;go_upto_region 9 with(fail);go_loopg [9,59] (O l) (λgg s9 s59 wi=>∃(j:Nat) (a:jU) (t:List Row) (m:bC),j<=O l/\gg=O l-j/\s59=X j/\gI (aZ (aB q).2) add up sd (l.drop j) a t=GF/\QO wi m (β+100+up) (β+3) s9 t/\bI wc dX (InW β up) wi m/\
      f9 wi m β b ub M q cells st ls add a F G/\G5 (aB q).2 up t)
     .exact⟨0,W1,[],dX,Y,rfl,rfl,EM,QO.nil _ _ _ _,bI.refl _ _ _,tZ,by intro x hx;cases hx⟩
     obtain⟨j,a,t,m,hj,Hv,rfl,JH,Lc,hMj,A,hgn⟩:=hrel;obtain⟨na,nc,rfl,-⟩:=Lc.len;by_cases aY:j<O l
     .have T:up<42:=Y;let⟨gf,of,cf,ra,rc,hv,c0,zJ⟩:=(aXz.eb hMj (HFT.1.Bc HFT.2 HU.1 T) aOb).aS aY;obtain rfl:=IK hv;have jW:=bO (d:=[]) aY;generalize hr:hJ l j []=r at c0 zJ jW;have Xq:l.drop j=r::l.drop (j+1):=by
       rw[Ge aY];rw[gV,kU aY]at hr;simp only[O8]at hr;rw[hr]
      rw[Xq]at JH;let⟨g1,g2,g3,g4,g5⟩:=aCB (n:=N) JH HU.2;have hrf:qW (eF (aB q).2 up) sd r:=by have h':=a2C.aOW B hp jW;rw[hsd]at h';exact h'
      have z:up<O (aB q).2.aI:=by rw[y.o];exact HU.2
      have hdg:G5 (aB q).2 up (fE (aZ (aB q).2) add a up sd r).2.1:=Ec B HWD z hrf (λhk=>by
       obtain⟨nb,-,-,-,-,-,hN,-⟩:=A.bd.zC z;exact hN.Nr hk)
      have Qc:=lX;have hdo:=qv sd A z zJ (λh'=>by have:=PW h';omega) hrf U6.1 U6.2 (kG y.o);generalize hd:fE (aZ (aB q).2) add a up sd r=d at g1 g2 g3 g4 g5 hdg hdo;have hlen:O t+O d.2.1<=549755813888:=by rw[E7]at g4;omega
      have rX:a.aQ+1+(if sd=qT then d.2.2.1 else 0)<=549755813888:=Y;have aRp:=Z g1;have HGJ:=Z Hv;clear JH Xq hr jW zJ g1 g2 g3 g4 hrf Qc hd z Hv;go_upto_region 13 with(first
       |(go_at_call 64;apply hdo.cX;rintro e w2 ⟨fD,mv,tM,rfl,EC,hT2,htM,xz⟩;obtain⟨ma,mc,rfl,-⟩:=xz.len;have aR6:=(Lc.eb EC (S9 (kX T) Y Y (kX T)) (S9 Y Y Y Y));clear htM)
       |(at_builtin;refine Vc aR6 xz (kX hlen) Y rfl _ _ rfl Yr Yr ?_;intro ga gc w3 mI xT rZ))
      have QC:=hT2.eb xT (λc hc=>Y) (λi hi=>Y) (λi c hi hc=>by have:=T;unfold mR;omega);obtain⟨-,-,k7,-,-,klt,kf7,-⟩:=QC.ub.cells;rw[g5]at k7;have aUB:a.aQ+1<=549755813888:=kX rX;have hcw:IntKind.i64.wrap ((a.aQ:Int)+1)=(a.aQ:Int)+1:=QY _ Y;let⟨w4,uC⟩:=D (hY w3 (Ad ub 7) (X ((a.aQ:Int)+1)));have Lm:f9 w4 mI β b ub M q cells st ls add {d.1 with aQ:=a.aQ+1} F G:=by rw[<-uC];exact QC.M0 (a.aQ+1)
      have xD:bI w3 mI (·=β+2) w4 mI:=by rw[<-uC];exact QC.ub.Bh (a.aQ+1)
      have uH:=((hMj.ds (EC.aL (λ_ h=> .inl h))).ds (xT.aL (λ_ h=> .inr h))).ds (xD.aL (λ_ h=> .inl (.inr (.inl h))));have Fu:=rZ.eb xD Y Y;have hgx:G5 (aB q).2 up (t++d.2.1):=λx hx=>(yU.1 hx).elim (hgn x) (hdg x);have Y4:=Z Fu;cases sd with
      |false=>
       clear QC xD Fu aR6 c0;go_wp2;go_roundg (O l-(j+1))
       .exact⟨j+1,_,t++d.2.1,mI,Y,rfl,eY,aRp.out,Y4,uH,Lm,hgx⟩
       have:=HGJ.o;omega
      |true=>
       have FA:=Lm.M0 (a.aQ+1+d.2.2.1);have sA:=Lm.ub.Bh (a.aQ+1+d.2.2.1);have bAQ:a.aQ+1+d.2.2.1<=549755813888:=by have:=rX;simpa using this
       have a2R:IntKind.i64.wrap ((a.aQ:Int)+1+(d.2.2.1:Int))=(a.aQ:Int)+1+(d.2.2.1:Int):=QY _ Y;obtain⟨-,-,m7,-,-,mlt,mf7,-⟩:=Lm.ub.cells;let⟨w5,oY⟩:=D (hY w4 (Ad ub 7) (X ((a.aQ:Int)+1+(d.2.2.1:Int))));have a2j:f9 w5 mI β b ub M q cells st ls add {d.1 with aQ:=a.aQ+1+d.2.2.1} F G:=by rw[<-oY];exact FA
       have aQP:bI w4 mI (·=β+2) w5 mI:=by rw[<-oY];exact sA
       have a4y:=(uH.ds (aQP.aL (λ_ h=> .inl (.inr (.inl h)))));have Sd:=Z (Y4.eb aQP Y Y);have aNm:=Z aRp.out;simp only[yN]at aNm;clear QC xD Fu aR6 c0 FA sA aQP aRp;go_wp2;go_roundg (O l-(j+1))
       .exact⟨j+1,_,t++d.2.1,mI,Y,rfl,eY,aNm.out,Sd,a4y,a2j,hgx⟩
       have:=HGJ.o;omega
     .obtain rfl:j=O l:=Y;rw[List.drop_length]at JH;unfold gI at JH;subst JH;clear Hv hj;obtain⟨g2,o2,gW,-,-,-,k3,F7,-,-,-,-,-,k5,-⟩:=A.ub.node (i:=up) (by rw[y.o];exact HU.2);rw[y.o]at k3;go_wp2;go_roundg f
      .exact⟨f,up,t,a,m,β+100+up,na,nc,rfl,rfl,rfl,rfl,HU.2,pN HU.1 FH.2,HR1,hgn,.inr (.inl Y),λu hu _=>Y,Lc.rws,CU.ds (hMj.aL (λ_=>InW.cl Y)),A⟩
      have:=hgf;omega
variable{co go nb oo:Nat}
section
theorem aAa(T:gZ)(i:Nat):yE T i (T i)=T:=by
 funext j;unfold yE;split
 .rename_i h;rw[h]
 .rfl
theorem p9.yZ{w:aA}{ρ:bC}{b F G:Nat}{s:lV}{n:f7}(h:p9 w ρ τ b s n F G):lI s n<=65536:=by
 obtain⟨lb,rb,iv,-,-,a⟩:=h;have hl:=a.lv;have g:=hl.ok.aH.2;unfold lI;rcases a with⟨i,-⟩|⟨e,-⟩|⟨c,kb,sb,db,-,d⟩
 .rw[R Y];have:=hl.Gp.KZ;omega
 .rw[R Y];have:=hl.Gp.KZ;omega
 .rw[bW c];have:=d.fJ.KZ;omega
def ZY(P:AC)(T:gZ)(k:Nat):Nat:=((List.range k).map λi=>lI (P.spec i) (T i)).sum
theorem ZW(P:AC)(T:gZ)(k:Nat):ZY P T (k+1)=ZY P T k+lI (P.spec k) (T k):=by
 unfold ZY;rw[dr];simp
theorem ZX{P:AC}{T:gZ}:∀{k:Nat},(∀i,i<k->lI (P.spec i) (T i)<=65536)->ZY P T k<=k*65536
 |0,_=>O9 _
 |k+1,h=>by
  rw[ZW];have b:=ZX (k:=k) λi c=>h i Y;have a:=h k Y;omega
section
variable{w:aA}{ρ:bC}{β b cells st ls F G:Nat}{q:bK}{T:gZ}
theorem gT.CI(h:gT w ρ β b q cells st ls T F G):(∃nv:aE,h8 w ⟨b,9,K⟩=H nv)/\h8 w ⟨b,8,K⟩=H (mj mn (cells:Int))/\h8 w ⟨b,11,K⟩=H (mj mn (st:Int))/\h8 w ⟨b,12,K⟩=H (mj mn (ls:Int))/\b<i7 w.heap/\w.frozen? ⟨b,11,K⟩=rR/\w.frozen? ⟨b,12,K⟩=rR:=by
 obtain⟨hv,av,v0,v1,v2,v4,nv,ov,ps,ns,xB,bs,a,-,-⟩:=h.ex;unfold iO at a;have c:=aN a;exact⟨⟨nv,aP a (j:=9) rfl⟩,aP a (j:=8) rfl,aP a (j:=11) rfl,aP a (j:=12) rfl,dG a,c 11,c 12⟩
theorem gT.aOd(h:gT w ρ β b q cells st ls T F G):∃a c,h8 w ⟨b,9,K⟩=H (jS a (O (aB q).2.aI) c):=by
 obtain⟨hv,av,v0,v1,v2,v4,nv,ov,ps,ns,xB,bs,d,g,-⟩:=h.ex;obtain⟨a,c,e,-⟩:=g.nds.1.len;rw[g.ndn]at e;unfold iO at d;exact⟨a,c,e▸aP d (j:=9) rfl⟩
theorem Iu(h:gT w ρ β b q cells st ls T F G):aK prog 26 #[lr (H ⟨b,0,K⟩)] w λe w'=>e=mi (mj mn (st:Int))/\w=w':=by
 obtain⟨-,-,a,-,-,-,-⟩:=h.CI;exact ZM184
theorem yV(h:gT w ρ β b q cells st ls T F G)(hf:O (aB q).2.aI<=42):aK prog 12 #[lr (H ⟨b,0,K⟩)] w λe w'=>e=mi (mj mn (eH (aZ (aB q).2) T:Int))/\U w [] w' []:=by
 obtain⟨a,c,L⟩:=h.aOd;have HH:=Z h;have B:=Z (λi P=>show lI ((aZ (aB q).2).spec i) (T i)<=65536 from(by obtain⟨nb,-,-,-,-,-,g,-⟩:=h.zC (i:=i) P;exact g.yZ));let⟨N,g⟩:=D (O (aB q).2.aI);have v:=Z (show eH (aZ (aB q).2) T=ZY (aZ (aB q).2) T N by rw[<-g];rfl);rw[g]at L B hf;have V:=Z g;clear h g;go_in;go_wp2;go_loopg [3,11] N (λW s3 y wr=>∃k:Nat,k<=N/\W=N-k/\y=X k/\s3=X (ZY (aZ (aB q).2) T k:Int)/\U w [] wr [])
 .exact⟨0,Y,rfl,rfl,rfl,U.refl _ _⟩
 obtain⟨k,hk,C,rfl,rfl,d⟩:=hrel;by_cases o:k<N
 .obtain⟨nb,go,oo,co,n,n0,m,-⟩:=(HH.on d).zC (i:=k) (V.o▸o);have j:=d.cell L J;rw[j]at n;injection n with n;injection n with x1 x2 x3;subst x1;have f:=Z (kr m);have x:=ZX (k:=k) λi P=>B.o i Y;have r:=B.o k o;have p:=ZW (aZ (aB q).2) T k;let⟨S,s⟩:=D (ZY (aZ (aB q).2) T k);let⟨u,A⟩:=D (lI (eF (aB q).2 k) (T k));have l:lI ((aZ (aB q).2).spec k) (T k)=u:=A;rw[s]at x p|-;rw[l]at r p;rw[A]at f;have sy:=Z p;have z:=Z d;have JY:=Z C;have hcw:IntKind.i64.wrap ((S:Int)+(u:Int))=(S:Int)+(u:Int):=QY _ Y;clear m s A l p d j x2 x3 C;go_wp2_with (go_at_call 42;apply f.dC;intro w2 Q;have eQ:=Z Q;clear Q);go_roundg (N-(k+1))
  .exact⟨k+1,Y,rfl,eY,by rw[sy.o];rfl,z.ds eQ⟩
  have:=JY.o;omega
 .obtain rfl:k=N:=Y;have z:=Z d;clear d C;go_wp2;go_ret;exact⟨by rw[v.o];rfl,z⟩
theorem aEC{v:Nat}(hv:v<O (aB q).2.aI)(a:h8 w ⟨b,9,K⟩=H (jS (H ⟨go,oo,K⟩) (O (aB q).2.aI) co))(j:h8 w ⟨go,oo+v,K⟩=H (lr (H ⟨nb,0,K⟩))):
  aK prog 43 #[lr (H ⟨b,0,K⟩),mj mn (v:Int)] w λe w'=>e=mi (lr (H ⟨nb,0,K⟩))/\w=w':=by
 generalize d:O (aB q).2.aI=N at a hv;have i:¬((v:Int)<0):=Y;have g:(v:Int)<(N:Int):=Y;have c:¬(N:Int)<=(v:Int):=Y;exact ZM184
def aL0(w:aA)(ρ:bC)(β b v t:Nat)(q:bK)(cells st ls:Nat)(T:gZ)(F G:Nat)(e:cc)(w':aA):Prop:=
 ∃bV u,e=mi (mr #[u,mj mn 0])/\bI w ρ (fU (mR β v)) w' bV/\gT w' bV β b q cells st ls T F G/\QO w' bV (mR β v+27) t u (T v).aM
theorem ZK(h:gT w ρ β b q cells st ls T F G)(f:O (aB q).2.aI<=42){v t:Nat}(hv:v<O (aB q).2.aI)(p:t<mR β v\/mR β v+100<=t):
  aK prog 13 #[lr (H ⟨b,0,K⟩),mj mn (v:Int)] w (aL0 w ρ β b v t q cells st ls T F G):=by
 let⟨nb,go,oo,co,n,y,c,r⟩:=h.zC hv;have g:=(aEC (q:=q) hv n y);obtain⟨lb,rb,iv,l,B,C⟩:=c;have x:=(aOn C p);have k:=Zc l 0;have a:=(eI l B);go_in;go_wp2_with (first
  |(go_at_call 44;apply x.cX;rintro e w2 ⟨fD,u,rfl,d,z,m⟩;obtain⟨ua,uc,rfl,-⟩:=m.len)
  |(go_at_call 43;apply g.dC;rintro w1 rfl))
 go_ret2;have j:bI w ρ (fU (mR β v)) w2 fD:=d.aL (λ_ h=> .inl h);have A:¬eX (mR β v+20) (mR β v):=by unfold eX;omega
 refine⟨fD,_,rfl,j,?_,m⟩;have i:=r w2 fD (T v) j (by assumption) ⟨lb,rb,iv,d.aC a.1 (a.2▸A),(d.cE nb (dG a.1)).ds a.2,z⟩;rw[aAa]at i;exact i
end
end
variable{a:Act}{assign body:Code}{bEr:Exit->Act->aA->Prop}{gf:Nat}{P:Program}{Start:aA->Nat->aA->Prop}{Good:aA->Prop}
def Mp{α:Type}(P:Program)(gf:Nat)(lb:Array aE)(encs:α->Array aE)(xs:List α)(Start:aA->Nat->aA->Prop)(Good:aA->Prop)(W:aA):Prop:=
 ∀(l:Nat) (bEn Jx:Nat->Nat->aA->Prop),(∀g k W1,bEn g k W1->Good W1)->(∀g W1,Start W g W1->bEn g 0 W1)->
  (∀g k x W1,bEn g k W1->xs[k]? =H x->YieldAt Fence.wide 0 P l (encs x) W1 λe W'=>
   (e=mi (nj qT)/\bEn g (k+1) W'/\W'.heap[g]? =W1.heap[g]?)\/(e=mi (nj rR)/\Jx g (k+1) W'))->
  CallsIn Fence.wide 0 P gf (#[.func (.yield l) #[] #[]]++lb) W λe W'=>(∃v,e=mi v)/\∃g,bEn g (O xs) W'\/∃k,k<=O xs/\Jx g k W'
theorem js{α:Type}{g:Operand}{ps:Array Tmp}{lb:Array aE}(n:a.eval g= .func (.func gf) #[] lb)(z:∀args w,(callFunc gf args).run P w= .ok (.enter gf args) w){Rc:α->Array aE}{xs:List α}(m:∀x,(Rc x).size=ps.size)(jO:∀fn,Mp P gf lb Rc xs Start Good (qR w fn a.tmps ps assign body))(y:∀fn g W1,Start (qR w fn a.tmps ps assign body) g W1->W1.heap[i7 w.heap+1]? =(qR w fn a.tmps ps assign body).heap[i7 w.heap+1]?/\W1.heap[i7 w.heap]? =(qR w fn a.tmps ps assign body).heap[i7 w.heap]?)(b:Nat->Nat->aA->Prop)(Ix:Code->Nat->Nat->aA->Prop)(l:∀g k W,b g k W->Good W)(eB:∀g k W,b g k W->g≠i7 w.heap+1)(hI:∀g k W o,b g k W->b g k (W.putObj (i7 w.heap+1) o))(hIx:∀c g k W o,Ix c g k W->Ix c g k (W.putObj (i7 w.heap+1) o))(u:∀fn g W1,Start (qR w fn a.tmps ps assign body) g W1->b g 0 W1)(a₁:α->Act)(Qe:∀(x:α) (W:aA) (f:Act->aA->Prop),f (a₁ x) W->
   assign.wpIn (Fence.wide.inRound (i7 w.heap+1)) 0 P (Exit.then f (λ_ _ _=>False)) {tmps:=(ps.zip (Rc x)).foldl (λt (p,v)=>t.setIfInBounds p v) a.tmps,defers:=[]} W)(aGN:∀(g k:Nat) (x:α) (W:aA),b g k W->xs[k]? =H x->
   body.wpIn (Fence.wide.inRound (i7 w.heap+1)) 0 P (aFN (i7 w.heap+1) w.heap.size g W (b g (k+1)) (λc=>Ix c g (k+1))) (a₁ x) W)(Li:∀g W,b g (O xs) W->W.heap[i7 w.heap]? =H (.deferred (H []))->bEr .normal {a with defers:={target:= .collected w.heap.size,args:=#[]}::a.defers} W)(aF4:∀c g k W,k<=O xs->Ix c g k W->W.heap[i7 w.heap]? =H (.deferred (H []))->c.wpIn Fence.wide 0 P bEr {a with defers:={target:= .collected w.heap.size,args:=#[]}::a.defers} W):
  (Code.rangeFunc g ps assign body).wpIn Fence.wide 0 P bEr a w:=by
 refine wpIn_rangeFunc ?_;intro fn _;have i:Fence.wide.round=K:=rfl;rw[i];obtain⟨rec,Q5⟩:∃rec:LoopState->Option Code->Loop,rec=λst q=>{state:=st,pending:=q,fn,tmps:=a.tmps,params:=ps,assign,body,defers:=i7 w.heap}:=⟨_,rfl⟩;let⟨W1,ym⟩:=D (qR w fn a.tmps ps assign body);have r:W1.heap[i7 w.heap+1]? =H (.loop (rec .ready K)):=ZM57;have j:W1.heap[i7 w.heap]? =H (.deferred (H [])):=ZM161;refine⟨i7 w.heap+1,[{target:= .collected w.heap.size,args:=#[]}],W1,{target:= .fn (.func gf) lb,args:=#[.func (.yield (i7 w.heap+1)) #[] #[]]},W1,gf,
  #[.func (.yield (i7 w.heap+1)) #[] #[]]++lb,W1,?_,?_,?_,?_,?_,?_⟩
 .rw[<-ym];exact run_enterLoop_outer _ _ _ _ _
 .simp only[resolve,n];simp[go_sem]
 .intro f' _;trivial
 .grind [invoke]
 .intro h;cases h
 .have d:=jO fn;rw[ym]at d;refine(d (i7 w.heap+1)
   (λg k W=>b g k W/\W.heap[i7 w.heap+1]? =H (.loop (rec .ready K))/\W.heap[i7 w.heap]? =H (.deferred (H [])))
   (λg k W=>∃c,Ix c g k W/\W.heap[i7 w.heap+1]? =H (.loop (rec .done (H c)))/\W.heap[i7 w.heap]? =H (.deferred (H []))) (λg k W h=>l g k W h.1) ?_ ?_).mono ?_
  .grind
  .exact ZM4
  .exact ZM38
def Md(l:List Nat):List (Nat×Nat):=(List.range (O l)).reverse.map λi=>(i,hJ l i 0)
theorem VI(l:List Nat):O (Md l)=O l:=by simp[Md]
theorem af{l:List Nat}{k:Nat}(a:k<O l):(Md l)[k]? =H (O l-1-k,hJ l (O l-1-k) 0):=by
 grind [Md]
theorem Rm(v:aE)(w:aA)(n:Nat)(hv:∃a c,v=jS a n c):
  aK prog 62 #[v] w λe w'=>e=mi (.func (.func 107) #[] #[lr (H ⟨w,0,K⟩)])/\w'=i5 w (kd #[v] 50):=by
 obtain⟨a,c,rfl⟩:=hv;exact ZM184
def Fg(bx:Nat)(v:aE)(l:List Nat)(W:aA):Prop:=W.heap[bx]? =H (kd #[v] 50 (0,0))/\fM fN 0 1 W v l
theorem If{W:aA}{l:List Nat}(m:Fg bx v l W):
  Mp prog 107 #[lr (H ⟨bx,0,K⟩)] (λx:Nat×Nat=>#[mj mn (x.1:Int),mj mn (x.2:Int)]) (Md l) (λW g W1=>W1=W/\g=bx) (Fg bx v l) W:=by
 intro li r Jx L o S;obtain⟨a,c,rfl,F⟩:=m.2.len;unfold bH at F;generalize w:O l=n at F m L;have G:=Z w;have f:=Z (show(Md l).length=n by rw[VI,w]);have Q:=Z (o bx W ⟨rfl,rfl⟩);have x0:=Zc m.1 0;clear m o w;have V:IntKind.i64.wrap ((n:Int)-1)=(n:Int)-1:=QY _ Y;refine callsIn_of_wp func107 rfl trivial ?_ rfl;simp only[ntmps107,F6,TT,x',Nat.reduceAdd,Nat.reduceSub,El,EA,H3,EB,Nb,zbZ];gi_wp2
 clear x0;gi_loopw [3] (λi wr=>∃k:Nat,k<=n/\i=X ((n:Int)-1-(k:Int))/\r bx k wr) (λi _=>(intOf i+1).toNat)
 .exact⟨0,Y,J,Q.o⟩
 obtain⟨k,hk,rfl,j⟩:=hrel;have d:=Z j;by_cases aY:k<n
 .let⟨h,g2⟩:=L bx k wr j;have x0:=Zc h 0;obtain⟨ge,oe,ce,hv,-,P⟩:=fM.aS g2 (i:=n-1-k) (kG G.o);have c0:=P 0 E;simp only[yC,qZ,fN]at c0;injection hv with x1 x2 x3;subst x1;have p:=af (l:=l) (k:=k) Y;rw[G.o]at p;generalize N:n-1-k=i at c0 p;have b:(n:Int)-1-(k:Int)=(i:Int):=Y;rw[b];let⟨fn,tmps,assign,body,C,u⟩:=S bx k (i,hJ l i 0) wr d.o p;generalize A:hJ l i 0=y at c0 C;dsimp only at C;have iD:(i:Int)<(n:Int):=Y;have fe:(0:Int)<=(i:Int):=Y;have T:IntKind.i64.wrap ((i:Int)-1)=(i:Int)-1:=QY _ Y;have HI:=Z N;clear j h g2 P x2 x3 p N b A;gi_wp2
  refine⟨rfl,u.mono ?_⟩;rintro e W4 (⟨rfl,B,Fs⟩|⟨rfl,z⟩)
  .gi_wp2
   go_roundw
   case rel=>exact⟨k+1,Y,by have:=HI.o;congr 1;omega,B⟩
   grind [intOf]
  .gi_wp2
   refine mY (results_none rfl _ _ _) rfl ?_;exact⟨⟨_,rfl⟩,bx,.inr ⟨k+1,kG f.o,z⟩⟩
 .obtain rfl:k=n:=Y;have q:(k:Int)-1-(k:Int)= -1:=Y;rw[q];clear j;gi_wp2
  refine bodyPost_end (results_none rfl _ _ _) rfl ?_;exact⟨⟨_,rfl⟩,bx,.inl (by rw[f.o];exact d.o)⟩
variable{bc bd bu:Nat}{bB:Nat->Option Row}{mI pC:bC}{dv:aE}{Wk:jU}{w3:aA}
section
attribute [local go_sem] Oper.semAt_some
def d8(q:bK)(r:Row)(i:Nat):Option Row:=jI (aB q).2 (hJ q.aD i sT) i r
theorem Ep{P:AC}{l:List Nat}{x:Row}(h:bB i=H x):nH P bB (i::l) W=nH P bB l (eT P rR P.n i (fE P rR W i rR x).2.1 (fE P rR W i rR x).1):=by
 rw[nH,h]
theorem TD{P:AC}{bB:Nat->Option Row}(a:∀u v,P.dI u=H v->v<P.n):∀(l:List Nat) (W:jU),(∀i∈l,i<P.n)->W.aQ<=(nH P bB l W).aQ/\W.count P.n<=(nH P bB l W).count P.n
 |[],W,_=>⟨fV _,fV _⟩
 |i::l,W,hl=>by
  have ih:=λW'=>TD (bB:=bB) a l W' (λj b=>hl j (by simp[b]));cases h:bB i with
  |none=>rw[nH,h];exact ih W
  |some x=>
   rw[Ep h];let⟨p,m⟩:=ih (eT P rR P.n i (fE P rR W i rR x).2.1 (fE P rR W i rR x).1);obtain⟨e,g,-⟩:=qC (P:=P) (add:=rR) a P.n i (fE P rR W i rR x).2.1 (fE P rR W i rR x).1;have d:=qS (P:=P) (add:=rR) W (hl i J) rR x;have q:=d.2.2.2.2.1;have c:=d.2.2.2.2.2.1;omega
theorem WB(a:bo q)(b:i<O q.aD){x:Row}(l:∀v∈r,rng v)(h:d8 q r i=H x):qW (eF (aB q).2 i) rR x:=by
 have g:=a.wf.CZ;have c:O (pQ (aB q).2 (hJ q.aD i sT) i)<=30:=by
  rw[GN];let⟨s,hs,e⟩:=(a.wf.EN i (xF b g)).vars;rw[e];exact DB a.wide hs
 let⟨j,g2⟩:=Cb a.aEa b (Qy (d:=sT) b rfl) l h c;have m:=(a.wf.EN i (xF b g)).leaf.2 b;refine⟨j,?_,λe=>by cases e⟩;simp only[Nc,E6];rw[g2];unfold eF;simp only;rw[R Y]
structure dq(w3:aA)(mI:bC)(β b ub M:Nat)(q:bK)(cells st ls F G bx:Nat)(r:Row)(done:List Nat)(bEs:jU)(g k:Nat)(W:aA)(pC:bC)(Wk:jU):Prop where
 g:g=bx
 fK:bI w3 mI (BB β) W pC
 tl:pC w3.heap.size=β+6/\pC (i7 w3.heap+1)=β+6
 sz:i7 w3.heap+2<=i7 W.heap
 xI:f9 W pC β b ub M q cells st ls rR Wk F G
 eq:nH (aZ (aB q).2) (d8 q r) (done.reverse.drop k) Wk=bEs
theorem BB.not(h:x<β+1000)(c:x≠β+2)(b:x≠β+4)(a:x<β+100\/β+300<=x):¬BB β x:=by unfold BB;omega
theorem dq.putObj{M cells ls:Nat}{done:List Nat}{bEs:jU}{k:Nat}{W:aA}(h:dq w3 mI β b ub M q cells st ls F G bx r done bEs g k W pC Wk)(o:Obj):dq w3 mI β b ub M q cells st ls F G bx r done bEs g k (W.putObj (i7 w3.heap+1) o) pC Wk:=by
 have d:U W [i7 w3.heap+1] (W.putObj (i7 w3.heap+1) o) [i7 w3.heap+1]:=(U.refl W [i7 w3.heap+1]).putObj (.inl (by simp)) o;have a:bI W pC (·=β+6) (W.putObj (i7 w3.heap+1) o) pC:=d.qO (λk m=> .inl (by rw[show k=i7 w3.heap+1 by simpa using m];exact h.tl.2));refine⟨h.g,⟨h.fK.os,h.fK.tape,h.fK.output,by rw[World.putObj_size];exact h.fK.size,λj l e=> ?_,h.fK.cE⟩,h.tl,by rw[World.putObj_size];exact h.sz,h.xI.eb a (λc n=>by omega) (λi _=>by omega) (λi c _ _=>by unfold mR;omega),h.eq⟩;rw[World.putObj_heap_other (by omega)];exact h.fK.block j l e
structure KQ(w:aA)(ρ:bC)(β b ub bu bd bt bc:Nat)(add:Bool)(rel:dO)(rv dv:aE)(r:Row)(tr:Nat)(done:List Nat):Prop where
 xu:w.heap[bu]? =H (kd #[lr (H ⟨ub,0,K⟩)] 142 (0,0))
 xt:w.heap[bt]? =H (kd #[lr (H ⟨b,0,K⟩)] 27 (0,0))
 xc:w.heap[bc]? =H (kd #[nj add,mX rel,rv] 36 (0,0))
 xd:w.heap[bd]? =H (kd #[dv] 50 (0,0))
 BD:ρ bu=β+6/\ρ bt=β+6/\ρ bc=β+6/\ρ bd=β+6
 row:lW dV aR 3 w ρ tr rv r
 trn:¬CK β tr
 R5:CE r
 cZ:pI fN 0 3 1 w ρ (β+7) dv done
theorem KQ.eb{add:Bool}{rel:dO}{tr:Nat}{done:List Nat}{S:Nat->Prop}(h:KQ w ρ β b ub bu bd bt bc add rel rv dv r tr done)(a:bI w ρ S w' bV)(c:¬S (β+6))(d:¬S (β+7))(e:∀x,S x->CK β x):KQ w' bV β b ub bu bd bt bc add rel rv dv r tr done:=
 ⟨a.aC h.xu (h.BD.1▸c),a.aC h.xt (h.BD.2.1▸c),a.aC h.xc (h.BD.2.2.1▸c),a.aC h.xd (h.BD.2.2.2▸c),
  ⟨(a.cE _ (dG h.xu)).ds h.BD.1,(a.cE _ (dG h.xt)).ds h.BD.2.1,(a.cE _ (dG h.xc)).ds h.BD.2.2.1,(a.cE _ (dG h.xd)).ds h.BD.2.2.2⟩,
  h.row.eb a (λhs=>h.trn (e _ hs)),h.trn,h.R5,h.cZ.eb a d⟩
theorem KQ.on{add:Bool}{rel:dO}{tr:Nat}{done:List Nat}(h:KQ w ρ β b ub bu bd bt bc add rel rv dv r tr done)(a:U w [] w' L'):KQ w' ρ β b ub bu bd bt bc add rel rv dv r tr done:=
 h.eb (S:=eZ) a.fL id id nZ
theorem BB.tr(h:BB β x):CK β x:=by unfold BB at h;unfold CK;omega
end
variable{a3z:Bool}
section
attribute [local go_sem] Oper.semAt_some
theorem f9.aOP{M cells ls:Nat}{add:Bool}(h:f9 w ρ β b ub M q cells st ls add W F G):f9 (hY w ⟨ub,6,K⟩ (nj rR)) ρ β b ub M q cells st ls rR W F G/\bI w ρ (·=β+2) (hY w ⟨ub,6,K⟩ (nj rR)) ρ/\w.frozen? ⟨ub,6,K⟩=rR:=by
 have e:U w [ub] (hY w (Ad ub 6) (nj rR)) [ub]:=qX w ub 6 _;have a:bI w ρ (·=β+2) (hY w (Ad ub 6) (nj rR)) ρ:=e.qO (λk g=> .inl ((show k=ub by simpa using g)▸h.ub.cE));obtain⟨u0,u1,u2,u4,ns,d,l,j⟩:=h.ub.ex;refine⟨⟨h.bd.eb a Y Y (λi c _ _=>by unfold mR;omega),⟨⟨u0,u1,u2,u4,ns,?_,l.eb a Y,j⟩,h.ub.cE⟩,h.XD.eb a Y Y (λi _=>Y),h.ok⟩,a,aN d 6⟩;rw[aF _ d];rfl
def aSL(w:aA)(ρ:bC)(β b ub M:Nat)(q:bK)(cells st ls F G:Nat)(bEs:jU)(e:cc)(w':aA):Prop:=
 ∃bV,e=mi (mr #[])/\bI w ρ (BB β) w' bV/\f9 w' bV β b ub M q cells st ls rR bEs F G
theorem ag{M cells ls tr:Nat}{add:Bool}{rel:dO}{done:List Nat}{bEs:jU}(V:KQ w ρ β b ub bu bd bt bc add rel rv dv r tr done)(h:f9 w ρ β b ub M q cells st ls a3z W F G)(qH:G<=F)(hG:G<1073741824)(Li:∀i∈done,i<O q.aD/\∃x,d8 q r i=H x)(m:nH (aZ (aB q).2) (d8 q r) done.reverse W=bEs)(hs:bEs.aQ<=549755813888)(hc:bEs.count (O (aB q).2.aI)<=1099511627776):
  aK prog 61 #[lr (H ⟨bu,0,K⟩),lr (H ⟨bd,0,K⟩),lr (H ⟨bt,0,K⟩),lr (H ⟨bc,0,K⟩)] w (aSL w ρ β b ub M q cells st ls F G bEs):=by
 have hb:=V.xu;have x0:=Zc hb 0;obtain⟨-,u6,-,-,-,ulh,-,-⟩:=h.ub.cells;obtain⟨hA,B,uf6⟩:=h.aOP;obtain⟨wa,dM⟩:=D (hY w ⟨ub,6,K⟩ (nj rR));rw[dM]at hA B;have kI:=V.eb B (by omega) (by omega) (λx hx=>by unfold CK;omega);have hbd:=kI.xd;obtain⟨da,dc,hdv,-⟩:=kI.cZ.len;subst hdv;have d0:=Zc hbd 0;have aF6:=Rm (jS da (O done) dc) wa (O done) ⟨_,_,rfl⟩;have aY:=h.ub.cells.2.2.2.2.2.1;obtain⟨bx,mJ⟩:=D (i7 wa.heap);obtain⟨w3,jA⟩:=D (i5 wa (kd #[jS da (O done) dc] 50));have cW:=Za jA;have QB:w3.heap[bx]? =H (kd #[jS da (O done) dc] 50 (0,0)):=by grind [heap_alloc_new]
 rw[jA]at aF6;have xT:bI wa ρ (λ_=>False) w3 (up wa.heap.size (β+6) ρ):=cW.fK (S:=λ_=>False) (β+6) (λ_ h=>absurd h (by simp));obtain⟨mI,nD⟩:=D (up wa.heap.size (β+6) ρ);have KX:mI bx=β+6:=by rw[<-nD];grind [cY]
 rw[nD]at xT;have QS:=Z (kI.eb xT (λh=>h) (λh=>h) (λ_ h=>h.elim));have PG:=Z (hA.eb xT (λ_ _ h=>h) (λ_ _ h=>h) (λ_ _ _ _ h=>h));have a5G:=Z ((B.aL (T:=BB β) (λx hx=>by unfold BB;omega)).ds (xT.aL (λ_ h=>h.elim)));have NF:=Z (And.intro QB KX);have HSP:=Z aF6;have HDN:=Z Li;have HR:=Z m;have HS:=Z (And.intro hs hc);have U6:=Z (And.intro qH hG);have jQ:=h.ok;have N:=Z jQ;rw[mJ]at HSP;clear V h qH hG Li m hs hc hb hA B kI hbd aF6 jA cW QB xT nD KX jQ aY mJ;refine(callsIn_wide (n:=0)).1 ?_;refine callsIn_of_wp_marks func61 rfl trivial ?_ rfl;simp only[ntmps61,F6,List.length_cons,x',Nat.reduceAdd,Nat.reduceSub,El,EA,H3,EB,List.nil_append,List.cons_append];gi_wp2_with fail
 refine⟨trivial,rfl,?_⟩;refine(callsIn_wide.2 HSP.o).mono ?_;rintro e p ⟨rfl,rfl⟩;gi_wp2_with fail
 have aFz:∀(wz:aA) (K3:bC),bI p mI (BB β) wz K3->Fg bx (jS da (O done) dc) done wz:=λwz K3 f=>
  ⟨f.aC NF.o.1 (by rw[NF.o.2];grind [BB.not]),(QS.o.cZ.eb f (BB.not (by omega) (by omega) (by omega) (by omega))).rd.1⟩
 refine js rfl (enters_of func107 (by kernel_rfl) rfl) (λ_=>rfl)
  (λfn=>If (v:=jS da (O done) dc) (l:=done) (aFz _ _ (wQ.fL (S:=BB β) (ρ:=mI))))
  (λfn g W1 hS=>by grind)
  (λg k W=>∃pC Wk,dq p mI β b ub M q cells st ls F G bx r done bEs g k W pC Wk) (λ_ _ _ _=>False)
  (λg k W ⟨pC,Wk,V⟩=>aFz W pC V.fK) (λg k W ⟨_,_,V⟩=>by rw[V.g];have:=lt_of_block NF.o.1;omega) ?stab (λ_ _ _ _ _ h=>h) ?start ?a1 ?assign ?body ?done (λ_ _ _ _ _ h=>h.elim)
 case stab=>
  rintro g k W o ⟨pC,Wk,m⟩;exact⟨_,_,m.putObj o⟩
 case start=>
  suffices gP:∀(We:aA),U p [] We []->i7 We.heap=i7 p.heap+2->∃pC Wk,dq p mI β b ub M q cells st ls F G bx r done bEs bx 0 We pC Wk from λfn g W1 hS=>by
   grind [wQ,JP]
  intro We WP V5;have f:bI p mI (λ_=>False) We (up p.heap.size (β+6) mI):=WP.fK (S:=λ_=>False) (β+6) (λ_ h=>absurd h (by simp));exact⟨_,W,rfl,f.aL (λ_ h=>h.elim),⟨cY (yo _),cY (by omega)⟩,by omega,PG.o.eb f (λ_ _ h=>h) (λ_ _ h=>h) (λ_ _ _ _ h=>h),by rw[List.drop_zero];exact HR.o⟩
 case assign=>
  intro x W t hK;gi_wp2
  exact hK
 case body=>
  rintro g k ⟨j,i⟩ W ⟨pC,Wk,m⟩ hx;have hk:k<O done:=by grind [VI]
  rw[af hk]at hx;injection hx with hx;injection hx with hj hi;have Xq:done.reverse.drop k=i::done.reverse.drop (k+1):=by
   grind [List.drop_eq_getElem_cons]
  have him:i∈done:=by grind
  obtain⟨XM,x,C⟩:=HDN.o i him;have y:=m.eq;rw[Xq,Ep C]at y;have z:i<O (aB q).2.aI:=oj XM N.o.wf.CZ;have A:=QS.o.eb m.fK (BB.not (by omega) (by omega) (by omega) (by omega)) (BB.not (by omega) (by omega) (by omega) (by omega)) (λ_=>BB.tr);have hu:=A.xu;have ht:=A.xt;have hc:=A.xc;have y0:=Zc hu 0;have z0:=Zc ht 0;have q2:=Zc hc 2;obtain⟨yP,av',v0',v1',v2',v4',UO,ov',Ss,ns',a9s,bs',aGP,hfx,-⟩:=m.xI.bd.ex;have hLR:=WC (a:=hJ q.aD i sT) aGP hfx N.o XM rfl A.row.1 A.R5;have aTp:jI (aB q).2 (hJ q.aD i sT) i r=H x:=C;rw[aTp]at hLR;have HLR:=Z hLR;have hrf:=WB N.o XM (λv hv=>(A.R5.2 v hv).2) C;have HRF:=Z hrf;obtain⟨ra,rc,hrv,-⟩:=A.row.1.len;subst hrv;have F4:∀u v,(aZ (aB q).2).dI u=H v->v<(aZ (aB q).2).n:=λu v Q1=>(N.o.wf.l9.up u v Q1).2;have s:=TD (P:=aZ (aB q).2) (bB:=d8 q r) F4 (done.reverse.drop (k+1)) (eT (aZ (aB q).2) rR (aZ (aB q).2).n i (fE (aZ (aB q).2) rR Wk i rR x).2.1 (fE (aZ (aB q).2) rR Wk i rR x).1) (λj hj=>by
   have:j∈done:=List.mem_reverse.1 (List.mem_of_mem_drop hj);exact oj (HDN.o j this).1 N.o.wf.CZ)
  rw[y]at s;have hrb:=qC (P:=aZ (aB q).2) (add:=rR) F4 (aZ (aB q).2).n i (fE (aZ (aB q).2) rR Wk i rR x).2.1 (fE (aZ (aB q).2) rR Wk i rR x).1;obtain⟨d,hd⟩:=D (fE (aZ (aB q).2) rR Wk i rR x);have aGG:G5 (aB q).2 i d.2.1:=hd▸Ec N.o.wf N.o.wide z hrf (λhk=>by
   obtain⟨nb,-,-,-,-,-,hN,-⟩:=m.xI.bd.zC z;exact hN.Nr hk)
  rw[hd]at y s hrb;have hN:(aZ (aB q).2).n=O (aB q).2.aI:=rfl;rw[hN]at y s hrb;have gd:=Z y;have Q:=Z (show(eT (aZ (aB q).2) rR (O (aB q).2.aI) i d.2.1 d.1).aQ<=549755813888/\(eT (aZ (aB q).2) rR (O (aB q).2.aI) i d.2.1 d.1).count (O (aB q).2.aI)<=1099511627776/\d.1.count (O (aB q).2.aI)<=1099511627776 by
   obtain⟨s1,s2⟩:=HS.o;omega)
  have HD:=Z hd;have HDG:=Z aGG;have L:=Z m;have HBK:=Z A;have HIP:=Z z;clear m hk hj hi Xq him XM C y z A hu ht hc aGP hfx hLR aTp hrf s hrb hd aGG;gi_wp2_with fail
  refine⟨trivial,rfl,?_⟩;refine(CallsIn.inRound _ (callsIn_wide.2 HLR.o)).mono ?_;rintro e w4 ⟨eJ,u,rfl,SV⟩;obtain⟨ua,uc,rfl,-⟩:=SV.len;have xD:bI W pC (λ_=>False) w4 (up W.heap.size (β+3) pC):=eJ.fK (S:=λ_=>False) (β+3) (λ_ h=>absurd h (by simp));have hK4:=(SV.jR (β+3) pC).rd;obtain⟨G8,Hk⟩:=D (up W.heap.size (β+3) pC);rw[Hk]at xD hK4;have Lm:=L.o.xI.eb xD (λ_ _ h=>h) (λ_ _ h=>h) (λ_ _ _ _ h=>h);have AA:=HBK.o.eb xD (λh=>h) (λh=>h) (λ_ h=>h.elim);have hdo:=qv rR Lm HIP.o hK4 (λh'=>by have:=PW h';omega) HRF.o (by simpa using U6.o.1) U6.o.2 (by rw[HD.o];exact Q.o.2.2);rw[HD.o]at hdo;have HDO:=Z hdo;have Hq:=AA.xu;have y4:=Zc Hq 0;have OO:=Z AA;have LM:=Z xD;clear eJ SV xD hK4 Hk Lm AA hdo Hq y0 z0 q2 HLR;gi_wp2_with fail
  refine⟨trivial,rfl,?_⟩;refine(CallsIn.inRound _ (callsIn_wide.2 HDO.o)).mono ?_;rintro e w5 ⟨oT,fv,tO,rfl,sA,FA,htO,hf5⟩;obtain⟨fa,fc,rfl,-⟩:=hf5.len;have aUl:i<42:=by have:=HIP.o;have:=N.o.oE;omega
  have aQI:bI w4 G8 (BB β) w5 oT:=sA.aL (λ_=>DoW.cl aUl);have uV:=OO.o.eb aQI (BB.not (by omega) (by omega) (by omega) (by omega)) (BB.not (by omega) (by omega) (by omega) (by omega)) (λ_=>BB.tr);have Ky:=uV.xu;have y5:=Zc Ky 0;have Y9:=Z (Lv FA HIP.o hf5 (by rcases htO with e|e;exact .inl e;exact .inr (.inr ⟨i,aUl,e⟩)) (λup hu _=>by grind [mR]) HDG.o (by simpa using U6.o.1) U6.o.2 Q.o.1 Q.o.2.1);have NI:=Z aQI;clear sA FA htO hf5 aQI uV Ky y4 HDO;gi_wp2_with fail
  refine⟨trivial,rfl,?_⟩;refine(CallsIn.inRound _ (callsIn_wide.2 Y9.o)).mono ?_;rintro e w6 ⟨qJ,rfl,SX,hT6⟩;gi_wp2
  have uH:bI W pC (BB β) w6 qJ:=((LM.o.aL (λ_ h=>h.elim)).ds NI.o).ds SX;have CD:=L.o.sz;have KD:¬BB β (β+6):=BB.not (by omega) (by omega) (by omega) (by omega);have hxW:bx<i7 W.heap:=by have:=lt_of_block NF.o.1;omega
  have hgx:=L.o.g;have htx:pC bx=β+6:=(L.o.fK.cE bx (lt_of_block NF.o.1)).ds NF.o.2;refine⟨⟨uH.block _ (by omega) (by rw[L.o.tl.2];exact KD),uH.block _ (by omega) (by rw[L.o.tl.1];exact KD)⟩,by rw[hgx];exact uH.block _ hxW (by rw[htx];exact KD),qJ,_,hgx,L.o.fK.ds uH,⟨(uH.cE _ (by omega)).ds L.o.tl.1,(uH.cE _ (by omega)).ds L.o.tl.2⟩,by have:=uH.size;omega,hT6,gd.o⟩
 case done=>
  rintro g W ⟨pC,Wk,m⟩ hK;have he:=m.eq;rw[VI,List.drop_eq_nil_iff.2 (by grind)]at he;have he:Wk=bEs:=he;subst he;have hU:U W [i7 p.heap] (W.putObj p.heap.size (.deferred K)) [i7 p.heap]:=(U.refl W [i7 p.heap]).putObj (.inl (by simp)) _;have f:bI W pC (·=β+6) (W.putObj p.heap.size (.deferred K)) pC:=hU.qO (λk hk=> .inl (by rw[show k=i7 p.heap by simpa using hk];exact m.tl.1));have hT:=m.xI.eb f (λc hc=>by omega) (λi _=>by omega) (λi c _ _=>by unfold mR;omega);have NY:bI p mI (BB β) (W.putObj p.heap.size (.deferred K)) pC:=by
   refine⟨m.fK.os,m.fK.tape,m.fK.output,by grind [World.putObj_size],λj hj hn=> ?_,m.fK.cE⟩;rw[World.putObj_heap_other (by omega)];exact m.fK.block j hj hn
  have HT:=Z hT;have HM:=Z (a5G.o.ds NY);have HK:=Z hK;clear m hU f hT NY hK;gi_wp2_with fail
  refine⟨by simp,.inl ⟨_,_,rfl,run_takeDeferred HK.o,?_⟩⟩;refine⟨_,results_none rfl _ _ _,?_⟩;exact⟨pC,rfl,HM.o,HT.o⟩
end
variable{aM:List Row}
section
theorem ZM53{P:Prop}(h:P:=by
  obtain⟨hv,av,v0,v1,v2,v4,nv,ov,ps,ns,xB,bs,hb,hf,hn⟩:=h.ex;refine⟨⟨⟨hv,av,v0,v1,v2,v4,nv,ov,ps,ns,xB,bs,?_,hf.eb hM Y,λi hi=>(hn i hi).eb hM (λc _=>by unfold mR;omega)⟩,h.cE⟩,hM⟩;rw[aF _ hb];rfl):P:=h
section
variable{w:aA}{ρ:bC}{τ b lb rb F G F' G':Nat}{s:lV}{n:f7}{iv:aE}
theorem z4.mono(h:z4 w ρ τ lb rb s aM F G)(b:F<=F')(a:G<=G'):z4 w ρ τ lb rb s aM F' G':=⟨h.ex,h.cE,h.Gp.mono b a,h.ok⟩
theorem p9.mono(h:p9 w ρ τ b s n F G)(c:F<=F')(g:G<=G'):p9 w ρ τ b s n F' G':=by
 obtain⟨lb,rb,iv,j,i,p⟩:=h;refine⟨lb,rb,iv,j,i,?_⟩;rcases p with⟨d,kb,e,a,m,l⟩|⟨d,kb,cm,e,a⟩|⟨d,kb,sb,db,e,a⟩
 .exact .inl ⟨d,kb,e,a,m,l.mono c g⟩
 .exact .inr (.inl ⟨d,kb,cm,e,a.cF,a.cE,a.lv.mono c g,a.T9,a.T7,a.ok,a.oE⟩)
 .exact .inr (.inr ⟨d,kb,sb,db,e,a.cF,a.cE,a.lv.mono c g,a.fJ.mono c g,a.sd.mono c g⟩)
end
theorem gT.mono{w:aA}{ρ:bC}{b cells ls F G F' G':Nat}(h:gT w ρ β b q cells st ls T F G)(c:F<=F')(a:G<=G'):gT w ρ β b q cells st ls T F' G':=by
 obtain⟨hv,av,v0,v1,v2,v4,nv,ov,ps,ns,xB,bs,e,j,d⟩:=h.ex;exact⟨⟨hv,av,v0,v1,v2,v4,nv,ov,ps,ns,xB,bs,e,j,λi g=>(d i g).mono c a⟩,h.cE⟩
theorem f9.mono{w:aA}{ρ:bC}{b M cells ls F G F' G':Nat}{add:Bool}(h:f9 w ρ β b ub M q cells st ls add W F G)(c:F<=F')(a:G<=G'):f9 w ρ β b ub M q cells st ls add W F' G':=⟨h.bd.mono c a,h.ub,h.XD,h.ok⟩
theorem gT.tL{w:aA}{ρ:bC}{b cells ls F G:Nat}(h:gT w ρ β b q cells st ls T F G)(n:Nat):gT (hY w ⟨b,12,K⟩ (mj mn (n:Int))) ρ β b q cells st n T F G/\bI w ρ (·=β) (hY w ⟨b,12,K⟩ (mj mn (n:Int))) ρ:=by
 have d:U w [b] (hY w (Ad b 12) (It n)) [b]:=qX w b 12 _;have hM:bI w ρ (·=β) (hY w (Ad b 12) (It n)) ρ:=d.qO (λk a=> .inl ((show k=b by simpa using a)▸h.cE));exact ZM53
theorem gT.Uw{w:aA}{ρ:bC}{b cells ls F G:Nat}(h:gT w ρ β b q cells st ls T F G)(n:Nat):gT (hY w ⟨b,11,K⟩ (mj mn (n:Int))) ρ β b q cells n ls T F G/\bI w ρ (·=β) (hY w ⟨b,11,K⟩ (mj mn (n:Int))) ρ:=by
 have d:U w [b] (hY w (Ad b 11) (It n)) [b]:=qX w b 11 _;have hM:bI w ρ (·=β) (hY w (Ad b 11) (It n)) ρ:=d.qO (λk a=> .inl ((show k=b by simpa using a)▸h.cE));exact ZM53
section
variable{P:AC}{sc D3:Nat->Nat}{bB:Nat->Option Row}
theorem aB2(f:tX P sc D3){add:Bool}{w:jU}(h:tC P w.T)(e:i<P.n)(j:(P.spec i).aG=1)(p:(P.spec i).aH=512)(l:(fE P add w i rR r).2.2.2≠191/\(fE P add w i rR r).2.2.2≠192/\(fE P add w i rR r).2.2.2≠31):
  tC P (eT P add P.n i (fE P add w i rR r).2.1 (fE P add w i rR r).1).T/\(eT P add P.n i (fE P add w i rR r).2.1 (fE P add w i rR r).1).aQ<=w.aQ+P.n*(512*(2+512))/\
   (eT P add P.n i (fE P add w i rR r).2.1 (fE P add w i rR r).1).count P.n+w.aQ<=w.count P.n+1+(eT P add P.n i (fE P add w i rR r).2.1 (fE P add w i rR r).1).aQ/\(fE P add w i rR r).1.count P.n<=w.count P.n+1:=by
 have a:=qS (P:=P) (add:=add) w e rR r;have d:=qC (P:=P) (add:=add) (n:=P.n) (λu v b=>(f.up u v b).2) P.n i (fE P add w i rR r).2.1 (fE P add w i rR r).1;have m:=a.2.2.1 rfl;have g:=a.2.2.2.2.1;have q:=a.2.2.2.2.2.2;have c:=d.2.2;refine⟨?_,?_,Y,Y⟩
 .cases add<;>grind [SI,GQ]
 .cases add<;>grind [Hg,MK]
theorem Eo(f:tX P sc D3):∀(l:List Nat) (w:jU),(∀i∈l,i<P.n/\(P.spec i).aG=1)->tC P w.T->
  (nH P bB l w).aQ<=w.aQ+O l*(P.n*(512*(2+512)))/\(nH P bB l w).count P.n+w.aQ<=w.count P.n+O l+(nH P bB l w).aQ/\tC P (nH P bB l w).T
 |[],w,_,h=>⟨by simp[nH],by simp[nH],h⟩
 |i::l,w,hl,h=>by
  let⟨c,d⟩:=hl i J;have ih:=λw' (q:tC P w'.T)=>Eo f l w' (λj A=>hl j (by simp[A])) q;cases m:bB i with
  |none=>
   rw[nH,m];let⟨a1,a2,a3⟩:=ih w h;simp only[TT];refine⟨?_,Y,a3⟩;rw[zo];omega
  |some x=>
   rw[nH,m];simp only;have b:=qS (P:=P) (add:=rR) w c rR x;have a:=qC (P:=P) (add:=rR) (n:=P.n) (λu v p=>(f.up u v p).2) P.n i (fE P rR w i rR x).2.1 (fE P rR w i rR x).1;have F:=b.2.2.1 rfl;have C:=b.2.2.2.2.1;have G:=b.2.2.2.2.2.2;have y:=a.2.2;have B:=MK (r:=x) f h c d;have z:tC P (eT P rR P.n i (fE P rR w i rR x).2.1 (fE P rR w i rR x).1).T:=by
    rcases(GQ (r:=x) f h c d).1 with⟨e,-⟩|⟨-,-,g,-⟩
    .rw[e,RU];exact h
    .exact g
   let⟨a1,a2,a3⟩:=ih _ z;simp only[TT];refine⟨?_,Y,a3⟩;rw[zo];omega
end
end
variable{AU:List Nat}{dv':aE}{w1:aA}
section
def pD(q:bK)(rel:dO)(i:Nat):Bool:=decide ((hJ q.aD i sT).rel=rel)
def P9:Nat:=11053057
def gj(β x:Nat):Prop:=BB β x\/x=β+6\/x=β+7
theorem gj.tr(h:gj β x):CK β x:=by
 rcases h with h|h|h
 .exact h.tr
 .unfold CK;omega
 .unfold CK;omega
theorem gj.not(h:x<β+1000)(b:x≠β+2)(d:x≠β+4)(a:x<β+100\/β+300<=x)(c:x≠β+6)(e:x≠β+7):¬gj β x:=by unfold gj BB;omega
structure aNu(w2:aA)(fD:bC)(β b ub M bu bd bt bc br:Nat)(q:bK)(cells st ls:Nat)(add:Bool)(F G:Nat)(rel:dO)(rv:aE)(r:Row)(tr:Nat)(Rg:jU×List Nat×Bool)(k:Nat)(W:aA)(pC:bC)(Wk:jU)(done:List Nat)(dv:aE):Prop where
 fK:bI w2 fD (gj β) W pC
 xI:f9 W pC β b ub M q cells st ls add Wk F G
 box:KQ W pC β b ub bu bd bt bc add rel rv dv r tr done
 eq:bX (aZ (aB q).2) add (pD q rel) (d8 q r) (List.range' k (O q.aD-k)) Wk done=Rg
 ZM:tC (aZ (aB q).2) Wk.T
 stp:Wk.aQ<=k*P9
 eG:Wk.count (O (aB q).2.aI)<=Wk.aQ
 dn:∀i∈done,i<O q.aD/\∃x,d8 q r i=H x
 dl:O done<=k
 Jf:W.heap[br]? =H (kd #[mj mn 0,mj mn 0] 38 (0,0))
 EG:pC br=β+8
theorem ju{k:Nat}(h:k<m):IF k (m-k)=k::IF (k+1) (m-(k+1)):=by
 rw[show m-k=(m-(k+1))+1 by omega];rfl
theorem aAp:IF m (m-m)=[]:=by rw[Nat.sub_self];rfl
section
variable{P:AC}{add:Bool}{jO:Nat->Bool}{bB:Nat->Option Row}{k:Nat}{l:List Nat}{w:jU}{done:List Nat}
theorem aKt(h:jO k=rR):bX P add jO bB (k::l) w done=bX P add jO bB l w done:=by rw[bX];simp[h]
theorem aKs(h:jO k=qT)(a:bB k=K):bX P add jO bB (k::l) w done=bX P add jO bB l {w with aQ:=w.aQ+1} done:=by rw[bX];simp[h,a]
theorem aGk(h:jO k=qT)(a:bB k=H r)(b:(fE P add {w with aQ:=w.aQ+1} k rR r).2.2.2=191\/(fE P add {w with aQ:=w.aQ+1} k rR r).2.2.2=192):
  bX P add jO bB (k::l) w done=bX P add jO bB l (fE P add {w with aQ:=w.aQ+1} k rR r).1 done:=by rw[bX];simp[h,a,b]
theorem aKu(h:jO k=qT)(a:bB k=H r)(b:(fE P add {w with aQ:=w.aQ+1} k rR r).2.2.2=31):
  bX P add jO bB (k::l) w done=((fE P add {w with aQ:=w.aQ+1} k rR r).1,done,qT):=by rw[bX];simp[h,a,b]
theorem aWY(h:jO k=qT)(b:bB k=H r)(c:(fE P add {w with aQ:=w.aQ+1} k rR r).2.2.2≠191)(d:(fE P add {w with aQ:=w.aQ+1} k rR r).2.2.2≠192)(a:(fE P add {w with aQ:=w.aQ+1} k rR r).2.2.2≠31):
  bX P add jO bB (k::l) w done=bX P add jO bB l (eT P add P.n k (fE P add {w with aQ:=w.aQ+1} k rR r).2.1 (fE P add {w with aQ:=w.aQ+1} k rR r).1) (done++[k]):=by rw[bX];simp[h,b,c,d,a]
theorem aGy(a:(fE P add w k sd r).2.2.2≠0):(fE P add w k sd r).1=w:=by
 unfold fE at a|-;split
 .rfl
 .rename_i h;rw[h]at a;exact dY rfl a
end
theorem aHB{P:AC}{add:Bool}{w:jU}{k:Nat}:(fE P add w k sd r).2.2.2=0\/(fE P add w k sd r).2.2.2=191\/(fE P add w k sd r).2.2.2=192\/(fE P add w k sd r).2.2.2=31:=by
 unfold fE;split
 .rename_i h;exact .inr (ZJ h)
 .exact .inl rfl
theorem En{len:Nat}(h:n<=42)(hl:len<=6):len*(n*(512*(2+512)))<=66318336:=by
 have a:n*(512*(2+512))<=11053056:=Y;exact j8 (Nat.mul_le_mul hl a) E
theorem UI{k:Nat}(h:k<=6):k*P9<=66318342:=j8 (Sq _ h) (by unfold P9;decide)
theorem KQ.aO1{w:aA}{add:Bool}{rel:dO}{tr:Nat}{done:List Nat}(h:KQ w ρ β b ub bu bd bt bc add rel rv dv r tr done)(a:bI w ρ (·=β+7) w1 dX)(q:pI fN 0 3 1 w1 dX (β+7) dv' AU):
  w1.heap[bd]? =H (kd #[dv] 50 (0,0))/\KQ (hY w1 ⟨bd,0,K⟩ dv') dX β b ub bu bd bt bc add rel rv dv' r tr AU/\bI w1 dX (·=β+6) (hY w1 ⟨bd,0,K⟩ dv') dX:=by
 have l:¬(β+6=β+7):=Y;have c:=a.aC h.xd (by rw[h.BD.2.2.2];exact l);have g:U w1 [bd] (hY w1 (Ad bd 0) dv') [bd]:=qX w1 bd 0 _;have n:=(a.cE _ (dG h.xd)).ds h.BD.2.2.2;have m:bI w1 dX (·=β+6) (hY w1 (Ad bd 0) dv') dX:=g.qO (λk p=> .inl (by rw[show k=bd by simpa using p];exact n));have ne:∀{x:Nat} {cs:Array aE} {T:ap},w1.heap[x]? =H (kd cs T (0,0))->T≠50->x∉[bd]:=λ{x cs T} hx hT hm=>by
  rw[show x=bd by simpa using hm]at hx;rw[c]at hx;have:=Option.some.inj hx;injection this with _ h2;exact hT h2.symm
 have i:=a.aC h.xu (by rw[h.BD.1];exact l);have j:=a.aC h.xt (by rw[h.BD.2.1];exact l);have d:=a.aC h.xc (by rw[h.BD.2.2.1];exact l);refine⟨c,⟨g.aC i (ne i E),g.aC j (ne j E),g.aC d (ne d E),?_,⟨(a.cE _ (dG h.xu)).ds h.BD.1,(a.cE _ (dG h.xt)).ds h.BD.2.1,(a.cE _ (dG h.xc)).ds h.BD.2.2.1,n⟩,
  (h.row.eb a (λe=>h.trn (by unfold CK;omega))).eb m (λe=>h.trn (by unfold CK;omega)),h.trn,h.R5,q.eb m Y⟩,m⟩
 rw[aF _ c];rfl
end
end Go.Proofs.YtohhhhfdpceppaaGreatDoor
