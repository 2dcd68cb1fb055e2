/- Part of the proof that the tied card of a law of the tree holds; no condition is added. -/
import Derived.Test.YtbcooplfakebmaaGreatDoorM6
namespace Go.Proofs.YtbcooplfakebmaaGreatDoor
set_option maxHeartbeats 4000000
set_option maxRecDepth 100000
set_option linter.all false
open Go.RowKit Go.Maps Go.Proofs.Tryz Tryz
open _root_.Bool renaming false→po,true→oj
open _root_.Option renaming none→K,some→H
variable{add:Bool}{c e st:Nat}{T:iX}{t1:iZ}
section
theorem ZM90{P:Prop}(h:P:=by
  let⟨a1,a2,a3,dn,a4,a5,a6,a7,a8⟩:=ih {w with aQ:=w.aQ+1} done h;exact⟨a1,a2,a3,dn,a4,a5,λj hj=>by simp[a6 j hj],a7,a8⟩):P:=h
section
variable{P:DS}{sc IS:Nat->Nat}
theorem NG:∀{xs l:List Row},l.Nodup->xs.foldl List.erase l=l.filter λx=>decide (x∉xs)
 |[],l,_=>by grind [List.filter_eq_self]
 |x::xs,l,h=>by
  rw[List.foldl_cons,NG (h.erase x),h.erase_eq_filter,List.filter_filter];congr 1;funext y;by_cases e:y=x
  .subst e;simp
  .simp[e]
theorem zJ.xD(f:wH P sc IS){T':iX}(h:zJ P T)(d:zJ P T')(u:∀v,v<P.n->(P.spec v).aG=1\/(P.spec v).aG=2\/(P.spec v).aG=3)(hl:∀v,v<P.n->(P.spec v).aG=1->∀r,r∈(T v).aI↔r∈(T' v).aI):∀v,v<P.n->∀r,r∈(T v).aI↔r∈(T' v).aI:=by
 intro v;induction v using Nat.strongRecOn with
 |ind v ih=>
  intro hv r;rcases u v hv with w|i|m
  .exact hl v hv w r
  .let⟨b,q⟩:=f.eV v hv Y;have l:=(f.up _ _ b).1;have c:=ih (sc v) l Y;have a:=h.aJ _ _ b;have e2:=d.aJ _ _ b;unfold dD at a e2;rw[bR i]at a e2;rw[(h.all v hv).MJ i,(d.all v hv).MJ i,a,e2,List.length_pos_iff_exists_mem,List.length_pos_iff_exists_mem];simp_all
  .let⟨b,q⟩:=f.eV v hv Y;let⟨p,y⟩:=f.sd v hv m;have l:=(f.up _ _ b).1;have x:=(f.up _ _ p).1;have c:=ih (sc v) l Y;have j:=ih (IS v) x Y;have a:=h.aJ _ _ b;have e2:=d.aJ _ _ b;have e:=h.aJ _ _ p;have g:=d.aJ _ _ p;unfold dD at a e2 e g;rw[bD Y,q]at a e2;rw[bD Y,y]at e g;simp only[UV,zF,uN]at a e2 e g;rw[((h.all v hv).V3 m).2.2,((d.all v hv).V3 m).2.2,a,e2,e,g,c,j]
theorem zJ.ext(f:wH P sc IS){T':iX}(h:zJ P T)(g:zJ P T')(hl:∀v,v<P.n->(T v).aI=(T' v).aI)(l:∀v,P.n<=v->T v=T' v):T=T':=by
 funext v;rcases WB v P.n with hv|hv
 .have a:=h.all v hv;have b:=g.all v hv;have e:=hl v hv;have x:(T v).cnt=(T' v).cnt:=by
   rcases Nat.decEq (P.spec v).aG 2 with i|i
   .rw[a.z2 i,b.z2 i]
   .let⟨d,q⟩:=f.eV v hv Y;have j:=h.aJ _ _ d;have e2:=g.aJ _ _ d;unfold dD at j e2;rw[bR i]at j e2;funext r;rw[j,e2,hl (sc v) (nA (f.up _ _ d).1)]
  have p:(T v).eV=(T' v).eV/\(T v).sd=(T' v).sd:=by
   rcases Nat.decEq (P.spec v).aG 3 with c|c
   .rw[(a.z3 c).1,(a.z3 c).2,(b.z3 c).1,(b.z3 c).2];exact⟨rfl,rfl⟩
   .let⟨d,q⟩:=f.eV v hv Y;let⟨m,w⟩:=f.sd v hv c;have j:=h.aJ _ _ d;have e2:=g.aJ _ _ d;have z:=h.aJ _ _ m;have y:=g.aJ _ _ m;grind [dD]
  cases u:T v<;>simp_all
 .exact l v hv
end
section
variable{P:DS}{sc IS:Nat->Nat}{hit:Nat->Bool}{rowOf:Nat->Option Row}
theorem C4(k:wH P sc IS):∀(l:List Nat) (w:kH) (done:List Nat),l.Nodup->(∀i∈l,i<P.n/\(P.spec i).aG=1/\(P.spec i).most=512)->zJ P w.T->
  zJ P (cG P oj hit rowOf l w done).1.T/\(∀v,∃new,((cG P oj hit rowOf l w done).1.T v).aI=(w.T v).aI++new)/\(∀j,P.n<=j->(cG P oj hit rowOf l w done).1.T j=w.T j)/\
  ∃dn,(cG P oj hit rowOf l w done).2.1=done++dn/\dn.Nodup/\(∀i∈dn,i∈l)/\(∀i∈dn,∃r,rowOf i=H r/\r∉(w.T i).aI/\((cG P oj hit rowOf l w done).1.T i).aI=(w.T i).aI++[r])/\
   ∀j,(P.spec j).aG=1->j∉dn->(cG P oj hit rowOf l w done).1.T j=w.T j
 |[],w,done,_,_,h=>⟨h,λv=>⟨[],by simp[cG]⟩,λ_ _=>rfl,[],by simp[cG],X,X,X,λ_ _ _=>rfl⟩
 |i::l,w,done,hd,hl,h=>by
  rw[Fa]at hd;let⟨Q,x,c⟩:=hl i X;have ih:=λ(w':kH) (Hq:List Nat) (G:zJ P w'.T)=>C4 k l w' Hq hd.2 (λj hj=>hl j (by simp[hj])) G;unfold cG;cases W:hit i with
  |false=>
   simp only[Bool.not_false,uN];let⟨a1,a2,a3,dn,a4,a5,a6,a7,a8⟩:=ih w done h;exact⟨a1,a2,a3,dn,a4,a5,λj hj=>by simp[a6 j hj],a7,a8⟩
  |true=>
   simp only[Bool.not_true,UV,zF];cases L:rowOf i with
   |none=>
    simp only;exact ZM90
   |some r=>
    simp only;have F:zJ P ({w with aQ:=w.aQ+1}:kH).T:=h;rcases nw (r:=r) k F Q x c with⟨a,e2⟩|⟨a,e2,n⟩|⟨a,e2,n,p,B,g,m,u⟩
    .rw[a];simp only[true_or,uN];exact ZM90
    .rw[a];simp only[Nat.reduceEqDiff,or_self,zF,uN];exact⟨h,λv=>⟨[],X⟩,λ_ _=>trivial,[],X,X,X,X,λ_ _ _=>trivial⟩
    .let⟨d,z⟩:=E (fU P oj {w with aQ:=w.aQ+1} i po r);rw[z]at a p B g m u;rw[z,a];rw[bD Y,bD Y];let⟨a1,a2,a3,dn,a4,a5,a6,a7,a8⟩:=ih (gF P oj P.n i d.2.1 d.1) (done++[i]) p;have b:i∉dn:=λc=>hd.1 (a6 i c);refine⟨a1,λv=> ?_,λj hj=>(a3 j hj).dd (m j hj),i::dn,by rw[a4];simp,Fa.2 ⟨b,a5⟩,λj hj=> ?_,λj hj=> ?_,λj A hj=> ?_⟩
     .let⟨R,N⟩:=a2 v;let⟨n2,S⟩:=u v;exact⟨n2++R,by rw[N,S,zcV]⟩
     .rcases AU.1 hj with rfl|hj
      .simp
      .simp[a6 j hj]
     .rcases AU.1 hj with rfl|hj
      .exact⟨r,L,e2,by rw[a8 j x b,B]⟩
      .let⟨q,f,C,y⟩:=a7 j hj;have V:j≠i:=λe=>hd.1 (e▸a6 j hj);rw[g j V (hl j (by simp[a6 j hj])).2.1]at C y;exact⟨q,f,C,y⟩
     .have hj:j≠i/\j∉dn:=eI hj;exact(a8 j A hj.2).dd (g j hj.1 A)
theorem DP(k:wH P sc IS):∀(l:List Nat) (w:kH) (done:List Nat),l.Nodup->(∀i∈l,i<P.n/\(P.spec i).aG=1)->zJ P w.T->
  zJ P (cG P po hit rowOf l w done).1.T/\(∀v,∃xs:List Row,((cG P po hit rowOf l w done).1.T v).aI=xs.foldl List.erase (w.T v).aI)/\(∀j,P.n<=j->(cG P po hit rowOf l w done).1.T j=w.T j)/\(cG P po hit rowOf l w done).2.2=po/\
   (∀j,(P.spec j).aG=1->j∉l->(cG P po hit rowOf l w done).1.T j=w.T j)/\
   ∀i∈l,((cG P po hit rowOf l w done).1.T i).aI=match (if hit i then rowOf i else K)with|some r=>(w.T i).aI.erase r|none=>(w.T i).aI
 |[],w,done,_,_,h=>⟨h,λv=>⟨[],rfl⟩,λ_ _=>rfl,rfl,λ_ _ _=>rfl,X⟩
 |i::l,w,done,hd,hl,h=>by
  rw[Fa]at hd;let⟨C,g⟩:=hl i X;have ih:=λ(w':kH) (Hq:List Nat) (L:zJ P w'.T)=>DP k l w' Hq hd.2 (λj a=>hl j (by simp[a])) L;unfold cG;cases p:hit i with
  |false=>
   simp only[Bool.not_false,uN];let⟨a1,a2,a3,a4,a5,a6⟩:=ih w done h;refine⟨a1,a2,a3,a4,λj b a=>a5 j b (λc=>a (by simp[c])),λj a=> ?_⟩;rcases AU.1 a with rfl|a
   .rw[a5 j g hd.1,p];rfl
   .exact a6 j a
  |true=>
   simp only[Bool.not_true,UV,zF];cases u:rowOf i with
   |none=>
    simp only;let⟨a1,a2,a3,a4,a5,a6⟩:=ih {w with aQ:=w.aQ+1} done h;refine⟨a1,a2,a3,a4,λj b a=>a5 j b (λc=>a (by simp[c])),λj a=> ?_⟩;rcases AU.1 a with rfl|a
    .rw[a5 j g hd.1,p,u];rfl
    .exact a6 j a
   |some r=>
    simp only;have F:zJ P ({w with aQ:=w.aQ+1}:kH).T:=h;rcases Q3 (r:=r) k F C g with⟨m,e2⟩|⟨m,e2,z,B,q,x,A⟩
    .rw[m];simp only[or_true,uN];let⟨a1,a2,a3,a4,a5,a6⟩:=ih {w with aQ:=w.aQ+1} done h;refine⟨a1,a2,a3,a4,λj b a=>a5 j b (λc=>a (by simp[c])),λj a=> ?_⟩;rcases AU.1 a with rfl|a
     .rw[a5 j g hd.1,p,u];exact(List.erase_of_not_mem e2).symm
     .exact a6 j a
    .let⟨d,y⟩:=E (fU P po {w with aQ:=w.aQ+1} i po r);rw[y]at m z B q x A;rw[y,m];rw[bD Y,bD Y];let⟨a1,a2,a3,a4,a5,a6⟩:=ih (gF P po P.n i d.2.1 d.1) (done++[i]) z;refine⟨a1,λv=> ?_,λj a=>(a3 j a).dd (x j a),a4,λj b a=> ?_,λj a=> ?_⟩
     .let⟨G,N⟩:=a2 v;let⟨n2,n⟩:=A v;exact⟨n2++G,by rw[N,n,OG]⟩
     .have a:j≠i/\j∉l:=eI a;exact(a5 j b a.2).dd (q j a.1 b)
     .rcases AU.1 a with rfl|a
      .rw[a5 j g hd.1,B,p,u];rfl
      .have f:j≠i:=λe=>hd.1 (e▸a);rw[a6 j a,q j f (hl j (by simp[a])).2]
theorem Ib(k:wH P sc IS):∀(l:List Nat) (w:kH),l.Nodup->(∀i∈l,i<P.n/\(P.spec i).aG=1)->zJ P w.T->(∀i∈l,∃r,rowOf i=H r/\r∈(w.T i).aI)->
  zJ P (mJ P rowOf l w).T/\(∀v,∃xs:List Row,((mJ P rowOf l w).T v).aI=xs.foldl List.erase (w.T v).aI)/\(∀j,P.n<=j->(mJ P rowOf l w).T j=w.T j)/\
   (∀j,(P.spec j).aG=1->j∉l->(mJ P rowOf l w).T j=w.T j)/\∀i∈l,∀r,rowOf i=H r->((mJ P rowOf l w).T i).aI=(w.T i).aI.erase r
 |[],w,_,_,h,_=>⟨h,λv=>⟨[],rfl⟩,λ_ _=>rfl,λ_ _ _=>rfl,X⟩
 |i::l,w,hd,hl,h,hr=>by
  rw[Fa]at hd;let⟨F,C⟩:=hl i X;let⟨r,b,n⟩:=hr i X;unfold mJ;rw[b];simp only;rcases Q3 (r:=r) k h F C with⟨A,e2⟩|⟨A,e2,u,B,g,m,x⟩
  .exact dS n e2
  .let⟨d,p⟩:=E (fU P po w i po r);rw[p]at A u B g m x;rw[p];have y:∀j∈l,j≠i:=λj a e=>hd.1 (e▸a);let⟨a1,a2,a3,a4,a5⟩:=Ib k l (gF P po P.n i d.2.1 d.1) hd.2 (λj a=>hl j (by simp[a])) u (λj a=>by
    let⟨q,Q,N⟩:=hr j (by simp[a]);exact⟨q,Q,g j (y j a) (hl j (by simp[a])).2▸N⟩)
   refine⟨a1,λv=> ?_,λj a=>(a3 j a).dd (m j a),λj z a=> ?_,λj a q c=> ?_⟩
   .let⟨G,f⟩:=a2 v;let⟨n2,L⟩:=x v;exact⟨n2++G,by rw[f,L,OG]⟩
   .have a:j≠i/\j∉l:=eI a;exact(a4 j z a.2).dd (g j a.1 z)
   .rcases AU.1 a with rfl|a
    .rw[b]at c;injection c with c;subst c;rw[a4 j C hd.1,B]
    .rw[a5 j a q c,g j (y j a) (hl j (by simp[a])).2]
theorem UK{l new xs:List Row}(b:(l++new).Nodup)(h:∀r,r∈xs.foldl List.erase (l++new)↔r∈l):xs.foldl List.erase (l++new)=l:=by
 rw[NG b]at h|-;rw[zdF];have e:l.filter (λx=>decide (x∉xs))=l:=List.filter_eq_self.2 λx a=>by
  have:=(h x).2 a;exact(T8.1 this).2
 have g:new.filter (λx=>decide (x∉xs))=[]:=zdE.2 λx a c=>by
  have:=(h x).1 (T8.2 ⟨EY.2 (.inr a),c⟩);exact (Iy.1 b).2.2 x this x a rfl
 rw[e,g,kn]
theorem aEb(f:wH P sc IS)(l:List Nat)(w:kH)(j:w.T=T)(hd:l.Nodup)(hl:∀i∈l,i<P.n/\(P.spec i).aG=1/\(P.spec i).most=512)(G:∀v,v<P.n->(P.spec v).aG=1\/(P.spec v).aG=2\/(P.spec v).aG=3)(h:zJ P T):
  (mJ P rowOf (cG P oj hit rowOf l w []).2.1.reverse (cG P oj hit rowOf l w []).1).T=T:=by
 subst j;let⟨a1,a2,a3,e,a4,a5,a6,a7,x⟩:=C4 (hit:=hit) (rowOf:=rowOf) f l w [] hd hl h;generalize N:cG P oj hit rowOf l w []=g at a1 a2 a3 a4 a7 x|-;rw[Bv]at a4;rw[a4];let⟨q,b2,L,z,k⟩:=Ib (rowOf:=rowOf) f e.reverse g.1 (List.nodup_iff_pairwise_ne.2 (List.pairwise_reverse.2 (a5.imp λh=>Ne.symm h))) (λi c=>by have:=hl i (a6 i (List.mem_reverse.1 c));exact⟨this.1,this.2.1⟩) a1 (λi c=>by
  let⟨r,d,p,m⟩:=a7 i (List.mem_reverse.1 c);exact⟨r,d,by rw[m];simp⟩)
 have A:∀v,v<P.n->(P.spec v).aG=1->((mJ P rowOf e.reverse g.1).T v).aI=(w.T v).aI:=λv hv b=>by
  by_cases a:v∈e
  .let⟨r,d,p,m⟩:=a7 v a;rw[k v (List.mem_reverse.2 a) r d,m,List.erase_append_right _ p];simp
  .rw[z v b (λC=>a (List.mem_reverse.1 C)),x v b a]
 refine zJ.ext f q h (λv hv=> ?_) (λv hv=>(L v hv).dd (a3 v hv));let⟨xs,u⟩:=b2 v;let⟨new,F⟩:=a2 v;have y:=(a1.all v hv).cZ;rw[F]at u y;have:=(zJ.xD f q h G (λv hv b r=>by rw[A v hv b])) v hv;rw[u]at this|-;exact UK y this
theorem v8(f:wH P sc IS){cells aD:Nat}{t:iZ}(hl:∀i,i<aD->i<P.n/\(P.spec i).aG=1/\(P.spec i).most=512)(l:∀v,v<P.n->(P.spec v).aG=1\/(P.spec v).aG=2\/(P.spec v).aG=3)(h:zJ P t.T)(a:eC P cells aD t add hit rowOf=(t1,st,c,e))(g:e≠0):t1=t/\add=oj/\(e=110\/e=201)/\st=0/\c=0:=by
 have d:∀i∈List.range aD,i<P.n/\(P.spec i).aG=1/\(P.spec i).most=512:=λi b=>hl i (yD.1 b);cases add with
 |false=>
  exfalso;obtain⟨a1,a2,a3,a4,-⟩:=DP (hit:=hit) (rowOf:=rowOf) f (List.range aD) ⟨t.T,0,λ_=>[]⟩ [] List.nodup_range (λi b=>⟨(d i b).1,(d i b).2.1⟩) h;unfold eC at a;simp only[a4,UV,zF,Bool.false_and]at a;injection a with h1 a;injection a with h2 a;injection a with h3 a;exact g a.symm
 |true=>
  have j:=aEb (hit:=hit) (rowOf:=rowOf) f (List.range aD) ⟨t.T,0,λ_=>[]⟩ rfl List.nodup_range d l h;unfold eC at a;simp only[j]at a;split at a
  .injection a with h1 a;injection a with h2 a;injection a with h3 a;exact⟨h1.symm,rfl,.inl a.symm,h2.symm,h3.symm⟩
  .split at a
   .injection a with h1 a;injection a with h2 a;injection a with h3 a;exact⟨h1.symm,rfl,.inr a.symm,h2.symm,h3.symm⟩
   .injection a with h1 a;injection a with h2 a;injection a with h3 a;exact dS a.symm g
end
section
variable{V m:Nat}{p:zY}
theorem gY.Ry(h:gY V m p):∀v,v<(bJ p).n->((bJ p).spec v).aG=1\/((bJ p).spec v).aG=2\/((bJ p).spec v).aG=3:=λv hv=>(h.below v hv).1
end
end
end Go.Proofs.YtbcooplfakebmaaGreatDoor
