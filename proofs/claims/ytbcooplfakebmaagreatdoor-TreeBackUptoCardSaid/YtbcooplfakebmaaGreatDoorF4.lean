/- Proved: the law TreeBack returns true for every query, every script and every change, and leaves its arguments as they were, where these together are of bulk at most 1048576 (the row's own bound). It holds where the package-level variable deBruijn32tab reads as the program's text lays it: the card ties that to the text. No other conditions. -/
import Derived.Test.YtbcooplfakebmaaGreatDoorM6
import Derived.Test.YtbcooplfakebmaaGreatDoorF1
namespace Go.Proofs.YtbcooplfakebmaaGreatDoor
set_option maxHeartbeats 4000000
set_option maxRecDepth 100000
set_option linter.all false
open Go.RowKit Go.Maps Go.Proofs.Tryz Tryz
open _root_.Array renaming size→hJ
open _root_.Bool renaming false→po,true→oj
open _root_.Go.Ending renaming returned→i5
open _root_.Go.IntKind renaming i64→i7
open _root_.Go.Obj renaming cells→h8
open _root_.Go.Value renaming bool→j4,int→i6,slice→hY,string→j3,tuple→i8
open _root_.Go.World renaming alloc→e8
open _root_.Inhabited renaming default→qc
open _root_.List renaming getD→ep,length→O
open _root_.Option renaming none→K,some→H
open Go renaming Value→aF
variable{sd:Bool}{c e i n st:Nat}{n':gK}{T:iX}{r:Row}{t1:iZ}
section
theorem ZM86{P:Prop}(h:P:=by
  rw[bD k1,bD k1,bD k2,bD k2];simp only[n2.mem_erase_iff];by_cases e:x=r
  .subst e;simp[h1];try omega
  .by_cases hx:x∈n.eV<;>simp[hx,e]):P:=h
theorem ZM94{P:Prop}(h:P:=by
  by_cases hx:x∈n.eV
  .by_cases e:dG x s.bK=r
   .simp[hx,e,h1]
   .by_cases hy:dG x s.bK∈n.sd<;>simp[hx,e,hy]
  .simp[hx]):P:=h
theorem ZM95{P:Prop}(h:P:=by
  injection h with h;injection h with h h';subst h h';by_cases e:x=r
  .subst e;simp[h1]
  .by_cases hx:x∈n.eV<;>simp[hx,e]):P:=h
theorem ZM141{P:Prop}(h:P:=by
  injection hc with h1 hc;injection hc with h2 hc;injection hc with h3 hc;cases hc):P:=h
section
open Go.ChangeShapes Go.WideShapes Go.ChangeAt Go.RowKit
variable{qs:Type}{enc:TypeId×aF->qs}{W:World}{eE:Nat}{v:aF}{d:DataW qs}{p:List MemPlace}
theorem aIa(b:Value.okWide prog W .any eE 35 v)(h:DataW.Trod enc prog W 0 (λ_=>oj) oj 35 v d p)(g:Rows.uptoBulk d<=1048576):∃c:Chg,v= .agg #[j4 c.add,j3 c.rel,c.rv]/\eX dR aP 3 W c.rv c.row/\AP c.row:=by
 obtain⟨cs,rfl⟩:=N8 underlying35 b;obtain⟨fuel,a⟩:=h;let⟨c,e,i,j⟩:=Rm a g;exact⟨c,aUF e,i,j⟩
end
def rF(s:mC)(n:gK)(r:Row):Nat:=
 if s.aG=1 then(if r∈n.aI then 1 else 0)else if s.aG=2 then n.cnt r else if r∈n.eV then 1+(if dG r s.bK∈n.sd then 1 else 0)else 0
theorem lj{s:mC}{n:gK}{m:SV}(h:KJ s n sd r= .ok (n',m))(x:Row):rF s n x<=rF s n' x/\(x∈m.touched↔rF s n' x≠rF s n x):=by
 unfold KJ at h;unfold rF;by_cases a:s.aG=1
 .rw[bR a]at h;rw[bR a,bR a];by_cases h1:r∈n.aI
  .rw[bR h1]at h;cases h
  .rw[bD h1]at h;split at h
   .cases h
   .injection h with h;injection h with h h';subst h h';by_cases e:x=r
    .subst e;simp[h1]
    .by_cases hx:x∈n.aI<;>simp[hx,e]
 .rw[bD a]at h;rw[bD a,bD a];by_cases k2:s.aG=2
  .rw[bR k2]at h;rw[bR k2,bR k2];split at h
   .cases h
   .split at h
    .rename_i b;split at h
     .cases h
     .injection h with h;injection h with h h';subst h h';unfold fP;by_cases e:x=dG r s.dg
      .subst e;simp[b]
      .simp[e]
    .injection h with h;injection h with h h';subst h h';unfold fP;by_cases e:x=dG r s.dg
     .subst e;simp
     .simp[e]
  .rw[bD k2]at h;rw[bD k2,bD k2];cases sd with
   |true=>
    simp only[uN]at h;by_cases h1:r∈n.sd
    .rw[bR h1]at h;cases h
    .rw[bD h1]at h;split at h
     .cases h
     .injection h with h;injection h with h h';subst h h';exact ZM94
   |false=>
    simp only[UV,zF]at h;by_cases h1:r∈n.eV
    .rw[bR h1]at h;cases h
    .rw[bD h1]at h;split at h
     .cases h
     .split at h
      .exact ZM95
      .exact ZM95
def R6(n:gK):Prop:=n.aI.Nodup/\n.eV.Nodup/\n.sd.Nodup
theorem aBi{s:mC}{n:gK}{m:SV}(d:R6 n)(h:sU s n sd r= .ok (n',m)):
  R6 n'/\∀x:Row,rF s n' x<=rF s n x/\(x∈m.touched↔rF s n' x≠rF s n x):=by
 obtain⟨a,n2,b⟩:=d;unfold sU at h;unfold rF;by_cases k1:s.aG=1
 .rw[bR k1]at h;by_cases h1:r∈n.aI
  .rw[bR h1]at h;injection h with h;injection h with h h';subst h h';refine⟨⟨a.erase _,n2,b⟩,λx=> ?_⟩;rw[bR k1,bR k1];simp only[a.mem_erase_iff];by_cases e:x=r
   .subst e;simp[h1]
   .by_cases hx:x∈n.aI<;>simp[hx,e]
  .rw[bD h1]at h;cases h
 .rw[bD k1]at h;by_cases k2:s.aG=2
  .rw[bR k2]at h;by_cases c:n.cnt (dG r s.dg)=0
   .rw[bR c]at h;cases h
   .rw[bD c]at h;split at h
    .rename_i h1;injection h with h;injection h with h h';subst h h';refine⟨⟨a.erase _,n2,b⟩,λx=> ?_⟩;rw[bD k1,bD k1,bR k2,bR k2];unfold fP;by_cases e:x=dG r s.dg
     .subst e;simp[h1]
     .simp[e]
    .injection h with h;injection h with h h';subst h h';refine⟨⟨a,n2,b⟩,λx=> ?_⟩;rw[bD k1,bD k1,bR k2,bR k2];unfold fP;by_cases e:x=dG r s.dg
     .subst e;simp;omega
     .simp[e]
  .rw[bD k2]at h;cases sd with
   |true=>
    simp only[uN]at h;by_cases h1:r∈n.sd
    .rw[bR h1]at h;injection h with h;injection h with h h';subst h h';refine⟨⟨vX a,n2,b.erase _⟩,λx=> ?_⟩;rw[bD k1,bD k1,bD k2,bD k2];simp only[b.mem_erase_iff];exact ZM94
    .rw[bD h1]at h;cases h
   |false=>
    simp only[UV,zF]at h;by_cases h1:r∈n.eV
    .rw[bR h1]at h;split at h
     .injection h with h;injection h with h h';subst h h';refine⟨⟨a.erase _,n2.erase _,b⟩,λx=> ?_⟩;exact ZM86
     .injection h with h;injection h with h h';subst h h';refine⟨⟨a,n2.erase _,b⟩,λx=> ?_⟩;exact ZM86
    .rw[bD h1]at h;cases h
theorem PV:∀(t l:List Row) (x:Row),x∈dO l t↔x∈l\/x∈t
 |[],l,x=>by simp[dO]
 |y::t,l,x=>by
  have ih:=PV t (if y∈l then l else l++[y]) x;unfold dO at ih|-;rw[List.foldl_cons,ih];by_cases a:y∈l
  .rw[bR a];constructor
   .rintro(h|h)
    .exact .inl h
    .exact .inr (by simp[h])
   .rintro(h|h)
    .exact .inl h
    .rcases AU.1 h with rfl|h
     .exact .inl a
     .exact .inr h
  .rw[bD a];simp only[EY,AU,List.not_mem_nil,or_false];constructor
   .rintro((h|h)|h)
    .exact .inl h
    .exact .inr (.inl h)
    .exact .inr (.inr h)
   .rintro(h|h|h)
    .exact .inl (.inl h)
    .exact .inl (.inr h)
    .exact .inr h
theorem KL:∀(t l:List Row),l.Nodup->(dO l t).Nodup
 |[],l,h=>h
 |y::t,l,h=>by
  have ih:=KL t (if y∈l then l else l++[y]) (by
   split
   .exact h
   .rename_i d;rw[Iy];exact⟨h,X,λa ha b c e=>by simp at c;subst c;subst e;exact d ha⟩)
  unfold dO at ih|-;rw[List.foldl_cons];exact ih
structure uI(P:DS)(add:Bool)(T0:iX)(w:kH):Prop where
 nd:∀i,i<P.n->(w.touched i).Nodup
 free:add=po->∀i,i<P.n->R6 (w.T i)
 up:add=oj->∀i,i<P.n->∀x,rF (P.spec i) (T0 i) x<=rF (P.spec i) (w.T i) x
 dn:add=po->∀i,i<P.n->∀x,rF (P.spec i) (w.T i) x<=rF (P.spec i) (T0 i) x
 iff:∀i,i<P.n->∀x,x∈w.touched i↔rF (P.spec i) (w.T i) x≠rF (P.spec i) (T0 i) x
section
variable{P:DS}{add:Bool}{T0:iX}
theorem uI.aQ{w:kH}(h:uI P add T0 w)(k:Nat):uI P add T0 {w with aQ:=k}:=⟨h.nd,h.free,h.up,h.dn,h.iff⟩
theorem uI.fU{w:kH}(h:uI P add T0 w)(aU:Nat)(sd:Bool)(r:Row):uI P add T0 (fU P add w aU sd r).1:=by
 unfold Go.Proofs.YtbcooplfakebmaaGreatDoor.fU;cases b:jA add (P.spec aU) (w.T aU) sd r with
 |error e=>exact h
 |ok d=>
  obtain⟨n',m⟩:=d;dsimp only;have gH:aU<P.n->(add=po->R6 n')/\∀x,(add=oj->rF (P.spec aU) (w.T aU) x<=rF (P.spec aU) n' x)/\(add=po->rF (P.spec aU) n' x<=rF (P.spec aU) (w.T aU) x)/\(x∈m.touched↔rF (P.spec aU) n' x≠rF (P.spec aU) (w.T aU) x):=λc=>by
   unfold jA at b;cases add with
   |true=>
    rw[bR rfl]at b;exact⟨λe=>(by cases e),λx=>⟨λ_=>(lj b x).1,λe=>(by cases e),(lj b x).2⟩⟩
   |false=>
    rw[bD D]at b;have:=aBi (h.free rfl aU c) b;exact⟨λ_=>this.1,λx=>⟨λe=>(by cases e),λ_=>(this.2 x).1,(this.2 x).2⟩⟩
  refine⟨λi a=> ?_,λha i a=> ?_,λha i a x=> ?_,λha i a x=> ?_,λi a x=> ?_⟩
  .dsimp only;by_cases e:i=aU
   .rw[bR e];subst e;exact KL _ _ (h.nd i a)
   .rw[bD e];exact h.nd i a
  .dsimp only;by_cases e:i=aU
   .subst e;rw[kZ];exact(gH a).1 ha
   .rw[nX _ _ e];exact h.free ha i a
  .dsimp only;by_cases e:i=aU
   .subst e;rw[kZ];exact jN (h.up ha i a x) (((gH a).2 x).1 ha)
   .rw[nX _ _ e];exact h.up ha i a x
  .dsimp only;by_cases e:i=aU
   .subst e;rw[kZ];exact jN (((gH a).2 x).2.1 ha) (h.dn ha i a x)
   .rw[nX _ _ e];exact h.dn ha i a x
  .dsimp only;by_cases e:i=aU
   .subst e;rw[kZ,bR rfl,PV,h.iff i a x,((gH a).2 x).2.2];cases add with
    |true=>
     have g:=h.up rfl i a x;have j:=((gH a).2 x).1 rfl;omega
    |false=>
     have g:=h.dn rfl i a x;have j:=((gH a).2 x).2.1 rfl;omega
   .rw[nX _ _ e,bD e];exact h.iff i a x
theorem uI.jK{aU:Nat}:∀(l:List Row) (w:kH) (next:List Row),uI P add T0 w->uI P add T0 (jK P add aU sd l w next).1
 |[],_,_,h=>h
 |r::l,w,next,h=>by
  unfold Go.Proofs.YtbcooplfakebmaaGreatDoor.jK;exact uI.jK l _ _ ((h.fU aU sd r).aQ _)
theorem uI.gF:∀(f aU:Nat) (l:List Row) (w:kH),uI P add T0 w->uI P add T0 (gF P add f aU l w)
 |0,_,_,_,h=>h
 |f+1,aU,l,w,h=>by
  unfold Go.Proofs.YtbcooplfakebmaaGreatDoor.gF;split
  .exact h
  .split
   .exact h
   .exact uI.gF f _ _ _ (uI.jK _ _ _ h)
theorem uI.aD{hit:Nat->Bool}{rowOf:Nat->Option Row}:∀(l:List Nat) (w:kH) (done:List Nat),uI P add T0 w->uI P add T0 (cG P add hit rowOf l w done).1
 |[],w,done,h=>h
 |i::l,w,done,h=>by
  unfold cG;split
  .exact uI.aD l w done h
  .dsimp only;split
   .exact uI.aD l _ done (h.aQ _)
   .split
    .exact uI.aD l _ done ((h.aQ _).fU i po _)
    .split
     .exact(h.aQ _).fU i po _
     .exact uI.aD l _ _ (uI.gF _ _ _ _ ((h.aQ _).fU i po _))
end
theorem sI{P:DS}{add:Bool}{hit:Nat->Bool}{rowOf:Nat->Option Row}:∀(l:List Nat) (w:kH) (done:List Nat),∀i∈(cG P add hit rowOf l w done).2.1,i∈done\/hit i=oj
 |[],w,done,i,hi=> .inl hi
 |j::l,w,done,i,hi=>by
  unfold cG at hi;split at hi
  .exact sI l w done i hi
  .rename_i a;have a:hit j=oj:=eI a;dsimp only at hi;split at hi
   .exact sI l _ done i hi
   .split at hi
    .exact sI l _ done i hi
    .split at hi
     .exact .inl hi
     .rcases sI l _ _ i hi with h|h
      .rcases EY.1 h with h|h
       .exact .inl h
       .have:i=j:=eI h;exact .inr (this▸a)
      .exact .inr h
theorem Qh:∀(l:List Nat),(∀x∈l,x=0)->l.sum=0
 |[],_=>rfl
 |x::l,h=>by rw[List.sum_cons,h x X,Qh l (λy a=>h y (by simp[a]))]
theorem Uy{w w':kH}(h:∀i,i<n->O (w.touched i)=O (w'.touched i)):w.count n=w'.count n:=by
 unfold kH.count;congr 1;exact List.map_congr_left λi a=>h i (yD.1 a)
section
variable{P:DS}{sc IS:Nat->Nat}{hit:Nat->Bool}{rowOf:Nat->Option Row}
theorem ZX(qs:wH P sc IS){T':iX}(e:∀v,v<P.n->(P.spec v).aG=1\/(P.spec v).aG=2\/(P.spec v).aG=3)(h:zJ P T)(a:zJ P T')(g:∀v,∃new,(T' v).aI=(T v).aI++new)(hl:∀v,v<P.n->(P.spec v).aG=1->(T' v).aI=(T v).aI)(i:∀v,P.n<=v->T' v=T v):T'=T:=by
 refine zJ.ext qs a h (λv hv=> ?_) i;let⟨new,b⟩:=g v;have c:=(a.all v hv).cZ;rw[b]at c|-;cases new with
 |nil=>simp
 |cons x new=>
  have:=((zJ.xD qs a h e (λv hv d r=>by rw[hl v hv d])) v hv x).1 (by rw[b];simp);exact dS rfl ((Iy.1 c).2.2 x this x X)
theorem zJ.free(h:zJ P T):∀i,i<P.n->R6 (T i):=λi c=>by
 have a:=h.all i c;rcases Nat.decEq (P.spec i).aG 3 with b|b
 .exact⟨a.cZ,(a.z3 b).1▸List.nodup_nil,(a.z3 b).2▸List.nodup_nil⟩
 .exact⟨a.cZ,(a.V3 b).1,(a.V3 b).2.1⟩
theorem uI.start{add:Bool}(h:add=po->zJ P T):uI P add T ⟨T,0,λ_=>[]⟩:=
 ⟨λ_ _=>List.nodup_nil,λha i a=>(h ha).free i a,λ_ _ _ _=>fV _,λ_ _ _ _=>fV _,λ_ _ x=>X⟩
theorem KP{w:kH}(h:w.count n=0)(a:i<n):w.touched i=[]:=by
 have:=w.YD a;exact Pk.1 Y
theorem G1(qs:wH P sc IS){cells aD:Nat}{t:iZ}(hl:∀i,i<aD->i<P.n/\(P.spec i).aG=1/\(P.spec i).most=512)(c:∀v,v<P.n->(P.spec v).aG=1\/(P.spec v).aG=2\/(P.spec v).aG=3)(h:zJ P t.T)(hc:eC P cells aD t oj hit rowOf=(t1,st,0,e)):t1.T=t.T:=by
 by_cases b:e=0
 .subst b;have w:∀i∈List.range aD,i<P.n/\(P.spec i).aG=1/\(P.spec i).most=512:=λi m=>hl i (yD.1 m);let⟨a1,a2,a3,p,a4,a5,a6,a7,l⟩:=C4 (hit:=hit) (rowOf:=rowOf) qs (List.range aD) ⟨t.T,0,λ_=>[]⟩ [] List.nodup_range w h;have j:=uI.aD (hit:=hit) (rowOf:=rowOf) (List.range aD) _ [] (uI.start (P:=P) (T:=t.T) (add:=oj) (λe=>by cases e));unfold eC at hc;simp only at hc;generalize y:cG P oj hit rowOf (List.range aD) ⟨t.T,0,λ_=>[]⟩ []=g at a1 a2 a3 a4 a7 l j hc;split at hc
  .exact ZM141
  .split at hc
   .exact ZM141
   .injection hc with h1 hc;injection hc with h2 hc;injection hc with h3 hc;rw[<-h1];refine ZX qs c h a1 a2 (λv hv a=> ?_) a3;by_cases d:v∈p
    .exfalso;let⟨r,x,q,u⟩:=a7 v d;have:=(j.iff v hv r).2 (by
      unfold rF;rw[bR a,bR a,bD q,bR (by rw[u];simp)];decide)
     rw[KP h3 hv]at this;cases this
    .exact wJ gK.aI (l v a d)
 .rw[(v8 qs hl c h hc b).1]
theorem Vd(qs:wH P sc IS){cells aD:Nat}{t:iZ}(hl:∀i,i<aD->i<P.n/\(P.spec i).aG=1/\(P.spec i).most=512)(B:∀v,v<P.n->(P.spec v).aG=1\/(P.spec v).aG=2\/(P.spec v).aG=3)(h:zJ P t.T)(FO:(∃i,i<aD/\hit i=oj/\∃r,rowOf i=H r/\r∉(t.T i).aI)->∀i,i<aD->hit i=oj->∀r,rowOf i=H r->r∉(t.T i).aI)(hc:eC P cells aD t oj hit rowOf=(t1,st,c,0))(h0:c≠0):∃G,eC P cells aD t1 po hit rowOf=({T:=t.T,state:=t1.fX+1,fX:=t1.fX+1},G,c,0):=by
 have TY:=λe=>G1 (e:=0) (st:=st) (t1:=t1) qs hl B h (show eC P cells aD t oj hit rowOf=(t1,st,0,0)from e);have S:∀i∈List.range aD,i<P.n/\(P.spec i).aG=1/\(P.spec i).most=512:=λi b=>hl i (yD.1 b);let⟨a1,a2,a3,N,a4,a5,a6,a7,u⟩:=C4 (hit:=hit) (rowOf:=rowOf) qs (List.range aD) ⟨t.T,0,λ_=>[]⟩ [] List.nodup_range S h;have q:=uI.aD (hit:=hit) (rowOf:=rowOf) (List.range aD) _ [] (uI.start (P:=P) (T:=t.T) (add:=oj) (λe=>by cases e));have w:=sI (P:=P) (add:=oj) (hit:=hit) (rowOf:=rowOf) (List.range aD) ⟨t.T,0,λ_=>[]⟩ [];unfold eC at hc;simp only at hc;generalize hg:cG P oj hit rowOf (List.range aD) ⟨t.T,0,λ_=>[]⟩ []=g at a1 a2 a3 a4 a7 u q hc w;rw[Bv]at a4;rw[a4]at w;split at hc
 .exact ZM141
 .split at hc
  .exact ZM141
  .injection hc with h1 hc;injection hc with h2 hc;injection hc with h3 hc;have uX:t1.T=g.1.T:=by rw[<-h1]
   have p:∀i,i<aD->hit i=oj->∀r,rowOf i=H r->r∉(t.T i).aI:=by
    cases N with
    |nil=>
     exfalso;have hs:g.1.T=t.T:=ZX qs B h a1 a2 (λv hv d=>by rw[u v d X]) a3;refine h0 ?_;rw[<-h3];unfold kH.count;refine Qh _ λx L=> ?_;obtain⟨i,b,rfl⟩:=BB.1 L;rw[Pk];refine List.eq_nil_iff_forall_not_mem.2 λx L=> ?_;have:=(q.iff i (yD.1 b) x).1 L;rw[hs]at this;exact this rfl
    |cons i N=>
     obtain⟨r,y,k,-⟩:=a7 i X;exact FO ⟨i,yD.1 (a6 i X),(w i X).resolve_left X,r,y,k⟩
   let⟨A,b2,b3,b4,V,b6⟩:=DP (hit:=hit) (rowOf:=rowOf) qs (List.range aD) ⟨g.1.T,0,λ_=>[]⟩ [] List.nodup_range (λi b=>⟨(S i b).1,(S i b).2.1⟩) a1;have F:=uI.aD (hit:=hit) (rowOf:=rowOf) (List.range aD) _ [] (uI.start (P:=P) (T:=g.1.T) (add:=po) (λ_=>a1));generalize hf:cG P po hit rowOf (List.range aD) ⟨g.1.T,0,λ_=>[]⟩ []=f at A b2 b3 b4 V b6 F;have oz:∀v,v<P.n->(P.spec v).aG=1->(f.1.T v).aI=(t.T v).aI:=λv hv d=>by
    by_cases m:v∈List.range aD
    .have a:=b6 v m;by_cases j:v∈N
     .let⟨r,y,k,r3⟩:=a7 v j;rw[(w v j).resolve_left X,y]at a;simp only[uN]at a;rw[a,r3,List.erase_append_right _ k];simp
     .have z:=u v d j;cases n:hit v with
      |false=>rw[n]at a;simp only[UV,zF]at a;rw[a,z]
      |true=>
       rw[n]at a;cases C:rowOf v with
       |none=>rw[C]at a;simp only[uN]at a;rw[a,z]
       |some r=>
        rw[C]at a;simp only[uN]at a;rw[a,z];exact List.erase_of_not_mem (p v (yD.1 m) n r C)
    .rw[V v d m,u v d (λj=>m (a6 v j))]
   have l:f.1.T=t.T:=zJ.ext qs A h (λv hv=>by
    let⟨xs,R⟩:=b2 v;let⟨new,p⟩:=a2 v;have W:=(a1.all v hv).cZ;dsimp only at R p;rw[p]at R W;have:=(zJ.xD qs A h B (λv hv d r=>by rw[oz v hv d])) v hv;rw[R]at this|-;exact UK W this) (λv hv=>(b3 v hv).dd (a3 v hv))
   have Q:f.1.count P.n=c:=by
    rw[<-h3];refine Uy λi b=>List.Perm.length_eq ?_;rw[List.perm_ext_iff_of_nodup (F.nd i b) (q.nd i b)];intro x;rw[F.iff i b x,q.iff i b x,l];exact ne_comm
   refine⟨f.1.aQ,?_⟩;unfold eC;simp only;rw[uX,hf,b4,l,Q];simp
end
end
variable{add:Bool}{q:bB}{r':Row}
section
def Fq(a:oL)(m:Row)(t:jF):MU:=if t.var=bO then t.vY else ep m ((bY a).idxOf t.var) aP
theorem DG{a:oL}:∀(n k:Nat) (xs out m:Row),O a.aS-k=n->k+O xs=O a.aS->O out=O (bC (a.aS.take k) [])->jY (bY a) (a.aS.drop k) xs out=H m->
  (∃tl,m=out++tl)/\xs=(a.aS.drop k).map (Fq a m)
 |0,k,xs,out,m,hn,hl,ho,h=>by
  have hd:a.aS.drop k=[]:=j7 List.drop_eq_nil_iff;rw[hd]at h|-;unfold jY at h;cases h
  have:xs=[]:=Pk.1 Y;exact⟨⟨[],X⟩,by rw[this];rfl⟩
 |n+1,k,xs,out,m,hn,hl,ho,h=>by
  have i:k<O a.aS:=Y;rw[zbM i]at h|-;generalize p:a.aS[k]=t at h|-;let⟨l,j⟩:=YM i p;cases xs with
  |nil=>simp at hl;omega
  |cons x xs=>
   simp only[T9]at hl;unfold jY at h;split at h
   .rename_i hv;split at h
    .rename_i e;let⟨b,c⟩:=DG n (k+1) xs out m Y Y (l hv▸ho) h;refine⟨b,?_⟩;rw[UU,<-c];congr 1;unfold Fq;rw[bR hv,e]
    .cases h
   .rename_i hv;rcases j hv with⟨g,d⟩|⟨g,d⟩
    .rw[bD Y]at h;split at h
     .rename_i e;let⟨⟨tl,b⟩,c⟩:=DG n (k+1) xs out m Y Y (d▸ho) h;refine⟨⟨tl,b⟩,?_⟩;rw[UU,<-c];congr 1;unfold Fq;rw[bD hv,b,iB,zbE Y,<-iB,e]
     .cases h
    .rw[bR Y]at h;let⟨⟨tl,b⟩,c⟩:=DG n (k+1) xs (out++[x]) m Y Y (by rw[d,F5,ho];rfl) h;refine⟨⟨x::tl,by rw[b];simp⟩,?_⟩;rw[UU,<-c];congr 1;unfold Fq;rw[bD hv,b,g,<-ho,zcV,iB,List.getElem?_append_right Y];simp
theorem TQ{a:oL}{m:Row}(h:AH a r=H m):r=a.aS.map (Fq a m):=by
 unfold AH at h;split at h
 .rename_i hl;exact(DG (O a.aS) 0 r [] m Y Y rfl h).2
 .cases h
theorem uu(g:(aB q).1=0)(p:O (vars q)<=30)(c:i<O q.aD){a:oL}(ha:q.aD[i]=a){s:dU}(hs:s∈bY a):(bY a).idxOf s∈oQ (aB q).2 a i:=by
 have n:i<O (aJ q):=by unfold aJ;simpa using c
 let⟨l,m⟩:=KG g n;have d:s∈vars q:=Rs.2 ⟨a,ha▸kt c,hs⟩;have e:=List.idxOf_lt_length_of_mem d;have b:ep (vars q) ((vars q).idxOf s) bO=s:=by
  rw[iB,kX e];simp
 unfold oQ;refine BB.2 ⟨(vars q).idxOf s,?_,by rw[m,b]⟩;rw[l,mG];refine⟨Y,?_⟩;have j:ep (aJ q) i 0=sV (vars q) (bY a):=by
  unfold aJ;rw[iB,Pm,kX c,ha];rfl
 rw[j,rD,b];simp[e,hs]
theorem Dr(g:(aB q).1=0)(n:O (vars q)<=30)(e:i<O q.aD){a:oL}(ha:q.aD[i]=a){x:Row}(h:kA (aB q).2 a i r=H x)(b:kA (aB q).2 a i r'=H x):r=r':=by
 unfold kA at h b;split at h
 .cases h
 .rename_i m j;split at h
  .split at b
   .cases b
   .rename_i m' d;split at b
    .injection h with h;injection b with b;have c:=h.dd b.symm;unfold dG at c;rw[TQ j,TQ d];refine List.map_congr_left λt l=> ?_;unfold Fq;by_cases hv:t.var=bO
     .rw[bR hv,bR hv]
     .rw[bD hv,bD hv];exact (List.map_inj_left.1 c) _ (uu g n e ha (tG.2 (.inr ⟨t,l,hv,rfl⟩)))
    .cases b
  .cases h
def Ey(n:Nat)(rel:Nat->dU)(rowOf:Row->Nat->Option Row)(T:iX):Prop:=∃bBN:dU->Row->Prop,∀i,i<n->∀x,x∈(T i).aI↔∃r,bBN (rel i) r/\rowOf r i=H x
theorem Ey.start(n:Nat)(rel:Nat->dU)(rowOf:Row->Nat->Option Row)(h:∀i,(T i).aI=[]):Ey n rel rowOf T:=⟨λ_ _=>False,λi _ x=>by simp[h i]⟩
section
variable{P:DS}{sc IS:Nat->Nat}{n:Nat}{rel:Nat->dU}{rowOf:Row->Nat->Option Row}
theorem Ey.FO(hd:Ey n rel rowOf T)(b:∀i,i<n->∀r r' x,rowOf r i=H x->rowOf r' i=H x->r=r')(c:dU)(r:Row):
  (∃i,i<n/\decide (rel i=c)=oj/\∃x,rowOf r i=H x/\x∉(T i).aI)->∀i,i<n->decide (rel i=c)=oj->∀x,rowOf r i=H x->x∉(T i).aI:=by
 rintro⟨i,l,w,x,u,A⟩ j g d y m p;obtain⟨bBN,e⟩:=hd;let⟨r',z,a⟩:=(e j g y).1 p;obtain rfl:=b j g _ _ _ a m;have q:rel i=c:=eI w;have v:rel j=c:=eI d;exact A ((e i l x).2 ⟨r',by rw[q,<-v];exact z,u⟩)
theorem Ey.change(qs:wH P sc IS){cells:Nat}{t:iZ}{cnt:Nat}{c:dU}(hl:∀i,i<n->i<P.n/\(P.spec i).aG=1/\(P.spec i).most=512)(w:∀v,v<P.n->(P.spec v).aG=1\/(P.spec v).aG=2\/(P.spec v).aG=3)(h:zJ P t.T)(C:∀i,i<n->∀r r' x,rowOf r i=H x->rowOf r' i=H x->r=r')(hd:Ey n rel rowOf t.T)(hc:eC P cells n t add (λi=>decide (rel i=c)) (rowOf r)=(t1,st,cnt,e)):Ey n rel rowOf t1.T:=by
 by_cases L:e=0
 .subst L;obtain⟨bBN,q⟩:=hd;have p:∀i∈List.range n,i<P.n/\(P.spec i).aG=1/\(P.spec i).most=512:=λi a=>hl i (yD.1 a);have G:=zV (P:=P) (add:=add) (hit:=λi=>decide (rel i=c)) (rowOf:=rowOf r) (λi j w=>qs.leaf w j) (List.range n) ⟨t.T,0,λ_=>[]⟩ [] List.nodup_range (λi a=>(p i a).2.1) (λi a=>(h.all i (p i a).1).cZ);unfold eC at hc;simp only at hc;cases add with
  |true=>
   let⟨a1,a2,a3,dn,a4,a5,a6,a7,f⟩:=C4 (hit:=λi=>decide (rel i=c)) (rowOf:=rowOf r) qs (List.range n) ⟨t.T,0,λ_=>[]⟩ [] List.nodup_range p h;have F:=sI (P:=P) (add:=oj) (hit:=λi=>decide (rel i=c)) (rowOf:=rowOf r) (List.range n) ⟨t.T,0,λ_=>[]⟩ [];generalize S:cG P oj (λi=>decide (rel i=c)) (rowOf r) (List.range n) ⟨t.T,0,λ_=>[]⟩ []=g at a1 a2 a3 a4 a7 f F hc G;rw[Bv]at a4;rw[a4]at F;split at hc
   .exact ZM141
   .rename_i wV;split at hc
    .exact ZM141
    .injection hc with h1 hc;have A:t1.T=g.1.T:=by rw[<-h1]
     have gH:∀i,i<n->∀x,x∈(t1.T i).aI↔x∈(t.T i).aI\/(rel i=c/\rowOf r i=H x):=λi a x=>by
      rw[A];by_cases u:i∈dn
      .let⟨y,W,y2,R⟩:=a7 i u;have l:rel i=c:=by simpa using(F i u).resolve_left X
       rw[R,W,EY];simp only[Yj,Option.some.injEq];exact or_congr Iff.rfl ⟨λe=>⟨l,e.symm⟩,λe=>e.2.symm⟩
      .have k:=f i (hl i a).2.1 u;constructor
       .intro m;rw[k]at m;exact .inl m
       .rintro(m|⟨m,hy⟩)
        .rw[k];exact m
        .have:=((G (eI wV)).1) i (yD.2 a) (eI m) x hy;simpa[ME]using this
     refine⟨λs r'=>bBN s r'\/(s=c/\r'=r),λi a x=> ?_⟩;rw[gH i a x,q i a x];constructor
     .rintro(⟨r',d,e⟩|⟨B,e2⟩)
      .exact⟨r',.inl d,e⟩
      .exact⟨r,.inr ⟨B,rfl⟩,e2⟩
     .rintro⟨r',d|⟨B,rfl⟩,e⟩
      .exact .inl ⟨r',d,e⟩
      .exact .inr ⟨B,e⟩
  |false=>
   let⟨V,b2,b3,N,b5,b6⟩:=DP (hit:=λi=>decide (rel i=c)) (rowOf:=rowOf r) qs (List.range n) ⟨t.T,0,λ_=>[]⟩ [] List.nodup_range (λi a=>⟨(p i a).1,(p i a).2.1⟩) h;generalize S:cG P po (λi=>decide (rel i=c)) (rowOf r) (List.range n) ⟨t.T,0,λ_=>[]⟩ []=g at V b2 b3 N b5 b6 hc;rw[N]at hc;simp only[UV,zF,Bool.false_and]at hc;injection hc with h1 hc;have A:t1.T=g.1.T:=by rw[<-h1]
   refine⟨λs r'=>bBN s r'/\¬(s=c/\r'=r),λi a x=> ?_⟩;rw[A,b6 i (yD.2 a)];by_cases l:rel i=c
   .rw[show decide (rel i=c)=oj from by simpa using l];simp only[uN];cases z:rowOf r i with
    |none=>
     dsimp only;rw[q i a x];refine exists_congr λr'=> ?_;constructor
     .rintro⟨d,e⟩;exact⟨⟨d,λ⟨_,b⟩=>by rw[b,z]at e;cases e⟩,e⟩
     .rintro⟨⟨d,_⟩,e⟩;exact⟨d,e⟩
    |some x0=>
     dsimp only;rw[(h.all i (hl i a).1).cZ.mem_erase_iff,q i a x];constructor
     .rintro⟨dW,r',d,e⟩;exact⟨r',⟨d,λ⟨_,b⟩=>by rw[b,z]at e;injection e with e;exact dW e.symm⟩,e⟩
     .rintro⟨r',⟨d,hn⟩,e⟩;exact⟨λb=>hn ⟨l,C i a _ _ _ e (b▸z)⟩,r',d,e⟩
   .rw[show decide (rel i=c)=po from by simpa using l];simp only[UV,zF];rw[q i a x];refine exists_congr λr'=> ?_;constructor
    .rintro⟨d,e⟩;exact⟨⟨d,λ⟨b,_⟩=>l b⟩,e⟩
    .rintro⟨⟨d,_⟩,e⟩;exact⟨d,e⟩
 .rw[(v8 qs hl w h hc L).1];exact hd
end
end
variable{ps:List (dU×aF)}{b β:Nat}{ρ:aW}{R2:iZ×Nat×Nat×Nat}{av hv rv sv:aF}{w w':World}
section
section
variable{q:bB}{cells:Nat}{t:iZ}{add:Bool}{rel:dU}{r:Row}{R:iZ×Nat×Nat×Nat}
def DbT(q:bB)(T:iX):Prop:=Ey (O q.aD) (λi=>(ep q.aD i qc).rel) (λr i=>dQ q r i) T
theorem Qu(b:qm q):∀i,i<O q.aD->∀r r' x,dQ q r i=H x->dQ q r' i=H x->r=r':=λi c r r' x h a=>by
 unfold dQ at h a;rw[iB,kX c,NQ]at h a;exact Dr b.aLk b.wide c rfl h a
theorem aGR(a:qm q)(h:zJ (bJ (aB q).2) t.T)(hd:DbT q t.T)(b:eC (bJ (aB q).2) cells (O q.aD) t add (jC q rel) (dQ q r)=R):DbT q R.1.T:=by
 obtain⟨t1,st,c,e⟩:=R;exact Ey.change a.oJ a.wf.cN a.wf.Ry h (Qu a) hd b
theorem rr(a:qm q)(h:zJ (bJ (aB q).2) t.T)(d:eC (bJ (aB q).2) cells (O q.aD) t oj (jC q rel) (dQ q r)=R)(b:R.2.2.2≠0\/R.2.2.1=0):R.1.T=t.T:=by
 obtain⟨t1,st,c,e⟩:=R;rcases b with b|b
 .exact wJ iZ.T (v8 a.oJ a.wf.cN a.wf.Ry h d b).1
 .dsimp only at b;subst b;exact G1 a.oJ a.wf.cN a.wf.Ry h d
theorem rt(a:qm q)(h:zJ (bJ (aB q).2) t.T)(hd:DbT q t.T)(g:eC (bJ (aB q).2) cells (O q.aD) t oj (jC q rel) (dQ q r)=R)(d:R.2.2.2=0)(i:R.2.2.1≠0):
  ∃b,eC (bJ (aB q).2) cells (O q.aD) R.1 po (jC q rel) (dQ q r)=({T:=t.T,state:=R.1.fX+1,fX:=R.1.fX+1},b,R.2.2.1,0):=by
 obtain⟨t1,st,c,e⟩:=R;dsimp only at d;subst d;exact Vd a.oJ a.wf.cN a.wf.Ry h (hd.FO (Qu a) rel r) g i
theorem aOT{qs:Nat}{cells N:Nat}{t2:iZ}{e:Ending}(a:R2=(t2,qs,c,0))(h:SW w ρ β b q cells N R2 e w'):
  ∃bN,e=i5 (i8 #[.agg #[i6 i7 (qs:Int),i6 i7 (c:Int)],i6 i7 0])/\bA w ρ (jl β) w' bN/\wG w' bN β b q cells t2 (N+1) (N+1):=by
 subst a;exact h
theorem db0(q:bB):DbT q TD.T:=Ey.start _ _ _ λi=>rfl
end
theorem aEa{q:bB}{add:Bool}{rel:dU}(h:B9 w hv av ps q)(hw:Tz w)(he:kS q 65536≠0)(v:∃a n c,rv=hY a n c):
  Calls prog 5 #[.agg #[j3 q.name,hv,av],sv,.agg #[j4 add,j3 rel,rv]] w λe w'=>e=i5 (j4 oj)/\U w [] w' []:=by
 obtain⟨z,x,rc,rfl⟩:=v;obtain⟨ha,l,rfl,-⟩:=h.head.len;obtain⟨j,d,rfl,-⟩:=h.aD.len;rw[h.len]at h|-;let⟨wq,i⟩:=E (e8 w (h8 #[j3 q.name,hY ha (O q.head) l,hY j (O q.aD) d] 25));let⟨wa,m⟩:=E (e8 wq (h8 #[j4 add,j3 rel,hY z x rc] 35));let⟨r,p⟩:=E (hJ w.heap);let⟨bc,u⟩:=E (hJ wq.heap);have g:=Za m;have cR:=(Za i).dd g;have kB:rW wa r #[j3 q.name,hY ha (O q.head) l,hY j (O q.aD) d] 25:=g.aC (by rw[<-i,<-p];exact lK w _) X;have A:=Ze m u;exact ZM55
theorem aI8{q:bB}{cs:List Chg}{add:Bool}{rel:dU}{r:Row}(h:B9 w hv av ps q)(hs:LN w sv cs)(hw:Tz w)(h0:(aB q).1=0)(b:eX dR aP 3 w rv r)(B:AP r):
  Calls prog 5 #[.agg #[j3 q.name,hv,av],sv,.agg #[j4 add,j3 rel,rv]] w λe w'=>e=i5 (j4 oj)/\U w [] w' []:=by
 obtain⟨sa,sc,rfl,-⟩:=hs.rd.len;obtain⟨ra,rc,Cc,-⟩:=b.len;generalize hrn:O r=rn at Cc;subst Cc;clear hrn;obtain⟨ha,hc,rfl,-⟩:=h.head.len;obtain⟨aa,ac,rfl,-⟩:=h.aD.len;have hlen:=h.len;rw[hlen]at h|-;let⟨wq,EK⟩:=E (e8 w (h8 #[j3 q.name,hY ha (O q.head) hc,hY aa (O q.aD) ac] 25));let⟨wa,dE⟩:=E (e8 wq (h8 #[j4 add,j3 rel,hY ra rn rc] 35));let⟨bq,CR⟩:=E (hJ w.heap);let⟨bc,yh⟩:=E (hJ wq.heap);have ZN:=Za EK;have yj:=Za dE;have C:=ZN.dd yj;have kB:rW wa bq #[j3 q.name,hY ha (O q.head) hc,hY aa (O q.aD) ac] 25:=yj.aC (by rw[<-EK,<-CR];exact lK w _) X;have eQ:=Ze dE yh;obtain⟨b0,b1,b2⟩:=Z3 kB;have HQ:=(h.on C);have NO:=(hw.on C);have JJ:=(Kr (ρ:=λ_=>0) 10 65536 HQ NO h0 D (λ_ _=>rfl) D);rw[show((65536:Nat):Int)=65536 from rfl]at JJ;have HS:=Z (hs.on C);have Bl:=(b.on C);let⟨m,hm⟩:=E (O cs);have qW:m<=1048576:=by rw[<-hm];exact hs.len
 rw[hm]at HS|-;have HMM:=Z hm;clear h hs hw kB yj ZN h0 hm b;go_in;go_upto_region 5 with(go_at_call 6;apply JJ.cF;rintro e w1 ⟨bt,d,dN,rfl,pG,uX,qs⟩;have nV:=Z (oA.mk (cells:=65536) (pG.aN (T:=LS 10) pW) uX qs);clear pG uX qs);clear b0 b1 b2 dE EK;go_loopg [36] m (λgg s36 wr=>∃(k N:Nat) (E0:aW) (t:iZ),k<=m/\gg=m-k/\s36=J k/\N<=k/\oA wa wr E0 q bt d 65536 N t/\DbT q t.T)
 .exact⟨0,0,dN,TD,Y,rfl,rfl,fV _,nV.o,db0 q⟩
 obtain⟨k,N,E0,t,hk,CY,rfl,hN,hL,hDB⟩:=hrel;have OR:=Z CY;have i:=Z hL;clear CY hL;by_cases aV:k<m
 .have Oo:k<O cs:=by rw[HMM.o];exact aV
  obtain⟨g,o,cap,hv,-,dF⟩:=eX.aU (HS.o.rd.on i.o.eF) Oo;rw[HMM.o]at hv;obtain rfl:=CT hv;have c0:=dF 0 D;have c1:=dF 1 D;have c2:=dF 2 D;rw[pK]at c0;let⟨b,B⟩:=HS.o.j5 _ (bM (d:=TN) Oo);obtain⟨⟨u,y,rv1,r1⟩,hc⟩:∃c,ep cs k TN=c:=⟨_,rfl⟩;rw[hc]at c0 c1 c2 b B;obtain⟨ra1,rc1,Cc,-⟩:=b.len;dsimp only at Cc;subst Cc;dsimp only[aES]at c0 c1 c2 b B;let⟨w2,pS⟩:=E (e8 wr (h8 #[j4 u,j3 y,hY ra1 (O r1) rc1] 35));let⟨bx,lR⟩:=E (hJ wr.heap);have bH:=Za pS;have ZV:=Ze pS lR;have zI:bA wr E0 eL w2 (up wr.heap.size 7 E0):=bH.eW (S:=eL) 7 (λ_ h=>dS h X);have A2:=i.o.on zI;obtain⟨x0,x1,x2⟩:=Z3 ZV;have P:=Z (t8 (add:=u) (rel:=y) A2.l8 Y (A2.row b) (oU D D) B D);have Co:=Z A2;have HK:=Z aV;have CQ:(k:Int)<(m:Int):=Y;generalize hR:eC (bJ (aB q).2) 65536 (O q.aD) t u (jC q y) (dQ q r1)=R at P;have HD2:=(aGR i.o.l8.ok i.o.l8.Oi hDB hR);clear dF hc b bH ZV zI A2 Oo aV hk;go_wp2_with (go_at_call 8;apply P.o.cF;rintro e w3 ⟨kM,rfl,qU,Q⟩;have nR:=Z (Co.o.IG qU Q);clear Q);go_roundg (m-(k+1))
  .exact⟨k+1,N+1,kM,R.1,HK.o,rfl,eO,Y,nR.o,HD2⟩
  have:=OR.o;have:=HK.o;omega
 .obtain rfl:k=m:=Y;obtain⟨w2,rfl⟩:∃w2,w2=wr:=⟨_,rfl⟩;obtain⟨dcs,da,dc,A,hD5,hDt⟩:=i.o.doc;have dl:=iO (cV A);have d5:=aL A hD5;have qz:=(O5 (t:=3) i.o.l8.bd i.o.l8.ok.few D D);generalize xm:O (aB q).2.aK=nn at d5 qz;have Bm:=Z xm;clear A hD5 hDt xm;go_upto_region 10 with(first
   |(go_at_call 10;apply(rC oI.o.l8.bd oI.o.l8.ok.few).cL;intro w6 dK)
   |(go_at_call 9;apply qz.cF;rintro e w5 ⟨pJ,u5,rfl,tU,rS,ZW⟩;obtain⟨a5,c5,rfl,-⟩:=ZW.len;rw[iL]at ZW|-;have oI:=Z (i.o.told (.inl rfl) tU rS);clear tU rS))
  have lL:=oI.o.on (dK.fK (S:=eL));have hA6:=ZW.dg (dK.fK (S:=eL)) id id;have aSc:=lL.eF.aC eQ X;obtain⟨x0,x1,x2⟩:=Z3 aSc;have P:=Z (t8 (add:=oj) (rel:=rel) lL.l8 Y (lL.row Bl) (oU D D) B D);generalize hR:eC (bJ (aB q).2) 65536 (O q.aD) t oj (jC q rel) (dQ q r)=R at P;let⟨S,hS⟩:=E (AB (bJ (aB q).2) t.T);rw[hS];have Bh:=Z hS;have uL:=Z lL;clear lL aSc hS d5 dl;go_upto_region 11 with(go_at_call 8;apply P.o.cF;rintro e w3 ⟨kM,rfl,qU,Q⟩;have nR:=Z (uL.o.IG qU Q);clear Q);let⟨w4,qJ⟩:=E (e8 w3 (h8 #[J (R.2.1:Int),J (R.2.2.1:Int)] 37));let⟨bk,ph⟩:=E (hJ w3.heap);have eA:=Za qJ;have hBK:=Ze qJ ph;have qN:bA w3 kM eL w4 (up w3.heap.size 7 kM):=eA.eW (S:=eL) 7 (λ_ h=>dS h X);have oZ:up w3.heap.size 7 kM bk=7:=cJ Y;rw[qJ,ph];generalize MP:up w3.heap.size 7 kM=ρ4 at qN oZ;have j:=Z (nR.o.on qN);have f:=((hA6.dg qU (oU D D) (oU D D)).dg qN id id);have km:=(dX hBK oZ);clear x0 x1 x2 eA hBK qN oZ MP qJ ph;obtain⟨aTx,da2,dc2,VA,Mn,-⟩:=j.o.doc;have d52:=aL VA Mn;have dl2:=iO (cV VA);obtain⟨k0,k1⟩:=Z2 km.1;by_cases G:R.2.2.2≠0\/R.2.2.1=0
  .have hT:=rr uL.o.l8.ok uL.o.l8.Oi hR G;have Xw:=O5 (t:=5) j.o.l8.bd j.o.l8.ok.few D D;rw[Bm.o]at d52 Xw;have hg:((R.2.2.2:Int)!=0)=oj\/(((R.2.2.2:Int)!=0)=po/\((R.2.2.1:Int)==0)=oj):=by
    by_cases e:R.2.2.2=0
    .exact .inr ⟨by rw[e];rfl,by rw[G.resolve_left (λh=>h e)];rfl⟩
    .exact .inl (j7 bne_iff_ne)
   clear G VA Mn;rcases hg with g1|⟨g1,g2⟩;all_goals
    go_wp2_with (first
     |(go_at_call 7;apply(xU (NO.on (a.o.eF.dd ZO))).cL;intro w14 v)
     |(go_at_call 12;apply(MD z.rd n.rd (by rw[iL,iL])).cL;intro w13 ZO;rw[hT,kI rfl])
     |(go_at_call 9;apply Xw.cF;rintro e w12 ⟨Iv,u12,rfl,p,s,z⟩;obtain⟨a12,c12,rfl,-⟩:=z.len;rw[iL]at z|-;have n:=(f.dg p (zX D D) (zX D D));have a:=Z (j.o.told (.inr rfl) p s);clear p s))
    go_ret;exact⟨rfl,C.dd (a.o.eF.dd (ZO.dd v))⟩
  .have x:R.2.2.2=0:=zbT λh=>G (.inl h);have W:R.2.2.1≠0:=λh=>G (.inr h);let⟨st2,aMZ⟩:=rt uL.o.l8.ok uL.o.l8.Oi hDB hR x W;have g1:((R.2.2.2:Int)!=0)=po:=by rw[x];rfl
   have g2:((R.2.2.1:Int)==0)=po:=j7 G9;have L:=j.o.eF.aC eQ X;obtain⟨x0,x1,x2⟩:=Z3 L;have HC2:=Z ((t8 (add:=po) (rel:=rel) j.o.l8 Y (j.o.row Bl) (oU D D) B D).mono λe w' h=>aOT aMZ h);clear G x W aMZ VA Mn d52 dl2 L;go_upto_region 14 with(go_at_call 8;apply HC2.o.cF;rintro e w7 ⟨OZ,rfl,F1,Xu⟩);let⟨w8,wP⟩:=E (e8 w7 (h8 #[It st2,J (R.2.2.1:Int)] 37));let⟨bz,JB⟩:=E (hJ w7.heap);have iE:=Za wP;have hBZ:=Ze wP JB;have pU:bA w7 OZ eL w8 OZ:=iE.fK;rw[wP,JB];have F:oA wa w8 OZ q bt d 65536 (N+1+1) ⟨t.T,R.1.fX+1,R.1.fX+1⟩:=(j.o.IG (R:=(_,st2,R.2.2.1,0)) F1 Xu).on pU;have aTe:=pU.aC (F1.aC km.1 (by rw[km.2];exact oU D D)) id;have HA8:=((f.dg F1 (oU D D) (oU D D)).dg pU id id);obtain⟨a8L,da3,dc3,l,V,-⟩:=F.doc;have aVS:=(dX l (aL l V));have Hn:fR w8 OZ 10 bt q 65536 (R.1.fX+1) (R.1.fX+1) t.T (N+1+1) (N+1+1):=F.l8.bd;have Pd:=(rC Hn F.l8.ok.few);rw[Bh.o]at Pd;have HF8:=Z F.l8.ok.few;have OY:=Z F;clear x0 x1 x2 k0 k1;obtain⟨z0,z1⟩:=Z2 hBZ;obtain⟨k0,k1⟩:=Z2 aTe;clear iE hBZ pU F aTe l V wP JB;go_wp2_with (first
    |(go_at_call 7;apply(xU (NO.on (a.o.eF.dd ZO))).cL;intro w14 v)
    |(go_at_call 12;apply(MD z.rd n.rd (by rw[iL])).cL;intro w13 ZO;rw[kI rfl])
    |(go_at_call 9;apply Xw.cF;rintro e w12 ⟨Iv,u12,rfl,p,s,z⟩;obtain⟨a12,c12,rfl,-⟩:=z.len;rw[iL]at z|-;have n:=((HA8.dg (lP.fK (S:=eL)) id id).dg p (zX D D) (zX D D));have a:=Z ((OY.o.on (lP.fK (S:=eL))).told (.inr rfl) p s);clear p s)
    |(go_at_call 10;apply Pd.cL;intro E1 lP;have d53:=lP.cell aVS.2 X;have dl3:=iO (cV (lP.aC aVS.1 X));have Xw:=O5 (t:=5) (Hn.on lP) HF8.o D D;rw[Bm.o]at d53 Xw))
   go_ret;exact⟨rfl,C.dd (a.o.eF.dd (ZO.dd v))⟩
theorem Rx{q:bB}{cs:List Chg}{add:Bool}{rel:dU}{r:Row}(h:B9 w hv av ps q)(hs:LN w sv cs)(a:Tz w)(c:eX dR aP 3 w rv r)(d:AP r):
  tR 5 #[.agg #[j3 q.name,hv,av],sv,.agg #[j4 add,j3 rel,rv]] w λe w'=>e=i5 (j4 oj)/\U w [] w' []:=by
 by_cases b:kS q 65536=0
 .exact aI8 h hs a (DF b) c d
 .obtain⟨i,rc,g,-⟩:=c.len;exact aEa h a b ⟨i,_,rc,g⟩
end
section
open Go.ChangeShapes Go.WideShapes Go.ChangeAt Go.RowKit
def Ax:Array aF:=#[.agg #[j3 {data:=#[]},hY K 0 0,hY K 0 0],hY K 0 0,.agg #[j4 po,j3 {data:=#[]},hY K 0 0]]
theorem jb(b:Os){qs:Type}(enc:TypeId×aF->qs):∃x a,DataW.whole enc prog ((xI b).forCall (λ_ _=>0) ⟨#[],Ax,[]⟩).memory f5.params.toList Rows.treeBackSpec.vars po Ax.toList 8=H (x,[],a)/\Rows.uptoSmall qs x=oj:=
 ⟨[.agg [.lit (.string []),.nil,.nil],.nil,.agg [.lit (.bool po),.lit (.string []),.nil]],[],by kernel_rfl,by kernel_rfl⟩
theorem UZ(b:Os)(a:b.Started)(qs:Type)(enc:TypeId×aF->qs)(F:Stop.Interp):
  ReturnsInHanded {} checked b 5 .any ((Rows.OpenSpec.upto Rows.treeBackSpec).preRow enc prog f5 Rows.treeBackUptoRow.domain po Rows.treeBackUptoRow.laid) (((Rows.OpenSpec.upto Rows.treeBackSpec).at F).post enc prog f5 po oj po po):=by
 let⟨x,g,L,Q⟩:=jb b enc;refine returnsInHanded_of_row (C:=checked) (s:=Rows.OpenSpec.upto Rows.treeBackSpec) cY a dB func5
  (witness_row_at (enc:=enc) (C:=checked) po (xI b) Ax rfl dB dB dB
   (OpenSpec.preRow_of_cond 8 L dB (λk z=>by cases z;simpa using Q) dB (YG b _))) ?_
 intro W eE args S gs before n m _ R _ r _ _;have d:=n;have j:Rows.uptoBulkAll (S++gs)<=1048576:=of_decide_eq_true (R _ rfl);have V7:=m;obtain⟨p,q,i,hV,rfl,o,uC⟩:=m;have l:=i;rw[params5]at l d;obtain⟨v0,v1,v2,A,B,u,p0,p1,p2,rfl,rfl,rfl,G,y,N⟩:=trodAll_three l;have w:Rows.uptoBulk A<=1048576:=jN (j6 (by simp)) j;have P:Rows.uptoBulk B<=1048576:=jN (j6 (by simp)) j;have k2:Rows.uptoBulk u<=1048576:=jN (j6 (by simp)) j;obtain⟨qq,hv,av,ps,rfl,V,-⟩:=SU (d 0 25 v0 rfl rfl) G w;let⟨cs,hs⟩:=OM (d 1 26 v1 rfl rfl) y P;obtain⟨c,rfl,v,f⟩:=aIa (d 2 35 v2 rfl rfl) N k2;refine(Rx V hs (Jd r) v f).mono λe W' ⟨he,hU⟩=> ?_;exact ZM137
theorem Cz:Rows.TreeBackUptoSaid:=
 OpenClaim.holds_of_cond 5 f5 rfl rfl rfl rfl rfl rfl rfl ⟨rfl,rfl,rfl,rfl,rfl⟩ rfl rfl rfl rfl rfl dB func5 dB
  (of_decide_eq_true dB) (by unfold Func.isWrapper;first|(rw[bR (by decide+kernel)];kernel_rfl)|(rw[bD (by decide+kernel)];exact⟨rfl,rfl⟩))
  (λb a qs enc _ F=>by rw[OpenClaim.pre_eq_preRow];exact UZ b a qs enc F)
theorem WQ(f:FuncId)(fn:Func)(c:pinned.checked.prog.funcNamed "osier/osierlaw20.TreeBack"=H f)(a:pinned.checked.prog.funcs[f]? =H fn):
  oj=pinned.checked.prog.looks []/\∀(j:Nat) t,fn.params[j]? =H t->pinned.checked.prog.wantsStandIn t=po:=by
 obtain rfl:f=5:=Option.some.inj ((show prog.funcNamed "osier/osierlaw20.TreeBack"=H 5 by kernel_rfl).symm.dd c)|>.symm;obtain rfl:fn=f5:=(Option.some.inj (func5.symm.dd a)).symm;refine⟨by kernel_rfl,λj t b=> ?_⟩;rw[params5]at b;have hm:t∈[25,26,35]:=eI (Array.mem_of_getElem? b);have FO:([25,26,35].all λu=> !prog.wantsStandIn u)=oj:=by kernel_rfl
 exact ZM144
theorem treeBack_card:Rows.TreeBackUptoCardSaid:=
 Claim7.holds_tied_plain_at .later [] _ _ _ _ Cz (λ_ h=>by cases h) dB (λ_ h=>by cases h) treeBackUpto_row_tie rfl ⟨rfl,rfl⟩ dB rfl WQ dB
end
end Go.Proofs.YtbcooplfakebmaaGreatDoor
