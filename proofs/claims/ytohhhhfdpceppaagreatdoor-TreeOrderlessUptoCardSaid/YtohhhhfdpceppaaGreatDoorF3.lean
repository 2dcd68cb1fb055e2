/- Proved: the law TreeOrderless returns true for every query and every script, and leaves its arguments as they were, where these together are of bulk at most 1048576 (the row's own bound). It holds where the package-level variable deBruijn32tab reads as the program's text lays it: the card ties that to the text. No other conditions. -/
import Derived.Test.YtohhhhfdpceppaaGreatDoorF1
namespace Go.Proofs.YtohhhhfdpceppaaGreatDoor
set_option maxHeartbeats 4000000
set_option maxRecDepth 100000
set_option linter.all false
open Go.RowKit Go.Maps Go.Proofs.Tryz Tryz
open _root_.Bool renaming false→rR,true→qT
open _root_.Go.Value renaming slice→jS,string→mX
open _root_.Option renaming none→K,some→H
section
open Go.ChangeShapes Go.WideShapes Go.ChangeAt Go.RowKit
def Oi:Array Value:=#[.agg #[mX {data:=#[]},jS K 0 0,jS K 0 0],jS K 0 0]
theorem aBF(b:Os){c:Type}(enc:TypeId×Value->c):∃x a,DataW.whole enc prog ((GR b).forCall (λ_ _=>0) ⟨#[],Oi,[]⟩).memory f3.params.toList Rows.treeOrderlessSpec.vars rR Oi.toList 8=H (x,[],a)/\Rows.uptoSmall c x=qT:=
 ⟨[.agg [.lit (.string []),.nil,.nil],.nil],[],by kernel_rfl,by kernel_rfl⟩
theorem LT(b:Os)(a:b.Started)(o:Type)(enc:TypeId×Value->o)(F:Stop.Interp):
  ReturnsInHanded {} checked b 3 .any ((Rows.OpenSpec.upto Rows.treeOrderlessSpec).preRow enc prog f3 Rows.treeOrderlessUptoRow.domain rR Rows.treeOrderlessUptoRow.laid) (((Rows.OpenSpec.upto Rows.treeOrderlessSpec).at F).post enc prog f3 rR qT rR rR):=by
 let⟨x,c,G,A⟩:=aBF b enc;refine returnsInHanded_of_row (C:=checked) (s:=Rows.OpenSpec.upto Rows.treeOrderlessSpec) cZ a dJ func3
  (witness_row_at (enc:=enc) (C:=checked) rR (GR b) Oi rfl dJ dJ dJ
   (OpenSpec.preRow_of_cond 8 G dJ (λk w=>by cases w;simpa using A) dJ (Wg b _))) ?_
 intro W eO args N gs before d m _ g _ r _ _;have j:=d;have n:Rows.uptoBulkAll (N++gs)<=1048576:=of_decide_eq_true (g _ rfl);have Dj:=m;obtain⟨p,q,i,S,rfl,t,Q⟩:=m;have l:=i;rw[params3]at l j;obtain⟨v0,v1,L,u,p0,P,rfl,rfl,rfl,B,f⟩:=trodAll_two l;have y:Rows.uptoBulk L<=1048576:=j8 (nG J) n;have z:Rows.uptoBulk u<=1048576:=j8 (nG J) n;obtain⟨V,hv,av,ps,rfl,v,-⟩:=Mg (j 0 25 v0 rfl rfl) B y;let⟨cs,hs⟩:=Es (j 1 26 v1 rfl rfl) f z;refine(Gu v hs (ut r)).mono λe W' ⟨he,hU⟩=> ?_;exact ZM132
theorem PL:Rows.TreeOrderlessUptoSaid:=
 OpenClaim.holds_of_cond 3 f3 rfl rfl rfl rfl rfl rfl rfl ⟨rfl,rfl,rfl,rfl,rfl⟩ rfl rfl rfl rfl rfl dJ func3 dJ
  (of_decide_eq_true dJ) (by unfold Func.isWrapper;first|(rw[bW (by decide+kernel)];kernel_rfl)|(rw[R (by decide+kernel)];exact⟨rfl,rfl⟩))
  (λb a c enc _ F=>by rw[OpenClaim.pre_eq_preRow];exact LT b a c enc F)
theorem OC(f:FuncId)(fn:Func)(d:pinned.checked.prog.funcNamed "osier/osierlaw20.TreeOrderless"=H f)(a:pinned.checked.prog.funcs[f]? =H fn):
  qT=pinned.checked.prog.looks []/\∀(j:Nat) t,fn.params[j]? =H t->pinned.checked.prog.wantsStandIn t=rR:=by
 obtain rfl:f=3:=Option.some.inj ((show prog.funcNamed "osier/osierlaw20.TreeOrderless"=H 3 by kernel_rfl).symm.ds d)|>.symm;obtain rfl:fn=f3:=(Option.some.inj (func3.symm.ds a)).symm;refine⟨by kernel_rfl,λj t b=> ?_⟩;rw[params3]at b;have c:t∈[25,26]:=eP (Array.mem_of_getElem? b);have QA:([25,26].all λu=> !prog.wantsStandIn u)=qT:=by kernel_rfl
 exact(show prog.wantsStandIn t=rR by simpa using Tv.1 QA t c)
theorem treeOrderless_card:Rows.TreeOrderlessUptoCardSaid:=
 Claim7.holds_tied_plain_at .later [] _ _ _ _ PL (λ_ h=>by cases h) dJ (λ_ h=>by cases h) treeOrderlessUpto_row_tie rfl ⟨rfl,rfl⟩ dJ rfl OC dJ
end
end Go.Proofs.YtohhhhfdpceppaaGreatDoor
