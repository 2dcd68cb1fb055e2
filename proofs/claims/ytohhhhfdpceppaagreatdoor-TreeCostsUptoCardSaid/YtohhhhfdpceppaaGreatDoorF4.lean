/- Proved: the law TreeCosts returns true for every query, every limit and every script, and leaves its arguments as they were, where these together are of bulk at most 1048576 (the row's own bound). It holds where the package-level variable deBruijn32tab reads as the program's text lays it: the card ties that to the text. No other conditions. -/
import Derived.Test.YtohhhhfdpceppaaGreatDoorF2
namespace Go.Proofs.YtohhhhfdpceppaaGreatDoor
set_option maxHeartbeats 4000000
set_option maxRecDepth 100000
set_option linter.all false
open Go.RowKit Go.Maps Go.Proofs.Tryz Tryz
open _root_.Bool renaming false→rR,true→qT
open _root_.Go.IntKind renaming i64→mn
open _root_.Go.Value renaming int→mj,slice→jS,string→mX
open _root_.Option renaming none→K,some→H
section
open Go.ChangeShapes Go.WideShapes Go.ChangeAt Go.RowKit
def VG:Array Value:=#[.agg #[mX {data:=#[]},jS K 0 0,jS K 0 0],mj mn 0,jS K 0 0]
theorem Zv(b:Os){c:Type}(enc:TypeId×Value->c):∃x a,DataW.whole enc prog ((GR b).forCall (λ_ _=>0) ⟨#[],VG,[]⟩).memory f4.params.toList Rows.treeCostsSpec.vars rR VG.toList 8=H (x,[],a)/\Rows.uptoSmall c x=qT:=
 ⟨[.agg [.lit (.string []),.nil,.nil],.lit (.int mn 0),.nil],[],by kernel_rfl,by kernel_rfl⟩
theorem UE(b:Os)(a:b.Started)(o:Type)(enc:TypeId×Value->o)(F:Stop.Interp):
  ReturnsInHanded {} checked b 4 .any ((Rows.OpenSpec.upto Rows.treeCostsSpec).preRow enc prog f4 Rows.treeCostsUptoRow.domain rR Rows.treeCostsUptoRow.laid) (((Rows.OpenSpec.upto Rows.treeCostsSpec).at F).post enc prog f4 rR qT rR rR):=by
 let⟨x,c,A,y⟩:=Zv b enc;refine returnsInHanded_of_row (C:=checked) (s:=Rows.OpenSpec.upto Rows.treeCostsSpec) cZ a dJ func4
  (witness_row_at (enc:=enc) (C:=checked) rR (GR b) VG rfl dJ dJ dJ
   (OpenSpec.preRow_of_cond 8 A dJ (λk v=>by cases v;simpa using y) dJ (Wg b _))) ?_
 intro W eO args t gs before g m _ i _ r _ _;have d:=g;have n:Rows.uptoBulkAll (t++gs)<=1048576:=of_decide_eq_true (i _ rfl);have Dj:=m;obtain⟨p,q,j,V,rfl,B,Q⟩:=m;have l:=j;rw[params4]at l d;obtain⟨v0,v1,v2,G,S,N,p0,P,p2,rfl,rfl,rfl,z,f,L⟩:=trodAll_three l;have w:Rows.uptoBulk G<=1048576:=j8 (nG J) n;have k2:Rows.uptoBulk N<=1048576:=j8 (nG J) n;obtain⟨qq,hv,av,ps,rfl,u,-⟩:=Mg (d 0 25 v0 rfl rfl) z w;obtain⟨c1,rfl,rfl,rfl,-⟩:=open_int underlying3 (d 1 3 v1 rfl rfl) f;let⟨cs,hs⟩:=Es (d 2 26 v2 rfl rfl) L k2;refine(aCL u hs (ut r)).mono λe W' ⟨he,hU⟩=> ?_;exact ZM132
theorem ZL:Rows.TreeCostsUptoSaid:=
 OpenClaim.holds_of_cond 4 f4 rfl rfl rfl rfl rfl rfl rfl ⟨rfl,rfl,rfl,rfl,rfl⟩ rfl rfl rfl rfl rfl dJ func4 dJ
  (of_decide_eq_true dJ) (by unfold Func.isWrapper;first|(rw[bW (by decide+kernel)];kernel_rfl)|(rw[R (by decide+kernel)];exact⟨rfl,rfl⟩))
  (λb a c enc _ F=>by rw[OpenClaim.pre_eq_preRow];exact UE b a c enc F)
theorem XC(f:FuncId)(fn:Func)(d:pinned.checked.prog.funcNamed "osier/osierlaw20.TreeCosts"=H f)(a:pinned.checked.prog.funcs[f]? =H fn):
  qT=pinned.checked.prog.looks []/\∀(j:Nat) t,fn.params[j]? =H t->pinned.checked.prog.wantsStandIn t=rR:=by
 obtain rfl:f=4:=Option.some.inj ((show prog.funcNamed "osier/osierlaw20.TreeCosts"=H 4 by kernel_rfl).symm.ds d)|>.symm;obtain rfl:fn=f4:=(Option.some.inj (func4.symm.ds a)).symm;refine⟨by kernel_rfl,λj t b=> ?_⟩;rw[params4]at b;have c:t∈[25,3,26]:=eP (Array.mem_of_getElem? b);have QA:([25,3,26].all λu=> !prog.wantsStandIn u)=qT:=by kernel_rfl
 exact(show prog.wantsStandIn t=rR by simpa using Tv.1 QA t c)
theorem treeCosts_card:Rows.TreeCostsUptoCardSaid:=
 Claim7.holds_tied_plain_at .later [] _ _ _ _ ZL (λ_ h=>by cases h) dJ (λ_ h=>by cases h) treeCostsUpto_row_tie rfl ⟨rfl,rfl⟩ dJ rfl XC dJ
end
end Go.Proofs.YtohhhhfdpceppaaGreatDoor
