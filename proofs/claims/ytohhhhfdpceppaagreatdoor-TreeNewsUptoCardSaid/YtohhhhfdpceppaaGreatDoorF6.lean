/- Proved: the law TreeNews returns true for every query and every limit, and leaves its arguments as they were, where these together are of bulk at most 1048576 (the row's own bound). It holds where the package-level variable deBruijn32tab reads as the program's text lays it: the card ties that to the text. No other conditions. -/
import Derived.Test.YtohhhhfdpceppaaGreatDoorF5
namespace Go.Proofs.YtohhhhfdpceppaaGreatDoor
set_option maxHeartbeats 8000000
set_option maxRecDepth 100000
set_option linter.all false
open Go.RowKit Go.Maps Go.Proofs.Tryz Tryz
open _root_.Array renaming size→i7
open _root_.Bool renaming false→rR,true→qT
open Go renaming Addr→cg,Calls→aK,Ending→cc,Program→cj,TypeId→ap,Value→aE,World→aA,maxLen→bH
open _root_.Go.Ending renaming returned→mi
open _root_.Go.IntKind renaming i64→mn,u32→nr,u8→n9
open _root_.Go.Obj renaming cells→kd
open Go.RowKit renaming Hid→dT
open _root_.Go.Value renaming bool→nj,int→mj,ownBlock→i6,pointer→lr,slice→jS,string→mX,tuple→mr
open _root_.Go.World renaming alloc→i5,cell?→h8,setCell→hY
open _root_.Inhabited renaming default→sT
open _root_.List renaming getD→hJ,length→O
open _root_.Option renaming none→K,some→H
section
open Go.ChangeShapes Go.WideShapes Go.ChangeAt Go.RowKit
def newsArgs:Array Value:=#[.agg #[.string {data:=#[]},.slice none 0 0,.slice none 0 0],.int .i64 0]
theorem news_reads(os:Os){H9:Type}(enc:TypeId×Value→H9):∃x places,DataW.whole enc prog ((GR os).forCall (fun _ _=>0) ⟨#[],newsArgs,[]⟩).memory f5.params.toList Rows.treeNewsSpec.vars false newsArgs.toList 8=some (x,[],places)∧Rows.uptoSmall H9 x=true:=
 ⟨[.agg [.lit (.string []),.nil,.nil],.lit (.int .i64 0)],[],by kernel_rfl,by kernel_rfl⟩
theorem treeNews_lifted(os:Os)(started:os.Started)(H9:Type)(enc:TypeId×Value→H9)(F:Stop.Interp):
  ReturnsInHanded {} checked os 5 .any ((Rows.OpenSpec.upto Rows.treeNewsSpec).preRow enc prog f5 Rows.treeNewsUptoRow.domain false Rows.treeNewsUptoRow.laid) (((Rows.OpenSpec.upto Rows.treeNewsSpec).at F).post enc prog f5 false true false false):=by
 let⟨x,places,hx,hsm⟩:=news_reads os enc
 refine returnsInHanded_of_row (C:=checked) (s:=Rows.OpenSpec.upto Rows.treeNewsSpec) cZ started dJ func5
  (witness_row_at (enc:=enc) (C:=checked) false (GR os) newsArgs rfl dJ dJ dJ
   (OpenSpec.preRow_of_cond 8 hx dJ (fun k hk=>by cases hk;simpa using hsm) dJ (Wg os _))) ?_
 intro W eO args ds gs before hval0 hW _ hcond _ hL _ _
 have hval:=hval0
 have hB:Rows.uptoBulkAll (ds++gs)≤1048576:=of_decide_eq_true (hcond _ rfl)
 have hW':=hW
 obtain⟨p,q,hA0,hV,rfl,hfz,hnd⟩:=hW
 have hA:=hA0
 rw[params5]at hA hval
 obtain⟨v0,v1,d0,d1,p0,p1,rfl,rfl,rfl,h0,h1⟩:=trodAll_two hA
 have k0:Rows.uptoBulk d0≤1048576:=j8 (nG J) hB
 obtain⟨qq,hv,av,ps,rfl,hq,-⟩:=Mg (hval 0 25 v0 rfl rfl) h0 k0
 obtain⟨c1,rfl,rfl,rfl,-⟩:=open_int underlying3 (hval 1 3 v1 rfl rfl) h1
 refine(news_any hq (ut hL)).mono fun e W' ⟨he,hU⟩=> ?_
 subst he
 exact⟨_,rfl,Vl (T:=4) xq dJ rfl rfl underlying4 hW' rfl hU.below⟩
theorem treeNews_upto:Rows.TreeNewsUptoSaid:=
 OpenClaim.holds_of_cond 5 f5 rfl rfl rfl rfl rfl rfl rfl ⟨rfl,rfl,rfl,rfl,rfl⟩ rfl rfl rfl rfl rfl dJ func5 dJ
  (of_decide_eq_true dJ) (by unfold Func.isWrapper;first|(rw[bW (by decide+kernel)];kernel_rfl)|(rw[R (by decide+kernel)];exact⟨rfl,rfl⟩))
  (fun os started H9 enc _ F=>by rw[OpenClaim.pre_eq_preRow];exact treeNews_lifted os started H9 enc F)
theorem treeNews_plain(f:FuncId)(fn:Func)(hf:pinned.checked.prog.funcNamed "osier/osierlaw20.TreeNews"=some f)(hfn:pinned.checked.prog.funcs[f]? =some fn):
  true=pinned.checked.prog.looks []∧∀(j:Nat) t,fn.params[j]? =some t→pinned.checked.prog.wantsStandIn t=false:=by
 obtain rfl:f=5:=Option.some.inj ((show prog.funcNamed "osier/osierlaw20.TreeNews"=some 5 by kernel_rfl).symm.ds hf)|>.symm
 obtain rfl:fn=f5:=(Option.some.inj (func5.symm.ds hfn)).symm
 refine⟨by kernel_rfl,fun j t ht=> ?_⟩
 rw[params5]at ht
 have hm:t∈[25,3]:=eP (Array.mem_of_getElem? ht)
 have QA:([25,3].all fun u=> !prog.wantsStandIn u)=true:=by kernel_rfl
 exact(show prog.wantsStandIn t=false by simpa using Tv.1 QA t hm)
theorem treeNews_card:Rows.TreeNewsUptoCardSaid:=
 Claim7.holds_tied_plain_at .later [] _ _ _ _ treeNews_upto (fun _ h=>by cases h) dJ (fun _ h=>by cases h) treeNewsUpto_row_tie rfl ⟨rfl,rfl⟩ dJ rfl treeNews_plain dJ
end
end Go.Proofs.YtohhhhfdpceppaaGreatDoor
