/- Part of the proof that the tied card of a law of the tree holds; no condition is added. -/
import Derived.Test.YtohhhhfdpceppaaGreatDoorM8
namespace Go.Proofs.YtohhhhfdpceppaaGreatDoor
set_option maxHeartbeats 8000000
set_option maxRecDepth 100000
set_option linter.all false
open Go.RowKit Go.Maps Go.Proofs.Tryz Tryz
open _root_.Array renaming size→i7
open _root_.Bool renaming false→rR,true→qT
open Go renaming Addr→cg,Calls→aK,Ending→cc,Program→cj,TypeId→ap,Value→aE,World→aA,maxLen→bH
open _root_.Go.Ending renaming returned→mi
open _root_.Go.IntKind renaming i64→mn,u32→nr,u8→n9
open _root_.Go.Obj renaming cells→kd
open Go.RowKit renaming Hid→dT
open _root_.Go.Value renaming bool→nj,int→mj,ownBlock→i6,pointer→lr,slice→jS,string→mX,tuple→mr
open _root_.Go.World renaming alloc→i5,cell?→h8,setCell→hY
open _root_.Inhabited renaming default→sT
open _root_.List renaming getD→hJ,length→O
open _root_.Option renaming none→K,some→H
section
section
variable{w w':World}{ρ bV:bC}{τ t lb rb b F G:Nat}{s:lV}{n:f7}{iv:Value}
theorem lvLive{v:Value}{r:Row}(h:zW w ρ τ lb rb s n F G iv)(hv:fM dV aR 3 w v r)(hf:CE r):
  Calls Tryz.prog 272 #[.pointer (some ⟨lb,0,none⟩),v] w (aRB w ρ τ lb rb s n F G iv fun _ _ x=>x= .bool (decide (r∈n.aM))):=by
 obtain⟨⟨ka,kc,sa,sc,ua,uc,hlb,-,-⟩,-,hst,-⟩:=h.lv
 have HR:=(aEK hst hv hf)
 have HH:=Z h
 obtain⟨va,vc,rfl,-⟩:=hv.len
 have l6:=Zc hlb 6
 go_in
 go_wp2_with (go_at_call 277;apply HR.cX;rintro e w1 ⟨dX,rfl,hM,hS⟩;have HS:=Z hS)
 go_ret
 exact⟨dX,_,rfl,hM,HH.vR hM HS,rfl⟩
theorem lvGroup{v:Value}{gP:Row}(h:zW w ρ τ lb rb s n F G iv)(hv:fM dV aR 3 w v gP)(hf:CE gP)(ht:t<τ∨τ+100≤t):
  Calls Tryz.prog 137 #[.pointer (some ⟨lb,0,none⟩),v] w (aRB w ρ τ lb rb s n F G iv fun w' bV x=>iY w' bV (τ+27) t x (n.aM.filter fun r=>decide (dF r s.up=gP))):=by
 obtain⟨⟨ka,kc,sa,sc,ua,uc,hlb,-,-⟩,-,hst,-⟩:=h.lv
 have HR:=(aEL (t:=t) (k:=0) hst J hv hf (fun c hc=>Y))
 simp only[List.getD_cons_zero]at HR
 have HH:=Z h
 obtain⟨va,vc,rfl,-⟩:=hv.len
 have l6:=Zc hlb 6
 go_in
 go_wp2_with (go_at_call 178;apply HR.cX;rintro e w1 ⟨e',he,dX,lv,rfl,hM,hS,hV⟩;simp only at he;subst he;have HS:=Z hS)
 go_ret
 exact⟨dX,_,rfl,hM,HH.vR hM HS,hV.rws⟩
end
end
section
section
variable{w:World}{ρ:bC}{β b wd aH F G k:Nat}{gs:List (List Nat)}{kv:Value}{gP:Row}
theorem stoFirst0(h:L6 w ρ β b wd aH gs [] F G)(hk:k<gs.length)(hv:fM dV aR 3 w kv gP)(hf:CE gP):
  Calls Tryz.prog 179 #[.pointer (some ⟨b,0,none⟩),.int .i64 k,kv] w (aH3 w ρ β b wd aH gs [] F G (.tuple #[.slice none 0 0,.bool false,.int .i64 0])):=by
 obtain⟨L,m,ks,es,rfl,hS,hT,hL,rfl,rfl,rfl,he⟩:=h
 have hn:m.cB k gP= -1:=by
  unfold iM.cB
  split
  ·rename_i hx
   have hg:dU gP:=⟨hx.2,fun x hx=>(hf.2 x hx).2⟩
   rw[hL.aJm hS.kW.yA hk hg fun hm=>by
    obtain⟨e,h1,-⟩:=(hL.ksE k gP hk).1 hm
    rw[List.map_eq_nil_iff.1 he]at h1
    cases h1]
   rfl
  ·rfl
 have HLI:=(jd k hS hk hv hf)
 rw[hn]at HLI
 have HNG:=(aA4 hS.kW hk)
 have HL:=Z hL
 have HE:=Z he
 obtain⟨va,vc,rfl,-⟩:=hv.len
 go_in
 go_wp2_with (first
  |(go_at_call 207;apply HNG.dC;rintro w1 rfl)
  |(go_at_call 208;apply HLI.cX;rintro e w2 ⟨fD,rfl,hM,hS⟩;have HS2:=Z hS))
 go_ret3
 exact⟨fD,rfl,hM,L,m,ks,es,rfl,HS2,hT,HL,rfl,rfl,rfl,HE⟩
theorem stoNext0(h:L6 w ρ β b wd aH gs [] F G)(hk:k<gs.length)(hv:fM dV aR 3 w kv gP)(hf:CE gP):
  Calls Tryz.prog 180 #[.pointer (some ⟨b,0,none⟩),.int .i64 k,kv] w (aH3 w ρ β b wd aH gs [] F G (.tuple #[.slice none 0 0,.bool false,.int .i64 62])):=by
 have HSL:=(aIz h hv hf)
 obtain⟨L,m,ks,es,rfl,hS,-,-,rfl,rfl,rfl,-⟩:=h
 have HNG:=(aA4 hS.kW hk)
 obtain⟨va,vc,rfl,-⟩:=hv.len
 go_in
 go_wp2_with (first
  |(go_at_call 207;apply HNG.dC;rintro w1 rfl)
  |(go_at_call 210;apply HSL.cX;rintro e w2 ⟨n,⟨fD,rfl,hM,hS⟩,-,hn⟩;obtain rfl:=hn J;have HS2:=Z hS))
 go_ret3
 exact⟨fD,rfl,hM,HS2⟩
end
end
section
section
variable{w w':World}{ρ bV:bC}{τ lb rb b F G:Nat}{s:lV}{n:f7}{iv:Value}{v:Value}{gP:Row}
theorem lvFirst0(h:zW w ρ τ lb rb s n F G iv)(hn:n.aM=[])(hv:fM dV aR 3 w v gP)(hf:CE gP):
  Calls Tryz.prog 138 #[.pointer (some ⟨lb,0,none⟩),v] w (aRB w ρ τ lb rb s n F G iv fun _ _ x=>x= .tuple #[.slice none 0 0,.bool false]):=by
 obtain⟨⟨ka,kc,sa,sc,ua,uc,hlb,-,-⟩,-,hst,-⟩:=h.lv
 rw[hn]at hst
 have HR:=(stoFirst0 (k:=0) hst J hv hf)
 have HN:=Z hn
 have HH:=Z h
 obtain⟨va,vc,rfl,-⟩:=hv.len
 have l6:=Zc hlb 6
 go_in
 go_wp2_with (go_at_call 179;apply HR.cX;rintro e w1 ⟨dX,rfl,hM,hS⟩;have HS:=Z hS)
 go_ret2
 exact⟨dX,_,rfl,hM,HH.vR hM (HN.o▸HS),rfl⟩
theorem lvNext0(h:zW w ρ τ lb rb s n F G iv)(hn:n.aM=[])(hv:fM dV aR 3 w v gP)(hf:CE gP):
  Calls Tryz.prog 139 #[.pointer (some ⟨lb,0,none⟩),v] w (aRB w ρ τ lb rb s n F G iv fun _ _ x=>x= .tuple #[.slice none 0 0,.bool false,.int .i64 62]):=by
 obtain⟨⟨ka,kc,sa,sc,ua,uc,hlb,-,-⟩,-,hst,-⟩:=h.lv
 rw[hn]at hst
 have HR:=(stoNext0 (k:=0) hst J hv hf)
 have HN:=Z hn
 have HH:=Z h
 obtain⟨va,vc,rfl,-⟩:=hv.len
 have l6:=Zc hlb 6
 go_in
 go_wp2_with (go_at_call 180;apply HR.cX;rintro e w1 ⟨dX,rfl,hM,hS⟩;have HS:=Z hS)
 go_ret3
 exact⟨dX,_,rfl,hM,HH.vR hM (HN.o▸HS),rfl⟩
def SuppIs(w:World)(ρ:bC)(τ b:Nat)(s:lV)(n:f7)(F G:Nat)(x:Value)(e:Ending)(w':World):Prop:=
 ∃bV,e= .returned x∧bI w ρ (fU τ) w' bV∧p9 w' bV τ b s n F G
theorem leafSupport0{kb:Nat}(h:zW w ρ τ lb rb s n F G iv)(hkb:w.heap[kb]? =some (.cells #[.pointer (some ⟨lb,0,none⟩)] 188 (0,0)))(hn:n.aM=[])(hv:fM dV aR 3 w v gP)(hf:CE gP):
  Calls Tryz.prog 268 #[.pointer (some ⟨kb,0,none⟩),v] w (aRB w ρ τ lb rb s n F G iv fun _ _ x=>x= .int .i64 0):=by
 have HL:=Z (lvLive h hv hf)
 rw[hn,show decide (gP∈([]:List Row))=false from rfl]at HL
 obtain⟨va,vc,rfl,-⟩:=hv.len
 have m0:=Zc hkb 0
 go_in
 go_wp2_with (go_at_call 272;apply HL.cX;rintro e w1 ⟨dX,x,rfl,hM,hW1,rfl⟩)
 go_ret
 exact⟨dX,_,rfl,hM,hW1,rfl⟩
theorem trimSupport0{kb:Nat}{x1 x2:Value}(h:zW w ρ τ lb rb s n F G iv)(hkb:w.heap[kb]? =some (.cells #[.pointer (some ⟨lb,0,none⟩),x1,x2] 192 (0,0)))(hn:n.aM=[])(hv:fM dV aR 3 w v gP)(hf:CE gP):
  Calls Tryz.prog 299 #[.pointer (some ⟨kb,0,none⟩),v] w (aRB w ρ τ lb rb s n F G iv fun _ _ x=>x= .int .i64 0):=by
 have HL:=Z (lvLive h hv hf)
 rw[hn,show decide (gP∈([]:List Row))=false from rfl]at HL
 obtain⟨va,vc,rfl,-⟩:=hv.len
 have m0:=Zc hkb 0
 go_in
 go_wp2_with (go_at_call 272;apply HL.cX;rintro e w1 ⟨dX,x,rfl,hM,hW1,rfl⟩)
 go_ret
 exact⟨dX,_,rfl,hM,hW1,rfl⟩
theorem meetSupport0{kb sb db:Nat}{aM sd:List Row}(h:uX w ρ τ kb lb rb sb db s aM [] sd F G)(hv:fM dV aR 3 w v gP)(hf:CE gP):
  Calls Tryz.prog 304 #[.pointer (some ⟨kb,0,none⟩),v] w fun e w'=>∃bV,e= .returned (.int .i64 0)∧bI w ρ (eX (τ+40)) w' bV∧uX w' bV τ kb lb rb sb db s aM [] sd F G:=by
 have HR:=(aEK h.fJ hv hf)
 rw[show decide (gP∈([]:List Row))=false from rfl]at HR
 obtain⟨va,vc,rfl,-⟩:=hv.len
 have hkb:=h.cF
 obtain⟨m0,m1⟩:=Z2 hkb
 have HH:=Z h
 go_in
 go_wp2_with (go_at_call 277;apply HR.cX;rintro e w1 ⟨dX,rfl,hM,hS⟩;have HS:=Z hS)
 go_ret
 exact⟨dX,rfl,hM,HH.PO hM HS⟩
theorem nodeSupport0(h:p9 w ρ τ b s n F G)(hn:n.aM=[])(hs:n.fJ=[])(hv:fM dV aR 3 w v gP)(hf:CE gP):
  Calls Tryz.prog 140 #[.pointer (some ⟨b,0,none⟩),v] w (SuppIs w ρ τ b s n F G (.int .i64 0)):=by
 obtain⟨lb,rb,iv,hb,ht,hW⟩:=h
 have HB:=(eI hb ht)
 have hst:¬eX (τ+20) τ:=by unfold eX;omega
 have hst2:¬eX (τ+40) τ:=by unfold eX;omega
 have hW0:=hW
 rcases hW with⟨hk,kb,rfl,hkb,htk,hlv⟩|⟨hk,kb,cm,rfl,hm⟩|⟨hk,kb,sb,db,rfl,hm⟩
 ·have HL:=Z (leafSupport0 hW0 hkb hn hv hf)
  obtain⟨va,vc,rfl,-⟩:=hv.len
  obtain⟨k0,k1⟩:=Z2 hb
  go_in
  go_wp2_with (go_at_call 268;apply HL.cX;rintro e w1 ⟨dX,x,rfl,hM,hW1,rfl⟩)
  go_ret
  exact⟨dX,rfl,hM.aL (fun _ h=> .inl h),lb,rb,_,hM.aC HB.1 (HB.2▸hst),(hM.cE b (dG HB.1)).ds HB.2,hW1⟩
 ·have HL:=Z (trimSupport0 hW0 hm.cF hn hv hf)
  obtain⟨va,vc,rfl,-⟩:=hv.len
  obtain⟨k0,k1⟩:=Z2 hb
  go_in
  go_wp2_with (go_at_call 299;apply HL.cX;rintro e w1 ⟨dX,x,rfl,hM,hW1,rfl⟩)
  go_ret
  exact⟨dX,rfl,hM.aL (fun _ h=> .inl h),lb,rb,_,hM.aC HB.1 (HB.2▸hst),(hM.cE b (dG HB.1)).ds HB.2,hW1⟩
 ·rw[hs]at hm
  have HL:=Z (meetSupport0 hm hv hf)
  have HSS:=Z hs
  obtain⟨va,vc,rfl,-⟩:=hv.len
  obtain⟨k0,k1⟩:=Z2 hb
  go_in
  go_wp2_with (go_at_call 304;apply HL.cX;rintro e w1 ⟨dX,rfl,hM,hW1⟩)
  go_ret
  exact⟨dX,rfl,hM.aL (fun _ h=> .inr (.inl h)),lb,rb,_,hM.aC HB.1 (HB.2▸hst2),(hM.cE b (dG HB.1)).ds HB.2,.inr (.inr ⟨hk,kb,sb,db,rfl,HSS.o▸hW1⟩)⟩
end
end
section
section
variable{w:World}{ρ:bC}{β b cells st ls F G:Nat}{q:bK}{T:gZ}{v t:Nat}{kv:Value}{gP:Row}
def TAskIs(w:World)(ρ:bC)(β b v:Nat)(q:bK)(cells st ls:Nat)(T:gZ)(F G:Nat)(R9:World→bC→Value→Prop)(e:Ending)(w':World):Prop:=
 ∃bV u,e= .returned u∧bI w ρ (fU (mR β v)) w' bV∧gT w' bV β b q cells st ls T F G∧R9 w' bV u
theorem treeGroup0(h:gT w ρ β b q cells st ls T F G)(hf:(aB q).2.aI.length≤42)(hv:v<(aB q).2.aI.length)(hn:(T v).aM=[])(hk:fM dV aR 3 w kv gP)(hr:CE gP)(ht:t<mR β v∨mR β v+100≤t):
  Calls Tryz.prog 91 #[.pointer (some ⟨b,0,none⟩),.int .i64 (v:Int),kv] w (TAskIs w ρ β b v q cells st ls T F G (fun w' bV x=>∃u,x= .tuple #[u,.int .i64 0]∧iY w' bV (mR β v+27) t u [])):=by
 let⟨nb,go,oo,co,b9,n0,hNd,hback⟩:=h.zC hv
 have HND:=(aEC (q:=q) hv b9 n0)
 obtain⟨lb,rb,iv,hb,htg,hW⟩:=hNd
 have HR:=(lvGroup hW hk hr ht)
 have k0:=Zc hb 0
 have HB:=(eI hb htg)
 rw[hn,List.filter_nil]at HR
 obtain⟨va,vc,rfl,-⟩:=hk.len
 go_in
 go_wp2_with (first
  |(go_at_call 137;apply HR.cX;rintro e w2 ⟨fD,u,rfl,hM,hW2,hR2⟩)
  |(go_at_call 43;apply HND.dC;rintro w1 rfl))
 go_ret2
 have hMw:bI w ρ (fU (mR β v)) w2 fD:=hM.aL (fun _ h=> .inl h)
 have hn:¬eX (mR β v+20) (mR β v):=by unfold eX;omega
 refine⟨fD,_,rfl,hMw,?_,u,rfl,hR2⟩
 have h':=hback w2 fD (T v) hMw (by assumption) ⟨lb,rb,iv,hM.aC HB.1 (HB.2▸hn),(hM.cE nb (dG HB.1)).ds HB.2,hW2⟩
 rw[aAa]at h'
 exact h'
theorem treeFirst0(h:gT w ρ β b q cells st ls T F G)(hf:(aB q).2.aI.length≤42)(hv:v<(aB q).2.aI.length)(hn:(T v).aM=[])(hk:fM dV aR 3 w kv gP)(hr:CE gP):
  Calls Tryz.prog 92 #[.pointer (some ⟨b,0,none⟩),.int .i64 (v:Int),kv] w (TAskIs w ρ β b v q cells st ls T F G (fun _ _ x=>x= .tuple #[.slice none 0 0,.bool false,.int .i64 0])):=by
 let⟨nb,go,oo,co,b9,n0,hNd,hback⟩:=h.zC hv
 have HND:=(aEC (q:=q) hv b9 n0)
 obtain⟨lb,rb,iv,hb,htg,hW⟩:=hNd
 have HR:=(lvFirst0 hW hn hk hr)
 have k0:=Zc hb 0
 have HB:=(eI hb htg)
 obtain⟨va,vc,rfl,-⟩:=hk.len
 go_in
 go_wp2_with (first
  |(go_at_call 138;apply HR.cX;rintro e w2 ⟨fD,u,rfl,hM,hW2,rfl⟩)
  |(go_at_call 43;apply HND.dC;rintro w1 rfl))
 go_ret3
 have hMw:bI w ρ (fU (mR β v)) w2 fD:=hM.aL (fun _ h=> .inl h)
 have hn:¬eX (mR β v+20) (mR β v):=by unfold eX;omega
 refine⟨fD,_,rfl,hMw,?_,rfl⟩
 have h':=hback w2 fD (T v) hMw (by assumption) ⟨lb,rb,iv,hM.aC HB.1 (HB.2▸hn),(hM.cE nb (dG HB.1)).ds HB.2,hW2⟩
 rw[aAa]at h'
 exact h'
theorem treeNext0(h:gT w ρ β b q cells st ls T F G)(hf:(aB q).2.aI.length≤42)(hv:v<(aB q).2.aI.length)(hn:(T v).aM=[])(hk:fM dV aR 3 w kv gP)(hr:CE gP):
  Calls Tryz.prog 93 #[.pointer (some ⟨b,0,none⟩),.int .i64 (v:Int),kv] w (TAskIs w ρ β b v q cells st ls T F G (fun _ _ x=>x= .tuple #[.slice none 0 0,.bool false,.int .i64 62])):=by
 let⟨nb,go,oo,co,b9,n0,hNd,hback⟩:=h.zC hv
 have HND:=(aEC (q:=q) hv b9 n0)
 obtain⟨lb,rb,iv,hb,htg,hW⟩:=hNd
 have HR:=(lvNext0 hW hn hk hr)
 have k0:=Zc hb 0
 have HB:=(eI hb htg)
 obtain⟨va,vc,rfl,-⟩:=hk.len
 go_in
 go_wp2_with (first
  |(go_at_call 139;apply HR.cX;rintro e w2 ⟨fD,u,rfl,hM,hW2,rfl⟩)
  |(go_at_call 43;apply HND.dC;rintro w1 rfl))
 go_ret3
 have hMw:bI w ρ (fU (mR β v)) w2 fD:=hM.aL (fun _ h=> .inl h)
 have hn:¬eX (mR β v+20) (mR β v):=by unfold eX;omega
 refine⟨fD,_,rfl,hMw,?_,rfl⟩
 have h':=hback w2 fD (T v) hMw (by assumption) ⟨lb,rb,iv,hM.aC HB.1 (HB.2▸hn),(hM.cE nb (dG HB.1)).ds HB.2,hW2⟩
 rw[aAa]at h'
 exact h'
theorem treeSupport0(h:gT w ρ β b q cells st ls T F G)(hf:(aB q).2.aI.length≤42)(hv:v<(aB q).2.aI.length)(hn:(T v).aM=[])(hk:fM dV aR 3 w kv gP)(hr:CE gP)(hs:(T v).fJ=[]):
  Calls Tryz.prog 94 #[.pointer (some ⟨b,0,none⟩),.int .i64 (v:Int),kv] w (TAskIs w ρ β b v q cells st ls T F G (fun _ _ x=>x= .tuple #[.int .i64 0,.int .i64 0])):=by
 let⟨nb,go,oo,co,b9,n0,hNd,hback⟩:=h.zC hv
 have HND:=(aEC (q:=q) hv b9 n0)
 have HR:=(nodeSupport0 hNd hn hs hk hr)
 obtain⟨va,vc,rfl,-⟩:=hk.len
 go_in
 go_wp2_with (first
  |(go_at_call 140;apply HR.cX;rintro e w2 ⟨fD,rfl,hM,hN2⟩;have HN2:=Z hN2)
  |(go_at_call 43;apply HND.dC;rintro w1 rfl))
 go_ret2
 refine⟨fD,_,rfl,hM,?_,rfl⟩
 have h':=hback w2 fD (T v) hM (by assumption) HN2.o
 rw[aAa]at h'
 exact h'
end
end
section
theorem sameInts_eq(v1 v2:Value)(l:List Nat)(w:World)(h1:a4B w v1 l)(h2:a4B w v2 l):
  Calls Tryz.prog 53 #[v1,v2] w fun e w'=>e= .returned (.bool true)∧U w [] w' []:=by
 obtain⟨a1,cap1,rfl,hmax⟩:=h1.len
 obtain⟨a2,cap2,rfl,-⟩:=h2.len
 unfold maxLen at hmax
 go_in
 go_wp2
 go_loopw [5] (fun i wr=>U w [] wr []∧∃k:Nat,k≤l.length∧i=X k) (fun i _=>l.length-(intOf i).toNat)
 ·exact⟨U.refl _ _,0,Y,rfl⟩
 obtain⟨hU,k,hk,rfl⟩:=hrel
 by_cases hlt:k<l.length
 ·let⟨g1,o1,c1,hv,hc1⟩:=(h1.on hU).FC hlt
  let⟨g2,o2,c2,hv2,hc2⟩:=(h2.on hU).FC hlt
  injection hv with e1 e2 e3
  subst e1 e3
  injection hv2 with e1 e2 e3
  subst e1 e3
  simp only[fN]at hc1 hc2
  generalize hx:l.getD k 0=x at hc1 hc2
  go_wp2
  go_quiet (fail)
  go_wp2
  go_roundw
  ·exact⟨hU.drewN _,k+1,Y,eY⟩
  simp[intOf];omega
 ·go_wp2
  go_ret
  exact⟨rfl,hU⟩
section
variable{w:World}{p ka:Option Addr}{c kn9 kc:Nat}
theorem often0:Calls Tryz.prog 181 #[.slice p 0 c,.slice ka kn9 kc] w fun e w'=>e= .returned (.int .i64 0)∧w=w':=by
 go_in
 go_wp2
 go_loopg [5,6] 0 (fun gg s5 s6 wr=>gg=0∧s5=X 0∧s6=X 0∧w=wr)
 ·exact⟨rfl,rfl,rfl,rfl⟩
 obtain⟨rfl,rfl,rfl,rfl⟩:=hrel
 go_wp2
 go_ret
 exact⟨rfl,rfl⟩
theorem place0:Calls Tryz.prog 30 #[.slice p 0 c,.slice ka kn9 kc] w fun e w'=>e= .returned (.int .i64 (-1))∧w=w':=by
 go_in
 go_wp2
 go_loopg [5] 0 (fun gg s5 wr=>gg=0∧s5=X 0∧w=wr)
 ·exact⟨rfl,rfl,rfl⟩
 obtain⟨rfl,rfl,rfl⟩:=hrel
 go_wp2
 go_ret
 exact⟨rfl,rfl⟩
theorem has0:Calls Tryz.prog 141 #[.slice p 0 c,.slice ka kn9 kc] w fun e w'=>e= .returned (.bool false)∧w=w':=by
 go_in
 go_wp2_with (go_at_call 30;apply place0.dC;rintro w1 rfl)
 go_ret
 exact⟨rfl,rfl⟩
theorem cuts0{x y:Option Addr}{xn xc yn yc:Nat}:Calls Tryz.prog 182 #[.slice p 0 c,.slice x xn xc,.slice y yn yc] w fun e w'=>∃a k,e= .returned (.slice a 0 k)∧U w [] w' []:=by
 have hmk:=Nd.xO 0 0 (fV _) Y GC w
 rw[show((0:Nat):Int)=0 from rfl]at hmk
 let⟨w5,hw5⟩:=D (w.alloc (.cells (madeCells #[cR] (0*1)) 34))
 have hU5:=Za hw5
 rw[hw5]at hmk
 go_in
 go_wp2
 go_loopg [8] 0 (fun gg s8 wr=>gg=0∧s8=X 0∧w5=wr)
 ·exact⟨rfl,rfl,rfl⟩
 obtain⟨rfl,rfl,rfl⟩:=hrel
 go_wp2
 go_ret
 exact⟨_,_,rfl,hU5⟩
end
end
section
structure DocR(w:World)(d:Nat)(q:bK)(cells:Nat):Prop where
 ex:∃qh qa p0 k0 p1 k1 p2 k2 p4 k4 pl kl ns,w.heap[d]? =some (.cells #[.string q.name,qh,qa,.slice p0 (aB q).2.vars.length k0,.slice p1 (aB q).2.head.length k1,.slice p2 (aB q).2.aI.length k2,.int .i64 (aB q).2.dQ,.slice p4 (aB q).2.tops.length k4,.int .i64 (cells:Int),.slice pl (aB q).2.aI.length kl,.int .i64 0,.int .i64 0,.bool false,.slice none 0 0,.int .i64 0] 56 (0,0))∧
  fM yK bU 1 w (.slice p0 (aB q).2.vars.length k0) (aB q).2.vars∧fM fN 0 1 w (.slice p1 (aB q).2.head.length k1) (aB q).2.head∧fM nS default 7 w (.slice p2 (aB q).2.aI.length k2) ns∧ns.map (·.1)=(aB q).2.aI∧N8 w ns∧fM fN 0 1 w (.slice p4 (aB q).2.tops.length k4) (aB q).2.tops∧fM GA undef 1 w (.slice pl (aB q).2.aI.length kl) (List.replicate (aB q).2.aI.length (.slice none 0 0))
theorem DocR.on{w w':World}{d cells:Nat}{q:bK}{S':List Nat}(h:DocR w d q cells)(hu:U w [] w' S'):DocR w' d q cells:=by
 obtain⟨qh,qa,p0,k0,p1,k1,p2,k2,p4,k4,pl,kl,ns,h1,h2,h3,h4,h5,h6,h7,h89⟩:=h.ex
 exact⟨qh,qa,p0,k0,p1,k1,p2,k2,p4,k4,pl,kl,ns,hu.aC h1 J,h2.on hu,h3.on hu,h4.on hu,h5,h6.on hu,h7.on hu,h89.on hu⟩
theorem uh.r{w:World}{ρ:bC}{t d cells:Nat}{q:bK}(h:uh w ρ t d q cells):DocR w d q cells:=by
 obtain⟨qh,qa,v0,v1,v2,v4,lv,ns,h1,-,h3,h4,h5,h6,h7,h89,h9⟩:=h
 obtain⟨p0,k0,rfl,-⟩:=h3.len
 obtain⟨p1,k1,rfl,-⟩:=h4.len
 obtain⟨p2,k2,rfl,-⟩:=h5.len
 obtain⟨p4,k4,rfl,-⟩:=h89.len
 obtain⟨pl,kl,rfl,-⟩:=h9.len
 have hn:ns.length=(aB q).2.aI.length:=by rw[←h6,r8]
 rw[ic]at h1 h9
 rw[hn]at h1 h5
 exact⟨qh,qa,p0,k0,p1,k1,p2,k2,p4,k4,pl,kl,ns,h1,h3.1,h4.1,h5.1,h6,fun x hx=>(h7 x hx).1,h89.1,h9.1⟩
theorem getD_repl(n i:Nat)(h:i<n):(List.replicate n (Value.slice none 0 0)).getD i undef= .slice none 0 0:=by
 rw[gV,List.getElem?_replicate,bW h];rfl
section
variable{w:World}{d cells v:Nat}{q:bK}{ka:Option Addr}{kn9 kc:Nat}
theorem docGroup0(h:DocR w d q cells)(hv:v<(aB q).2.aI.length):Calls Tryz.prog 95 #[.pointer (some ⟨d,0,none⟩),.int .i64 v,.slice ka kn9 kc] w fun e w'=>e= .returned (.slice none 0 0)∧w=w':=by
 obtain⟨qh,qa,p0,k0,p1,k1,p2,k2,p4,k4,pl,kl,ns,hB,-,-,hns,hnm,hva,-,hlv⟩:=h.ex
 let⟨gl,ol,cl,hl,hlc⟩:=hlv.FC (show v<(List.replicate (aB q).2.aI.length cR).length by rw[ic];exact hv)
 rw[ic]at hl
 injection hl with x1 x2 x3;subst x1
 simp only[GA,getD_repl _ _ hv]at hlc
 let⟨n,hn⟩:=D ((aB q).2.aI.length)
 have dl:=iP (dG hB)
 have d9:=Zc hB 9
 rw[hn]at d9 hv
 go_in
 go_wp2
 go_loopg [7,8] 0 (fun gg s7 s8 wr=>gg=0∧s7=cR∧s8=X 0∧w=wr)
 ·exact⟨rfl,rfl,rfl,rfl⟩
 obtain⟨rfl,rfl,rfl,rfl⟩:=hrel
 go_wp2
 go_ret
 exact⟨rfl,rfl⟩
theorem docNext0(h:DocR w d q cells)(hv:v<(aB q).2.aI.length):Calls Tryz.prog 96 #[.pointer (some ⟨d,0,none⟩),.int .i64 v,.slice ka kn9 kc] w fun e w'=>e= .returned (.tuple #[.slice none 0 0,.bool false,.int .i64 62])∧w=w':=by
 obtain⟨qh,qa,p0,k0,p1,k1,p2,k2,p4,k4,pl,kl,ns,hB,-,-,hns,hnm,hva,-,hlv⟩:=h.ex
 let⟨gl,ol,cl,hl,hlc⟩:=hlv.FC (show v<(List.replicate (aB q).2.aI.length cR).length by rw[ic];exact hv)
 rw[ic]at hl
 injection hl with x1 x2 x3;subst x1
 simp only[GA,getD_repl _ _ hv]at hlc
 let⟨n,hn⟩:=D ((aB q).2.aI.length)
 have dl:=iP (dG hB)
 have d9:=Zc hB 9
 rw[hn]at d9 hv
 go_in
 go_wp2_with (go_at_call 141;apply has0.dC;rintro w1 rfl)
 go_ret3
 exact⟨rfl,rfl⟩
end
end
section
section
variable{w:World}{p0 p1 p2 p4 pl:Option Addr}{l0 l1 l4 k0 k1 k2 k4 kl n v:Nat}{dQ:Int}{ns:List (bE×Value)}
theorem stored0(hns:fM nS default 7 w (.slice p2 n k2) ns)(hnl:ns.length=n)(hlv:fM GA undef 1 w (.slice pl n kl) (List.replicate n (.slice none 0 0)))(hv:v<n)(hsrc:(ns.getD v default).1.aG=3→(ns.getD v default).1.cM<n):
  Calls Tryz.prog 136 #[.agg #[.slice p0 l0 k0,.slice p1 l1 k1,.slice p2 n k2,.int .i64 dQ,.slice p4 l4 k4],.slice pl n kl,.int .i64 v] w fun e w'=>e= .returned (.slice none 0 0)∧U w [] w' []:=by
 let⟨wa,hwa⟩:=D (w.alloc (.cells #[.slice p0 l0 k0,.slice p1 l1 k1,.slice p2 n k2,X dQ,.slice p4 l4 k4] 53))
 have hUa:=Za hwa
 let⟨bp,hbp⟩:=D (w.heap.size)
 have c2:wa.cell? (Ad bp 2)=some (.slice p2 n k2):=by rw[←hwa,←hbp];exact aP (mE w _) rfl
 let⟨gn,on,cn,hv',hg,n0,n1,n2,n3,n4,n5,n6⟩:=hns.at7 (show v<ns.length by rw[hnl];exact hv)
 rw[hnl]at hv'
 injection hv' with x1 x2 x3;clear x2 x3;subst x1
 let⟨gl,ol,cl,hl,hlc⟩:=hlv.FC (show v<(List.replicate n cR).length by rw[ic];exact hv)
 rw[ic]at hl
 injection hl with x1 x2 x3;clear x2 x3;subst x1
 simp only[GA,getD_repl _ _ hv]at hlc
 generalize hx:ns.getD v default=x at n0 n3 hsrc
 have hlv2:=hlv.on hUa
 let⟨n0,n3,hlc⟩:=hUa.TR n0 n3 hlc
 clear hns hnl hlv hg n1 n2 n4 n5 n6 hx
 by_cases h3:x.1.aG=3
 ·have g3:((x.1.aG:Int)==3)=true:=by rw[h3];rfl
  have hs:=hsrc h3
  generalize hse:x.1.cM=s at n3 hs
  let⟨gl2,ol2,cl2,hl2,hlc2⟩:=hlv2.FC (show s<(List.replicate n cR).length by rw[ic];exact hs)
  simp only[Value.slice.injEq,Option.some.injEq,Addr.mk.injEq,true_and,and_true]at hl2
  obtain⟨⟨rfl,rfl⟩,-,rfl⟩:=hl2
  simp only[GA,getD_repl _ _ hs]at hlc2
  clear hlv2 hsrc h3 hlc hse
  go_in
  go_wp2
  go_ret
  exact⟨rfl,hUa⟩
 ·have g3:((x.1.aG:Int)==3)=false:=kG GD
  clear hlv2 hsrc h3 n3
  go_in
  go_wp2
  go_ret
  exact⟨rfl,hUa⟩
theorem size0(hns:fM nS default 7 w (.slice p2 n k2) ns)(hnl:ns.length=n)(hlv:fM GA undef 1 w (.slice pl n kl) (List.replicate n (.slice none 0 0)))(hsrc:∀v,v<n→(ns.getD v default).1.aG=3→(ns.getD v default).1.cM<n)(h42:n≤42):
  Calls Tryz.prog 90 #[.agg #[.slice p0 l0 k0,.slice p1 l1 k1,.slice p2 n k2,.int .i64 dQ,.slice p4 l4 k4],.slice pl n kl] w fun e w'=>e= .returned (.int .i64 0)∧U w [] w' []:=by
 let⟨wa,hwa⟩:=D (w.alloc (.cells #[.slice p0 l0 k0,.slice p1 l1 k1,.slice p2 n k2,X dQ,.slice p4 l4 k4] 53))
 have hUa:=Za hwa
 let⟨bp,hbp⟩:=D (w.heap.size)
 have hB:=Ze hwa hbp
 have HST:=(fun wz (hz:U wa [] wz []) v (hv:v<n)=>stored0 (p0:=p0) (p1:=p1) (p4:=p4) (l0:=l0) (l1:=l1) (l4:=l4) (k0:=k0) (k1:=k1) (k4:=k4) (dQ:=dQ) (hns.on (hUa.ds hz)) hnl (hlv.on (hUa.ds hz)) hv (hsrc v hv))
 go_in
 go_upto_region 3 with(fail)
 go_loopg [5,6] n (fun gg s5 s6 wr=>∃k:Nat,k≤n∧gg=n-k∧s5=X 0∧s6=X k∧U wa [] wr [])
 ·exact⟨0,Y,rfl,rfl,rfl,U.refl _ _⟩
 obtain⟨k,hk,hgk,rfl,rfl,hU⟩:=hrel
 have HGK:=Z hgk
 have hB:=hU.aC hB J
 obtain⟨b0,b1,b2,b3,b4⟩:=Z5 hB
 by_cases hlt:k<n
 ·have HS:=Z (HST wr hU k hlt)
  have HK:=Z hlt
  have hk':(k:Int)<(n:Int):=Y
  go_wp2_with (go_at_call 136;apply HS.dC;intro w2 hU2)
  go_roundg (n-(k+1))
  ·exact⟨k+1,HK,rfl,rfl,eY,hU.ds hU2⟩
  have:=HGK.o;have:=HK.o;omega
 ·obtain rfl:k=n:=Y
  go_wp2
  go_ret
  exact⟨rfl,hUa.ds hU⟩
theorem support0(hns:fM nS default 7 w (.slice p2 n k2) ns)(hnl:ns.length=n)(hva:N8 w ns)(hlv:fM GA undef 1 w (.slice pl n kl) (List.replicate n (.slice none 0 0)))(hv:v<n)(hsrc:(ns.getD v default).1.aG=2∨(ns.getD v default).1.aG=3→(ns.getD v default).1.cM<n)(hkd:(ns.getD v default).1.aG=1∨(ns.getD v default).1.aG=2∨(ns.getD v default).1.aG=3):
  Calls Tryz.prog 142 #[.agg #[.slice p0 l0 k0,.slice p1 l1 k1,.slice p2 n k2,.int .i64 dQ,.slice p4 l4 k4],.slice pl n kl,.int .i64 v,.slice none 0 0] w fun e w'=>e= .returned (.int .i64 0)∧U w [] w' []:=by
 let⟨wa,hwa⟩:=D (w.alloc (.cells #[.slice p0 l0 k0,.slice p1 l1 k1,.slice p2 n k2,X dQ,.slice p4 l4 k4] 53))
 have hUa:=Za hwa
 let⟨bp,hbp⟩:=D (w.heap.size)
 have c2:wa.cell? (Ad bp 2)=some (.slice p2 n k2):=by rw[←hwa,←hbp];exact aP (mE w _) rfl
 let⟨gn,on,cn,hv',hg,n0,n1,n2,n3,n4,n5,n6⟩:=hns.at7 (show v<ns.length by rw[hnl];exact hv)
 rw[hnl]at hv'
 injection hv' with x1 x2 x3;clear x2 x3;subst x1
 let⟨gl,ol,cl,hl,hlc⟩:=hlv.FC (show v<(List.replicate n cR).length by rw[ic];exact hv)
 rw[ic]at hl
 injection hl with x1 x2 x3;clear x2 x3;subst x1
 simp only[GA,getD_repl _ _ hv]at hlc
 obtain⟨va,vc,hve,-⟩:=(hva _ (bO (d:=default) (show v<ns.length by rw[hnl];exact hv))).len
 rw[hve]at n2
 generalize hx:ns.getD v default=x at n0 n1 n2 n3 n4 n5 n6 hsrc hkd
 generalize hm:x.1.vars.length=m at n2
 have hns2:=hns.on hUa
 have hva2:=hva.on hUa
 have hlv2:=hlv.on hUa
 let⟨n0,n1,n2,n3,n4,n5,n6,hlc⟩:=hUa.zc8 n0 n1 n2 n3 n4 n5 n6 hlc
 have HNL:=Z hnl
 clear hns hnl hva hlv hg hx hve hm
 go_in
 go_upto_region 2 with(fail)
 let⟨w3,hw3⟩:=D (wa.alloc (.cells #[X (x.1.aG:Int),X (x.1.qV:Int),.slice va m vc,X (x.1.cM:Int),X (x.1.bP:Int),X x.1.bS,.bool x.1.mL] 132))
 let⟨bn,hbn⟩:=D (wa.heap.size)
 have hU3:=Za hw3
 have hB3:w3.heap[bn]? =some (.cells #[X (x.1.aG:Int),X (x.1.qV:Int),.slice va m vc,X (x.1.cM:Int),X (x.1.bP:Int),X x.1.bS,.bool x.1.mL] 132 (0,0)):=by rw[←hw3,←hbn];exact mE ..
 have e0:=Zc hB3 0
 have e2:=Zc hB3 2
 have e3:=Zc hB3 3
 have d2:=hU3.cell c2 J
 have hlc:=hU3.cell hlc J
 try rw[hw3,hbn]
 clear hB3 hwa n0 n1 n2 n3 n4 n5 n6 c2 hw3 hbn hbp
 by_cases h0:m=0
 ·subst h0
  rcases hkd with h1|h1
  ·have g1:((x.1.aG:Int)==1)=true:=by rw[h1];rfl
   clear h1
   go_wp2_with (go_at_call 181;apply often0.dC;rintro w4 rfl)
   go_ret
   exact⟨rfl,hUa.ds hU3⟩
  ·have g1:((x.1.aG:Int)==1)=false:=kG GD
   have hs:=hsrc h1
   generalize hse:x.1.cM=s at e3 hs
   let⟨gl2,ol2,cl2,hl2,hlc2⟩:=(hlv2.on hU3).FC (show s<(List.replicate n cR).length by rw[ic];exact hs)
   simp only[Value.slice.injEq,Option.some.injEq,Addr.mk.injEq,true_and,and_true]at hl2
   obtain⟨⟨rfl,rfl⟩,-,rfl⟩:=hl2
   simp only[GA,getD_repl _ _ hs]at hlc2
   rcases h1 with h1|h1
   ·have g2:((x.1.aG:Int)==2)=true:=by rw[h1];rfl
    obtain⟨gm9,om,cm,hv2,-,-,-,m2,-⟩:=(hns2.on hU3).at7 (show s<ns.length by rw[HNL.o];exact hs)
    rw[HNL.o]at hv2
    simp only[Value.slice.injEq,Option.some.injEq,Addr.mk.injEq,true_and,and_true]at hv2
    obtain⟨⟨rfl,rfl⟩,rfl⟩:=hv2
    obtain⟨sa,sc,hse2,-⟩:=(hva2.on hU3 _ (bO (d:=default) (show s<ns.length by rw[HNL.o];exact hs))).len
    rw[hse2]at m2
    generalize hsm:(ns.getD s default).1.vars.length=sm at m2
    clear h1 hse hse2 hsm hlc
    go_upto_region 7 with(fail)
    let⟨wd,hwd⟩:=D (w3.drew)
    have hUd:U w3 [] wd []:=A1 hwd
    refine aO 99 (fun w'=>w'.cell? (Ad bn 3)=some (X s)∧w'.cell? (Ad gl (ol+s))=some cR∧w'.cell? (Ad bp 2)=some (eC gn on n k2)∧w'.cell? (Ad gn (on+s*7+2))=some (.slice sa sm sc)∧w'.cell? (Ad bn 2)=some (.slice va 0 vc)) dJ ⟨e3,hlc2,d2,m2,e2⟩ (fun Q=> ?_)
    clear e0 e2 e3 d2 m2 hlc2
    rw[hwd]at Q⊢
    clear hwd
    refine I 0 ?_
    refine I 1 ?_
    refine I 5 ?_
    refine I 7 ?_
    refine I 12 ?_
    refine I 15 ?_
    refine I 2 ?_
    refine I 6 ?_
    refine I 8 ?_
    refine I 13 ?_
    refine I 3 ?_
    refine I 9 ?_
    refine I 4 ?_
    refine I 10 ?_
    refine I 11 ?_
    refine Zo 14 fun K9 hK=> ?_
    go_simp
    go_at_call 182
    apply cuts0.cX
    rintro e w4 ⟨a4,c4,rfl,hU4⟩
    dsimp only
    replace Q:=hU4.zh5 Q
    refine j5 ?_;clear hK K9
    have HU4:=(hUd.ds hU4)
    clear hU4
    refine Zo 16 fun K9 hK=> ?_
    go_simp
    go_at_call 181
    apply often0.cX
    rintro e w5 ⟨rfl,rfl⟩
    dsimp only
    refine Zk hK Q<|I 17 ?_
    refine bD dJ ?_ _
    clear Q
    go_wp2
    go_ret
    exact⟨rfl,hUa.ds (hU3.ds HU4)⟩
   ·have g2:((x.1.aG:Int)==2)=false:=kG GD
    clear h1 hse hlc
    go_wp2_with (go_at_call 181;apply often0.dC;rintro w4 rfl)
    go_ret
    exact⟨rfl,hUa.ds hU3⟩
 ·have g0:¬0=m:=fun h=>h0 h.symm
  have g1:((0:Int)!=(m:Int))=true:=kG bne_iff_ne
  go_wp2
  go_ret
  exact⟨rfl,hUa.ds hU3⟩
end
end
section
section
variable{w:World}{d cells v:Nat}{q:bK}
theorem nth_fst{ns:List (bE×Value)}{p:vZ}(h:ns.map (·.1)=p.aI)(i:Nat):(ns.getD i default).1=eA p.aI i:=by
 rw[←gQ,h];rfl
theorem bo.srcs(hok:bo q){i:Nat}(hi:i<(aB q).2.aI.length):(eA (aB q).2.aI i).aG=2∨(eA (aB q).2.aI i).aG=3→(eA (aB q).2.aI i).cM<(aB q).2.aI.length:=fun hk=>by
 let⟨b1,b2,b3⟩:=hok.wf.below i hi
 have:(eA (aB q).2.aI i).cM<i:=b2 (by show¬(eA (aB q).2.aI i).aG=1;omega)
 omega
theorem docSupport0(h:DocR w d q cells)(hok:bo q)(hv:v<(aB q).2.aI.length):Calls Tryz.prog 97 #[.pointer (some ⟨d,0,none⟩),.int .i64 v,.slice none 0 0] w fun e w'=>e= .returned (.int .i64 0)∧U w [] w' []:=by
 obtain⟨qh,qa,p0,k0,p1,k1,p2,k2,p4,k4,pl,kl,ns,hB,-,-,hns,hnm,hva,-,hlv⟩:=h.ex
 have hnl:ns.length=(aB q).2.aI.length:=by rw[←hnm,r8]
 have hfst:=nth_fst hnm
 have dl:=iP (dG hB)
 have d3:=Zc hB 3
 have d4:=Zc hB 4
 have d5:=Zc hB 5
 have d6:=Zc hB 6
 have d7:=Zc hB 7
 have d9:=Zc hB 9
 let⟨wd,hwd⟩:=D (w.drew)
 have hUd:U w [] wd []:=A1 hwd
 have HS:=Z (support0 (v:=v) (p0:=p0) (p1:=p1) (p4:=p4) (l0:=(aB q).2.vars.length) (l1:=(aB q).2.head.length) (l4:=(aB q).2.tops.length) (k0:=k0) (k1:=k1) (k4:=k4) (dQ:=(aB q).2.dQ) (hns.on hUd) hnl (hva.on hUd) (hlv.on hUd) hv (by rw[hfst];exact hok.srcs hv) (by rw[hfst];exact hok.wf.WE v hv))
 generalize hn:(aB q).2.aI.length=n at d5 d9 HS
 go_in
 go_upto_region 1 with(fail)
 refine aO 99 (fun w'=>w'.cell? (Ad d 3)=some (.slice p0 (aB q).2.vars.length k0)∧w'.cell? (Ad d 4)=some (.slice p1 (aB q).2.head.length k1)∧w'.cell? (Ad d 5)=some (.slice p2 n k2)∧w'.cell? (Ad d 6)=some (X (aB q).2.dQ)∧w'.cell? (Ad d 7)=some (.slice p4 (aB q).2.tops.length k4)∧w'.cell? (Ad d 9)=some (.slice pl n kl)) dJ ⟨d3,d4,d5,d6,d7,d9⟩ (fun Q=> ?_)
 rw[hwd]at Q⊢
 refine I 0 ?_
 refine I 4 ?_
 refine I 8 ?_
 refine I 9 ?_
 refine I 1 ?_
 refine I 5 ?_
 refine I 2 ?_
 refine I 6 ?_
 refine I 3 ?_
 refine I 7 ?_
 refine Zo 10 fun K9 hK=> ?_
 go_simp
 go_at_call 142
 apply HS.cX
 rintro e w4 ⟨rfl,hU4⟩
 dsimp only
 obtain⟨sh0,sh1,sh2,sh3,sh4,sh5⟩:=Q;have Q:=eI ((hU4).cell sh0 J) (eI ((hU4).cell sh1 J) (eI ((hU4).cell sh2 J) (eI ((hU4).cell sh3 J) (eI ((hU4).cell sh4 J) ((hU4).cell sh5 J)))))
 refine j5 ?_;clear hK K9
 have HU4:=(hUd.ds hU4)
 refine I 11 ?_
 refine bD dJ ?_ _
 go_wp2
 go_ret
 exact⟨rfl,HU4⟩
theorem docStored0(h:DocR w d q cells)(hok:bo q):Calls Tryz.prog 55 #[.pointer (some ⟨d,0,none⟩)] w fun e w'=>e= .returned (.int .i64 0)∧U w [] w' []:=by
 obtain⟨qh,qa,p0,k0,p1,k1,p2,k2,p4,k4,pl,kl,ns,hB,-,-,hns,hnm,hva,-,hlv⟩:=h.ex
 have hnl:ns.length=(aB q).2.aI.length:=by rw[←hnm,r8]
 have hfst:=nth_fst hnm
 have dl:=iP (dG hB)
 have d3:=Zc hB 3
 have d4:=Zc hB 4
 have d5:=Zc hB 5
 have d6:=Zc hB 6
 have d7:=Zc hB 7
 have d9:=Zc hB 9
 let⟨wd,hwd⟩:=D (w.drew)
 have hUd:U w [] wd []:=A1 hwd
 have HS:=Z (size0 (p0:=p0) (p1:=p1) (p4:=p4) (l0:=(aB q).2.vars.length) (l1:=(aB q).2.head.length) (l4:=(aB q).2.tops.length) (k0:=k0) (k1:=k1) (k4:=k4) (dQ:=(aB q).2.dQ) (hns.on hUd) hnl (hlv.on hUd) (fun v hv hk=>by rw[hfst]at hk⊢;exact hok.srcs hv (.inr hk)) hok.oE)
 generalize hn:(aB q).2.aI.length=n at d5 d9 HS
 go_in
 go_upto_region 1 with(fail)
 refine aO 99 (fun w'=>w'.cell? (Ad d 3)=some (.slice p0 (aB q).2.vars.length k0)∧w'.cell? (Ad d 4)=some (.slice p1 (aB q).2.head.length k1)∧w'.cell? (Ad d 5)=some (.slice p2 n k2)∧w'.cell? (Ad d 6)=some (X (aB q).2.dQ)∧w'.cell? (Ad d 7)=some (.slice p4 (aB q).2.tops.length k4)∧w'.cell? (Ad d 9)=some (.slice pl n kl)) dJ ⟨d3,d4,d5,d6,d7,d9⟩ (fun Q=> ?_)
 rw[hwd]at Q⊢
 refine I 0 ?_
 refine I 4 ?_
 refine I 1 ?_
 refine I 5 ?_
 refine I 2 ?_
 refine I 6 ?_
 refine I 3 ?_
 refine I 7 ?_
 refine Zo 8 fun K9 hK=> ?_
 go_simp
 go_at_call 90
 apply HS.cX
 rintro e w4 ⟨rfl,hU4⟩
 dsimp only
 obtain⟨sh0,sh1,sh2,sh3,sh4,sh5⟩:=Q;have Q:=eI ((hU4).cell sh0 J) (eI ((hU4).cell sh1 J) (eI ((hU4).cell sh2 J) (eI ((hU4).cell sh3 J) (eI ((hU4).cell sh4 J) ((hU4).cell sh5 J)))))
 refine j5 ?_;clear hK K9
 have HU4:=(hUd.ds hU4)
 refine I 9 ?_
 refine bD dJ ?_ _
 go_wp2
 go_ret
 exact⟨rfl,HU4⟩
end
end
theorem fit0:CE []:=⟨E,fun x hx=>by cases hx⟩
theorem rowsSame_nil{av bv:Value}{w:World}(ha:XW w av [])(hb:XW w bv []):uJ 14 #[av,bv] w fun e w'=>e= .returned (.bool true)∧U w [] w' []:=
 (aEZ ha hb).mono fun e w' ⟨h,hU⟩=>⟨h.ds (by rw[kY rfl]),hU⟩
theorem rowSame_nil(w:World):uJ 28 #[.slice none 0 0,.slice none 0 0] w fun e w'=>e= .returned (.bool true)∧U w [] w' []:=
 (Nz (a:=[]) (b:=[]) (fM.nil w) (fM.nil w)).mono fun e w' ⟨h,hU⟩=>⟨h.ds (by rw[kY rfl]),hU⟩
theorem asks0{w:World}{ρ:bC}{β b d cells st ls F G v:Nat}{q:bK}(h:gT w ρ β b q cells st ls (fun _=>OY) F G)(hok:bo q)(hD:uh w ρ 2 d q cells)(hβ:10≤β)(hv:v<(aB q).2.aI.length):
  Calls Tryz.prog 56 #[.pointer (some ⟨b,0,none⟩),.pointer (some ⟨d,0,none⟩),.int .i64 (v:Int),.slice none 0 0] w fun e w'=>∃bV,e= .returned (.bool true)∧bI w ρ (TI β) w' bV∧gT w' bV β b q cells st ls (fun _=>OY) F G:=by
 have hv42:v<42:=xF hv hok.oE
 have HT:=Z (show 3<mR β v∨mR β v+100≤3 by unfold mR;omega)
 have HN3:=Z (show¬fU (mR β v) 3 by unfold fU eX mR;omega)
 have HN27:=Z (show¬fU (mR β v) (mR β v+27) by unfold fU eX;omega)
 have HLW:=Z (show∀x,fU (mR β v) x→TI β x from fun x hx=> .inl (kt hv42 hx))
 have HL2:=Z (show¬TI β 2 by unfold TI CK;omega)
 have HR:=Z (ZK (t:=3) h hok.oE hv HT)
 have HOK:=Z hok
 have HV:=Z hv
 have HD:=Z hD
 clear h hok hD hβ hv42 hv
 go_in
 go_upto_region 2 with(go_at_call 13;refine HR.mono ?_;rintro e w1 ⟨dX,u1,rfl,hM1,hB1,hR1⟩;have hR1:QO w1 dX (mR β v+27) 3 u1 []:=hR1;obtain⟨a1,c1,e1,-⟩:=hR1.len;rw[show([]:List Row).length=0 from rfl]at e1;subst e1;have HM:=Z (hM1.aL HLW);have HB:=Z hB1;have HRW:=Z hR1;clear hM1 hB1 hR1)
 go_upto_region 3 with(first
  |(go_at_call 31;refine(YG (l:=[]) (fM.nil _) E).mono ?_;rintro e w2 ⟨u2,rfl,hO2,hU2⟩;obtain⟨a2,c2,e2,-⟩:=hO2.len;rw[show([]:Row).length=0 from rfl]at e2;subst e2;have HO2:=Z hO2;have HU2:=Z hU2;clear hO2 hU2)
  |(go_at_call 91;refine(treeGroup0 (t:=3) (HB.on HU2) HOK.oE HV rfl HO2.rd fit0 HT).mono ?_;rintro e w3 ⟨mI,x,rfl,hM3,hB3,ug,rfl,hG3⟩;obtain⟨a3,c3,e3,-⟩:=hG3.len;rw[show([]:List Row).length=0 from rfl]at e3;subst e3;have HM3:=Z ((HM.kV HU2).ds (hM3.aL HLW));have HB3:=Z hB3;have HG3:=Z hG3;have HRW3:=Z ((HRW.eb (HU2.fL (S:=eZ)) id id).eb hM3 HN27 HN3);clear hM3 hB3 hG3))
 clear HM HB HRW HO2 HU2
 go_upto_region 4 with(first
  |(go_at_call 31;refine(YG (l:=[]) (fM.nil _) E).mono ?_;rintro e w2 ⟨u2,rfl,hO2,hU2⟩;obtain⟨a2,c2,e2,-⟩:=hO2.len;rw[show([]:Row).length=0 from rfl]at e2;subst e2;have HO2:=Z hO2;have HU2:=Z hU2;clear hO2 hU2)
  |(go_at_call 92;refine(treeFirst0 (HB3.on HU2) HOK.oE HV rfl HO2.rd fit0).mono ?_;rintro e w5 ⟨oT,x,rfl,hM5,hB5,rfl⟩;have HM5:=Z ((HM3.kV HU2).ds (hM5.aL HLW));have HB5:=Z hB5;have HG5:=Z ((HG3.on HU2).eb hM5 HN27 HN3);have HRW5:=Z ((HRW3.eb (HU2.fL (S:=eZ)) id id).eb hM5 HN27 HN3);clear hM5 hB5))
 clear HM3 HB3 HRW3 HG3 HO2 HU2
 go_upto_region 5 with(first
  |(go_at_call 31;refine(YG (l:=[]) (fM.nil _) E).mono ?_;rintro e w2 ⟨u2,rfl,hO2,hU2⟩;obtain⟨a2,c2,e2,-⟩:=hO2.len;rw[show([]:Row).length=0 from rfl]at e2;subst e2;have HO2:=Z hO2;have HU2:=Z hU2;clear hO2 hU2)
  |(go_at_call 93;refine(treeNext0 (HB5.on HU2) HOK.oE HV rfl HO2.rd fit0).mono ?_;rintro e w7 ⟨ρ7,x,rfl,hM7,hB7,rfl⟩;have HM7:=Z ((HM5.kV HU2).ds (hM7.aL HLW));have HB7:=Z hB7;have HG7:=Z ((HG5.on HU2).eb hM7 HN27 HN3);have HRW7:=Z ((HRW5.eb (HU2.fL (S:=eZ)) id id).eb hM7 HN27 HN3);clear hM7 hB7))
 clear HM5 HB5 HRW5 HG5 HO2 HU2
 go_upto_region 6 with(first
  |(go_at_call 31;refine(YG (l:=[]) (fM.nil _) E).mono ?_;rintro e w2 ⟨u2,rfl,hO2,hU2⟩;obtain⟨a2,c2,e2,-⟩:=hO2.len;rw[show([]:Row).length=0 from rfl]at e2;subst e2;have HO2:=Z hO2;have HU2:=Z hU2;clear hO2 hU2)
  |(go_at_call 94;refine(treeSupport0 (HB7.on HU2) HOK.oE HV rfl HO2.rd fit0 rfl).mono ?_;rintro e w9 ⟨ρ9,x,rfl,hM9,hB9,rfl⟩;have HM9:=Z ((HM7.kV HU2).ds (hM9.aL HLW));have HB9:=Z hB9;have HG9:=Z ((HG7.on HU2).eb hM9 HN27 HN3);have HRW9:=Z ((HRW7.eb (HU2.fL (S:=eZ)) id id).eb hM9 HN27 HN3);clear hM9 hB9))
 clear HM7 HB7 HRW7 HG7 HO2 HU2
 have HD9:=Z (HD.eb HM9 HL2).r
 obtain⟨qh,qa,p0,k0,p1,k1,p2,k2,p4,k4,pl,kl,ns,hB,-,-,-,-,-,-,hlv⟩:=HD9.ex
 have hv:=HV.o
 obtain⟨gl,ol,cl,hl,hlc⟩:=hlv.FC (show v<(List.replicate (aB q).2.aI.length cR).length by rw[ic];exact hv)
 rw[ic]at hl
 injection hl with x1 x2 x3;clear x2 x3;subst x1
 simp only[GA,getD_repl _ _ hv]at hlc
 have HGR:=Z (docGroup0 (ka:=none) (kn9:=0) (kc:=0) HD9 hv)
 have HNX:=Z (docNext0 (ka:=none) (kn9:=0) (kc:=0) HD9 hv)
 have HSU:=Z (fun(wz:World) (hz:U w9 [] wz [])=>docSupport0 (HD9.on hz) HOK hv)
 obtain⟨n,hn⟩:=D ((aB q).2.aI.length)
 rw[hn]at hB hv
 have dl:=iP (dG hB)
 have d9:=Zc hB 9
 clear hB hlv hn
 have hvn:(v:Int)<(n:Int):=Y
 have hv0:¬((v:Int)<0):=Y
 have HS1:=Z (fun(wz:World) (hz:U w9 [] wz [])=>rowsSame_nil (by have h:=HRW9.rws.on hz;exact h.rw) (by have h:=iY.nil wz ρ9 0 0;exact h.rw))
 have HS2:=Z (fun(wz:World) (hz:U w9 [] wz [])=>rowsSame_nil (by have h:=HG9.on hz;exact h.rw) (by have h:=iY.nil wz ρ9 0 0;exact h.rw))
 go_upto_region 10 with(first
  |(go_at_call 95;refine HGR.mono ?_;rintro e w2 ⟨rfl,rfl⟩)
  |(go_at_call 96;refine HNX.mono ?_;rintro e w2 ⟨rfl,rfl⟩))
 have HS1:=Z (HS1.o w9 (U.refl _ _))
 go_upto_region 12 with(first
  |(go_at_call 14;refine HS1.mono ?_;rintro e w2 ⟨rfl,hU2⟩;have HU2:=Z hU2;clear HS1 hU2)
  |(go_at_call 14;refine(HS2.o _ HU2).mono ?_;rintro e w3 ⟨rfl,hU3⟩;have HU3:=Z (HU2.ds hU3);clear hU3))
 have HSN:=Z (rowSame_nil w3)
 go_wp2_with (first
  |(go_at_call 28;refine HSN.mono ?_;rintro e w4 ⟨rfl,hU4⟩;have HU4:=Z (HU3.ds hU4);clear hU4)
  |(go_at_call 97;refine(HSU.o _ HU4).mono ?_;rintro e w5 ⟨rfl,hU5⟩;have HU5:=Z (HU4.ds hU5);clear hU5))
 go_ret
 exact⟨ρ9,rfl,HM9.kV HU5,HB9.on HU5⟩
theorem storedT0(P:AC):eH P (fun _=>OY)=0:=by
 have:∀l:List Nat,(l.map fun i=>lI (P.spec i) ((fun _=>OY:gZ) i)).sum=0:=fun l=>by
  induction l with
  |nil=>rfl
  |cons a l ih=>
   rw[KR,List.sum_cons,ih]
   unfold lI OY
   split<;>rfl
 exact this _
theorem same0{w:World}{ρ:bC}{β b d cells ls F G:Nat}{q:bK}(h:gT w ρ β b q cells 0 ls (fun _=>OY) F G)(hok:bo q)(hD:uh w ρ 2 d q cells)(hβ:10≤β):
  Calls Tryz.prog 21 #[.pointer (some ⟨b,0,none⟩),.pointer (some ⟨d,0,none⟩)] w fun e w'=>∃bV,e= .returned (.bool true)∧bI w ρ (TI β) w' bV∧gT w' bV β b q cells 0 ls (fun _=>OY) F G:=by
 have HL2:=Z (show¬TI β 2 by unfold TI CK;omega)
 obtain⟨qh,qa,v0,v1,v2,v4,lv,ns,hB,-⟩:=id hD
 have dl:=iP (dG hB)
 have d10:=Zc hB 10
 have d11:=Zc hB 11
 let⟨wd,hwd⟩:=D (w.drew)
 have hUd:U w [] wd []:=A1 hwd
 have HH:=Z h
 have HST:=(yV (h.on hUd) hok.oE)
 rw[storedT0]at HST
 go_in
 go_upto_region 1 with(fail)
 refine aO 99 (fun w'=>w'.cell? (Ad d 10)=some (X 0)∧w'.cell? (Ad d 11)=some (X 0)) dJ ⟨d10,d11⟩ (fun Q=> ?_)
 rw[hwd]at Q⊢
 refine I 0 ?_
 refine I 2 ?_
 refine Zo 1 fun K9 hK=> ?_
 go_simp
 go_at_call 12
 apply HST.cX
 rintro e w2 ⟨rfl,hU2⟩
 dsimp only
 obtain⟨sh0,sh1⟩:=Q;have Q:=eI ((hU2).cell sh0 J) ((hU2).cell sh1 J)
 refine j5 ?_;clear hK K9
 have HU2:=(hUd.ds hU2)
 refine Zo 3 fun K9 hK=> ?_
 go_simp
 go_at_call 55
 apply(docStored0 ((hD.r).on HU2) hok).cX
 rintro e w3 ⟨rfl,hU3⟩
 dsimp only
 obtain⟨sh0,sh1⟩:=Q;have Q:=eI ((hU3).cell sh0 J) ((hU3).cell sh1 J)
 refine j5 ?_;clear hK K9
 have HU3:=(HU2.ds hU3)
 refine I 4 ?_
 refine I 5 ?_
 refine I 6 ?_
 refine I 8 ?_
 refine I 9 ?_
 refine I 10 ?_
 refine I 11 ?_
 refine sI (i:=7) dJ rfl dJ (fun K9 hK=> ?_);(try simp only[List.getElem_toArray,Tw,Tx])
 go_simp
 go_at_call 26
 apply(Iu (HH.on HU3)).cX
 rintro e w4 ⟨rfl,rfl⟩
 dsimp only
 refine j5 ?_;clear hK K9
 refine I 12 ?_
 refine I 13 ?_
 refine bD dJ ?_ _
 have HM3:=(HU3.fL (S:=TI β) (ρ:=ρ))
 have HB3:=(HH.on HU3)
 have HD3:=(hD.eb HM3 HL2)
 obtain⟨qh,qa,p0,k0,p1,k1,p2,k2,p4,k4,pl,kl,ns,hB,-⟩:=HD3.r.ex
 generalize hn:(aB q).2.aI.length=n at hB
 have dl3:=iP (dG hB)
 have d9:=Zc hB 9
 have HN:=Z hn
 have h42:n≤42:=hn▸hok.oE
 go_upto_region 4 with(fail)
 go_loopg [27] n (fun gg s27 wr=>∃(k:Nat) (ρr:bC),k≤n∧gg=n-k∧s27=X k∧bI w ρ (TI β) wr ρr∧gT wr ρr β b q cells 0 ls (fun _=>OY) F G)
 ·exact⟨0,ρ,Y,rfl,rfl,HM3,HB3⟩
 obtain⟨k,ρr,hk,hgk,rfl,hM,hT⟩:=hrel
 have HGK:=Z hgk
 by_cases hlt:k<n
 ·have HA:=(asks0 hT hok (hD.eb hM HL2) hβ (show k<(aB q).2.aI.length by rw[HN.o];exact hlt))
  have HK:=Z hlt
  have hk':(k:Int)<(n:Int):=Y
  go_upto_region 8 with(go_at_call 56;apply HA.cX;rintro e w5 ⟨oT,rfl,hM5,hB5⟩;have HM5:=(hM.ds hM5))
  obtain⟨qh,qa,p0,k0,p1,k1,p2,k2,p4,k4,pl,kl,ns,hB,-,-,-,-,-,-,hlv⟩:=(hD.eb HM5 HL2).r.ex
  rw[HN.o]at hB hlv
  let⟨gl,ol,cl,hl,hlc⟩:=hlv.FC (show k<(List.replicate n cR).length by rw[ic];exact hlt)
  rw[ic]at hl
  injection hl with x1 x2 x3;subst x1
  simp only[GA,getD_repl _ _ hlt]at hlc
  have dl5:=iP (dG hB)
  have d9:=Zc hB 9
  go_upto_region 9 with(fail)
  go_loopg [43] 0 (fun gg s43 wi=>gg=0∧s43=X 0∧w5=wi)
  ·exact⟨rfl,rfl,rfl⟩
  obtain⟨rfl,rfl,rfl⟩:=hrel
  go_wp2
  go_roundg (n-(k+1))
  ·exact⟨k+1,oT,HK,rfl,eY,HM5,hB5⟩
  have:=HGK.o;have:=HK.o;omega
 ·obtain rfl:k=n:=Y
  go_wp2
  go_ret
  exact⟨ρr,rfl,hM,hT⟩
theorem aN0.set{w0 w w':World}{v:Value}{p:vZ}(h:aN0 w0 w v p){b:Nat}{cs:Array Value}(hb:w.heap[b]? =some (.cells cs 75 (0,0))){S':List Nat}(hu:U w [b] w' S'):aN0 w0 w' v p:=by
 obtain⟨v0,v1,v2,v4,ns,e,h0,h1,h2,h3,h4⟩:=h.ex
 exact⟨v0,v1,v2,v4,ns,e,h0.set hb E hu,h1.set hb E hu,⟨h2.n.set hb E hu,fun x hx=>(h2.o x hx).set hb E hu⟩,h3,h4.set hb E hu⟩
theorem aN0.on{w0 w w':World}{v:Value}{p:vZ}(h:aN0 w0 w v p){S':List Nat}(hu:U w [] w' S'):aN0 w0 w' v p:=by
 obtain⟨v0,v1,v2,v4,ns,e,h0,h1,h2,h3,h4⟩:=h.ex
 exact⟨v0,v1,v2,v4,ns,e,h0.on hu,h1.on hu,h2.on hu,h3,h4.on hu⟩
theorem aN0.eO{wb w0 w:World}{v:Value}{p:vZ}(h:aN0 w0 w v p)(hs:wb.heap.size≤w0.heap.size):aN0 wb w v p:=by
 obtain⟨v0,v1,v2,v4,ns,e,h0,h1,h2,h3,h4⟩:=h.ex
 exact⟨v0,v1,v2,v4,ns,e,h0.eO hs,h1.eO hs,⟨bN.eO h2.n hs,fun x hx=>(h2.o x hx).eO hs⟩,h3,h4.eO hs⟩
theorem QT.qn{w:World}{ρ:bC}{tg:Nat}{hv av:Value}{ps:List (dO×Value)}{q:bK}(h:QT w ρ tg hv av ps q):ED w hv av ps q:=
 ⟨h.head.1,h.aD.1,h.len,fun i hi=>⟨(h.lD i hi).1,(h.lD i hi).2.1⟩,h.eD⟩
theorem treePlan{w:World}{ρ:bC}{β b cells st ls F G:Nat}{q:bK}{T:gZ}(h:gT w ρ β b q cells st ls T F G)(hw:Tz w)(h0:(aB q).1=0):
  Calls Tryz.prog 20 #[.pointer (some ⟨b,0,none⟩)] w fun e w'=>∃v,e= .returned v∧aN0 w w' v (aB q).2∧U w [] w' []:=by
 obtain⟨hv,av,v0,v1,v2,v4,nv,ov,ps,ns,xB,bs,hb,hf,-⟩:=h.ex
 let⟨wa,hwa⟩:=D (w.alloc (.cells #[cR,cR,cR,X 0,cR] 75))
 have hUa:=Za hwa
 let⟨br,hbr⟩:=D (w.heap.size)
 have hBR:=Ze hwa hbr
 have HPM:=(Jm (hf.qt.qn.on hUa) hf.qt.cap (hw.on hUa))
 rw[h0]at HPM
 obtain⟨ha,hc,rfl,-⟩:=hf.qt.head.len
 obtain⟨aa,ac,e1,-⟩:=hf.qt.aD.len
 rw[hf.qt.len]at e1
 subst e1
 have hba:=hUa.aC hb J
 unfold iO at hba
 have dl:=iP (dG hba)
 have t0:=Zc hba 0
 have t1:=Zc hba 1
 have t2:=Zc hba 2
 have HB:=(show w.heap.size≤br by omega)
 go_in
 go_upto_region 2 with(go_at_call 33;apply HPM.cX;rintro e w2 ⟨v,rfl,hP⟩;obtain⟨hPP,-⟩:=hP.ok h0;have HU2:=Z hP.eU;obtain⟨x0,x1,x2,x4,nx,rfl,o0,o1,o2,-,o4⟩:=hPP.ex;obtain⟨a0,c0,rfl,-⟩:=o0.len;obtain⟨a1,c1,rfl,-⟩:=o1.len;obtain⟨a2,c2,rfl,-⟩:=o2.n.len;obtain⟨a4,c4,rfl,-⟩:=o4.len)
 let⟨w3,hw3⟩:=D (w2.alloc (.cells #[.slice a0 (aB q).2.vars.length c0,.slice a1 (aB q).2.head.length c1,.slice a2 nx.length c2,X ((aB q).2.dQ:Int),.slice a4 (aB q).2.tops.length c4] 75))
 let⟨bp,hbp⟩:=D (w2.heap.size)
 have hU3:=Za hw3
 have hBP:=Ze hw3 hbp
 try rw[hw3,hbp]
 have hBR3:=(HU2.ds hU3).aC hBR J
 obtain⟨p0,p1,p2,p3,p4⟩:=Z5 hBP
 obtain⟨r0,r1,r2,r3,r4⟩:=Z5 hBR3
 have rf:=aN hBR3
 go_wp2
 let⟨h5,hU5⟩:=Gr (x:= .slice a0 (aB q).2.vars.length c0) (y:= .slice a1 (aB q).2.head.length c1) (z:= .slice a2 nx.length c2) (u:=X ((aB q).2.dQ:Int)) (v:= .slice a4 (aB q).2.tops.length c4) hBR3
 obtain⟨s0,s1,s2,s3,s4⟩:=Z5 h5
 refine mY (iI (Ad br 0) rfl Yr (v:= .agg #[.slice a0 (aB q).2.vars.length c0,.slice a1 (aB q).2.head.length c1,.slice a2 nx.length c2,X ((aB q).2.dQ:Int),.slice a4 (aB q).2.tops.length c4]) (by go_simp)) rfl ?_
 exact⟨_,rfl,((hPP.on hU3).set hBR3 hU5).eO hUa.size,(hUa.ds (HU2.ds hU3)).bJ hU5 fun k hk=>by simp at hk;have:=HB;omega⟩
theorem set7{w:World}{B:Nat}{a b c d e f g x y z u v s r:Value}{t:TypeId}(h:w.heap[B]? =some (.cells #[a,b,c,d,e,f,g] t (0,0))):
  (((((((w.setCell ⟨B,0,none⟩ x).setCell ⟨B,1,none⟩ y).setCell ⟨B,2,none⟩ z).setCell ⟨B,3,none⟩ u).setCell ⟨B,4,none⟩ v).setCell ⟨B,5,none⟩ s).setCell ⟨B,6,none⟩ r).heap[B]? =some (.cells #[x,y,z,u,v,s,r] t (0,0))∧U w [B] (((((((w.setCell ⟨B,0,none⟩ x).setCell ⟨B,1,none⟩ y).setCell ⟨B,2,none⟩ z).setCell ⟨B,3,none⟩ u).setCell ⟨B,4,none⟩ v).setCell ⟨B,5,none⟩ s).setCell ⟨B,6,none⟩ r) [B]:=
 ⟨by rw[aF _ (aF _ (aF _ (aF _ (aF _ (aF _ (aF _ h))))))];rfl,((((((qX w B 0 x).setCell (a:=Ad B 1) (.inl J) y).setCell (a:=Ad B 2) (.inl J) z).setCell (a:=Ad B 3) (.inl J) u).setCell (a:=Ad B 4) (.inl J) v).setCell (a:=Ad B 5) (.inl J) s).setCell (a:=Ad B 6) (.inl J) r⟩
def PairS(bx bp gx ox gd od k n c2 k2:Nat)(y:bE)(xa da:Option Addr)(xc dc vn:Nat)(w':World):Prop:=
 w'.cell? ⟨bx,2,none⟩=some (.slice (some ⟨gx,ox,none⟩) n c2)∧w'.cell? ⟨bp,2,none⟩=some (.slice (some ⟨gd,od,none⟩) n k2)∧
  (w'.cell? ⟨gx,ox+k*7,none⟩=some (.int .i64 (y.aG:Int))∧w'.cell? ⟨gx,ox+k*7+1,none⟩=some (.int .i64 (y.qV:Int))∧w'.cell? ⟨gx,ox+k*7+2,none⟩=some (.slice xa vn xc)∧w'.cell? ⟨gx,ox+k*7+3,none⟩=some (.int .i64 (y.cM:Int))∧w'.cell? ⟨gx,ox+k*7+4,none⟩=some (.int .i64 (y.bP:Int))∧w'.cell? ⟨gx,ox+k*7+5,none⟩=some (.int .i64 y.bS)∧w'.cell? ⟨gx,ox+k*7+6,none⟩=some (.bool y.mL))∧
  (w'.cell? ⟨gd,od+k*7,none⟩=some (.int .i64 (y.aG:Int))∧w'.cell? ⟨gd,od+k*7+1,none⟩=some (.int .i64 (y.qV:Int))∧w'.cell? ⟨gd,od+k*7+2,none⟩=some (.slice da vn dc)∧w'.cell? ⟨gd,od+k*7+3,none⟩=some (.int .i64 (y.cM:Int))∧w'.cell? ⟨gd,od+k*7+4,none⟩=some (.int .i64 (y.bP:Int))∧w'.cell? ⟨gd,od+k*7+5,none⟩=some (.int .i64 y.bS)∧w'.cell? ⟨gd,od+k*7+6,none⟩=some (.bool y.mL))
theorem PairS.on{bx bp gx ox gd od k n c2 k2:Nat}{y:bE}{xa da:Option Addr}{xc dc vn:Nat}{w w':World}{S':List Nat}(h:PairS bx bp gx ox gd od k n c2 k2 y xa da xc dc vn w)(hu:U w [] w' S'):PairS bx bp gx ox gd od k n c2 k2 y xa da xc dc vn w':=by
 obtain⟨a,b,⟨m0,m1,m2,m3,m4,m5,m6⟩,n0,n1,n2,n3,n4,n5,n6⟩:=h
 exact⟨hu.cell a J,hu.cell b J,⟨hu.cell m0 J,hu.cell m1 J,hu.cell m2 J,hu.cell m3 J,hu.cell m4 J,hu.cell m5 J,hu.cell m6 J⟩,hu.cell n0 J,hu.cell n1 J,hu.cell n2 J,hu.cell n3 J,hu.cell n4 J,hu.cell n5 J,hu.cell n6 J⟩
theorem samePlan_eq{w:World}{ρ:bC}{β b cells st ls F G:Nat}{q:bK}{T:gZ}{p0 p1 p2 p4:Option Addr}{k0 k1 k2 k4:Nat}{ns:List (bE×Value)}(h:gT w ρ β b q cells st ls T F G)(hw:Tz w)(h0:(aB q).1=0)(h42:(aB q).2.aI.length≤42)
  (e0:fM yK bU 1 w (.slice p0 (aB q).2.vars.length k0) (aB q).2.vars) (e1:fM fN 0 1 w (.slice p1 (aB q).2.head.length k1) (aB q).2.head) (e2:fM nS default 7 w (.slice p2 (aB q).2.aI.length k2) ns) (hnm:ns.map (·.1)=(aB q).2.aI) (hva:N8 w ns) (e4:fM fN 0 1 w (.slice p4 (aB q).2.tops.length k4) (aB q).2.tops):
  Calls Tryz.prog 19 #[.pointer (some ⟨b,0,none⟩),.agg #[.slice p0 (aB q).2.vars.length k0,.slice p1 (aB q).2.head.length k1,.slice p2 (aB q).2.aI.length k2,.int .i64 (aB q).2.dQ,.slice p4 (aB q).2.tops.length k4]] w fun e w'=>e= .returned (.bool true)∧U w [] w' []:=by
 obtain⟨wa,hwa⟩:=D (w.alloc (.cells #[.slice p0 (aB q).2.vars.length k0,.slice p1 (aB q).2.head.length k1,.slice p2 (aB q).2.aI.length k2,.int .i64 (aB q).2.dQ,.slice p4 (aB q).2.tops.length k4] 53))
 have hUa:=Za hwa
 obtain⟨bp,hbp⟩:=D (w.heap.size)
 have hBP:=Ze hwa hbp
 have HPL:=Z (treePlan (h.on hUa) (hw.on hUa) h0)
 have HUA:=Z hUa
 have HBP:=Z hBP
 have HE0:=Z (e0.on hUa)
 have HE1:=Z (e1.on hUa)
 have HE2:=Z (e2.on hUa)
 have HE4:=Z (e4.on hUa)
 have HVA:=Z (hva.on hUa)
 have HNM:=Z hnm
 have HNL:=Z (show ns.length=(aB q).2.aI.length by rw[←hnm,List.length_map])
 clear h hw h0 e0 e1 e2 e4 hva hnm hUa hBP
 go_enter Tryz.func19,Tryz.ntmps19
 go_upto_region 2 with(go_at_call 20;refine HPL.o.mono ?_;rintro e w2 ⟨v,rfl,hP,hU2⟩;obtain⟨x0,x1,x2,x4,nx,rfl,o0,o1,o2,hnx,o4⟩:=hP.ex;obtain⟨a0,c0,rfl,-⟩:=o0.len;obtain⟨a1,c1,rfl,-⟩:=o1.len;obtain⟨a2,c2,e2,-⟩:=o2.n.len;obtain⟨a4,c4,rfl,-⟩:=o4.len;have hnl:nx.length=(aB q).2.aI.length:=(by rw[←hnx,List.length_map]);rw[hnl]at e2;subst e2;have HNX:=Z hnx;have HO0:=Z o0;have HO1:=Z o1;have HO2:=Z o2;have HO4:=Z o4;have HNXL:=Z hnl;have HU2:=Z hU2;clear hP o0 o1 o2 o4 hnx hnl hU2)
 obtain⟨w3,hw3⟩:=D (w2.alloc (.cells #[.slice a0 (aB q).2.vars.length c0,.slice a1 (aB q).2.head.length c1,.slice a2 (aB q).2.aI.length c2,.int .i64 ((aB q).2.dQ:Int),.slice a4 (aB q).2.tops.length c4] 75))
 obtain⟨bx,hbx⟩:=D (w2.heap.size)
 have hU3:=Za hw3
 have hBX:=Ze hw3 hbx
 try rw[hw3,hbx]
 have hBP3:=(HU2.o.ds hU3).aC HBP.o J
 obtain⟨x0,x1,x2,x3,x4⟩:=Z5 hBX
 obtain⟨d0,d1,d2,d3,d4⟩:=Z5 hBP3
 have HBX:=Z hBX
 have HBP3:=Z hBP3
 have HU3:=Z hU3
 have HA3:=Z (HU2.o.ds hU3)
 have HTO:=Z (sameInts_eq _ _ _ w3 (HO4.o.on hU3).rd (HE4.o.on HA3.o))
 have HHE:=Z (fun(wz:World) (hz:U w3 [] wz [])=>sameInts_eq _ _ _ wz (HO1.o.on (hU3.ds hz)).rd (HE1.o.on (HA3.o.ds hz)))
 have HVR:=Z (fun(wz:World) (hz:U w3 [] wz [])=>Nx _ _ _ wz (HO0.o.on (hU3.ds hz)).rd (HE0.o.on (HA3.o.ds hz)))
 clear hU3 hBX hBP3 hw3 hbx hwa hbp
 obtain⟨n,hn⟩:=D ((aB q).2.aI.length)
 rw[hn]at x2 d2 h42⊢
 have HN:=Z hn
 clear hn
 go_upto_region 4 with(first
  |(go_at_call 53;refine HTO.o.mono ?_;rintro e w4 ⟨rfl,hU4⟩;have x0:=hU4.cell x0 J;have x1:=hU4.cell x1 J;have x2:=hU4.cell x2 J;have d0:=hU4.cell d0 J;have d1:=hU4.cell d1 J;have HU4:=Z hU4;clear HTO hU4)
  |(go_at_call 53;refine(HHE.o _ HU4.o).mono ?_;rintro e w5 ⟨rfl,hU5⟩;have x0:=hU5.cell x0 J;have x2:=hU5.cell x2 J;have d0:=hU5.cell d0 J;have HU5:=Z (HU4.o.ds hU5);clear hU5)
  |(go_at_call 54;refine(HVR.o _ HU5.o).mono ?_;rintro e w6 ⟨rfl,hU6⟩;have x2:=hU6.cell x2 J;have HU6:=Z (HU5.o.ds hU6);clear hU6))
 go_upto_region 5 with(fail)
 clear x0 x1 x2 x3 x4 d0 d1 d2 d3 d4
 go_loopg [52] n (fun gg s52 wr=>∃k:Nat,k≤n∧gg=n-k∧s52= .int .i64 k∧U w3 [] wr [])
 case atStart=>exact⟨0,Nat.zero_le _,rfl,rfl,HU6.o⟩
 case round=>
  obtain⟨k,hk,hgk,rfl,hU⟩:=hrel
  have HU:=Z hU
  have HGK:=Z hgk
  clear hU hgk
  by_cases hlt:k<n
  ·have HK:=Z hlt
   have hk':(k:Int)<(n:Int):=Y
   have x2:=HU.o.cell (aP HBX.o (j:=2) rfl) J
   have d2:=HU.o.cell (aP HBP3.o (j:=2) rfl) J
   have hX:=(HO2.o.on (HU3.o.ds HU.o))
   have hD:=HE2.o.on (HA3.o.ds HU.o)
   have hXV:=hX.vars _ (bO (d:=default) (show k<nx.length by rw[HNXL.o,HN.o];exact hlt))
   have hDV:=(HVA.o.on (HA3.o.ds HU.o)) _ (bO (d:=default) (show k<ns.length by rw[HNL.o,HN.o];exact hlt))
   rw[HN.o]at x2 d2 hX hD
   obtain⟨gx,ox,cx,hvx,-,m0,m1,m2,m3,m4,m5,m6⟩:=fM.at7 hX.n.rd (i:=k) (by rw[HNXL.o,HN.o];exact hlt)
   rw[HNXL.o,HN.o]at hvx
   injection hvx with x1 x2 x3;clear x2 x3;subst x1
   obtain⟨gd,od,cd,hvd,-,n0,n1,n2,n3,n4,n5,n6⟩:=hD.at7 (i:=k) (by rw[HNL.o,HN.o];exact hlt)
   rw[HNL.o,HN.o]at hvd
   injection hvd with x1 x2 x3;clear x2 x3;subst x1
   have h1:=nth_fst HNX.o k
   have h2:=nth_fst HNM.o k
   obtain⟨y,hy⟩:=D (eA (aB q).2.aI k)
   rw[hy]at h1 h2
   rw[h1]at m0 m1 m3 m4 m5 m6 hXV
   rw[h2]at n0 n1 n3 n4 n5 n6 hDV
   obtain⟨xa,xc,hxe,-⟩:=hXV.len
   obtain⟨da,dc,hde,-⟩:=hDV.len
   rw[hxe]at m2 hXV
   rw[hde]at n2 hDV
   have HXV:=Z hXV
   have HDV:=Z hDV
   obtain⟨vn,hvn⟩:=D (y.vars.length)
   rw[hvn]at m2 n2 HXV HDV
   clear hX hD hXV hDV h1 h2 hy hxe hde hvn hk
   go_upto_region 7 with(fail)
   obtain⟨wd,hwd⟩:=D (wr.drew)
   have hUd:U wr [] wd []:=hwd▸(U.refl wr []).drew
   have HUD:=Z hUd
   refine aO 13 (fun w'=>PairS bx bp gx ox gd od k n c2 k2 y xa da xc dc vn w')
    (by kernel_rfl) ⟨x2,d2,⟨m0,m1,m2,m3,m4,m5,m6⟩,n0,n1,n2,n3,n4,n5,n6⟩ (fun Q=> ?_)
   clear x2 d2 m0 m1 m2 m3 m4 m5 m6 n0 n1 n2 n3 n4 n5 n6
   rw[hwd]at Q⊢
   have HS0:=Z Q
   clear hwd hUd
   refine I 0 ?_
   refine I 2 ?_
   refine I 1 ?_
   refine I 3 ?_
   refine I 4 ?_
   refine I 5 ?_
   refine I 7 ?_
   refine I 6 ?_
   refine I 8 ?_
   refine I 9 ?_
   refine vG (i:=10) (j:=11) (by kernel_rfl) rfl rfl rfl rfl (fun K9 hK=> ?_) (fun K9 hK=> ?_)
   ·go_simp
    obtain⟨w7,hw7⟩:=D (wd.alloc (.cells #[.int .i64 0,.int .i64 0,.slice none 0 0,.int .i64 0,.int .i64 0,.int .i64 0,.bool false] 79))
    obtain⟨ba,hb1⟩:=D (wd.heap.size)
    have hU7:=Za hw7
    have hA7:=Ze hw7 hb1
    rw[hw7,hb1]
    have Q:=Q.on hU7
    refine Zk hK Q ?_;clear hK K9
    refine Zo 11 fun K9 hK=> ?_
    go_simp
    obtain⟨w8,hw8⟩:=D (w7.alloc (.cells #[.int .i64 0,.int .i64 0,.slice none 0 0,.int .i64 0,.int .i64 0,.int .i64 0,.bool false] 132))
    obtain⟨bb,hb2⟩:=D (w7.heap.size)
    have hU8:=Za hw8
    have hA8:=Ze hw8 hb2
    rw[hw8,hb2]
    have Q:=Q.on hU8
    have hA7:=hU8.aC hA7 J
    have eB:ba≠bb:=by have:=hU7.size;have:=lt_of_block hA7;have:=lt_of_block hA8;grind
    have hge:wd.heap.size≤ba∧wd.heap.size≤bb:=by have:=hU7.size;omega
    have hU:=hU7.ds hU8
    have HA:=Z hA7
    have HBB:=Z hA8
    refine Zk hK Q ?_;clear hK K9
    have hA:=HA.o
    obtain⟨a0,a1,a2,a3,a4,a5,a6⟩:=Z7 hA
    have af9:=aN hA
    clear hw7 hw8 hU7 hU8 hA7 hA8 hb1 hb2 hA
    refine Zo 12 fun K9 hK=> ?_
    go_simp
    obtain⟨hA9,hU9⟩:=set7 (x:= .int .i64 (y.aG:Int)) (y:= .int .i64 (y.qV:Int)) (z:= .slice xa vn xc) (u:= .int .i64 (y.cM:Int)) (v:= .int .i64 (y.bP:Int)) (s:= .int .i64 y.bS) (r:= .bool y.mL) HA.o
    obtain⟨w9,hw9⟩:=D ((((((((w8.setCell (Ad ba 0) (.int .i64 (y.aG:Int))).setCell (Ad ba 1) (.int .i64 (y.qV:Int))).setCell (Ad ba 2) (.slice xa vn xc)).setCell (Ad ba 3) (.int .i64 (y.cM:Int))).setCell (Ad ba 4) (.int .i64 (y.bP:Int))).setCell (Ad ba 5) (.int .i64 y.bS)).setCell (Ad ba 6) (.bool y.mL)))
    rw[hw9]at hA9 hU9⊢
    have hV9:=hU.bJ hU9 (fun x hx=>by simp at hx;omega)
    have Q:=HS0.o.on hV9
    have hB9:=hU9.aC HBB.o (by simp;exact fun h=>eB h.symm)
    refine Zk hK Q ?_;clear hK K9
    obtain⟨b0,b1,b2,b3,b4,b5,b6⟩:=Z7 hB9
    have bf:=aN hB9
    obtain⟨hB10,hU10⟩:=set7 (x:= .int .i64 (y.aG:Int)) (y:= .int .i64 (y.qV:Int)) (z:= .slice da vn dc) (u:= .int .i64 (y.cM:Int)) (v:= .int .i64 (y.bP:Int)) (s:= .int .i64 y.bS) (r:= .bool y.mL) hB9
    have HV9:=Z hV9
    have HA9:=Z hA9
    have HGE:=Z hge
    have HNE:=Z eB
    clear hw9 hU9 hV9 hA9 hU af9 a0 a1 a2 a3 a4 a5 a6 hge eB hB9
    refine Zo 13 fun K9 hK=> ?_
    go_simp
    refine Zl hK ?_;clear hK K9
    obtain⟨w10,hw10⟩:=D ((((((((w9.setCell (Ad bb 0) (.int .i64 (y.aG:Int))).setCell (Ad bb 1) (.int .i64 (y.qV:Int))).setCell (Ad bb 2) (.slice da vn dc)).setCell (Ad bb 3) (.int .i64 (y.cM:Int))).setCell (Ad bb 4) (.int .i64 (y.bP:Int))).setCell (Ad bb 5) (.int .i64 y.bS)).setCell (Ad bb 6) (.bool y.mL)))
    rw[hw10]at hB10 hU10⊢
    have HV10:=Z (HV9.o.bJ hU10 (fun x hx=>by simp at hx;have:=HGE.o;omega))
    have hA10:=hU10.aC HA9.o (by simp;exact HNE.o)
    obtain⟨a0,a1,a2,a3,a4,a5,a6⟩:=Z7 hA10
    obtain⟨b0,b1,b2,b3,b4,b5,b6⟩:=Z7 hB10
    have HSV:=Z (sameInts_eq _ _ _ w10 (HXV.o.on (HUD.o.ds HV10.o)) (HDV.o.on (HUD.o.ds HV10.o)))
    clear Q hA10 hB10 hU10 hw10 bf
    go_wp2_with (go_at_call 53;refine HSV.o.mono ?_;rintro e w11 ⟨rfl,hU11⟩;have HU11:=Z hU11;clear hU11)
    go_roundg (n-(k+1))
    case measure=>have:=HGK.o;have:=HK.o;omega
    case rel=>exact⟨k+1,HK.o,rfl,by go_num,HU.o.ds (HUD.o.ds (HV10.o.ds HU11.o))⟩
   ·go_simp
    obtain⟨w7,hw7⟩:=D (wd.alloc (.cells #[.int .i64 0,.int .i64 0,.slice none 0 0,.int .i64 0,.int .i64 0,.int .i64 0,.bool false] 132))
    obtain⟨bb,hb1⟩:=D (wd.heap.size)
    have hU7:=Za hw7
    have hA7:=Ze hw7 hb1
    rw[hw7,hb1]
    have Q:=Q.on hU7
    refine Zk hK Q ?_;clear hK K9
    refine Zo 10 fun K9 hK=> ?_
    go_simp
    obtain⟨w8,hw8⟩:=D (w7.alloc (.cells #[.int .i64 0,.int .i64 0,.slice none 0 0,.int .i64 0,.int .i64 0,.int .i64 0,.bool false] 79))
    obtain⟨ba,hb2⟩:=D (w7.heap.size)
    have hU8:=Za hw8
    have hA8:=Ze hw8 hb2
    rw[hw8,hb2]
    have Q:=Q.on hU8
    have hA7:=hU8.aC hA7 J
    have eB:ba≠bb:=by have:=hU7.size;have:=lt_of_block hA7;have:=lt_of_block hA8;grind
    have hge:wd.heap.size≤ba∧wd.heap.size≤bb:=by have:=hU7.size;omega
    have hU:=hU7.ds hU8
    have HA:=Z hA8
    have HBB:=Z hA7
    refine Zk hK Q ?_;clear hK K9
    have hA:=HA.o
    obtain⟨a0,a1,a2,a3,a4,a5,a6⟩:=Z7 hA
    have af9:=aN hA
    clear hw7 hw8 hU7 hU8 hA7 hA8 hb1 hb2 hA
    refine Zo 12 fun K9 hK=> ?_
    go_simp
    obtain⟨hA9,hU9⟩:=set7 (x:= .int .i64 (y.aG:Int)) (y:= .int .i64 (y.qV:Int)) (z:= .slice xa vn xc) (u:= .int .i64 (y.cM:Int)) (v:= .int .i64 (y.bP:Int)) (s:= .int .i64 y.bS) (r:= .bool y.mL) HA.o
    obtain⟨w9,hw9⟩:=D ((((((((w8.setCell (Ad ba 0) (.int .i64 (y.aG:Int))).setCell (Ad ba 1) (.int .i64 (y.qV:Int))).setCell (Ad ba 2) (.slice xa vn xc)).setCell (Ad ba 3) (.int .i64 (y.cM:Int))).setCell (Ad ba 4) (.int .i64 (y.bP:Int))).setCell (Ad ba 5) (.int .i64 y.bS)).setCell (Ad ba 6) (.bool y.mL)))
    rw[hw9]at hA9 hU9⊢
    have hV9:=hU.bJ hU9 (fun x hx=>by simp at hx;omega)
    have Q:=HS0.o.on hV9
    have hB9:=hU9.aC HBB.o (by simp;exact fun h=>eB h.symm)
    refine Zk hK Q ?_;clear hK K9
    obtain⟨b0,b1,b2,b3,b4,b5,b6⟩:=Z7 hB9
    have bf:=aN hB9
    obtain⟨hB10,hU10⟩:=set7 (x:= .int .i64 (y.aG:Int)) (y:= .int .i64 (y.qV:Int)) (z:= .slice da vn dc) (u:= .int .i64 (y.cM:Int)) (v:= .int .i64 (y.bP:Int)) (s:= .int .i64 y.bS) (r:= .bool y.mL) hB9
    have HV9:=Z hV9
    have HA9:=Z hA9
    have HGE:=Z hge
    have HNE:=Z eB
    clear hw9 hU9 hV9 hA9 hU af9 a0 a1 a2 a3 a4 a5 a6 hge eB hB9
    refine Zo 13 fun K9 hK=> ?_
    go_simp
    refine Zl hK ?_;clear hK K9
    obtain⟨w10,hw10⟩:=D ((((((((w9.setCell (Ad bb 0) (.int .i64 (y.aG:Int))).setCell (Ad bb 1) (.int .i64 (y.qV:Int))).setCell (Ad bb 2) (.slice da vn dc)).setCell (Ad bb 3) (.int .i64 (y.cM:Int))).setCell (Ad bb 4) (.int .i64 (y.bP:Int))).setCell (Ad bb 5) (.int .i64 y.bS)).setCell (Ad bb 6) (.bool y.mL)))
    rw[hw10]at hB10 hU10⊢
    have HV10:=Z (HV9.o.bJ hU10 (fun x hx=>by simp at hx;have:=HGE.o;omega))
    have hA10:=hU10.aC HA9.o (by simp;exact HNE.o)
    obtain⟨a0,a1,a2,a3,a4,a5,a6⟩:=Z7 hA10
    obtain⟨b0,b1,b2,b3,b4,b5,b6⟩:=Z7 hB10
    have HSV:=Z (sameInts_eq _ _ _ w10 (HXV.o.on (HUD.o.ds HV10.o)) (HDV.o.on (HUD.o.ds HV10.o)))
    clear Q hA10 hB10 hU10 hw10 bf
    go_wp2_with (go_at_call 53;refine HSV.o.mono ?_;rintro e w11 ⟨rfl,hU11⟩;have HU11:=Z hU11;clear hU11)
    go_roundg (n-(k+1))
    case measure=>have:=HGK.o;have:=HK.o;omega
    case rel=>exact⟨k+1,HK.o,rfl,by go_num,HU.o.ds (HUD.o.ds (HV10.o.ds HU11.o))⟩
  ·obtain rfl:k=n:=Y
   go_wp2
   go_ret
   exact⟨rfl,HUA.o.ds (HA3.o.ds HU.o)⟩
theorem planOf_shape'{q:bK}(h:(aB q).1=0):fY q=0:=by
 by_cases hs:fY q=0
 ·exact hs
 ·rw[PU hs]at h
  exact dY h hs
theorem newErr_limits{q:bK}{c:Int}(h:mN q c=0):1≤c∧c≤65536:=by
 have h0:=MH h
 unfold mN at h
 rw[R (by rw[h0];simp)]at h
 split at h
 ·cases h
 ·rename_i hn;omega
theorem news_bad{hv av:Value}{ps:List (dO×Value)}{q:bK}{w:World}{cells:Int}(h:ED w hv av ps q)(hw:Tz w)(he:mN q cells≠0):
  Calls Tryz.prog 5 #[.agg #[.string q.name,hv,av],.int .i64 cells] w fun e w'=>e= .returned (.bool true)∧U w [] w' []:=by
 obtain⟨ha,hc,rfl,-⟩:=h.head.len
 obtain⟨aa,ac,rfl,-⟩:=h.aD.len
 have hlen:=h.len
 rw[hlen]at h⊢
 let⟨wa,hwa⟩:=D (w.alloc (.cells #[.string q.name,.slice ha q.head.length hc,.slice aa q.aD.length ac] 25))
 let⟨bq,hbq⟩:=D (w.heap.size)
 have hUa:=Za hwa
 have hB0:=Ze hwa hbq
 obtain⟨b0,b1,b2⟩:=Z3 hB0
 have HQ:=(h.on hUa)
 have HTZ:=(hw.on hUa)
 have HMD:=(Wc cells HQ HTZ he)
 go_in
 go_wp2_with (first
  |(go_at_call 7;apply(O2 (HTZ.on hU1)).dC;intro w2 hU2)
  |(go_at_call 6;apply HMD.dC;intro w1 hU1))
 go_ret
 exact⟨rfl,hUa.ds (hU1.ds hU2)⟩
theorem news_ok{hv av:Value}{ps:List (dO×Value)}{q:bK}{w:World}{cells:Nat}(h:ED w hv av ps q)(hw:Tz w)(h0:(aB q).1=0)(hcel:1≤cells∧cells≤65536):
  Calls Tryz.prog 5 #[.agg #[.string q.name,hv,av],.int .i64 (cells:Int)] w fun e w'=>e= .returned (.bool true)∧U w [] w' []:=by
 obtain⟨ha,hc,rfl,-⟩:=h.head.len
 obtain⟨aa,ac,rfl,-⟩:=h.aD.len
 have hlen:=h.len
 rw[hlen]at h⊢
 let⟨wa,hwa⟩:=D (w.alloc (.cells #[.string q.name,.slice ha q.head.length hc,.slice aa q.aD.length ac] 25))
 let⟨bq,hbq⟩:=D (w.heap.size)
 have hUa:=Za hwa
 have hB0:=Ze hwa hbq
 obtain⟨b0,b1,b2⟩:=Z3 hB0
 have HBQ:=Z hB0
 have HUA:=Z hUa
 have HQ:=Z (h.on hUa)
 have HTZ:=Z (hw.on hUa)
 have HMD:=Z (Wb (ρ:=fun _=>0) 10 cells HQ HTZ h0 hcel (fun _ _=>rfl) E)
 have H0:=Z h0
 clear h hw hB0 hUa h0
 go_in
 go_upto_region 4 with(go_at_call 6;apply HMD.cX;rintro e w1 ⟨bt,d,dX,rfl,hM1,hT1,hD1⟩;have HT1:=Z hT1;have HD1:=Z hD1;have HM1:=Z hM1;clear hM1 hT1 hD1)
 clear b0 b1 b2 hwa hbq
 have HOK:=Z HT1.ok
 have HB1:=Z (show gT w1 dX 10 bt q cells 0 0 (fun _=>OY) 0 0 from HT1.bd)
 have HU1:=Z HM1.eU
 obtain⟨qh,qa,p0,k0,p1,k1,p2,k2,p4,k4,pl,kl,ns,hB,e0,e1,e2,hnm,hva,e4,-⟩:=HD1.r.ex
 have HSP:=Z (fun(wz:World) (hz:U w1 [] wz [])=>samePlan_eq (HB1.on hz) ((HTZ.on HU1).on hz) H0 HOK.oE (e0.on hz) (e1.on hz) (e2.on hz) hnm (hva.on hz) (e4.on hz))
 have HBD:=Z hB
 let⟨n,hn⟩:=D ((aB q).2.aI.length)
 have hn0:0<n:=by rw[←hn];have:=HOK.wf.CZ;have:=(gG (planOf_shape' H0)).1;omega
 have h42:n≤42:=by rw[←hn];exact HOK.oE
 rw[hn]at HSP HBD hB
 have dl:=iP (dG hB)
 have d3:=Zc hB 3
 have d4:=Zc hB 4
 have d5:=Zc hB 5
 have d6:=Zc hB 6
 have d7:=Zc hB 7
 have HS1:=Z (HSP.o w1 (U.refl _ _))
 clear hB e0 e1 e2 hnm hva e4
 go_upto_region 6 with(go_at_call 19;apply HS1.dC;intro w2 hU2;have HU2:=Z hU2;clear hU2)
 clear d3 d4 d5 d6 d7 dl
 have HPL:=Z (treePlan (HB1.on HU2) ((HTZ.on HU1).on HU2) H0)
 go_upto_region 7 with(go_at_call 20;apply HPL.cX;rintro e w3 ⟨v,rfl,hP,hU3⟩;obtain⟨x0,x1,x2,x4,nx,rfl,o0,o1,o2,hnx,o4⟩:=hP.ex;obtain⟨a0,c0,rfl,-⟩:=o0.len;obtain⟨a1,c1,rfl,-⟩:=o1.len;obtain⟨a4,c4,rfl,-⟩:=o4.len;have hnl:nx.length=n:=(by rw[←hn,←hnx,r8]);obtain⟨a2,c2,e2,-⟩:=o2.n.len;rw[hnl]at e2;subst e2;have HO2:=Z o2.n;have HNXL:=Z hnl;have HU3:=Z hU3;clear hP o0 o1 o2 o4 hnx hnl hU3)
 obtain⟨g,c9,hv9,-,hg,hcl,-,cur,hcur⟩:=eV.block HO2.1 (by rw[HNXL.o];exact hn0)
 rw[HNXL.o]at hcl hv9
 simp only[Value.slice.injEq,true_and]at hv9
 obtain⟨rfl,rfl⟩:=hv9
 let⟨w4,hw4⟩:=D (w3.alloc (.cells #[.slice a0 (aB q).2.vars.length c0,.slice a1 (aB q).2.head.length c1,eC g 0 n c2,X ((aB q).2.dQ:Int),.slice a4 (aB q).2.tops.length c4] 75))
 let⟨bx,hbx⟩:=D (w3.heap.size)
 have hU4:=Za hw4
 have hBX:=Ze hw4 hbx
 try rw[hw4,hbx]
 have hgx:g≠bx:=Y
 have hgn:w2.heap.size≤g:=HO2.2 g rfl
 have hsz:n*7≤cur.size:=by
  have:=hcl (n-1) 6 Y Y
  unfold World.cell? at this
  rw[hcur]at this
  have hh:=(Array.getElem?_eq_some_iff.1 this).1
  dsimp only at hh
  omega
 have hcur4:=hU4.aC hcur J
 have HGN:=Z (eI hgx hgn)
 have HSZ:=Z hsz
 have HBX:=Z hBX
 have HU4:=Z (HU3.ds hU4)
 have HCU:=Z hcur4
 have x2:=Zc hBX 2
 have HN:=Z hn
 clear hU4 hBX hw4 hbx hgx hgn hsz hcur4 hcur hcl hg hn
 go_upto_region 8 with(fail)
 clear x2
 go_loopg [39] n (fun gg s39 wr=>∃(k:Nat) (cu:Array Value),k≤n∧gg=n-k∧s39=X k∧U w4 [g] wr [g]∧cu.size=cur.size∧uD wr g cu 79)
 ·exact⟨0,cur,Y,rfl,rfl,U.refl _ _,rfl,HCU⟩
 obtain⟨k,cu,hk,hgk,rfl,hU,hcs,hcu⟩:=hrel
 have HU:=Z hU
 have HGK:=Z hgk
 have HCS:=Z hcs
 have HCUR:=Z hcu
 clear hgk
 by_cases hlt:k<n
 ·have HK:=Z hlt
  have hk':(k:Int)<(n:Int):=Y
  have x2:=aP (hU.aC HBX (by simp;exact fun h=>HGN.1 h.symm)) (j:=2) rfl
  have hix:k*7+5<cu.size:=kX HSZ.o
  have g5:=aP hcu (j:=k*7+5) (Array.getElem?_eq_getElem hix)
  let⟨u5,hu5⟩:=D (cu[k*7+5])
  rw[hu5]at g5
  have gf:=aN hcu
  clear hU hcs hcu hk hix hu5
  go_wp2
  go_roundg (n-(k+1))
  ·exact⟨k+1,_,HK,rfl,eY,HU.setCell (.inl J) _,by rw[Array.size_setIfInBounds];exact HCS,aF _ HCUR⟩
  have:=HGK.o;have:=HK.o;omega
 ·obtain rfl:k=n:=Y
  have HU5:=Z ((HU2.ds HU4).bJ hU (fun x hx=>by simp at hx;have:=HGN.o;have:=HU2.size;omega))
  have HS5:=Z (HSP.o wr HU5)
  have hBw:=HU5.aC HBD J
  have HSM:=Z (fun(wz:World) (hz:U w1 [] wz [])=>same0 (HB1.on hz) HOK (HD1.eb (hz.fL (S:=eZ)) id) E)
  have dl:=iP (dG hBw)
  have d3:=Zc hBw 3
  have d4:=Zc hBw 4
  have d5:=Zc hBw 5
  have d6:=Zc hBw 6
  have d7:=Zc hBw 7
  clear hU hcs hcu hk hlt hBw
  go_wp2_with (first
   |(go_at_call 19;apply HS5.dC;intro w6 hU6;have HU6:=Z (HU5.ds hU6);clear hU6)
   |(go_at_call 21;apply(HSM.o _ HU6).cX;rintro e w7 ⟨ρ7,rfl,hM7,-⟩;have HU7:=Z ((HM1.kV HU6.o|>.aL (T:=TI 10) nZ).ds hM7|>.uz (fun _ _=>by unfold TI CK;omega));clear hM7)
   |(go_at_call 7;apply(O2 (HTZ.on HU7)).dC;intro w8 hU8;have HU8:=Z hU8;clear hU8))
  go_ret
  exact⟨rfl,HUA.ds (HU7.ds HU8)⟩
theorem news_any{hv av:Value}{ps:List (dO×Value)}{q:bK}{w:World}{cells:Int}(h:ED w hv av ps q)(hw:Tz w):
  uJ 5 #[.agg #[.string q.name,hv,av],.int .i64 cells] w fun e w'=>e= .returned (.bool true)∧U w [] w' []:=by
 by_cases he:mN q cells=0
 ·let⟨h1,h2⟩:=newErr_limits he
  obtain⟨n,rfl⟩:=Int.eq_ofNat_of_zero_le (show 0≤cells by omega)
  exact news_ok h hw (MH he) ⟨Y,Y⟩
 ·exact news_bad h hw he
end Go.Proofs.YtohhhhfdpceppaaGreatDoor
