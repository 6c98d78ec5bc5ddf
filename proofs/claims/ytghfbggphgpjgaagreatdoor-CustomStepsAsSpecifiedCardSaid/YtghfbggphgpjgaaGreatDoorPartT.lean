/- Part of the proof that the law CustomStepsAsSpecified returns true for every input. Conditions: none. -/
import Derived.Test.YtghfbggphgpjgaaGreatDoorPartG
import Derived.Test.YtghfbggphgpjgaaGreatDoorPartI
namespace Go.Abs.Tz
open Go Go.Abs Go.Proofs
end Go.Abs.Tz
namespace Go.Abs.Tz
open Go Go.Abs Go.Proofs
set_option maxRecDepth 20000
set_option linter.unusedSimpArgs false
attribute [local simp ↓] yC yB jT jS yf uO zu zG jR uB vl vm yD yF yG yE jY j6 j9 jZ ga gc j7 j8 j0 jW jU jX jV vj vh vk vi yy yw yz yx yK yI yJ jj z8 ge zw zU yi vn vo yN yP yO yL yM yZ gh gq gv gp gt gu g7 g6 gC gE jB jy jM jP jz jH jL jK jJ jI jF ju jv jw jx jN jD jE jq jO jQ jA jC jG jr gI gD gY ya gF gS gW gV gU gT gO gz g0 gM gN gw g9 yb gG gK gQ gx yd g8 gy yc gL gH gJ gA gZ gi gk gj yT yW yS yU yV qq uG
attribute [local simp] faL fdL iaL ixL qS zm ze eqK eqL qX zE uA yQ vg y5 y7 y9 vc ve vf y6 vb y8 vd zM LV.cells LV.whole qq uQ gg gf stL zN ui uI qa.alloc yg ye yh yu yt yr yq yp yo yn ym yk yj qe uD
end Go.Abs.Tz
namespace Go.Abs.Tz
open Go Go.Abs Go.Proofs
theorem alone{P:Program}{E:Env}{F:Fns}(hF:∀f args H S,qZ P E f args H S->F.prim f args H S)(hg:∀g,E.glob g=.bot){f:FuncId}{v:Value}(h:qZ P E f [] ⟨[],1⟩ fun r=>∃H',r=.ret (.sc v) H'):qaS E F f [] (.sc v):=by
 refine qaS.of_callsE hF h.1 fun G w us hE ha=>?_
 let G0:qb:=⟨fun b=>if b<w.heap.size then some true else none,0,G.loc,G.asz,G.tk,fun _ _=>.free,E.rc⟩
 have hI:Inv G0 w ⟨[],1⟩:=by
  refine⟨Nat.zero_le _,fun b hb=>?_,fun _ _ _=>rfl,fun _ _ _=>rfl,fun o x hx=>by simp[look]at hx⟩
  simp only[G0]at hb
  split at hb
  ·assumption
  ·cases hb
 refine(h.2 G0 w us hI ⟨fun g=>by rw[hg];exact .bot _,rfl,fun p hp=>by
  obtain⟨_,t,fz,h2⟩:=hE.fix p hp
  have hlt:p.1<w.heap.size:=(Array.getElem?_eq_some_iff.1 h2).1
  exact⟨by simp[G0,hlt],t,fz,h2⟩⟩ ⟨ha.1,fun i x hi=>by simp at hi⟩).mono fun e w' hp=>?_
 cases e with
 |outgrown=>exact hp.elim
 |panicked ch=>
  obtain⟨_,_,_,_,⟨_,hn⟩,_⟩:=hp
  cases hn
 |returned u=>
  obtain⟨v',H',G',⟨H'',hn⟩,hV,_,hx⟩:=hp
  cases hn
  obtain rfl:=hV.sc_inv
  exact⟨_,rfl,.sc _,hx.os,hx.tape,hx.output,hx.size,fun k hk _=>hx.block k (by simp[G0,hk])⟩
theorem quJ{C:Cfg}(hC:wP C F0)(hE:C.E=E0)(h:qdY C 1000000 9 [] ⟨[],1⟩ (fun v _=>asBool v fun b=>b) (fun _ _=>false)=true):qh 9 [] (.bool true):=by
 refine alone (P:=Tryz.prog) (fun _ _ _ _ h=>h) (fun _=>rfl) ?_
 have hO:=qlz hC (show qa.Ok ⟨[],1⟩ from trivial) h
 rw[hE]at hO
 have hC:qZ Tryz.prog E0 9 [] ⟨[],1⟩ _:=qag qbD qaK hO
 refine hC.weaken fun r hr=>?_
 rcases hr with⟨v,H,rfl,_,hk⟩|⟨v,H,rfl,_,hk⟩
 ·obtain⟨b,rfl,hb⟩:=qiN hk
  subst hb
  exact⟨H,rfl⟩
 ·cases hk
end Go.Abs.Tz
