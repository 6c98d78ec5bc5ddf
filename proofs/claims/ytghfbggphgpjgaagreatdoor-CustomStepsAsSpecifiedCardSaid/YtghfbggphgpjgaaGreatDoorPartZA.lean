/- Part of the proof that the law CustomStepsAsSpecified returns true for every input. Conditions: none. -/
import Derived.Test.YtghfbggphgpjgaaGreatDoorPartV
import Derived.Test.YtghfbggphgpjgaaGreatDoorPartT
import Derived.Test.YtghfbggphgpjgaaGreatDoorPartG
import Derived.Test.YtghfbggphgpjgaaGreatDoorPartX
import Derived.Test.YtghfbggphgpjgaaGreatDoorPartZ
import Derived.Test.YtghfbggphgpjgaaGreatDoorRunz
import Derived.Test.YtghfbggphgpjgaaGreatDoorRows
import Derived.ProofKit
import Derived.Deep.Slices
import Derived.Deep.Strs
import Derived.Lib.LaidTab
import Derived.LaidSub
import Derived.Test.YtghfbggphgpjgaaGreatDoorPartW
namespace Go.Abs.Tz
open Go Go.Abs Go.Proofs
set_option maxRecDepth 20000
set_option linter.unusedSimpArgs false
attribute [local simp ↓] yC yB jT jS yf uO zu zG jR uB vl vm yD yF yG yE jY j6 j9 jZ ga gc j7 j8 j0 jW jU jX jV vj vh vk vi yy yw yz yx yK yI yJ jj z8 ge zw zU yi vn vo yN yP yO yL yM yZ gh gq gv gp gt gu g7 g6 gC gE jB jy jM jP jz jH jL jK jJ jI jF ju jv jw jx jN jD jE jq jO jQ jA jC jG jr gI gD gY ya gF gS gW gV gU gT gO gz g0 gM gN gw g9 yb gG gK gQ gx yd g8 gy yc gL gH gJ gA gZ gi gk gj yT yW yS yU yV qq uG
attribute [local simp] faL fdL iaL ixL qS zm ze eqK eqL qX zE uA yQ vg y5 y7 y9 vc ve vf y6 vb y8 vd zM LV.cells LV.whole qq uQ gg gf stL zN ui uI qa.alloc yg ye yh yu yt yr yq yp yo yn ym yk yj qe uD
theorem qmc{n:Nat}(h:n+1<2^63):IntKind.wrap .i64 ((n:Int)+1)=((n+1:Nat):Int):=by
 rw[uM (by omega) (by omega)];omega
def qbd(x:Lit):Bool:=x.atom.small&&(decide (x.a.s.size<=40)&&decide (x.b.s.size<=40))
def qbH:List Lit->Nat
 |[]=>0
 |x::r=>(if x.kind=1 then 1 else 0)+qbH r
def qch(c:qf):Bool:=c.body.all qbd&&(c.head.small&&(decide (qbH c.body<=3)&&decide (c.body.length<=8)))
def qes(mo:Nat)(l:List qf):Bool:=if 40<l.length then true else if l.all qch then decide (l.length<=mo) else false
theorem qrc:∀l:List Lit,qbH l<=l.length
 |[]=>Nat.le_refl _
 |x::r=>by
  have:=qrc r
  simp only[qbH,List.length_cons]
  split<;>omega
structure NNCq where
 i:Nat
 n:Nat
 c:Nat
theorem qti(mo:Nat)(hmo:mo<=100)(l:List qf)(hb:∀c∈l,c.body.length<2^63):qh 5 [qz l,.int mo] (.bool (qes mo l)):=by
 refine qh.of c5 fun H hH=>⟨Nat.le_of_ble_eq_true rfl,?_⟩
 by_cases h1:(40:Int)<(l.length:Int)
 ·simp(disch:=omega)[b5,h1]
  exact qp hH (by simp[qes,show 40<l.length by omega])
 have hl40:l.length<=40:=by omega
 simp(disch:=omega)[b5,h1]
 obtain⟨A,hA⟩:∃A,l.all qch=A:=⟨_,rfl⟩
 have hB:qes mo l=if A then decide (l.length<=mo) else false:=by unfold qes;rw[if_neg (by omega),hA]
 obtain⟨Vv,hVv⟩:∃Vv,(if A then decide (l.length<=mo) else false)=Vv:=⟨_,rfl⟩
 rw[hB,hVv]
 refine qB (σ:=NN) (fun q=>(.nd (qz l) (.nd (.int mo) .nil (.nd (.int q.i) .nil .nil)) (.nd .bot (.nd (.bool false) .nil .nil) .nil))) (fun q=>⟨H.objs,q.n⟩) (fun q=>l.length - q.i)
  (fun q=>H.next<=q.n/\q.i<=l.length/\(l.drop q.i).all qch=A) ⟨0,H.next⟩ ⟨Nat.le_refl _,Nat.zero_le _,hA⟩ (by simp[FT.Le,Wk]) ⟨HWk.refl _,fun h=>h⟩ ?_
 rintro⟨i,n⟩ ⟨hn,hi,he⟩ hok
 simp only at hn hi he
 by_cases hlt:i<l.length
 case neg=>
  obtain rfl:i=l.length:=by omega
  rw[List.drop_eq_nil_of_le (Nat.le_refl _),List.all_nil]at he
  simp(disch:=omega)
  refine qcW hH ?_ (by first|exact qi.refl' _|(repeat (first|exact qi.refl (by first|omega|(dsimp only;omega))|refine qi.cons' hH (by first|omega|(dsimp only;omega)) (by first|omega|(dsimp only;omega)) ?_)))
  rw[<-hVv,<-he]
  simp
 rw[qax qch hlt]at he
 have hbl:=hb _ (yv hlt)
 obtain⟨D,hD⟩:∃D,l[i].body.all qbd=D:=⟨_,rfl⟩
 obtain⟨M,hM⟩:∃M,qbH l[i].body=M:=⟨_,rfl⟩
 have hC:qch l[i]=(D&&(l[i].head.small&&(decide (M<=3)&&decide (l[i].body.length<=8)))):=by unfold qch;rw[hD,hM]
 rw[hC]at he
 have hML:M<=l[i].body.length:=by rw[<-hM];exact qrc _
 simp(disch:=omega)[hlt]
 refine qB (σ:=NNCq) (fun q=>(.nd (qz l) (.nd (.int mo) (.nd .bot (.nd (.int q.i) .nil .nil) .nil) (.nd (.int i) .nil .nil)) (.nd .bot (.nd (.bool false) .nil .nil) (.nd (.int q.c) .nil .nil)))) (fun q=>⟨H.objs,q.n⟩) (fun q=>l[i].body.length - q.i)
  (fun q=>H.next<=q.n/\q.i<=l[i].body.length/\q.c+qbH (l[i].body.drop q.i)=M/\(l[i].body.drop q.i).all qbd=D) ⟨0,n,0⟩ ⟨hn,Nat.zero_le _,by simpa using hM,hD⟩ (by simp[FT.Le,Wk]) ⟨HWk.refl _,fun h=>h⟩ ?_
 rintro⟨j,n2,cn⟩ ⟨hn2,hj,hcn,he2⟩ hok2
 dsimp only at hn2 hj hcn he2
 by_cases hlt2:j<l[i].body.length
 case neg=>
  rw[List.drop_eq_nil_of_le (by omega)]at hcn he2
  simp only[qbH,List.all_nil,Nat.add_zero]at hcn he2
  subst hcn
  subst he2
  rw[Bool.true_and]at he
  simp(disch:=omega)[hlt,hlt2]
  refine(qfA l[i].head).go fun n3 hn3=>?_
  cases hs:l[i].head.small
  ·rw[hs,Bool.false_and,Bool.false_and]at he
   simp(disch:=omega)
   exact qp hH (by simp[<-hVv,<-he])
  rw[hs,Bool.true_and]at he
  by_cases h3:cn<=3
  case neg=>
   have h3':(3:Int)<(cn:Int):=by omega
   have h3n:3<cn:=by omega
   simp only[h3,decide_false,Bool.false_and]at he
   simp(disch:=omega)[h3',h3n]
   exact qp hH (by simp[<-hVv,<-he])
  have h3':¬(3:Int)<(cn:Int):=by omega
  have h3n:¬3<cn:=by omega
  by_cases h8:l[i].body.length<=8
  case neg=>
   have h8':(8:Int)<(l[i].body.length:Int):=by omega
   have h8n:8<l[i].body.length:=by omega
   simp only[h3,h8,decide_false,Bool.and_false,Bool.false_and]at he
   simp(disch:=omega)[h3',h3n,h8',h8n,hlt]
   exact qp hH (by simp[<-hVv,<-he])
  have h8':¬(8:Int)<(l[i].body.length:Int):=by omega
  have h8n:¬8<l[i].body.length:=by omega
  simp only[h3,h8,decide_true,Bool.and_true,Bool.true_and]at he
  simp(disch:=omega)[h3',h3n,h8',h8n,hlt,qk (show i<2^62 by omega)]
  exact⟨⟨i+1,n3⟩,by dsimp only;omega,⟨by dsimp only;omega,by dsimp only;omega,he⟩,by simp[FT.Le,Wk],HWk.refl _,fun h=>h⟩
 rw[qax qbd hlt2]at he2
 rw[List.drop_eq_getElem_cons hlt2]at hcn
 simp only[qbH]at hcn
 have hdone:qbd l[i].body[j]=false->Vv=false:=by
  intro h
  rw[<-hVv]
  rw[h,Bool.false_and]at he2
  rw[<-he2,Bool.false_and,Bool.false_and]at he
  rw[<-he];rfl
 have hnext:qbd l[i].body[j]=true->(l[i].body.drop (j+1)).all qbd=D:=by
  intro h
  rw[h,Bool.true_and]at he2
  exact he2
 have hcnj:∃cn2:Nat,(if l[i].body[j].kind=1 then IntKind.wrap .i64 ((cn:Int)+1) else (cn:Int))=(cn2:Int)/\cn2+qbH (l[i].body.drop (j+1))=M:=by
  by_cases hk:l[i].body[j].kind=1
  ·rw[if_pos hk]at hcn ⊢
   exact⟨cn+1,qmc (by omega),by omega⟩
  ·rw[if_neg hk]at hcn ⊢
   exact⟨cn,rfl,by omega⟩
 obtain⟨cn2,hc1,hc2⟩:=hcnj
 have hback:∀(x:qc)(n':Nat),H.next<=n'->H.next<=n2->HWk ⟨(n2,x)::H.objs,n'⟩ ⟨H.objs,n'⟩/\(qa.Ok ⟨(n2,x)::H.objs,n'⟩->qa.Ok ⟨H.objs,n'⟩):=fun x n' h1 h2=>zo hH (qi.cons' hH h2 h1 (qi.refl (Nat.le_refl _)))
 by_cases hk:l[i].body[j].kind=1
 all_goals
  first|rw[if_pos hk]at hc1|rw[if_neg hk]at hc1
  simp(disch:=omega)[hlt,hlt2,hk]
  refine(qfA l[i].body[j].atom).go fun n3 hn3=>?_
  cases hs:l[i].body[j].atom.small
  ·have:=hdone (by unfold qbd;rw[hs];rfl)
   simp(disch:=omega)
   exact qp hH (by simp[this])
  by_cases ha:(40:Int)<(l[i].body[j].a.s.size:Int)
  ·have:=hdone (by
    unfold qbd
    rw[hs,show decide (l[i].body[j].a.s.size<=40)=false from decide_eq_false (by omega)];rfl)
   simp(disch:=omega)[ha]
   exact qp hH (by simp[this])
  by_cases hb2:(40:Int)<(l[i].body[j].b.s.size:Int)
  ·have:=hdone (by
    unfold qbd
    rw[hs,show decide (l[i].body[j].b.s.size<=40)=false from decide_eq_false (by omega),Bool.and_false];rfl)
   simp(disch:=omega)[ha,hb2]
   exact qp hH (by simp[this])
  have:=hnext (by
   unfold qbd
   rw[hs,show decide (l[i].body[j].a.s.size<=40)=true from decide_eq_true (by omega),show decide (l[i].body[j].b.s.size<=40)=true from decide_eq_true (by omega)];rfl)
  simp(disch:=omega)[ha,hb2,hc1,qmc (show j+1<2^63 by omega)]
  exact⟨⟨j+1,n3,cn2⟩,by dsimp only;omega,⟨by dsimp only;omega,by dsimp only;omega,hc2,this⟩,by simp[FT.Le,Wk,hc1],hback _ _ (by first|omega|(dsimp only at hn3 ⊢;omega)) (by omega)⟩
theorem quI{c:qf}(h:qch c=true):qf.ok3 c:=by
 unfold qch at h
 simp only[Bool.and_eq_true,decide_eq_true_iff,List.all_eq_true]at h
 obtain⟨h1,h2,h3,h4⟩:=h
 have hb:∀x∈c.body,x.atom.ok/\x.a.s.size<=40/\x.b.s.size<=40:=fun x hx=>by
  have:=h1 x hx
  unfold qbd at this
  simp only[Bool.and_eq_true,decide_eq_true_iff]at this
  exact⟨qd.small_ok this.1,this.2.1,this.2.2⟩
 exact⟨⟨qd.small_ok h2,by omega,fun x hx=>⟨(hb x hx).1,by have:=(hb x hx).2.1;unfold qn.ok;omega,by have:=(hb x hx).2.2;unfold qn.ok;omega⟩⟩,⟨qd.small_ok h2,by omega,fun x hx=>(hb x hx).1⟩⟩
def qet(l:List qd):Bool:=if 100<l.length then true else if l.all qd.small then decide (l.length<=12) else false
theorem qtj(l:List qd)(hl:l.length<2^63):qh 6 [.sl (l.map qg) .no] (.bool (qet l)):=by
 refine qh.of c6 fun H hH=>⟨Nat.le_of_ble_eq_true rfl,?_⟩
 by_cases h1:(100:Int)<(l.length:Int)
 ·simp(disch:=omega)[b6,h1]
  exact qp hH (by simp[qet,show 100<l.length by omega])
 have hl100:l.length<=100:=by omega
 simp(disch:=omega)[b6,h1]
 obtain⟨A,hA⟩:∃A,l.all qd.small=A:=⟨_,rfl⟩
 have hB:qet l=if A then decide (l.length<=12) else false:=by unfold qet;rw[if_neg (by omega),hA]
 obtain⟨Vv,hVv⟩:∃Vv,(if A then decide (l.length<=12) else false)=Vv:=⟨_,rfl⟩
 rw[hB,hVv]
 refine qB (σ:=NN) (fun q=>(.nd (.sl (l.map qg) .no) (.nd .bot (.nd (.int q.i) .nil .nil) .nil) (.nd (.bool false) .nil .nil))) (fun q=>⟨H.objs,q.n⟩) (fun q=>l.length - q.i)
  (fun q=>H.next<=q.n/\q.i<=l.length/\(l.drop q.i).all qd.small=A) ⟨0,H.next⟩ ⟨Nat.le_refl _,Nat.zero_le _,hA⟩ (by simp[FT.Le,Wk]) ⟨HWk.refl _,fun h=>h⟩ ?_
 rintro⟨i,n⟩ ⟨hn,hi,he⟩ hok
 simp only at hn hi he
 by_cases hlt:i<l.length
 case neg=>
  obtain rfl:i=l.length:=by omega
  rw[List.drop_eq_nil_of_le (Nat.le_refl _),List.all_nil]at he
  simp(disch:=omega)
  refine qcW hH ?_ (by first|exact qi.refl' _|(repeat (first|exact qi.refl (by first|omega|(dsimp only;omega))|refine qi.cons' hH (by first|omega|(dsimp only;omega)) (by first|omega|(dsimp only;omega)) ?_)))
  rw[<-hVv,<-he]
  simp
  try omega
 rw[qax qd.small hlt]at he
 simp(disch:=omega)[hlt]
 refine(qfA l[i]).go fun n3 hn3=>?_
 cases hs:l[i].small
 ·rw[hs,Bool.false_and]at he
  simp(disch:=omega)
  exact qp hH (by simp[<-hVv,<-he])
 rw[hs,Bool.true_and]at he
 simp(disch:=omega)[qk (show i<2^62 by omega)]
 exact⟨⟨i+1,n3⟩,by dsimp only;omega,⟨by dsimp only;omega,by dsimp only;omega,he⟩,by simp[FT.Le,Wk],HWk.refl _,fun h=>h⟩
theorem qrb:∀b:List Lit,(qJ b).length=qbH b
 |[]=>rfl
 |x::r=>by
  have ih:=qrb r
  rw[qdF]
  unfold qbH
  by_cases h:x.kind=1
  ·rw[if_pos h,if_pos h,List.length_cons,ih];omega
  ·rw[if_neg h,if_neg h,ih];omega
section
variable{l:List qf}{fuel:Nat}{R:Option (List (PK×Int))}{base:List qd}
end
end Go.Abs.Tz
namespace Go.Abs.Tz
set_option maxRecDepth 20000
open Go Go.Abs Go.Proofs Go.ChangeShapes Go.WideShapes Go.RowKit Go.Proofs.YtghfbggphgpjgaaGreatDoor
noncomputable def gOf(W:World):qb:=⟨fun b=>if b<W.heap.size then some true else none,0,fun _=>0,fun _=>(0,0),fun _=>none,fun _ _=>.free,E0.rc⟩
theorem qpE{W:World}{b x:Nat}{v:Value}(h:W.cell? (at_ b x)=some v):(gOf W).Cl b x:=by
 left
 have:b<W.heap.size:=by
  rcases Nat.lt_or_ge b W.heap.size with h'|h'
  ·exact h'
  ·unfold World.cell? at h
   rw[show (at_ b x).block=b from rfl,Array.getElem?_eq_none h']at h
   cases h
 simp[gOf,this]
theorem qxD(W:World)(m:Nat):Inv (gOf W) W ⟨[],m⟩:=by
 refine⟨Nat.zero_le _,fun b hb=>?_,fun _ _ _=>rfl,fun _ _ _=>rfl,fun o x hx=>by simp[look]at hx⟩
 simp only[gOf]at hb
 split at hb
 ·assumption
 ·cases hb
abbrev qfR:String:=(Rows.customModelIsRightRow.laid.map Prod.fst)[2]!
theorem qvA{W:World}(h:laidMetH Tryz.prog Rows.customModelIsRightRow.laid W):∃t fz,W.heap[(3:Nat)]? = some (.cells (Lib.pow10Tab.map fun z=>Value.int .u64 z).toArray t fz):=by
 have h1:=laidMetH.filter (fun x=>x.1==qfR) h
 have e:Rows.customModelIsRightRow.laid.filter (fun x=>x.1==qfR)=[(qfR,Lib.tabData .u64 Lib.pow10Tab)]:=rfl
 rw[e]at h1
 change laidMet Tryz.prog [(qfR,Lib.tabData .u64 Lib.pow10Tab)] W at h1
 have h2:=Lib.tabIs_of_head (g:=3) (t:=259) (e:=219) (n:=20) (by kernel_rfl) (by kernel_rfl) (by kernel_rfl) (by kernel_rfl) (by kernel_rfl) (by kernel_rfl) h1
 unfold Lib.TabIs World.var? at h2
 rw[show Tryz.prog.globalNamed qfR=some 3 by kernel_rfl]at h2
 simp only[Option.bind_some]at h2
 split at h2
 ·rename_i cs t fz hh
  cases h2
  exact⟨t,fz,hh⟩
 ·cases h2
theorem qxE(W:World)(h:laidMetH Tryz.prog Rows.customModelIsRightRow.laid W):jh E0 (gOf W) W:=by
 refine⟨fun g=>.bot _,rfl,fun p hp=>?_⟩
 obtain⟨t,fz,hh⟩:=qvA h
 have hp':p=(3,(Lib.pow10Tab.map fun z=>Value.int .u64 z).toArray):=by simpa [E0,powT] using hp
 subst hp'
 have hlt:3<W.heap.size:=(Array.getElem?_eq_some_iff.1 hh).1
 exact⟨by simp[gOf,hlt],t,fz,hh⟩
theorem qrZ{a:Addr}(h:a.spot=none)(x y:Nat):(a.add x).add y=at_ a.block (a.off+x+y):=by
 obtain⟨b,o,s⟩:=a
 simp only at h
 subst h
 unfold Addr.add
 by_cases hx:x=0<;>by_cases hy:y=0<;>simp[hx,hy,Nat.add_assoc]
theorem z9:Tryz.prog.cellsOf 9=1:=by kernel_rfl
theorem z3:Tryz.prog.cellsOf 3=1:=by kernel_rfl
theorem z25:Tryz.prog.cellsOf 25=1:=by kernel_rfl
theorem z56:Tryz.prog.cellsOf 56=1:=by kernel_rfl
theorem z27:Tryz.prog.cellsOf 27=2:=by kernel_rfl
theorem z60:Tryz.prog.cellsOf 60=3:=by kernel_rfl
theorem z62:Tryz.prog.cellsOf 62=9:=by kernel_rfl
theorem z58:Tryz.prog.cellsOf 58=3:=by kernel_rfl
def uu(W:World)(cl:List LV)(cs:List Value):Prop:=cs.length=cl.length/\∀(j:Nat)(c:LV),cl[j]? = some c->∃v,cs[j]? = some v/\VR (gOf W) W c v/\v.oneCell'=true
theorem uu.nil(W:World):uu W [] []:=⟨rfl,fun j c h=>by simp at h⟩
theorem uu.cons{W:World}{c:LV}{v:Value}{cl:List LV}{cs:List Value}(h:VR (gOf W) W c v)(h1:v.oneCell'=true)(hr:uu W cl cs):uu W (c::cl) (v::cs):=
 ⟨by simp[hr.1],fun j x hx=>by
  cases j with
  |zero=>simp at hx;subst hx;exact⟨v,rfl,h,h1⟩
  |succ j=>simp at hx;simpa using hr.2 j x hx⟩
theorem uu.append{W:World}{cl dl:List LV}{cs ds:List Value}(h:uu W cl cs)(k:uu W dl ds):uu W (cl++dl) (cs++ds):=by
 refine⟨by simp[h.1,k.1],fun j c hc=>?_⟩
 rcases Nat.lt_or_ge j cl.length with hj|hj
 ·rw[List.getElem?_append_left hj]at hc
  rw[List.getElem?_append_left (by rw[h.1];exact hj)]
  exact h.2 j c hc
 ·rw[List.getElem?_append_right hj]at hc
  rw[List.getElem?_append_right (by rw[h.1];exact hj),h.1]
  exact k.2 _ c hc
theorem uu.agg{W:World}{cl:List LV}{cs:List Value}(h:uu W cl cs):VR (gOf W) W (.agg cl) (.agg cs.toArray):=by
 refine .agg (by simp[h.1]) (fun i c hc=>?_) (fun i hi=>?_)
 ·obtain⟨v,h1,h2,_⟩:=h.2 i c hc
  have:cs.toArray.getD i undef=v:=by simp[Array.getD_eq_getD_getElem?,h1]
  rw[this];exact h2
 ·obtain⟨v,h1,_,h3⟩:=h.2 i _ (List.getElem?_eq_getElem hi)
  have:cs.toArray.getD i undef=v:=by simp[Array.getD_eq_getD_getElem?,h1]
  rw[this];exact h3
section
variable{H:Type}{enc:TypeId×Value->H}{W:World}{hd:Bool}
theorem fld{m:Nat}{cs:List Value}{f:Field}{t:TypeId}{off c:Nat}{r:Option (DataW H×List MemPlace)}(h:DataW.trod enc Tryz.prog W 0 (fun _=>true) hd m f.type ((cs.drop f.offset).take (Tryz.prog.cellsOf f.type))=r)
  (h1:f.type=t) (h2:f.offset=off) (h3:Tryz.prog.cellsOf t=c):DataW.trod enc Tryz.prog W 0 (fun _=>true) hd m t ((cs.drop off).take c)=r:=by
 subst h1;subst h2;subst h3;exact h
theorem qfT{α:Type}(ec:α->List LV){S E:TypeId}{k:Nat}(hu:Tryz.prog.underlying S=some (.slice E))(hk:Tryz.prog.cellsOf E=k)(hk0:0<k)
  (hec:∀a,(ec a).length=k) (a0:α)
  (hop:∀(n:Nat)(cs:List Value)(x:DataW H×List MemPlace),DataW.trod enc Tryz.prog W 0 (fun _=>true) hd n E cs=some x->∃a:α,uu W (ec a) cs)
  {n:Nat} {u:Value} {x:DataW H×List MemPlace} (h:DataW.trod enc Tryz.prog W 0 (fun _=>true) hd n S [u]=some x):
  ∃l:List α,l.length<2^63/\VR (gOf W) W (.sl (l.map fun a=>.agg (ec a)) .no) u/\u.oneCell'=true:=by
 rcases Deep.open_slice hu h with⟨e1,_⟩|⟨a,len,cap,m,n',D,Pl,e1,_,hlc,hmax,hm,_,hel⟩
 ·simp only[List.cons.injEq,and_true]at e1
  subst e1
  exact⟨[],by simp,.sln trivial,rfl⟩
 ·simp only[List.cons.injEq,and_true]at e1
  subst e1
  simp only[if_true]at hm
  have hm:=hm.symm
  subst hm
  have hmax2:cap<2^63:=by unfold maxLen at hmax;omega
  by_cases hc0:cap=0
  ·subst hc0
   obtain rfl:len=0:=by omega
   exact⟨[],by simp,.sle a,rfl⟩
  have hspot:a.spot=none:=by
   obtain⟨cs',q1,_⟩:=hel 0 (by omega)
   rw[hk]at q1
   obtain⟨_,q2,q3⟩:=World.cells?_some q1
   have:=q3 0 hk0
   rw[List.getElem?_eq_getElem (by omega)]at this
   have:=World.cell?_spot this
   simpa [Addr.add] using this
  have ht:∀i,∃t:α,i<len->∃cs,uu W (ec t) cs/\∀j,j<k->W.cell? (at_ a.block (a.off+i*k+j))=cs[j]?:=by
   intro i
   by_cases hi:i<len
   ·obtain⟨cs',q1,q2⟩:=hel i (by omega)
    rw[hk]at q1
    obtain⟨_,_,q3⟩:=World.cells?_some q1
    obtain⟨t,ht⟩:=hop _ _ _ q2
    refine⟨t,fun _=>⟨cs',ht,fun j hj=>?_⟩⟩
    rw[<-q3 j hj,qrZ hspot]
   ·exact⟨a0,fun h=>absurd h hi⟩
  let T:Nat->α:=fun i=>Classical.choose (ht i)
  have hT:∀i,i<len->∃cs,uu W (ec (T i)) cs/\∀j,j<k->W.cell? (at_ a.block (a.off+i*k+j))=cs[j]?:=fun i=>Classical.choose_spec (ht i)
  have hX:∀i j,∃v:Value,i<len->∀c,(ec (T i))[j]? = some c->W.cell? (at_ a.block (a.off+i*k+j))=some v/\VR (gOf W) W c v/\v.oneCell'=true:=by
   intro i j
   by_cases hi:i<len
   ·obtain⟨cs,h1,h2⟩:=hT i hi
    by_cases hj:j<k
    ·obtain⟨v,h3,h4,h5⟩:=h1.2 j _ (List.getElem?_eq_getElem (by rw[hec];exact hj))
     refine⟨v,fun _ c hc=>?_⟩
     rw[List.getElem?_eq_getElem (by rw[hec];exact hj)]at hc
     cases hc
     exact⟨by rw[h2 j hj,h3],h4,h5⟩
    ·exact⟨undef,fun _ c hc=>by rw[List.getElem?_eq_none (by rw[hec];omega)]at hc;cases hc⟩
   ·exact⟨undef,fun h=>absurd h hi⟩
  let V:Nat->Nat->Value:=fun i j=>Classical.choose (hX i j)
  have hV:∀i j,i<len->∀c,(ec (T i))[j]? = some c->W.cell? (at_ a.block (a.off+i*k+j))=some (V i j)/\VR (gOf W) W c (V i j)/\(V i j).oneCell'=true:=fun i j=>Classical.choose_spec (hX i j)
  have ha:a=at_ a.block a.off:=by
   obtain⟨b,o,sp⟩:=a
   simp only at hspot
   subst hspot
   rfl
  have hget:∀(i:Nat)(e:LV),(((List.range len).map T).map fun a=>LV.agg (ec a))[i]? = some e->i<len/\e=.agg (ec (T i)):=by
   intro i e he
   rw[List.getElem?_map,List.getElem?_map]at he
   cases hr:(List.range len)[i]? with
   |none=>rw[hr]at he;cases he
   |some q=>
    rw[hr]at he
    obtain⟨hlt,rfl⟩:=List.getElem?_eq_some_iff.1 hr
    simp at hlt he
    exact⟨hlt,he.symm⟩
  refine⟨(List.range len).map T,by simp;omega,?_,rfl⟩
  have hlen:(((List.range len).map T).map fun a=>LV.agg (ec a)).length=len:=by simp
  have hR:=VR.sl (G:=gOf W) (w:=W) (es:=((List.range len).map T).map fun a=>LV.agg (ec a)) (own:=.no) (b:=a.block) (off:=a.off) (sz:=k) (cap:=cap) (xs:=V) (by rw[hlen];exact hlc)
   (fun i e he=>by obtain⟨_,rfl⟩:=hget i e he;exact hec _)
   (fun i e j c he hc=>by
    obtain⟨hi,rfl⟩:=hget i e he
    obtain⟨g1,_,g3⟩:=hV i j hi c hc
    exact⟨qpE g1,g1,g3⟩)
   (fun i e j c he hc=>by
    obtain⟨hi,rfl⟩:=hget i e he
    exact(hV i j hi c hc).2.1) trivial
  rw[hlen,<-ha]at hR
  exact hR
theorem qhJ{n:Nat}{u:Value}{x:DataW H×List MemPlace}(h:DataW.trod enc Tryz.prog W 0 (fun _=>true) hd n 3 [u]=some x):∃k:Int,u=.int .i64 k:=by
 obtain⟨k,e,_⟩:=DataW.trod_int Tryz.underlying3 h
 simp only[List.cons.injEq,and_true]at e
 exact⟨k,e⟩
theorem qoH{n:Nat}{u:Value}{x:DataW H×List MemPlace}(h:DataW.trod enc Tryz.prog W 0 (fun _=>true) hd n 9 [u]=some x):∃s:ByteArray,u=.string s:=by
 obtain⟨s,e,_⟩:=DataW.trod_string Tryz.underlying9 h
 simp only[List.cons.injEq,and_true]at e
 exact⟨s,e⟩
theorem qks{n:Nat}{cs:List Value}{x:DataW H×List MemPlace}(h:DataW.trod enc Tryz.prog W 0 (fun _=>true) hd n 60 cs=some x):∃t:qn,uu W (ui t) cs:=by
 obtain⟨xs,m,_,rfl,hl,hlen,hf⟩:=DataW.trod_struct Tryz.underlying60 h
 rw[z60]at hl
 match xs,hlen,cs,hl with
 |[y0,y1,y2],_,[u0,u1,u2],_=>
  have h0:=fld (t:=3) (off:=0) (c:=1) (hf 0 _ rfl) rfl rfl z3
  have h1:=fld (t:=3) (off:=1) (c:=1) (hf 1 _ rfl) rfl rfl z3
  have h2:=fld (t:=9) (off:=2) (c:=1) (hf 2 _ rfl) rfl rfl z9
  obtain⟨k,rfl⟩:=qhJ (show DataW.trod enc Tryz.prog W 0 (fun _=>true) hd m 3 [u0]=some y0 from h0)
  obtain⟨l,rfl⟩:=qhJ (show DataW.trod enc Tryz.prog W 0 (fun _=>true) hd m 3 [u1]=some y1 from h1)
  obtain⟨s,rfl⟩:=qoH (show DataW.trod enc Tryz.prog W 0 (fun _=>true) hd m 9 [u2]=some y2 from h2)
  exact⟨⟨k,l,s⟩,.cons (.sc _) rfl (.cons (.sc _) rfl (.cons (.sc _) rfl (.nil W)))⟩
theorem qfU{n:Nat}{cs:List Value}{x:DataW H×List MemPlace}(h:DataW.trod enc Tryz.prog W 0 (fun _=>true) hd n 27 cs=some x):∃a:qd,uu W [.str a.pred,ql a.args] cs:=by
 obtain⟨xs,m,_,rfl,hl,hlen,hf⟩:=DataW.trod_struct Tryz.underlying27 h
 rw[z27]at hl
 match xs,hlen,cs,hl with
 |[y0,y1],_,[u0,u1],_=>
  have h0:=fld (t:=9) (off:=0) (c:=1) (hf 0 _ rfl) rfl rfl z9
  have h1:=fld (t:=25) (off:=1) (c:=1) (hf 1 _ rfl) rfl rfl z25
  obtain⟨s,rfl⟩:=qoH (show DataW.trod enc Tryz.prog W 0 (fun _=>true) hd m 9 [u0]=some y0 from h0)
  obtain⟨ts,_,hv,h1c⟩:=qfT ui Tryz.underlying25 z60 (by omega) (fun _=>rfl) ⟨0,0,⟨#[]⟩⟩ (fun n cs x h=>qks h) (show DataW.trod enc Tryz.prog W 0 (fun _=>true) hd m 25 [u1]=some y1 from h1)
  exact⟨⟨s,ts⟩,.cons (.sc _) rfl (.cons hv h1c (.nil W))⟩
theorem qvR{n:Nat}{cs:List Value}{x:DataW H×List MemPlace}(h:DataW.trod enc Tryz.prog W 0 (fun _=>true) hd n 62 cs=some x):∃l:Lit,uu W (uc l) cs:=by
 obtain⟨xs,m,_,rfl,hl,hlen,hf⟩:=DataW.trod_struct Tryz.underlying62 h
 rw[z62]at hl
 match xs,hlen,cs,hl with
 |[y0,y1,y2,y3],_,[u0,u1,u2,u3,u4,u5,u6,u7,u8],_=>
  have h0:=fld (t:=3) (off:=0) (c:=1) (hf 0 _ rfl) rfl rfl z3
  have h1:=fld (t:=27) (off:=1) (c:=2) (hf 1 _ rfl) rfl rfl z27
  have h2:=fld (t:=60) (off:=3) (c:=3) (hf 2 _ rfl) rfl rfl z60
  have h3:=fld (t:=60) (off:=6) (c:=3) (hf 3 _ rfl) rfl rfl z60
  obtain⟨k,rfl⟩:=qhJ (show DataW.trod enc Tryz.prog W 0 (fun _=>true) hd m 3 [u0]=some y0 from h0)
  obtain⟨a,ha⟩:=qfU (show DataW.trod enc Tryz.prog W 0 (fun _=>true) hd m 27 [u1,u2]=some y1 from h1)
  obtain⟨s,hs⟩:=qks (show DataW.trod enc Tryz.prog W 0 (fun _=>true) hd m 60 [u3,u4,u5]=some y2 from h2)
  obtain⟨t,ht⟩:=qks (show DataW.trod enc Tryz.prog W 0 (fun _=>true) hd m 60 [u6,u7,u8]=some y3 from h3)
  exact⟨⟨k,a,s,t⟩,.cons (.sc _) rfl (ha.append (hs.append ht))⟩
theorem qvS{n:Nat}{cs:List Value}{x:DataW H×List MemPlace}(h:DataW.trod enc Tryz.prog W 0 (fun _=>true) hd n 58 cs=some x):∃c:{c:qf // c.body.length<2^63},uu W (yY c.1) cs:=by
 obtain⟨xs,m,_,rfl,hl,hlen,hf⟩:=DataW.trod_struct Tryz.underlying58 h
 rw[z58]at hl
 match xs,hlen,cs,hl with
 |[y0,y1],_,[u0,u1,u2],_=>
  have h0:=fld (t:=27) (off:=0) (c:=2) (hf 0 _ rfl) rfl rfl z27
  have h1:=fld (t:=56) (off:=2) (c:=1) (hf 1 _ rfl) rfl rfl z56
  obtain⟨a,ha⟩:=qfU (show DataW.trod enc Tryz.prog W 0 (fun _=>true) hd m 27 [u0,u1]=some y0 from h0)
  obtain⟨b,hb,hv,h1c⟩:=qfT uc Tryz.underlying56 z62 (by omega) (fun _=>rfl) ⟨0,⟨⟨#[]⟩,[]⟩,⟨0,0,⟨#[]⟩⟩,⟨0,0,⟨#[]⟩⟩⟩ (fun n cs x h=>qvR h) (show DataW.trod enc Tryz.prog W 0 (fun _=>true) hd m 56 [u2]=some y1 from h1)
  exact⟨⟨⟨a,b⟩,hb⟩,ha.append (.cons hv h1c (.nil W))⟩
theorem open_clauses{base:Nat}{v:Value}{d:DataW H}{p:List MemPlace}(h:DataW.Trod enc Tryz.prog W 0 (fun _=>true) hd 22 v d p)(hv:Value.okWide Tryz.prog W .any base 22 v):∃l:List qf,l.length<2^63/\(∀c∈l,c.body.length<2^63)/\VR (gOf W) W (qz l) v:=by
 have h1:v.cells=#[v]:=by
  unfold Value.okWide at hv
  rw[Tryz.underlying22]at hv
  simp only at hv
  unfold Cell.okWide at hv
  rw[Tryz.underlying22]at hv
  simp only at hv
  unfold Cell.ok at hv
  rw[Tryz.underlying22]at hv
  cases v<;>first|rfl|exact hv.elim
 obtain⟨fuel,h⟩:=h
 rw[h1]at h
 obtain⟨l,hl,hV,_⟩:=qfT (fun c:{c:qf // c.body.length<2^63}=>yY c.1) Tryz.underlying22 z58 (by omega) (fun _=>rfl) ⟨⟨⟨⟨#[]⟩,[]⟩,[]⟩,by simp⟩ (fun n cs x h=>qvS h) (show DataW.trod enc Tryz.prog W 0 (fun _=>true) hd fuel 22 [v]=some _ from h)
 refine⟨l.map (·.1),by rw[List.length_map];exact hl,fun c hc=>?_,?_⟩
 ·obtain⟨q,_,rfl⟩:=List.mem_map.1 hc
  exact q.2
 ·have e:(l.map (·.1)).map wA=l.map fun c=>LV.agg (yY c.1):=by rw[List.map_map];rfl
  show VR (gOf W) W (.sl ((l.map (·.1)).map wA) .no) v
  rw[e]
  exact hV
theorem open_atomP{base:Nat}{v:Value}{d:DataW H}{p:List MemPlace}(h:DataW.Trod enc Tryz.prog W 0 (fun _=>true) hd 27 v d p)(hv:Value.okWide Tryz.prog W .any base 27 v):∃a:qd,VR (gOf W) W (qg a) v:=by
 have hv':∃cs,v=.agg cs:=by
  unfold Value.okWide at hv
  rw[Tryz.underlying27]at hv
  obtain⟨cs,h,_⟩:=hv
  exact⟨cs,h⟩
 obtain⟨cs,rfl⟩:=hv'
 obtain⟨fuel,h⟩:=h
 obtain⟨a,ha⟩:=qfU (show DataW.trod enc Tryz.prog W 0 (fun _=>true) hd fuel 27 cs.toList=some _ from h)
 exact⟨a,by simpa using ha.agg⟩
theorem open_atoms{base:Nat}{v:Value}{d:DataW H}{p:List MemPlace}(h:DataW.Trod enc Tryz.prog W 0 (fun _=>true) hd 23 v d p)(hv:Value.okWide Tryz.prog W .any base 23 v):∃l:List qd,l.length<2^63/\VR (gOf W) W (.sl (l.map qg) .no) v:=by
 have h1:v.cells=#[v]:=by
  unfold Value.okWide at hv
  rw[Tryz.underlying23]at hv
  simp only at hv
  unfold Cell.okWide at hv
  rw[Tryz.underlying23]at hv
  simp only at hv
  unfold Cell.ok at hv
  rw[Tryz.underlying23]at hv
  cases v<;>first|rfl|exact hv.elim
 obtain⟨fuel,h⟩:=h
 rw[h1]at h
 obtain⟨l,hl,hV,_⟩:=qfT (fun a:qd=>[.str a.pred,ql a.args]) Tryz.underlying23 z27 (by omega) (fun _=>rfl) ⟨⟨#[]⟩,[]⟩ (fun n cs x h=>qfU h) (show DataW.trod enc Tryz.prog W 0 (fun _=>true) hd fuel 23 [v]=some _ from h)
 exact⟨l,hl,hV⟩
end
end Go.Abs.Tz
namespace Go.Abs.Tz
open Go Go.Abs Go.Proofs
structure ClosedM(l:List qf)(base:List qd)(T:qd->Prop):Prop where
 base:∀a∈base,T a
 good:∀a,T a->qD a
 step:∀c∈l,∀h,wn T c h->T h
end Go.Abs.Tz
namespace Go.Abs.Tz
open Go Go.Abs Go.Proofs
structure qsj(c d:qf):Prop where
 head:d.head=c.head
 len:d.body.length=c.body.length
 body:∀x,x∈d.body↔x∈c.body
end Go.Abs.Tz
namespace Go.Abs.Tz
open Go Go.Abs Go.Proofs
structure SameL(l k:List qf):Prop where
 to:∀c∈l,∃d∈k,qsj c d
 of:∀d∈k,∃c∈l,qsj c d
section
variable{l k:List qf}{m q:List (PK×Int)}
end
end Go.Abs.Tz
namespace Go.Abs.Tz
open Go Go.Abs Go.Proofs
theorem qzz{K R:qm}{p a:qd}(h:zf K p a=some R):ofA a=ofA p:=by
 unfold zf at h
 split at h
 ·rename_i hc
  simp only[Bool.and_eq_true,decide_eq_true_eq]at hc
  unfold ofA
  rw[<-wH.1 hc.1,hc.2]
 ·cases h
theorem wd.mono2{S T:qd->Prop}:∀{ps:List qd}{K R:qm},(∀p∈ps,∀a,S a->ofA a=ofA p->T a)->wd S ps K R->wd T ps K R
 |[],_,_,_,hc=>hc
 |p::ps,_,_,h,⟨a,K',h1,h2,h3⟩=>⟨a,K',h p List.mem_cons_self a h1 (qzz h2),h2,wd.mono2 (fun q hq=>h q (List.mem_cons_of_mem _ hq)) h3⟩
structure RelC(l k:List qf)(Q:PK->Prop):Prop where
 sub:∀c∈k,c∈l
 all:∀c∈l,Q (ofA c.head)->c∈k
 inQ:∀c∈k,Q (ofA c.head)
 body:∀c∈k,∀x∈c.body,x.kind=1\/x.kind=2->Q (ofA x.atom)
section
variable{l k:List qf}{Q:PK->Prop}{m q:List (PK×Int)}
structure RelD(Q:PK->Prop)(F G:List Stp):Prop where
 lf:F.length<=300
 lg:G.length<=300
 nf:uK F
 ng:uK G
 good:∀a∈qw F,qD a
 sub:∀a∈qw G,a∈qw F
 eq:∀a∈qw F,Q (ofA a)->a∈qw G
end
end Go.Abs.Tz
namespace Go.Abs.Tz
open Go Go.Abs Go.Proofs
structure qzY(l:List qf)(base:List qd)(F:List Stp):Prop where
 good:∀a∈qw F,qD a
 names:uK F
 len:F.length<=300
 der:∀(i:Nat)(s:Stp),F[i]? = some s->s.atom∈base\/∃c∈l,∃R,wd (fun a=>∃(j:Nat)(t:Stp),j<i/\F[j]? = some t/\t.atom=a) (qJ c.body) [] R/\qaa (·∈qw F) R c.body/\s.atom=qN R c.head
 base:∀a∈base,a∈qw F
 closed:∀c∈l,∀h,wn (·∈qw F) c h->h∈qw F
section
variable{l:List qf}{m:List (PK×Int)}{base:List qd}{F:List Stp}
structure StIn(m:List (PK×Int))(base:List qd)(F:List Stp)(w:Int)(G:List Stp):Prop where
 names:uK G
 len:G.length<=300
 sub:∀a∈qw G,a∈qw F
 low:∀a∈qw F,qo m (ofA a)<w->a∈qw G
 base:∀a∈base,a∈qw G
end
end Go.Abs.Tz
namespace Go.Abs.Tz
open Go Go.Abs Go.Proofs
theorem qac.mono{F G:List Stp}(h:∀(j:Nat) (s:Stp),F[j]? = some s->G[j]? = some s):∀{ps:List qd}{K:qm}{js:List Int}{R:qm},qac F ps K js R->qac G ps K js R
 |[],_,_,_,hc=>hc
 |_::_,_,_,_,⟨j,s,K',js',h1,h2,h3,h4⟩=>⟨j,s,K',js',h j s h1,h2,h3,qac.mono h h4⟩
def DerS(l:List qf)(base:List qd)(m:List (PK×Int))(v:Int)(F:List Stp)(i:Nat)(s:Stp):Prop:=
 (s.cl=-1/\s.frm=[]/\s.atom∈base)\/∃(k:Nat)(c:qf)(R:qm),s.cl=(k:Int)/\l[k]? = some c/\qo m (ofA c.head)<=v/\qac (F.take i) (qJ c.body) [] s.frm R/\qaa (·∈qw F) R c.body/\s.atom=qN R c.head
def qcm(l:List qf)(base:List qd)(m:List (PK×Int))(v:Int)(F:List Stp):Prop:=∀(i:Nat)(s:Stp),F[i]? = some s->DerS l base m v F i s
theorem qyU{c:qf}(hg:zq c){F:List Stp}(hF:∀a,a∈qw F->qD a)(i:Int):∀s∈uJ F c i,s.cl=i/\∃R,qac F (qJ c.body) [] s.frm R/\qaa (·∈qw F) R c.body/\s.atom=qN R c.head:=by
 intro s hs
 have hFs:∀s∈F,qD s.atom:=fun s hs=>hF _ (List.mem_map.2 ⟨s,hs,rfl⟩)
 have hS:∀a,wM F a->qD a:=fun a ⟨s,hs,e⟩=>e▸hFs s hs
 have e:uJ F c i=(qeN F c i).foldl (zK F) []:=by
  unfold uJ
  rw[qip]
  rfl
 rw[e]at hs
 obtain⟨X,hX,hX2⟩:=qeT F (qeN F c i) []
 rw[hX]at hs
 obtain⟨x,hx,rfl⟩:=List.mem_map.1 (hX2 s (by simpa using hs))
 obtain⟨js,h1,h2,h3⟩:=qca.1 hx
 obtain⟨g1,_,g3,_⟩:=qbJ hS .nil (qdX h1)
 refine⟨rfl,x.1,?_,?_,rfl⟩
 ·show qac F _ [] x.2 x.1
  rw[h3]
  simpa using h1
 ·rw[<-qfH]
  exact(qbV (fun s hs=>(hFs s hs).1) fun y hy hk=>((hg.leaf g1 g3).1 y hy hk).1).1 h2
section
variable{l:List qf}{m:List (PK×Int)}{base:List qd}{v:Int}
theorem qjL(hm:uW l m)(hg:∀c∈l,zq c):∀(r:List qf)(i:Nat),l.drop i=r->∀{F F':List Stp},(∀a∈qw F,qD a)->qcm l base m v F->vN m v r i F=some F'->qcm l base m v F'/\∀a∈qw F',qD a
 |[],_,_,F,F',h1,h2,h=>by
  cases h
  exact⟨h2,h1⟩
 |c::r,i,hd,F,F',h1,h2,h=>by
  have hi:i<l.length:=by
   rcases Nat.lt_or_ge i l.length with h|h
   ·exact h
   ·rw[List.drop_eq_nil_of_le h]at hd;cases hd
  rw[List.drop_eq_getElem_cons hi]at hd
  have hd1:l[i]=c:=by injection hd
  have hd2:l.drop (i+1)=r:=by injection hd
  have hc:c∈l:=hd1▸List.getElem_mem hi
  have hget:l[i]? = some c:=by rw[List.getElem?_eq_getElem hi,hd1]
  unfold vN at h
  by_cases hv:qo m (ofA c.head)=v
  ·rw[if_pos hv]at h
   obtain⟨c1,c2,c3,c4⟩:=qrj (hg c hc) (F:=F) h1 i
   have hder:=qyU (hg c hc) (F:=F) h1 i
   rw[c1]at h
   obtain⟨X,hX⟩:∃X,uJ F c i=X:=⟨_,rfl⟩
   rw[hX]at h c3 hder
   have hXv:∀s∈X,qo m (ofA s.atom)=v/\qD s.atom:=fun s hs=>by
    obtain⟨R,k1,k2,k3⟩:=c3 s hs
    refine⟨by rw[k3,qhN];exact hv,?_⟩
    exact wn.good (S:=(·∈qw F)) h1 (hg c hc) ⟨R,k1,k2,k3⟩
   have rest:∀(d:qf)(R:qm),d∈l->qo m (ofA d.head)<=v->qaa (·∈qw F) R d.body->qaa (·∈qw (F++X)) R d.body:=fun d R hd hdv hr x hx=>by
    refine⟨fun hk hf=>?_,(hr x hx).2⟩
    obtain⟨s,hs,hse⟩:=List.mem_map.1 hf
    rcases List.mem_append.1 hs with hs|hs
    ·exact(hr x hx).1 hk (List.mem_map.2 ⟨s,hs,hse⟩)
    ·have h3:=(hXv s hs).1
     have h4:=(hm.lits hd hx).2 hk
     rw[hse,qhN]at h3
     omega
   by_cases h300:300<(F++X).length
   ·rw[if_pos h300]at h;cases h
   rw[if_neg h300]at h
   refine qjL hm hg r (i+1) hd2 (fun a ha=>?_) (fun j s hj=>?_) h
   ·obtain⟨s,hs,rfl⟩:=List.mem_map.1 ha
    rcases List.mem_append.1 hs with hs|hs
    ·exact h1 _ (List.mem_map.2 ⟨s,hs,rfl⟩)
    ·exact(hXv s hs).2
   ·rcases Nat.lt_or_ge j F.length with hjl|hjl
    ·rw[List.getElem?_append_left hjl]at hj
     rcases h2 j s hj with h|⟨k,d,R,k1,k2,k3,k4,k5,k6⟩
     ·exact .inl h
     ·refine .inr ⟨k,d,R,k1,k2,k3,?_,rest d R (List.mem_iff_getElem?.2 ⟨k,k2⟩) k3 k5,k6⟩
      rw[List.take_append_of_le_length (by omega)]
      exact k4
    ·rw[List.getElem?_append_right hjl]at hj
     have hsX:s∈X:=List.mem_iff_getElem?.2 ⟨_,hj⟩
     obtain⟨d1,R,d2,d3,d4⟩:=hder s hsX
     refine .inr ⟨i,c,R,d1,hget,by omega,qac.mono (fun a t hat=>?_) d2,rest c R hc (by omega) d3,d4⟩
     have hal:a<F.length:=(List.getElem?_eq_some_iff.1 hat).1
     rw[List.getElem?_take,if_pos (by omega),List.getElem?_append_left hal]
     exact hat
  ·rw[if_neg hv]at h
   exact qjL hm hg r (i+1) hd2 h1 h2 h
theorem qpc(hm:uW l m)(hg:∀c∈l,zq c):∀(k:Nat){F F':List Stp},(∀a∈qw F,qD a)->qcm l base m v F->vY m v l k F=some F'->qcm l base m v F'/\∀a∈qw F',qD a
 |0,_,_,_,_,h=>by cases h
 |k+1,F,F',h1,h2,h=>by
  unfold vY at h
  cases hr:vN m v l 0 F with
  |none=>rw[hr]at h;cases h
  |some F2=>
   rw[hr]at h
   dsimp only at h
   obtain⟨g1,g2⟩:=qjL hm hg l 0 rfl h1 h2 hr
   by_cases he:F2.length=F.length
   ·rw[if_pos he]at h
    cases h
    exact⟨g1,g2⟩
   ·rw[if_neg he]at h
    exact qpc hm hg k g2 g1 h
end
theorem qcm.le{l:List qf}{base:List qd}{m:List (PK×Int)}{v w:Int}{F:List Stp}(h:qcm l base m v F)(hw:v<=w):qcm l base m w F:=fun i s hi=>by
 rcases h i s hi with h|⟨k,c,R,k1,k2,k3,k4⟩
 ·exact .inl h
 ·exact .inr ⟨k,c,R,k1,k2,by omega,k4⟩
theorem qpa{l:List qf}{base:List qd}{m:List (PK×Int)}(hm:uW l m)(hg:∀c∈l,zq c):∀(k w:Nat){F F':List Stp},(∀a∈qw F,qD a)->qcm l base m w F->wE m l k w F=some F'->qcm l base m (w+k:Nat) F'/\∀a∈qw F',qD a
 |0,w,_,_,h1,h2,h=>by
  cases h
  exact⟨h2.le (by omega),h1⟩
 |k+1,w,F,F',h1,h2,h=>by
  unfold wE at h
  cases hr:vY m w l 302 F with
  |none=>rw[hr]at h;cases h
  |some F2=>
   rw[hr]at h
   obtain⟨g1,g2⟩:=qpc hm hg 302 h1 h2 hr
   obtain⟨j1,j2⟩:=qpa hm hg k (w+1) g2 (g1.le (by omega)) h
   exact⟨j1.le (by omega),j2⟩
theorem qsa:∀(S F:List Stp){q:Stp},q∈S.foldl zh F->q∈F\/q∈S
 |[],F,q,h=>.inl h
 |s::S,F,q,h=>by
  rw[List.foldl_cons]at h
  rcases qsa S _ h with h|h
  ·rcases qzX h with h|rfl
   ·exact .inl h
   ·exact .inr List.mem_cons_self
  ·exact .inr (List.mem_cons_of_mem _ h)
theorem qyH{l:List qf}{base:List qd}{m:List (PK×Int)}(hc:(qQ l).1=0)(hm:uW l m)(hb:∀a∈base,qD a){F:List Stp}(h:qar m l base=some F):∃v,qcm l base m v F:=by
 unfold qar at h
 have key:∀s∈zj base,s.cl=-1/\s.frm=[]/\s.atom∈base:=fun s hs=>by
  rcases qsa _ _ hs with h|h
  ·cases h
  ·obtain⟨a,ha,rfl⟩:=List.mem_map.1 h
   exact⟨rfl,rfl,ha⟩
 obtain⟨g1,_⟩:=qpa (base:=base) hm (qdg hc) _ 0 (F:=zj base) (fun a ha=>by
  obtain⟨s,hs,rfl⟩:=List.mem_map.1 ha
  exact hb _ (key s hs).2.2) (fun i s hi=>.inl (key s (List.mem_iff_getElem?.2 ⟨i,hi⟩))) h
 exact⟨_,g1⟩
end Go.Abs.Tz
namespace Go.Abs.Tz
open Go Go.Abs Go.Proofs
def wJ(F:List Stp)(i:Nat):List Lit->qm->List Int->Option qm
 |[],K,js=>if js=[] then some K else none
 |x::r,K,js=>if x.kind=1 then match js with
   |[]=>none
   |j::js=>if 0<=j/\j<i then match F[j.toNat]? with
     |none=>none
     |some t=>match zf K x.atom t.atom with
      |none=>none
      |some R=>wJ F i r R js
    else none
  else wJ F i r K js
def qeZ(F:List Stp)(c:qf)(s:Stp):Option qm->Bool
 |none=>false
 |some R=>decide (zk (qN R c.head) s.atom=0)&&gd F R c.body
def v8(l:List qf)(F:List Stp)(i:Nat)(s:Stp):Bool:=if 0<=s.cl/\s.cl<l.length then match l[s.cl.toNat]? with
  |none=>false
  |some c=>qeZ F c s (wJ F i c.body [] s.frm)
 else false
def qbl(l:List qf)(base:List qd)(F:List Stp):Nat->List Stp->Bool
 |_,[]=>true
 |i,s::r=>((decide (s.cl=-1)&&(decide (s.frm=[])&&qF (qt s.atom) (zj base)))||v8 l F i s)&&qbl l base F (i+1) r
def qbE:List Stp->List Stp->Bool
 |_,[]=>true
 |D,s::r=>zr s.atom&&(!qF (qt s.atom) D&&qbE (D++[s]) r)
def qdW(F:List Stp)(c:qf)(b:Bool):Bool:=jd (fun b a _=>b&&qF (qt a) F) c (jb F c (qJ c.body) [] []) b
def qbT(l:List qf)(base:List qd)(F:List Stp):Bool:=
 qbE [] F&&(qbl l base F 0 F&&((zj base).all (fun s=>qF (qt s.atom) F)&&l.foldl (fun b c=>qdW F c b) true))
theorem qlx{F:List Stp}{i:Nat}:∀{b:List Lit}{K:qm}{js:List Int}{R:qm},wJ F i b K js=some R->wd (fun a=>∃(j:Nat)(t:Stp),j<i/\F[j]? = some t/\t.atom=a) (qJ b) K R
 |[],K,js,R,h=>by
  unfold wJ at h
  split at h
  ·cases h;rfl
  ·cases h
 |x::r,K,js,R,h=>by
  unfold wJ at h
  rw[qdF]
  by_cases hk:x.kind=1
  ·rw[if_pos hk]at h ⊢
   cases js with
   |nil=>cases h
   |cons j js=>
    simp only at h
    split at h
    case isFalse=>cases h
    case isTrue hj=>
     cases ht:F[j.toNat]? with
     |none=>rw[ht]at h;cases h
     |some t=>
      rw[ht]at h
      simp only at h
      cases hb:zf K x.atom t.atom with
      |none=>rw[hb]at h;cases h
      |some Q=>
       rw[hb]at h
       exact⟨t.atom,Q,⟨j.toNat,t,by omega,ht,rfl⟩,hb,qlx h⟩
  ·rw[if_neg hk]at h ⊢
   exact qlx h
theorem qah(F:List Stp):wM F=fun a=>a∈qw F:=funext fun a=>propext ⟨fun⟨s,hs,e⟩=>List.mem_map.2 ⟨s,hs,e⟩,fun h=>by
 obtain⟨s,hs,e⟩:=List.mem_map.1 h
 exact⟨s,hs,e⟩⟩
theorem qyI{l:List qf}(hg:∀c∈l,zq c){F:List Stp}(hF:∀s∈F,qD s.atom){i:Nat}{s:Stp}(h:v8 l F i s=true):
  ∃c∈l,∃R,wd (fun a=>∃(j:Nat)(t:Stp),j<i/\F[j]? = some t/\t.atom=a) (qJ c.body) [] R/\qaa (·∈qw F) R c.body/\s.atom=qN R c.head:=by
 unfold v8 at h
 split at h
 case isFalse=>cases h
 cases hc:l[s.cl.toNat]? with
 |none=>rw[hc]at h;cases h
 |some c=>
  rw[hc]at h
  simp only at h
  cases hR:wJ F i c.body [] s.frm with
  |none=>rw[hR]at h;exact absurd h (by simp[qeZ])
  |some R=>
   rw[hR]at h
   unfold qeZ at h
   simp only[Bool.and_eq_true,decide_eq_true_iff]at h
   have hcl:c∈l:=List.mem_iff_getElem?.2 ⟨_,hc⟩
   have hch:=qlx hR
   have hS:∀a,(∃(j:Nat)(t:Stp),j<i/\F[j]? = some t/\t.atom=a)->qD a:=fun a ⟨j,t,_,h2,h3⟩=>h3▸hF t (List.mem_iff_getElem?.2 ⟨_,h2⟩)
   obtain⟨g1,_,g3,_⟩:=qbJ hS .nil hch
   obtain⟨k1,k2⟩:=(hg c hcl).leaf g1 g3
   refine⟨c,hcl,R,hch,?_,(qbI.zero.1 h.1).symm⟩
   have:=(qbV (fun s hs=>(hF s hs).1) fun x hx hk=>(k1 x hx hk).1).1 h.2
   rw[qah]at this
   exact this
theorem qpP:∀{D F:List Stp},qbE D F=true->(∀s∈F,qD s.atom)/\(uK D->uK (D++F))
 |D,[],_=>⟨fun s hs=>(by cases hs),fun h=>by simpa using h⟩
 |D,s::r,h=>by
  unfold qbE at h
  simp only[Bool.and_eq_true,Bool.not_eq_true']at h
  obtain⟨h1,h2,h3⟩:=h
  obtain⟨g1,g2⟩:=qpP h3
  refine⟨fun q hq=>?_,fun hD=>?_⟩
  ·rcases List.mem_cons.1 hq with rfl|hq
   ·exact qec.1 h1
   ·exact g1 q hq
  ·have:=g2 (by
    unfold uK at hD ⊢
    rw[List.map_append,List.nodup_append]
    refine⟨hD,by simp,fun a ha b hb=>?_⟩
    simp only[List.map_cons,List.map_nil,List.mem_singleton]at hb
    subst hb
    rintro rfl
    obtain⟨q,hq,e⟩:=List.mem_map.1 ha
    have:qF (qt s.atom) D=true:=wf.2 ⟨q,hq,e⟩
    rw[h2]at this
    cases this)
   rwa [List.append_assoc]at this
theorem qqS{l:List qf}{base:List qd}{F:List Stp}:∀{r:List Stp}{i:Nat},qbl l base F i r=true->∀(k:Nat)(s:Stp),r[k]? = some s->(s.cl=-1/\s.frm=[]/\qF (qt s.atom) (zj base)=true)\/v8 l F (i+k) s=true
 |[],_,_,k,s,hs=>by simp at hs
 |q::r,i,h,k,s,hs=>by
  unfold qbl at h
  simp only[Bool.and_eq_true,Bool.or_eq_true,decide_eq_true_iff]at h
  obtain⟨h1,h2⟩:=h
  cases k with
  |zero=>
   simp only[List.getElem?_cons_zero,Option.some.injEq]at hs
   subst hs
   exact h1
  |succ k=>
   have:=qqS h2 k s (by simpa using hs)
   rwa [show i+1+k=i+(k+1) by omega]at this
theorem qrh{F:List Stp}{c:qf}:∀(L:List (qm×List Int))(b:Bool),jd (fun b a _=>b&&qF (qt a) F) c L b=true↔b=true/\∀x∈L,qF (qt (qN x.1 c.head)) F=true
 |[],b=>by simp[jd]
 |x::L,b=>by
  have ih:=qrh (F:=F) (c:=c) L (b&&qF (qt (qN x.1 c.head)) F)
  rw[show jd (fun b a _=>b&&qF (qt a) F) c (x::L) b=jd (fun b a _=>b&&qF (qt a) F) c L (b&&qF (qt (qN x.1 c.head)) F) from rfl,ih,Bool.and_eq_true,List.forall_mem_cons,and_assoc]
theorem qiF{F:List Stp}:∀(l:List qf)(b:Bool),l.foldl (fun b c=>qdW F c b) b=true↔b=true/\∀c∈l,∀x∈jb F c (qJ c.body) [] [],qF (qt (qN x.1 c.head)) F=true
 |[],b=>by simp
 |c::l,b=>by
  rw[List.foldl_cons,qiF l,show qdW F c b=jd (fun b a _=>b&&qF (qt a) F) c (jb F c (qJ c.body) [] []) b from rfl,qrh,List.forall_mem_cons,and_assoc]
theorem quD{l:List qf}(hg:∀c∈l,zq c){base:List qd}(hb:∀a∈base,qD a){F:List Stp}(hl:F.length<=300)(h:qbT l base F=true):qzY l base F:=by
 unfold qbT at h
 simp only[Bool.and_eq_true,List.all_eq_true]at h
 obtain⟨h1,h2,h3,h4⟩:=h
 obtain⟨g1,g2⟩:=qpP h1
 have hok:∀s∈F,qI s.atom=true:=fun s hs=>(g1 s hs).1
 have hgood:∀a∈qw F,qD a:=fun a ha=>by
  obtain⟨s,hs,rfl⟩:=List.mem_map.1 ha
  exact g1 s hs
 obtain⟨a1,a2⟩:=qeg (base.map fun a=>(⟨a,-1,[]⟩:Stp)) [] (fun s hs=>by cases hs) (fun s hs=>by
  obtain⟨a,ha,rfl⟩:=List.mem_map.1 hs
  exact(hb a ha).1) .nil
 have hbase:∀a,a∈qw (zj base)↔a∈base:=by
  intro a
  rw[show qw (zj base)=qw ((base.map fun a=>(⟨a,-1,[]⟩:Stp)).foldl zh []) from rfl,a2 a]
  simp[qw,Function.comp_def]
 have hbok:∀s∈zj base,qI s.atom=true:=fun s hs=>(hb _ ((hbase _).1 (List.mem_map.2 ⟨s,hs,rfl⟩))).1
 refine⟨hgood,g2 .nil,hl,fun i s hs=>?_,fun a ha=>?_,fun c hc h hh=>?_⟩
 ·have hsF:s∈F:=List.mem_iff_getElem?.2 ⟨i,hs⟩
  rcases qqS h2 i s hs with⟨_,_,k⟩|k
  ·left
   rw[qcC hbok (hok s hsF),qah]at k
   exact(hbase _).1 k
  ·right
   rw[Nat.zero_add]at k
   exact qyI hg g1 k
 ·obtain⟨s,hs,rfl⟩:=List.mem_map.1 ((hbase a).2 ha)
  have:=h3 s hs
  rw[qcC hok (hbok s hs),qah]at this
  exact this
 ·obtain⟨R,r1,r2,r3⟩:=hh
  obtain⟨k1,_,k3,_⟩:=qbJ hgood .nil r1
  obtain⟨l1,l2⟩:=(hg c hc).leaf k1 k3
  rw[<-qah]at r1 r2
  obtain⟨js,hjs⟩:=qhM r1
  have hr:=(qbV hok fun x hx hk=>(l1 x hx hk).1).2 r2
  have hm:(R,([]:List Int)++js)∈jb F c (qJ c.body) [] []:=qca.2 ⟨js,hjs,hr,rfl⟩
  have:=((qiF l true).1 h4).2 c hc _ hm
  rw[qcC hok l2.1,qah]at this
  rw[r3]
  exact this
end Go.Abs.Tz
namespace Go.Abs.Tz
open Go Go.Abs Go.Proofs
set_option maxRecDepth 20000
set_option linter.unusedSimpArgs false
attribute [local simp ↓] yC yB jT jS yf uO zu zG jR uB vl vm yD yF yG yE jY j6 j9 jZ ga gc j7 j8 j0 jW jU jX jV vj vh vk vi yy yw yz yx yK yI yJ jj z8 ge zw zU yi vn vo yN yP yO yL yM yZ gh gq gv gp gt gu g7 g6 gC gE jB jy jM jP jz jH jL jK jJ jI jF ju jv jw jx jN jD jE jq jO jQ jA jC jG jr gI gD gY ya gF gS gW gV gU gT gO gz g0 gM gN gw g9 yb gG gK gQ gx yd g8 gy yc gL gH gJ gA gZ gi gk gj yT yW yS yU yV qq uG
attribute [local simp] faL fdL iaL ixL qS zm ze eqK eqL qX zE uA yQ vg y5 y7 y9 vc ve vf y6 vb y8 vd zM LV.cells LV.whole qq uQ gg gf stL zN ui uI qa.alloc yg ye yh yu yt yr yq yp yo yn ym yk yj qe uD
def qiU(ob:List (Nat×qc))(ko:Nat)(K:qm):Prop:=look ko ob=some (.um (qG K))\/(K=[]/\look ko ob=some (.map []))
theorem qrA{f:FuncId}{args:List LV}{ob:List (Nat×qc)}{n ko:Nat}{K:qm}{kv kp:HP}(hk:qiU ob ko K)
  (h:∀ob2,look ko ob2=some (.um (qG K))->(∀i,i≠ko->look i ob2=look i ob)->(qU ob->qU ob2)->cP E0 F0 f args ⟨ob2,n⟩ kv kp):cP E0 F0 f args ⟨ob,n⟩ kv kp:=by
 rcases hk with hk|⟨rfl,hk⟩
 ·exact h ob hk (fun _ _=>rfl) id
 ·refine qrz (o:=ko) (es:=[]) hk ?_
  exact h (qy ko (.um []) ob) (jl hk) (fun i hi=>vR hi) fun hni=>hni.put _ rfl
structure qdr(n:Nat)(ob:List (Nat×qc))(s:Stp)(c:qf)(tc fo am:Nat)(F:List Stp)(own:Own)(ob1:List (Nat×qc)):Prop where
 ls:look n ob1=some (.cells (wQ s))
 lc:look tc ob1=some (.cells (yY c))
 ft:zR ob1 fo am F own
 ni:qU ob1
 old:∀i,i<n->look i ob1=look i ob
section
variable{n:Nat}{ob:List (Nat×qc)}{s:Stp}{c:qf}{tc fo am:Nat}{F:List Stp}{own:Own}{ob1 ob2:List (Nat×qc)}
theorem qdr.keep(h:qdr n ob s c tc fo am F own ob1)(hlow:∀i,(i=fo\/i=am\/own=.tok i)->i<n){ko:Nat}(hko:n<ko/\tc≠ko)(hni:qU ob2)(hs:∀i,i≠ko->look i ob2=look i ob1):qdr n ob s c tc fo am F own ob2:=
 ⟨by rw[hs _ (by omega)];exact h.ls,by rw[hs _ hko.2];exact h.lc,h.ft.keep fun i hi=>hs i (by have:=hlow i hi;omega),hni,fun i hi=>by rw[hs i (by omega)];exact h.old i hi⟩
theorem qdr.cons(h:qdr n ob s c tc fo am F own ob1)(hlow:∀i,(i=fo\/i=am\/own=.tok i)->i<n){m:Nat}{x:qc}(hm:n<m/\tc<m)(hx:qdb x=false):qdr n ob s c tc fo am F own ((m,x)::ob1):=
 h.keep hlow (ko:=m) ⟨hm.1,by omega⟩ (h.ni.cons _ hx) fun i hi=>qe hi _ _
end
structure NNDv where
 j:Nat
 k:Nat
 n:Nat
 ko:Nat
 K:qm
 ob:List (Nat×qc)
theorem qfD(l:List qf)(hl:l.length<=2^20)(hg:∀c∈l,zq c)(F:List Stp)(hF:F.length<=2^20)(hFg:∀s∈F,qD s.atom)(hfr:∀s∈F,s.frm.length<=2^20)(fo am:Nat)(own:Own)(i:Nat)(hi:i<F.length)
  (ob:List (Nat×qc)) (n:Nat) (hA:zR ob fo am F own) (hni:qU ob) {kv kp:HP} (hk:∀n',n<=n'->kv (.bool (v8 l F i F[i])) ⟨ob,n'⟩):
  cP E0 F0 48 [.ptr fo 0,qz l,.int i] ⟨ob,n⟩ kv kp:=by
 refine zX c48 fun hH=>⟨Nat.le_of_ble_eq_true rfl,?_⟩
 have hlow:=hA.low hH
 have fin:∀(m:Nat)(ob1:List (Nat×qc))(v:LV),(∀i,i<n->look i ob1=look i ob)->n<=m->kv v ⟨ob,m⟩->∃H'',HWk ⟨ob1,m⟩ H''/\(qa.Ok ⟨ob1,m⟩->H''.Ok)/\kv v H'':=fun m ob1 v ho hm hv=>⟨⟨ob,m⟩,qbC hH ho (Nat.le_refl _),fun _=>qx.mono hH hm,hv⟩
 obtain⟨⟨a,cl,frm⟩,hs⟩:∃s,F[i]=s:=⟨_,rfl⟩
 have hsF:(⟨a,cl,frm⟩:Stp)∈F:=hs▸List.getElem_mem hi
 have hsg:qD a:=hFg _ hsF
 have hsf:frm.length<=2^20:=hfr _ hsF
 obtain⟨V,hV⟩:∃V,v8 l F i ⟨a,cl,frm⟩=V:=⟨_,rfl⟩
 rw[hs,hV]at hk
 unfold v8 at hV
 simp only at hV
 have hw0:IntKind.wrap .i64 ((l.length:Int) - 1)=(l.length:Int) - 1:=uM (by omega) (by omega)
 have hw1:IntKind.wrap .i64 ((i:Int) - 1)=(i:Int) - 1:=uM (by omega) (by omega)
 have hs0:∀x:qc,look fo ((n,x)::ob)=look fo ob:=fun x=>qe (by have:=hlow fo (.inl rfl);omega) _ _
 simp(disch:=omega)[b48,hA.pair,hi,hs,hw0]
 refine(qhc cl 0 _).go fun n1 hn1=>?_
 have e1:(decide ((0:Int)<=cl)&&decide (cl<=(l.length:Int) - 1))=decide (0<=cl/\cl<(l.length:Int)):=by
  rw[Bool.decide_and]
  congr 1
  exact decide_eq_decide.2 (by omega)
 rw[e1]
 by_cases hcl:0<=cl/\cl<(l.length:Int)
 case neg=>
  rw[if_neg hcl]at hV
  rw[decide_eq_false hcl]
  simp(disch:=omega)
  rw[<-hV]at hk
  exact fin _ _ _ (fun i hi=>qe (by omega) _ _) (by omega) (hk n1 (by omega))
 rw[if_pos hcl]at hV
 rw[decide_eq_true hcl]
 obtain⟨q,rfl⟩:∃q:Nat,cl=(q:Int):=⟨cl.toNat,by omega⟩
 have hql:q<l.length:=by omega
 rw[show ((q:Int)).toNat=q from rfl,List.getElem?_eq_getElem hql]at hV
 simp only at hV
 obtain⟨c,hc⟩:∃c,l[q]=c:=⟨_,rfl⟩
 have hcm:c∈l:=hc▸List.getElem_mem hql
 rw[hc]at hV
 have hcg:=hg c hcm
 obtain⟨cp1,cp2,cp3⟩:=wl hcg.ok
 simp(disch:=omega)[hql,hc]
 have hD0:qdr n ob ⟨a,q,frm⟩ c n1 fo am F own ((n1+1,.map [])::(n1,.cells (yY c))::(n,.cells (wQ ⟨a,q,frm⟩))::ob):=by
  refine⟨by rw[qe (by omega),qe (by omega)];exact qq _ _ _,by rw[qe (by omega)];exact qq _ _ _,hA.keep fun i hi=>?_,((hni.cons _ rfl).cons _ rfl).cons _ rfl,fun i hi=>?_⟩
  ·have:=hlow i hi
   rw[qe (by omega),qe (by omega),qe (by omega)]
  ·rw[qe (by omega),qe (by omega),qe (by omega)]
 refine qB (σ:=NNDv) (fun w=>(.nd (.ptr fo 0) (.nd (qz l) (.nd .bot (.nd (.ptr n 0) .nil (.nd .bot (.nd (.int c.body.length) .nil .nil) .nil)) .nil) (.nd .bot (.nd (.map w.ko) .nil .nil) .nil)) (.nd (.int i) (.nd .bot (.nd (.ptr n1 0) .nil (.nd .bot (.nd (.int w.j) .nil .nil) .nil)) .nil) (.nd .bot (.nd (.int w.k) .nil .nil) (.nd .bot (.nd .bot (.nd (zA c.body) .nil .nil) .nil) .nil))))) (fun w=>⟨w.ob,w.n⟩) (fun w=>c.body.length - w.j)
  (fun w=>qdr n ob ⟨a,q,frm⟩ c n1 fo am F own w.ob/\qiU w.ob w.ko w.K/\n1<w.ko/\w.ko<w.n/\w.j<=c.body.length/\w.k<=w.j/\w.k<=frm.length/\uq w.K/\(∀p∈qJ (c.body.take w.j),uL w.K p.args)/\qeZ F c ⟨a,q,frm⟩ (wJ F i (c.body.drop w.j) w.K (frm.drop w.k))=V)
  ⟨0,0,n1+1+1,n1+1,[],(n1+1,.map [])::(n1,.cells (yY c))::(n,.cells (wQ ⟨a,q,frm⟩))::ob⟩ ⟨hD0,.inr ⟨rfl,qq _ _ _⟩,Nat.lt_succ_self _,Nat.lt_succ_self _,Nat.zero_le _,Nat.le_refl _,Nat.zero_le _,.nil,fun p hp=>by simp[qJ]at hp,hV⟩ (by simp[FT.Le,Wk]) ⟨HWk.refl _,fun h=>h⟩ ?_
 rintro⟨j,k,m,ko,K,ob1⟩ ⟨hD,hkn,hko1,hko2,hj,hkj,hkl,hK,hbd,hend⟩ hok
 dsimp only at hD hkn hko1 hko2 hj hkj hkl hK hbd hend hok
 by_cases hlt:j<c.body.length
 case neg=>
  obtain rfl:j=c.body.length:=by omega
  rw[List.take_length]at hbd
  rw[List.drop_length]at hend
  unfold wJ at hend
  obtain⟨g1,g2⟩:=hcg.leaf hK hbd
  have hh:c.head.args.length<=2^20:=by have:=(wK cp1).1;omega
  by_cases hke:k=frm.length
  case neg=>
   rw[if_neg (by intro h;have:=congrArg List.length h;simp at this;omega)]at hend
   have hV0:V=false:=hend.symm
   have hke2:¬(k:Int)=(frm.length:Int):=by omega
   simp(disch:=omega)[hD.ls,hke,hke2]
   exact fin _ _ _ hD.old (by omega) (hV0▸hk m (by omega))
  subst hke
  rw[if_pos (by simp)]at hend
  unfold qeZ at hend
  simp(disch:=omega)[hD.ls,hD.lc]
  refine qrA hkn fun ob2 hk2 hs2 hni2=>?_
  have hD2:=hD.keep hlow ⟨by omega,by omega⟩ (hni2 hD.ni) hs2
  refine qhh c.head hh K hK.nd ko ⟨ob2,m⟩ hk2 fun n3 hn3=>?_
  dsimp only at hn3
  simp(disch:=omega)[hD2.ls]
  refine(qnn (qN K c.head) a (jo g2.1) (jo hsg.1)).go fun n4 hn4=>?_
  simp only at hend
  by_cases hz:zk (qN K c.head) a=0
  case neg=>
   rw[decide_eq_false hz,Bool.false_and]at hend
   simp(disch:=omega)[hz]
   exact fin _ _ _ hD2.old (by omega) (hend▸hk n4 (by omega))
  rw[decide_eq_true hz,Bool.true_and]at hend
  simp(disch:=omega)[hz,hD2.lc]
  have hn4':n<n4:=by omega
  refine qB (σ:=NNRs) (fun q=>(.nd (.ptr fo 0) (.nd .bot .nil (.nd .bot (.nd (.map ko) .nil .nil) (.nd .bot (.nd .bot (.nd .bot .nil (.nd (.int c.body.length) .nil .nil)) .nil) .nil))) (.nd .bot (.nd .bot .nil (.nd .bot (.nd .bot (.nd .bot .nil (.nd (zA c.body) .nil .nil)) .nil) .nil)) (.nd .bot .nil (.nd .bot (.nd .bot (.nd .bot .nil (.nd (.int q.i) .nil .nil)) .nil) .nil))))) (fun q=>⟨ob2,q.n⟩) (fun q=>c.body.length - q.i)
   (fun q=>n4<=q.n/\q.i<=c.body.length/\gd F K (c.body.drop q.i)=V) ⟨0,n4⟩ ⟨Nat.le_refl _,Nat.zero_le _,by simpa using hend⟩ (by simp[FT.Le,Wk]) ⟨HWk.refl _,fun h=>h⟩ ?_
  rintro⟨j,m⟩ ⟨hm,hj,he⟩ hok1
  dsimp only at hm hj he hok1
  by_cases hlt:j<c.body.length
  case neg=>
   rw[List.drop_eq_nil_of_le (by omega)]at he
   have hV1:V=true:=he.symm
   obtain rfl:j=c.body.length:=by omega
   simp(disch:=omega)[hlt]
   exact fin _ _ _ hD2.old (by omega) (hV1▸hk m (by omega))
  rw[List.drop_eq_getElem_cons hlt]at he
  simp only[gd]at he
  have b3:fo<m:=hok1.look hD2.ft.pair
  have b4:am<m:=hok1.look hD2.ft.map
  have b5:ko<m:=hok1.look hk2
  have hback:∀(m2:Nat)(x:qc),m+1<=m2->HWk ⟨(m,x)::ob2,m2⟩ ⟨ob2,m2⟩/\(qa.Ok ⟨(m,x)::ob2,m2⟩->qa.Ok ⟨ob2,m2⟩):=fun m2 x h2=>zo (H:=⟨ob2,m⟩) hok1 (qi.cons hok1 (Nat.le_refl _) (qi.refl (Nat.le_refl _)) (by dsimp only;omega))
  have hobx:∀(x:qc)(i:Nat),i<n->look i ((m,x)::ob2)=look i ob:=fun x i hi=>by rw[qe (by omega)];exact hD2.old i hi
  have hmem:c.body[j]∈c.body:=List.getElem_mem hlt
  have hargs:c.body[j].atom.args.length<=2^20:=by have:=qgg (cp3 _ hmem);omega
  by_cases k1:c.body[j].kind=1
  ·rw[if_pos k1]at he
   simp(disch:=omega)[hlt,k1,qk (show j<2^62 by omega)]
   obtain⟨g1,g2⟩:=hback (m+1) (.cells (uc c.body[j])) (Nat.le_refl _)
   exact⟨⟨j+1,m+1⟩,by dsimp only;omega,⟨by dsimp only;omega,by dsimp only;omega,he⟩,by simp[FT.Le,Wk],by simpa [uc,k1] using g1,by simpa [uc,k1] using g2⟩
  rw[if_neg k1]at he
  by_cases k2:c.body[j].kind=2
  ·rw[if_pos k2]at he
   simp(disch:=omega)[hlt,k1,k2,hD2.ft.pair]
   refine qhh c.body[j].atom hargs K hK.nd ko _ (by dsimp only;rw[qe (by omega)];exact hk2) fun m2 hm2=>?_
   dsimp only at hm2
   simp(disch:=omega)[hD2.ft.pair]
   refine(qep _ (g1 _ hmem k2).1).go fun m3 hm3=>?_
   simp(disch:=omega)[hD2.ft.pair]
   rw[lkM (by rw[qe (by omega)];exact hD2.ft.map)]
   have hh:qF (qt (qN K c.body[j].atom)) F=(uy (qt (qN K c.body[j].atom)) (zV F 0)).isSome:=rfl
   cases hl:uy (qt (qN K c.body[j].atom)) (zV F 0) with
   |some v=>
    rw[hh,hl]at he
    have hV0:V=false:=he.symm
    simp(disch:=omega)
    exact fin _ _ _ (hobx _) (by omega) (hV0▸hk m3 (by omega))
   |none=>
    rw[hh,hl]at he
    simp(disch:=omega)[qk (show j<2^62 by omega)]
    obtain⟨g1,g2⟩:=hback m3 (.cells (uc c.body[j])) (by omega)
    exact⟨⟨j+1,m3⟩,by dsimp only;omega,⟨by dsimp only;omega,by dsimp only;omega,by simpa using he⟩,by simp[FT.Le,Wk],by simpa [uc,k2] using g1,by simpa [uc,k2] using g2⟩
  rw[if_neg k2]at he
  simp(disch:=omega)[hlt,k1,k2]
  refine qne c.body[j] K hK.nd ko _ (by dsimp only;rw[qe (by omega)];exact hk2) fun m2 hm2=>?_
  dsimp only at hm2
  cases hcm:qaO K c.body[j]
  ·rw[hcm]at he
   have hV0:V=false:=he.symm
   simp(disch:=omega)
   exact fin _ _ _ (hobx _) (by omega) (hV0▸hk m2 (by omega))
  ·rw[hcm]at he
   simp(disch:=omega)[qk (show j<2^62 by omega)]
   obtain⟨g1,g2⟩:=hback m2 (.cells (uc c.body[j])) hm2
   exact⟨⟨j+1,m2⟩,by dsimp only;omega,⟨by dsimp only;omega,by dsimp only;omega,by simpa using he⟩,by simp[FT.Le,Wk],g1,g2⟩
 rw[List.drop_eq_getElem_cons hlt]at hend
 unfold wJ at hend
 have hpt:=qkk hlt
 have hmem:c.body[j]∈c.body:=List.getElem_mem hlt
 have hnx:IntKind.wrap .i64 ((j:Int)+1)=((j+1:Nat):Int):=qk (show j<2^62 by omega)
 by_cases k1:c.body[j].kind=1
 case neg=>
  rw[if_neg k1]at hend hpt
  simp(disch:=omega)[hlt,k1,hnx]
  exact⟨⟨j+1,k,m+1,ko,K,ob1⟩,by dsimp only;omega,⟨hD,hkn,hko1,by dsimp only;omega,by dsimp only;omega,by dsimp only;omega,hkl,hK,by dsimp only;rw[hpt,List.append_nil];exact hbd,hend⟩,by simp[FT.Le,Wk],qbg hok (Nat.le_refl _),fun _=>hok.mono (by dsimp only;omega)⟩
 rw[if_pos k1]at hend hpt
 have hnk:IntKind.wrap .i64 ((k:Int)+1)=((k+1:Nat):Int):=qk (show k<2^62 by omega)
 by_cases hkf:k<frm.length
 case neg=>
  rw[List.drop_eq_nil_of_le (by omega)]at hend
  have hV0:V=false:=hend.symm
  have hkf2:frm.length<=k:=by omega
  simp(disch:=omega)[hlt,k1,hD.ls,hkf,hkf2]
  exact fin _ _ _ (fun i hi=>by rw[qe (by omega)];exact hD.old i hi) (by omega) (hV0▸hk (m+1) (by omega))
 rw[List.drop_eq_getElem_cons hkf]at hend
 simp only at hend
 obtain⟨f,hf⟩:∃f,frm[k]=f:=⟨_,rfl⟩
 rw[hf]at hend
 have hkf2:¬frm.length<=k:=by omega
 simp(disch:=omega)[hlt,k1,hD.ls,hkf,hkf2,hf,hw1]
 refine(qhc f 0 _).go fun n2 hn2=>?_
 have e2:(decide ((0:Int)<=f)&&decide (f<=(i:Int) - 1))=decide (0<=f/\f<(i:Int)):=by
  rw[Bool.decide_and]
  congr 1
  exact decide_eq_decide.2 (by omega)
 rw[e2]
 have hob:∀(x:qc)(i:Nat),i<n->look i ((m,x)::ob1)=look i ob:=fun x i hi=>by rw[qe (by omega)];exact hD.old i hi
 by_cases hfi:0<=f/\f<(i:Int)
 case neg=>
  rw[if_neg hfi]at hend
  have hV0:V=false:=hend.symm
  rw[decide_eq_false hfi]
  simp(disch:=omega)
  exact fin _ _ _ (hob _) (by omega) (hV0▸hk n2 (by omega))
 rw[if_pos hfi]at hend
 rw[decide_eq_true hfi]
 obtain⟨p,rfl⟩:∃p:Nat,f=(p:Int):=⟨f.toNat,by omega⟩
 have hpF:p<F.length:=by omega
 rw[show ((p:Int)).toNat=p from rfl,List.getElem?_eq_getElem hpF]at hend
 simp only at hend
 have b3:fo<m:=by have:=hlow fo (.inl rfl);omega
 obtain⟨X,hX⟩:∃X,qc.cells [LV.int 1,.str c.body[j].atom.pred,ql c.body[j].atom.args,.int c.body[j].a.kind,.int c.body[j].a.n,.str c.body[j].a.s,.int c.body[j].b.kind,.int c.body[j].b.n,.str c.body[j].b.s]=X:=⟨_,rfl⟩
 simp(disch:=omega)[hD.ls,hkf,hf,hD.ft.pair,hpF]
 rw[hX]
 have hXi:qdb X=false:=by rw[<-hX];rfl
 have hDx:=hD.cons hlow (m:=m) (x:=X) ⟨by omega,by omega⟩ hXi
 have hKx:qiU ((m,X)::ob1) ko K:=by
  unfold qiU
  rw[qe (by omega)]
  exact hkn
 refine qrA hKx fun ob2 hk2 hs2 hni2=>?_
 have hD2:=hDx.keep hlow ⟨by omega,by omega⟩ (hni2 hDx.ni) hs2
 have hpk:qI c.body[j].atom=true:=qgh (cp3 _ hmem) (.inl k1)
 have hpg:=hFg _ (List.getElem_mem hpF)
 refine qhj c.body[j].atom F[p].atom (jo hpk) (jo hpg.1) ⟨ob2,n2⟩ ko K hk2 (fun i m l k n hl=>absurd hl (hD2.ni _ _ _ _ _)) hK.nd (fun hbn=>?_) (fun R hbr=>?_)
 ·rw[hbn]at hend
  have hV0:V=false:=hend.symm
  simp(disch:=omega)
  exact fin _ _ _ hD2.old (by omega) (hV0▸hk n2 (by omega))
 ·rw[hbr]at hend
  obtain⟨s1,s2,s3,s4⟩:=qfm hK hpg hbr
  simp(disch:=omega)[hnk,hnx]
  exact⟨⟨j+1,k+1,n2+3,n2+2,R,(n2+2,.um (qG R))::ob2⟩,by dsimp only;omega,⟨hD2.cons hlow ⟨by omega,by omega⟩ rfl,.inl (qq _ _ _),by dsimp only;omega,Nat.lt_succ_self _,by dsimp only;omega,by dsimp only;omega,by dsimp only;omega,s1,fun p hp=>by
   dsimp only at hp
   rw[hpt]at hp
   rcases List.mem_append.1 hp with h|h
   ·exact(hbd p h).ext s2
   ·rw[List.mem_singleton]at h
    subst h
    exact s3,hend⟩,by simp[FT.Le,Wk],HWk.refl _,fun h=>h⟩
theorem qtk(a:qd)(ha:qI a=true)(frm:List Int)(fv cc go gm:Nat)(F:List Stp)(own:Own)(b:Bool)(ob:List (Nat×qc))(n:Nat)(hF:zR ob go gm F own)(l1:look fv ob=some (.cells [.ptr go 0]))(l2:look cc ob=some (.cells [.bool b])){kv kp:HP}
  (hk:∀n',n<=n'->kv (.tup []) ⟨qy cc (.cells [.bool (b&&qF (qt a) F)]) ob,n'⟩):
  cP E0 F0 50 [qg a,.sl (frm.map LV.int) .no,.ptr fv 0,.ptr cc 0] ⟨ob,n⟩ kv kp:=by
 refine zX c50 fun hH=>⟨Nat.le_of_ble_eq_true rfl,?_⟩
 have b1:fv<n:=hH.look l1
 have b2:cc<n:=hH.look l2
 have b4:go<n:=hH.look hF.pair
 have b5:gm<n:=hH.look hF.map
 simp(disch:=omega)[b50,l1,hF.pair]
 refine(qep a ha).go fun n2 hn2=>?_
 simp(disch:=omega)[l1,hF.pair]
 rw[lkM (by rw[qe (by omega)];exact hF.map)]
 have hh:qF (qt a) F=(uy (qt a) (zV F 0)).isSome:=rfl
 have fin:∀(v:qc)(x:qc),kv (.tup []) ⟨qy cc x ob,n2⟩->∃H'',HWk ⟨(n,v)::qy cc x ob,n2⟩ H''/\(qa.Ok ⟨(n,v)::qy cc x ob,n2⟩->H''.Ok)/\kv (.tup []) H'':=fun v x hx=>by
  have hd:qx (qy cc x ob) n:=qx.put hH
  exact⟨_,qbg hd (Nat.le_refl _),fun _=>hd.mono (Nat.le_trans (Nat.le_succ _) hn2),hx⟩
 cases hl:uy (qt a) (zV F 0) with
 |some t=>
  have e:qF (qt a) F=true:=by rw[hh,hl];rfl
  rw[e,Bool.and_true]at hk
  cases b
  ·simp(disch:=omega)[zw,l1,l2,hF.pair]
   exact fin _ _ (hk n2 (by omega))
  ·simp(disch:=omega)[zw,l1,l2,hF.pair]
   exact fin _ _ (hk n2 (by omega))
 |none=>
  have e:qF (qt a) F=false:=by rw[hh,hl];rfl
  rw[e,Bool.and_false]at hk
  cases b
  ·simp(disch:=omega)[zw,l1,l2,hF.pair]
   exact fin _ _ (hk n2 (by omega))
  ·simp(disch:=omega)[zw,l1,l2,hF.pair]
   exact fin _ _ (hk n2 (by omega))
def doerC(F:List Stp)(fv cc go gm:Nat)(own:Own)(ob0:List (Nat×qc))(h0:zR ob0 go gm F own):qek Bool where
 fn:=50
 cap:=[.ptr fv 0,.ptr cc 0]
 Stat:=(fv,.cells [.ptr go 0])::wC F go gm own
 At ob b S:=look cc ob=some (.cells [.bool b])/\∀i,S i↔i=cc
 step b a _:=b&&qF (qt a) F
 lim _:=True
 lim_step _ _ _ h:=h
 at_look ob b S i h hi:=by
  obtain⟨h1,h2⟩:=h
  obtain rfl:=(h2 i).1 hi
  exact⟨_,h1,rfl⟩
 at_keep ob ob' b S h hk:=⟨by rw[hk cc ((h.2 cc).2 rfl)];exact h.1,h.2⟩
 ok ob n b S a frm kv kp _ ha hat hst hsep hni hk:=by
  obtain⟨h1,h2⟩:=hat
  unfold wc at hst
  simp only[List.forall_mem_cons]at hst
  refine qtk a ha frm fv cc go gm F own b ob n (qhL h0 hst.2) hst.1 h1 fun n' hn'=>?_
  exact hk _ n' S hn' ⟨jl h1,h2⟩ (fun i hi=>.inl hi) (hni.put _ rfl) fun i hi hiS=>vR fun e=>hiS ((h2 i).2 e)
structure qfu(N:Nat)(ob2:List (Nat×qc))(G:List Stp)(own:Own)(ob:List (Nat×qc)):Prop where
 fa:zR ob (N+1) N G own
 cell:look (N+1+1) ob=some (.cells [.ptr (N+1) 0])
 lo:∀t,own=.tok t->N+1+1+1<=t
 ni:qU ob
 old:∀i,i<N->look i ob=look i ob2
theorem qfu.cons{N:Nat}{ob2:List (Nat×qc)}{G:List Stp}{own:Own}{ob:List (Nat×qc)}(h:qfu N ob2 G own ob){m:Nat}(hok:qa.Ok ⟨ob,m⟩)(hm:N+1+1+1<=m){x:qc}(hx:qdb x=false):qfu N ob2 G own ((m,x)::ob):=
 ⟨h.fa.keep fun i hi=>qe (by have:=h.fa.low hok i hi;omega) _ _,by rw[qe (by omega)];exact h.cell,h.lo,h.ni.cons _ hx,fun i hi=>by rw[qe (by omega)];exact h.old i hi⟩
structure NNCs where
 i:Nat
 n:Nat
 own:Own
 ob:List (Nat×qc)
structure NNCt where
 i:Nat
 n:Nat
 b:Bool
 ob:List (Nat×qc)
structure NNIt where
 left:List Nat
 cur:Option Nat
def qdt(l:List qf)(F:List Stp):Bool:=l.foldl (fun b c=>qdW F c b) true
def qdu(l:List qf)(base:List qd)(F:List Stp):Bool:=(zj base).all (fun s=>qF (qt s.atom) F)&&qdt l F
def qdv(l:List qf)(base:List qd)(F:List Stp):Bool:=qbl l base F 0 F&&qdu l base F
theorem qnt(l:List qf)(base:List qd)(F:List Stp):qbT l base F=(qbE [] F&&qdv l base F):=rfl
def qdx(l:List qf)(R:Option (List (PK×Int)))(base:List qd)(F:List Stp):Int:=if zb l R base≠0 then zb l R base else if 300<F.length then 2 else if qbT l base F then 0 else 8
theorem qpz:∀(F:List Stp)(i:Int),(zV F i).map (·.1)=F.map fun q=>qt q.atom
 |[],_=>rfl
 |s::r,i=>by
  have ih:=qpz r (i+1)
  unfold zV
  simp only[List.map_cons,ih]
theorem qvE{α:Type}{l m:List α}(h:l.Perm m)(p:α->Bool):l.all p=m.all p:=by
 rw[Bool.eq_iff_iff,List.all_eq_true,List.all_eq_true]
 exact⟨fun k x hx=>k x (h.mem_iff.2 hx),fun k x hx=>k x (h.mem_iff.1 hx)⟩
theorem quE{F:List Stp}{fo am:Nat}{own:Own}:∀p∈wC F fo am own,p.1=fo\/p.1=am\/own=.tok p.1:=by
 unfold wC
 simp only[List.forall_mem_cons]
 refine⟨.inl trivial,.inr (.inl trivial),?_⟩
 cases own with
 |tok t=>intro p hp;simp at hp;subst hp;exact .inr (.inr rfl)
 |no=>intro p hp;cases hp
 |full=>intro p hp;cases hp
set_option maxHeartbeats 1000000 in
theorem qno{l:List qf}{fuel:Nat}{R:Option (List (PK×Int))}{base:List qd}(hI:qiS l fuel R base)(ownB:Own)(F:List Stp)(hFl:F.length<2^63)(hFo:F.length<=300->∀s∈F,s.atom.ok/\s.frm.length<=2^20)(ob:List (Nat×qc))(n:Nat)(hni:qU ob){kv kp:HP}
  (hk:∀n',n<=n'->kv (.int (qdx l R base F)) ⟨ob,n'⟩):cP E0 F0 15 [qz l,.sl (base.map qg) ownB,.sl (F.map q9) .no] ⟨ob,n⟩ kv kp:=by
 refine zX c15 fun hH=>⟨Nat.le_of_ble_eq_true rfl,?_⟩
 simp(disch:=omega)[b15]
 refine qnk l hI.hl fuel R hI.hR base ownB hI.hb hI.hok ob n hni (fun e he0 hwhy n2 hn2=>?_) (fun hc m hRm h100 hall om fo am ob2 n2 own2 hn2 h2=>?_)
 ·have heE:e=zb l R base:=by
   unfold zb
   rcases hwhy with⟨h1,h2⟩|⟨h1,h2,h3⟩|⟨h1,h2,h3,h4⟩|⟨h1,h2,h3,h4,h5⟩
   ·rw[if_pos h1];exact h2
   ·rw[if_neg (by omega),if_pos h2];exact h3
   ·rw[if_neg (by omega),if_neg h2,if_pos h3];exact h4
   ·rw[if_neg (by omega),if_neg h2,if_neg (by omega),if_neg (by simp[h4])];exact h5
  subst heE
  unfold qdx at hk
  rw[if_pos he0]at hk
  simp(disch:=omega)[he0]
  exact keep (hk n2 hn2)
 have hbz:zb l R base=0:=by
  unfold zb
  rw[if_neg (by omega),if_neg (by rw[hRm];simp),if_neg (by omega),if_pos hall]
 unfold qdx at hk
 rw[if_neg (by omega)]at hk
 have hcg:=qdg hc
 have hll:=(qfg hc).1
 have fin:∀(m:Nat)(ob1:List (Nat×qc))(v:LV),(∀i,i<n2->look i ob1=look i ob2)->n2<=m->kv v ⟨ob,m⟩->∃H'',HWk ⟨ob1,m⟩ H''/\(qa.Ok ⟨ob1,m⟩->H''.Ok)/\kv v H'':=fun m ob1 v ho hm hv=>⟨⟨ob,m⟩,qbC hH (fun i hi=>by rw[ho i (by omega)];exact h2.old i hi) (Nat.le_refl _),fun _=>qx.mono hH (by dsimp only;omega),hv⟩
 by_cases h300:300<F.length
 ·rw[if_pos h300]at hk
  have h300':(300:Int)<(F.length:Int):=by omega
  simp(disch:=omega)[h300']
  exact fin _ _ _ (fun _ _=>rfl) (by omega) (hk n2 (by omega))
 rw[if_neg h300]at hk
 have h300':¬(300:Int)<(F.length:Int):=by omega
 have hFo:=hFo (by omega)
 obtain⟨V,hV⟩:∃V,qbT l base F=V:=⟨_,rfl⟩
 rw[hV]at hk
 rw[qnt]at hV
 simp(disch:=omega)[h300']
 refine qgk fun hokL=>?_
 have hok2:qa.Ok ⟨ob2,n2⟩:=hokL.2.2.2
 have hglow:=h2.facts.low hok2
 have b8:fo<n2:=hglow fo (.inl rfl)
 have b9:am<n2:=hglow am (.inr (.inl rfl))
 have hgiv:∀{G:List Stp}{own:Own}{ob1:List (Nat×qc)},qfu n2 ob2 G own ob1->zR ob1 fo am (zj base) own2:=fun h=>h2.facts.keep fun i hi=>h.old i (hglow i hi)
 refine qB (σ:=NNCs) (fun q=>(.nd (qz l) (.nd .bot .nil (.nd .bot (.nd .bot .nil (.nd .bot (.nd (.int F.length) .nil .nil) .nil)) .nil)) (.nd (.sl (F.map q9) .no) (.nd .bot (.nd (.ptr fo 0) .nil (.nd .bot (.nd (.sl (F.map q9) .no) .nil .nil) .nil)) .nil) (.nd .bot (.nd (.ptr (n2+1+1) 0) .nil (.nd .bot (.nd (.int q.i) .nil .nil) .nil)) .nil)))) (fun q=>⟨q.ob,q.n⟩) (fun q=>F.length - q.i)
  (fun q=>q.i<=F.length/\n2+1+1+1<=q.n/\qfu n2 ob2 (F.take q.i) q.own q.ob/\(qbE (F.take q.i) (F.drop q.i)&&qdv l base F)=V/\(∀s∈F.take q.i,qD s.atom))
  ⟨0,n2+1+1+1,.full,(n2+1+1,.cells [.ptr (n2+1) 0])::(n2+1,.cells [.map n2,Nl])::(n2,.map [])::ob2⟩ ⟨Nat.zero_le _,Nat.le_refl _,⟨⟨by rw[qe (by omega)];exact qq _ _ _,by rw[qe (by omega),qe (by omega)];exact qq _ _ _,by omega,.inl ⟨rfl,rfl⟩⟩,qq _ _ _,fun t h=>(by cases h),((h2.ni.cons _ rfl).cons _ rfl).cons _ rfl,fun i hi=>by rw[qe (by omega),qe (by omega),qe (by omega)]⟩,hV,fun s hs=>(by simp at hs)⟩ (by simp[FT.Le,Wk]) ⟨HWk.refl _,fun h=>h⟩ ?_
 rintro⟨i,m1,own,ob1⟩ ⟨hi,hm1,hC,hf,hg⟩ hok1
 dsimp only at hi hm1 hC hf hg hok1
 by_cases hlt:i<F.length
 case pos=>
  obtain⟨G,hG⟩:∃G,F.take i=G:=⟨_,rfl⟩
  have hGl:G.length=i:=by rw[<-hG,List.length_take];omega
  have hG2:F.take (i+1)=G++[F[i]]:=by rw[<-hG,List.take_add_one,List.getElem?_eq_getElem hlt];rfl
  rw[hG]at hC hf hg
  rw[List.drop_eq_getElem_cons hlt]at hf
  unfold qbE at hf
  obtain⟨hao,hfo⟩:=hFo _ (List.getElem_mem hlt)
  have hCx:=hC.cons hok1 hm1 (x:=.cells (wQ F[i])) rfl
  have hnx:IntKind.wrap .i64 ((i:Int)+1)=((i+1:Nat):Int):=qk (show i<2^62 by omega)
  simp(disch:=omega)[hlt]
  refine(qhg F[i].atom hao).go fun n3 hn3=>?_
  cases ha:qI F[i].atom
  ·have e:zr F[i].atom=false:=by simp[zr,ha]
   rw[e,Bool.false_and,Bool.false_and]at hf
   simp(disch:=omega)
   exact fin _ _ _ hCx.old (by omega) (by rw[<-hf]at hk;exact hk n3 (by omega))
  simp(disch:=omega)
  refine(qnc F[i].atom hao).go fun n4 hn4=>?_
  cases hgr:F[i].atom.args.all ux
  ·have e:zr F[i].atom=false:=by simp[zr,hgr]
   rw[e,Bool.false_and,Bool.false_and]at hf
   simp(disch:=omega)
   exact fin _ _ _ hCx.old (by omega) (by rw[<-hf]at hk;exact hk n4 (by omega))
  have e:zr F[i].atom=true:=by simp[zr,ha,hgr]
  rw[e,Bool.true_and]at hf
  simp(disch:=omega)[hC.cell,hC.fa.pair,hGl]
  refine qjq F[i] ha (n2+1) n2 G (by omega) own _ n4 hCx.fa (fun hex n5 hn5=>?_) (fun hno ob5 n5 own5 hn5 hF5 hnear hni5 hsame=>?_)
  ·have e2:qF (qt F[i].atom) G=true:=wf.2 hex
   rw[e2,Bool.not_true,Bool.false_and,Bool.false_and]at hf
   simp(disch:=omega)[hC.cell,hC.fa.pair,hGl]
   exact fin _ _ _ hCx.old (by omega) (by rw[<-hf]at hk;exact hk n5 (by omega))
  ·have e2:qF (qt F[i].atom) G=false:=by
    cases h:qF (qt F[i].atom) G with
    |false=>rfl
    |true=>
     obtain⟨q,hq,e⟩:=wf.1 h
     exact absurd e (hno q hq)
   rw[e2,Bool.not_false,Bool.true_and]at hf
   have hlo:=hC.lo
   have hcell5:look (n2+1+1) ob5=some (.cells [.ptr (n2+1) 0]):=by
    rw[hsame _ (by omega) (by omega) (by omega) (fun t ht=>by have:=hlo t ht;omega)]
    exact hCx.cell
   have hL2:((G++[F[i]]).length:Int)=(i:Int)+1:=by rw[List.length_append,hGl];rfl
   have hne5:¬(i:Int)+1=(i:Int):=by omega
   simp(disch:=omega)[hcell5,hF5.pair,hGl,hnx,hne5]
   refine⟨⟨i+1,n5,own5,ob5⟩,by dsimp only;omega,⟨by dsimp only;omega,by dsimp only;omega,⟨by dsimp only;rw[hG2];exact hF5,hcell5,fun t ht=>?_,hni5 hCx.ni,fun j hj=>?_⟩,by dsimp only;rw[hG2];exact hf,fun s hs=>?_⟩,by simp[FT.Le,Wk],HWk.refl _,fun h=>h⟩
   ·dsimp only at ht
    rcases hnear with h|⟨t',h,h'⟩
    ·exact hlo t (by rw[<-h];exact ht)
    ·rw[h]at ht
     cases ht
     omega
   ·rw[hsame j (by omega) (by omega) (by omega) (fun t ht=>by have:=hlo t ht;omega)]
    exact hCx.old j hj
   ·dsimp only at hs
    rw[hG2]at hs
    rcases List.mem_append.1 hs with h|h
    ·exact hg s h
    ·rw[List.mem_singleton]at h
     rw[h]
     exact qec.1 e
 obtain rfl:i=F.length:=by omega
 rw[List.take_length]at hC hf hg
 rw[List.drop_length]at hf
 have hf:(true&&qdv l base F)=V:=hf
 rw[Bool.true_and]at hf
 unfold qdv at hf
 have hgv:=hgiv hC
 have hgn:fo<m1/\am<m1:=⟨by omega,by omega⟩
 simp(disch:=omega)
 refine qB (σ:=NN) (fun q=>(.nd (qz l) (.nd .bot .nil (.nd .bot (.nd .bot .nil (.nd .bot (.nd .bot (.nd (.int F.length) .nil .nil) .nil) .nil)) .nil)) (.nd .bot (.nd .bot (.nd (.ptr fo 0) .nil (.nd .bot (.nd .bot (.nd (.sl (F.map q9) .no) .nil .nil) .nil) .nil)) .nil) (.nd .bot (.nd (.ptr (n2+1+1) 0) .nil (.nd .bot (.nd .bot (.nd (.int q.i) .nil .nil) .nil) .nil)) .nil)))) (fun q=>⟨ob1,q.n⟩) (fun q=>F.length - q.i)
  (fun q=>q.i<=F.length/\m1<=q.n/\(qbl l base F q.i (F.drop q.i)&&qdu l base F)=V)
  ⟨0,m1⟩ ⟨Nat.zero_le _,Nat.le_refl _,hf⟩ (by simp[FT.Le,Wk]) ⟨HWk.refl _,fun h=>h⟩ ?_
 rintro⟨i,m⟩ ⟨hi,hm,hf⟩ hok
 dsimp only at hi hm hf hok
 by_cases hlt:i<F.length
 case pos=>
  rw[List.drop_eq_getElem_cons hlt]at hf
  unfold qbl at hf
  obtain⟨hao,hfo⟩:=hFo _ (List.getElem_mem hlt)
  have hag:=hg _ (List.getElem_mem hlt)
  have hnx:IntKind.wrap .i64 ((i:Int)+1)=((i+1:Nat):Int):=qk (show i<2^62 by omega)
  have hCx:=hC.cons hok (by omega) (x:=.cells (wQ F[i])) rfl
  have hdrop:∀(k:Nat)(x:qc),m<=k->HWk ⟨(m,x)::ob1,k⟩ ⟨ob1,k⟩/\(qa.Ok ⟨(m,x)::ob1,k⟩->qa.Ok ⟨ob1,k⟩):=fun k x hk=>⟨qbg hok (Nat.le_refl _),fun _=>qx.mono hok hk⟩
  simp(disch:=omega)[hlt,hgv.pair]
  refine(qep F[i].atom hag.1).go fun n3 hn3=>?_
  simp(disch:=omega)[hgv.pair]
  rw[lkM (by rw[qe (by omega)];exact hgv.map)]
  have hh:qF (qt F[i].atom) (zj base)=(uy (qt F[i].atom) (zV (zj base) 0)).isSome:=rfl
  by_cases hcl:F[i].cl=-1
  ·by_cases hfr:F[i].frm=[]
   ·cases hl:uy (qt F[i].atom) (zV (zj base) 0) with
    |some t=>
     have hf0:(decide (F[i].cl=-1)&&(decide (F[i].frm=[])&&qF (qt F[i].atom) (zj base)))=true:=by simp[hcl,hfr,hh,hl]
     rw[hf0,Bool.true_or,Bool.true_and]at hf
     simp(disch:=omega)[hcl,hfr,hnx]
     exact⟨⟨i+1,n3⟩,by dsimp only;omega,⟨by dsimp only;omega,by dsimp only;omega,hf⟩,by simp[FT.Le,Wk],(hdrop n3 _ (by omega)).1,(hdrop n3 _ (by omega)).2⟩
    |none=>
     have hf0:(decide (F[i].cl=-1)&&(decide (F[i].frm=[])&&qF (qt F[i].atom) (zj base)))=false:=by simp[hcl,hfr,hh,hl]
     simp(disch:=omega)[hcl,hfr,hC.cell]
     rw[hf0,Bool.false_or]at hf
     refine qfD l (by omega) hcg F (by omega) hg (fun s hs=>(hFo s hs).2) (n2+1) n2 own i hlt _ n3 hCx.fa hCx.ni fun n5 hn5=>?_
     cases hd:v8 l F i F[i]
     ·rw[hd,Bool.false_and,Bool.false_and]at hf
      simp(disch:=omega)
      exact fin _ _ _ hCx.old (by omega) (by rw[<-hf]at hk;exact hk n5 (by omega))
     ·rw[hd,Bool.true_and]at hf
      simp(disch:=omega)[hnx]
      obtain⟨d1,d2⟩:=hdrop n5 (.cells (wQ F[i])) (by omega)
      exact⟨⟨i+1,n5⟩,by dsimp only;omega,⟨by dsimp only;omega,by dsimp only;omega,hf⟩,by simp[FT.Le,Wk],d1,d2⟩
   ·have hfr2:¬F[i].frm.length=0:=fun h=>hfr (List.eq_nil_of_length_eq_zero h)
    have hf0:(decide (F[i].cl=-1)&&(decide (F[i].frm=[])&&qF (qt F[i].atom) (zj base)))=false:=by simp[hfr]
    cases hl:uy (qt F[i].atom) (zV (zj base) 0) with
    |some t=>
     simp(disch:=omega)[hcl,hfr,hfr2,hC.cell]
     rw[hf0,Bool.false_or]at hf
     refine qfD l (by omega) hcg F (by omega) hg (fun s hs=>(hFo s hs).2) (n2+1) n2 own i hlt _ n3 hCx.fa hCx.ni fun n5 hn5=>?_
     cases hd:v8 l F i F[i]
     ·rw[hd,Bool.false_and,Bool.false_and]at hf
      simp(disch:=omega)
      exact fin _ _ _ hCx.old (by omega) (by rw[<-hf]at hk;exact hk n5 (by omega))
     ·rw[hd,Bool.true_and]at hf
      simp(disch:=omega)[hnx]
      obtain⟨d1,d2⟩:=hdrop n5 (.cells (wQ F[i])) (by omega)
      exact⟨⟨i+1,n5⟩,by dsimp only;omega,⟨by dsimp only;omega,by dsimp only;omega,hf⟩,by simp[FT.Le,Wk],d1,d2⟩
    |none=>
     simp(disch:=omega)[hcl,hfr,hfr2,hC.cell]
     rw[hf0,Bool.false_or]at hf
     refine qfD l (by omega) hcg F (by omega) hg (fun s hs=>(hFo s hs).2) (n2+1) n2 own i hlt _ n3 hCx.fa hCx.ni fun n5 hn5=>?_
     cases hd:v8 l F i F[i]
     ·rw[hd,Bool.false_and,Bool.false_and]at hf
      simp(disch:=omega)
      exact fin _ _ _ hCx.old (by omega) (by rw[<-hf]at hk;exact hk n5 (by omega))
     ·rw[hd,Bool.true_and]at hf
      simp(disch:=omega)[hnx]
      obtain⟨d1,d2⟩:=hdrop n5 (.cells (wQ F[i])) (by omega)
      exact⟨⟨i+1,n5⟩,by dsimp only;omega,⟨by dsimp only;omega,by dsimp only;omega,hf⟩,by simp[FT.Le,Wk],d1,d2⟩
  ·have hf0:(decide (F[i].cl=-1)&&(decide (F[i].frm=[])&&qF (qt F[i].atom) (zj base)))=false:=by simp[hcl]
   cases hl:uy (qt F[i].atom) (zV (zj base) 0) with
   |some t=>
    simp(disch:=omega)[hcl,hC.cell]
    rw[hf0,Bool.false_or]at hf
    refine qfD l (by omega) hcg F (by omega) hg (fun s hs=>(hFo s hs).2) (n2+1) n2 own i hlt _ n3 hCx.fa hCx.ni fun n5 hn5=>?_
    cases hd:v8 l F i F[i]
    ·rw[hd,Bool.false_and,Bool.false_and]at hf
     simp(disch:=omega)
     exact fin _ _ _ hCx.old (by omega) (by rw[<-hf]at hk;exact hk n5 (by omega))
    ·rw[hd,Bool.true_and]at hf
     simp(disch:=omega)[hnx]
     obtain⟨d1,d2⟩:=hdrop n5 (.cells (wQ F[i])) (by omega)
     exact⟨⟨i+1,n5⟩,by dsimp only;omega,⟨by dsimp only;omega,by dsimp only;omega,hf⟩,by simp[FT.Le,Wk],d1,d2⟩
   |none=>
    simp(disch:=omega)[hcl,hC.cell]
    rw[hf0,Bool.false_or]at hf
    refine qfD l (by omega) hcg F (by omega) hg (fun s hs=>(hFo s hs).2) (n2+1) n2 own i hlt _ n3 hCx.fa hCx.ni fun n5 hn5=>?_
    cases hd:v8 l F i F[i]
    ·rw[hd,Bool.false_and,Bool.false_and]at hf
     simp(disch:=omega)
     exact fin _ _ _ hCx.old (by omega) (by rw[<-hf]at hk;exact hk n5 (by omega))
    ·rw[hd,Bool.true_and]at hf
     simp(disch:=omega)[hnx]
     obtain⟨d1,d2⟩:=hdrop n5 (.cells (wQ F[i])) (by omega)
     exact⟨⟨i+1,n5⟩,by dsimp only;omega,⟨by dsimp only;omega,by dsimp only;omega,hf⟩,by simp[FT.Le,Wk],d1,d2⟩
 obtain rfl:i=F.length:=by omega
 rw[List.drop_length]at hf
 have hf:(true&&qdu l base F)=V:=hf
 rw[Bool.true_and]at hf
 unfold qdu at hf
 simp(disch:=omega)[hgv.pair,hgv.map,rgL]
 obtain⟨ms,hms⟩:∃ms,zV (zj base) 0=ms:=⟨_,rfl⟩
 have hmap:=hgv.map
 rw[hms]at hmap ⊢
 have hT0:(((List.range ms.length).filterMap (fun k=>(ms.map (·.1))[k]?)).all (fun t=>qF t F)&&qdt l F)=V:=by
  have h1:=qhz (ms.map (·.1))
  rw[List.length_map]at h1
  rw[h1,<-hms,qpz,List.all_map]
  exact hf
 refine qB (σ:=NNIt) (fun q=>(.nd (qz l) .nil (.nd .bot (.nd .bot (.nd .bot (.nd .bot .nil (.nd .bot .nil (.nd (.ptr m 0) .nil .nil))) .nil) .nil) (.nd .bot (.nd (.ptr (n2+1+1) 0) .nil .nil) .nil)))) (fun q=>⟨(m,.iter am q.left q.cur ms.length)::ob1,m+1⟩) (fun q=>q.left.length)
  (fun q=>((q.left.filterMap (fun k=>(ms.map (·.1))[k]?)).all (fun t=>qF t F)&&qdt l F)=V) ⟨List.range ms.length,none⟩ hT0 (by simp[FT.Le,Wk]) ⟨HWk.refl _,fun h=>h⟩ ?_
 rintro⟨left,cur⟩ hT hok3
 dsimp only at hT hok3
 have hn2m:n2+1+1<m:=by omega
 simp(disch:=omega)
 by_cases hl0:left=[]
 case neg=>
  refine⟨m,am,left,cur,ms.length,rfl,by simp[qq],.inr ⟨hl0,_,by rw[qe (by omega)];exact hmap,by simp,fun j k e hj hk2=>?_⟩⟩
  obtain⟨v,hv,rfl⟩:∃v,ms[k]? = some v/\e=(.str v.1,.int v.2):=by
   simp only[List.getElem?_map]at hk2
   obtain⟨v,h1,h2⟩:=Option.map_eq_some_iff.1 hk2
   exact⟨v,h1,h2.symm⟩
  have hjl:j<left.length:=(List.getElem?_eq_some_iff.1 hj).1
  have hfe:(left.filterMap (fun k=>(ms.map (·.1))[k]?)).Perm (v.1::(left.eraseIdx j).filterMap (fun k=>(ms.map (·.1))[k]?)):=by
   have:=(qeB left j k hj).filterMap (fun k=>(ms.map (·.1))[k]?)
   rwa [List.filterMap_cons_some (by rw[List.getElem?_map,hv];rfl)]at this
  rw[qvE hfe,List.all_cons]at hT
  have hh:qF v.1 F=(uy v.1 (zV F 0)).isSome:=rfl
  have hx:∀x:qc,look (n2+1) ((m,x)::ob1)=look (n2+1) ob1:=fun x=>qe (by omega) _ _
  simp(disch:=omega)[enL,hmap,hv,hC.cell,hC.fa.pair]
  rw[lkM (by rw[qe (by omega)];exact hC.fa.map)]
  cases hl:uy v.1 (zV F 0) with
  |some t=>
   rw[hh,hl]at hT
   simp(disch:=omega)
   refine⟨⟨left.eraseIdx j,some k⟩,by dsimp only;rw[List.length_eraseIdx_of_lt hjl];omega,by simpa using hT,by simp[FT.Le,Wk],HWk.refl _,fun h=>h⟩
  |none=>
   rw[hh,hl]at hT
   have hV0:V=false:=hT.symm
   simp(disch:=omega)
   exact fin _ _ _ (fun i hi=>by rw[qe (by omega)];exact hC.old i hi) (by omega) (by rw[hV0]at hk;exact hk (m+1) (by omega))
 refine⟨m,am,left,cur,ms.length,rfl,by simp[qq],.inl ⟨hl0,.inr ⟨_,by rw[qe (by omega)];exact hmap,by simp⟩,?_⟩⟩
 subst hl0
 have hT:qdt l F=V:=by simpa using hT
 unfold qdt at hT
 simp(disch:=omega)
 have hN:n2+1+1+1<=m:=by omega
 have hFlow:=hC.fa.low hok
 refine qB (σ:=NNCt) (fun q=>(.nd (qz l) (.nd .bot .nil (.nd .bot (.nd .bot (.nd .bot (.nd .bot (.nd .bot (.nd (.int l.length) .nil .nil) .nil) .nil) .nil) .nil) (.nd .bot (.nd (.ptr (m+1) 0) .nil .nil) .nil))) (.nd .bot (.nd .bot (.nd .bot (.nd .bot (.nd .bot (.nd .bot (.nd (qz l) .nil .nil) .nil) .nil) .nil) .nil) .nil) (.nd .bot (.nd (.ptr (n2+1+1) 0) (.nd .bot (.nd .bot (.nd .bot (.nd (.int q.i) .nil .nil) .nil) .nil) .nil) .nil) .nil)))) (fun q=>⟨q.ob,q.n⟩) (fun q=>l.length - q.i)
  (fun q=>q.i<=l.length/\m+1<q.n/\(l.drop q.i).foldl (fun b c=>qdW F c b) q.b=V/\qfu n2 ob2 F own q.ob/\look (m+1) q.ob=some (.cells [.bool q.b]))
  ⟨0,m+1+1,true,(m+1,.cells [.bool true])::ob1⟩ ⟨Nat.zero_le _,Nat.lt_succ_self _,hT,hC.cons (m:=m+1) (x:=.cells [.bool true]) (qx.mono hok (Nat.le_succ _)) (by omega) rfl,qq _ _ _⟩ (by simp[FT.Le,Wk]) ?_ ?_
 ·exact⟨qeM hok fun _ _ h=>h,fun _=>⟨Nat.lt_succ_self _,qx.mono hok (Nat.le_succ _)⟩⟩
 rintro⟨i,m4,b,ob4⟩ ⟨hi,hm4,hT,hC4,hc4⟩ hok4
 dsimp only at hi hm4 hT hC4 hc4 hok4
 by_cases hlt:i<l.length
 case neg=>
  obtain rfl:i=l.length:=by omega
  rw[List.drop_length]at hT
  have hT:b=V:=hT
  subst hT
  cases b
  ·simp(disch:=omega)[hc4]
   exact fin _ _ _ hC4.old (by omega) (hk m4 (by omega))
  ·simp(disch:=omega)[hc4]
   exact fin _ _ _ hC4.old (by omega) (hk m4 (by omega))
 rw[List.drop_eq_getElem_cons hlt,List.foldl_cons]at hT
 have hnx:IntKind.wrap .i64 ((i:Int)+1)=((i+1:Nat):Int):=qk (show i<2^62 by omega)
 simp(disch:=omega)[hlt,hC4.cell]
 have hclg:=hcg _ (List.getElem_mem hlt)
 have hC5:=hC4.cons hok4 (by omega) (x:=.cells (yY l[i])) rfl
 refine qnb (D:=doerC F (n2+1+1) (m+1) (n2+1) n2 own ob1 hC.fa) l[i] hclg F (n2+1) n2 own ((n2+1+1,.cells [.ptr (n2+1) 0])::wC F (n2+1) n2 own) (fun p hp=>hp) (fun p hp=>?_) (fun ob h=>qhL hC.fa fun p hp=>h p (List.mem_cons_of_mem _ hp)) hg (by omega) _ _ b (fun i=>i=m+1) trivial (fun p hp=>?_) ⟨?_,fun i=>Iff.rfl⟩ (fun p hp=>?_) hC5.ni fun ob5 m5 S5 hm5 hat5 hS5 hni5 hsame=>?_
 ·rcases List.mem_cons.1 hp with rfl|hp
  ·rfl
  ·exact qnu _ _ _ _ p hp
 ·rcases List.mem_cons.1 hp with rfl|hp
  ·exact hC5.cell
  ·exact qjw hC5.fa p hp
 ·rw[qe (by omega)]
  exact hc4
 ·rcases List.mem_cons.1 hp with rfl|hp
  ·dsimp only;omega
  ·have:=hFlow _ (quE p hp)
   omega
 ·have hkp:∀j,j<m->look j ob5=look j ((m4,.cells (yY l[i]))::ob4):=fun j hj=>hsame j (by omega) (by omega)
  simp(disch:=omega)[hnx]
  refine⟨⟨i+1,m5,qdW F l[i] b,ob5⟩,by dsimp only;omega,⟨by dsimp only;omega,by dsimp only;omega,hT,⟨hC5.fa.keep fun j hj=>hkp j (hFlow j hj),by rw[hkp _ (by omega)];exact hC5.cell,hC5.lo,hni5,fun j hj=>by rw[hkp j (by omega)];exact hC5.old j hj⟩,hat5.1⟩,by simp[FT.Le,Wk],HWk.refl _,fun h=>h⟩
def qbs(s:Stp):Bool:=s.atom.small&&decide (s.frm.length<=10)
def qer(l:List Stp):Bool:=if 300<l.length then true else if l.all qbs then decide (l.length<=60) else false
theorem qth(l:List Stp)(hl:l.length<2^63):qh 8 [.sl (l.map q9) .no] (.bool (qer l)):=by
 refine qh.of c8 fun H hH=>⟨Nat.le_of_ble_eq_true rfl,?_⟩
 by_cases h1:(300:Int)<(l.length:Int)
 ·simp(disch:=omega)[b8,h1]
  exact qp hH (by simp[qer,show 300<l.length by omega])
 have hl100:l.length<=300:=by omega
 simp(disch:=omega)[b8,h1]
 obtain⟨A,hA⟩:∃A,l.all qbs=A:=⟨_,rfl⟩
 have hB:qer l=if A then decide (l.length<=60) else false:=by unfold qer;rw[if_neg (by omega),hA]
 obtain⟨Vv,hVv⟩:∃Vv,(if A then decide (l.length<=60) else false)=Vv:=⟨_,rfl⟩
 rw[hB,hVv]
 refine qB (σ:=NN) (fun q=>(.nd (.sl (l.map q9) .no) (.nd .bot (.nd (.int q.i) .nil .nil) .nil) (.nd (.bool false) .nil .nil))) (fun q=>⟨H.objs,q.n⟩) (fun q=>l.length - q.i)
  (fun q=>H.next<=q.n/\q.i<=l.length/\(l.drop q.i).all qbs=A) ⟨0,H.next⟩ ⟨Nat.le_refl _,Nat.zero_le _,hA⟩ (by simp[FT.Le,Wk]) ⟨HWk.refl _,fun h=>h⟩ ?_
 rintro⟨i,n⟩ ⟨hn,hi,he⟩ hok
 simp only at hn hi he
 by_cases hlt:i<l.length
 case neg=>
  obtain rfl:i=l.length:=by omega
  rw[List.drop_eq_nil_of_le (Nat.le_refl _),List.all_nil]at he
  simp(disch:=omega)
  refine qcW hH ?_ (by first|exact qi.refl' _|(repeat (first|exact qi.refl (by first|omega|(dsimp only;omega))|refine qi.cons' hH (by first|omega|(dsimp only;omega)) (by first|omega|(dsimp only;omega)) ?_)))
  rw[<-hVv,<-he]
  simp
  try omega
 rw[qax qbs hlt]at he
 simp(disch:=omega)[hlt]
 refine(qfA l[i].atom).go fun n3 hn3=>?_
 cases hs:l[i].atom.small
 ·have e:qbs l[i]=false:=by simp[qbs,hs]
  rw[e,Bool.false_and]at he
  simp(disch:=omega)
  exact qp hH (by simp[<-hVv,<-he])
 by_cases h10:l[i].frm.length<=10
 ·have e:qbs l[i]=true:=by simp[qbs,hs,h10]
  have h10':¬(10:Int)<(l[i].frm.length:Int):=by omega
  rw[e,Bool.true_and]at he
  simp(disch:=omega)[hlt,h10',qk (show i<2^62 by omega)]
  exact⟨⟨i+1,n3⟩,by dsimp only;omega,⟨by dsimp only;omega,by dsimp only;omega,he⟩,by simp[FT.Le,Wk],HWk.refl _,fun h=>h⟩
 ·have e:qbs l[i]=false:=by simp[qbs,h10]
  have h10':(10:Int)<(l[i].frm.length:Int):=by omega
  rw[e,Bool.false_and]at he
  simp(disch:=omega)[hlt,h10']
  exact qp hH (by simp[<-hVv,<-he])
end Go.Abs.Tz
namespace Go.Abs.Tz
set_option maxRecDepth 20000
open Go Go.Abs Go.Proofs Go.ChangeShapes Go.WideShapes Go.RowKit Go.Proofs.YtghfbggphgpjgaaGreatDoor
section
variable{H:Type}{enc:TypeId×Value->H}{W:World}{hd:Bool}
theorem qvQ{α:Type}(el:α->LV){S E:TypeId}{k:Nat}(hu:Tryz.prog.underlying S=some (.slice E))(hk:Tryz.prog.cellsOf E=k)(hk0:0<k)
  (hec:∀a,(el a).cells.length=k) (a0:α)
  (hop:∀(n:Nat)(cs:List Value)(x:DataW H×List MemPlace),DataW.trod enc Tryz.prog W 0 (fun _=>true) hd n E cs=some x->∃a:α,uu W (el a).cells cs)
  {n:Nat} {u:Value} {x:DataW H×List MemPlace} (h:DataW.trod enc Tryz.prog W 0 (fun _=>true) hd n S [u]=some x):
  ∃l:List α,l.length<2^63/\VR (gOf W) W (.sl (l.map fun a=>el a) .no) u/\u.oneCell'=true:=by
 rcases Deep.open_slice hu h with⟨e1,_⟩|⟨a,len,cap,m,n',D,Pl,e1,_,hlc,hmax,hm,_,hel⟩
 ·simp only[List.cons.injEq,and_true]at e1
  subst e1
  exact⟨[],by simp,.sln trivial,rfl⟩
 ·simp only[List.cons.injEq,and_true]at e1
  subst e1
  simp only[if_true]at hm
  have hm:=hm.symm
  subst hm
  have hmax2:cap<2^63:=by unfold maxLen at hmax;omega
  by_cases hc0:cap=0
  ·subst hc0
   obtain rfl:len=0:=by omega
   exact⟨[],by simp,.sle a,rfl⟩
  have hspot:a.spot=none:=by
   obtain⟨cs',q1,_⟩:=hel 0 (by omega)
   rw[hk]at q1
   obtain⟨_,q2,q3⟩:=World.cells?_some q1
   have:=q3 0 hk0
   rw[List.getElem?_eq_getElem (by omega)]at this
   have:=World.cell?_spot this
   simpa [Addr.add] using this
  have ht:∀i,∃t:α,i<len->∃cs,uu W (el t).cells cs/\∀j,j<k->W.cell? (at_ a.block (a.off+i*k+j))=cs[j]?:=by
   intro i
   by_cases hi:i<len
   ·obtain⟨cs',q1,q2⟩:=hel i (by omega)
    rw[hk]at q1
    obtain⟨_,_,q3⟩:=World.cells?_some q1
    obtain⟨t,ht⟩:=hop _ _ _ q2
    refine⟨t,fun _=>⟨cs',ht,fun j hj=>?_⟩⟩
    rw[<-q3 j hj,qrZ hspot]
   ·exact⟨a0,fun h=>absurd h hi⟩
  let T:Nat->α:=fun i=>Classical.choose (ht i)
  have hT:∀i,i<len->∃cs,uu W (el (T i)).cells cs/\∀j,j<k->W.cell? (at_ a.block (a.off+i*k+j))=cs[j]?:=fun i=>Classical.choose_spec (ht i)
  have hX:∀i j,∃v:Value,i<len->∀c,(el (T i)).cells[j]? = some c->W.cell? (at_ a.block (a.off+i*k+j))=some v/\VR (gOf W) W c v/\v.oneCell'=true:=by
   intro i j
   by_cases hi:i<len
   ·obtain⟨cs,h1,h2⟩:=hT i hi
    by_cases hj:j<k
    ·obtain⟨v,h3,h4,h5⟩:=h1.2 j _ (List.getElem?_eq_getElem (by rw[hec];exact hj))
     refine⟨v,fun _ c hc=>?_⟩
     rw[List.getElem?_eq_getElem (by rw[hec];exact hj)]at hc
     cases hc
     exact⟨by rw[h2 j hj,h3],h4,h5⟩
    ·exact⟨undef,fun _ c hc=>by rw[List.getElem?_eq_none (by rw[hec];omega)]at hc;cases hc⟩
   ·exact⟨undef,fun h=>absurd h hi⟩
  let V:Nat->Nat->Value:=fun i j=>Classical.choose (hX i j)
  have hV:∀i j,i<len->∀c,(el (T i)).cells[j]? = some c->W.cell? (at_ a.block (a.off+i*k+j))=some (V i j)/\VR (gOf W) W c (V i j)/\(V i j).oneCell'=true:=fun i j=>Classical.choose_spec (hX i j)
  have ha:a=at_ a.block a.off:=by
   obtain⟨b,o,sp⟩:=a
   simp only at hspot
   subst hspot
   rfl
  have hget:∀(i:Nat)(e:LV),(((List.range len).map T).map fun a=>el a)[i]? = some e->i<len/\e=el (T i):=by
   intro i e he
   rw[List.getElem?_map,List.getElem?_map]at he
   cases hr:(List.range len)[i]? with
   |none=>rw[hr]at he;cases he
   |some q=>
    rw[hr]at he
    obtain⟨hlt,rfl⟩:=List.getElem?_eq_some_iff.1 hr
    simp at hlt he
    exact⟨hlt,he.symm⟩
  refine⟨(List.range len).map T,by simp;omega,?_,rfl⟩
  have hlen:(((List.range len).map T).map fun a=>el a).length=len:=by simp
  have hR:=VR.sl (G:=gOf W) (w:=W) (es:=((List.range len).map T).map fun a=>el a) (own:=.no) (b:=a.block) (off:=a.off) (sz:=k) (cap:=cap) (xs:=V) (by rw[hlen];exact hlc)
   (fun i e he=>by obtain⟨_,rfl⟩:=hget i e he;exact hec _)
   (fun i e j c he hc=>by
    obtain⟨hi,rfl⟩:=hget i e he
    obtain⟨g1,_,g3⟩:=hV i j hi c hc
    exact⟨qpE g1,g1,g3⟩)
   (fun i e j c he hc=>by
    obtain⟨hi,rfl⟩:=hget i e he
    exact(hV i j hi c hc).2.1) trivial
  rw[hlen,<-ha]at hR
  exact hR
theorem z53:Tryz.prog.cellsOf 53=4:=by kernel_rfl
theorem z40:Tryz.prog.cellsOf 40=1:=by kernel_rfl
theorem qvP{n:Nat}{cs:List Value}{x:DataW H×List MemPlace}(h:DataW.trod enc Tryz.prog W 0 (fun _=>true) hd n 53 cs=some x):∃s:Stp,uu W (wQ s) cs:=by
 obtain⟨xs,m,_,rfl,hl,hlen,hf⟩:=DataW.trod_struct Tryz.underlying53 h
 rw[z53]at hl
 match xs,hlen,cs,hl with
 |[y0,y1,y2],_,[u0,u1,u2,u3],_=>
  have h0:=fld (t:=27) (off:=0) (c:=2) (hf 0 _ rfl) rfl rfl z27
  have h1:=fld (t:=3) (off:=2) (c:=1) (hf 1 _ rfl) rfl rfl z3
  have h2:=fld (t:=40) (off:=3) (c:=1) (hf 2 _ rfl) rfl rfl z40
  obtain⟨a,ha⟩:=qfU (show DataW.trod enc Tryz.prog W 0 (fun _=>true) hd m 27 [u0,u1]=some y0 from h0)
  obtain⟨k,rfl⟩:=qhJ (show DataW.trod enc Tryz.prog W 0 (fun _=>true) hd m 3 [u2]=some y1 from h1)
  obtain⟨b,hb,hv,h1c⟩:=qvQ LV.int Tryz.underlying40 z3 (by omega) (fun _=>rfl) 0 (fun n cs x h=>by
   obtain⟨k,rfl,_⟩:=DataW.trod_int Tryz.underlying3 h
   exact⟨k,.cons (.sc _) rfl (.nil W)⟩) (show DataW.trod enc Tryz.prog W 0 (fun _=>true) hd m 40 [u3]=some y2 from h2)
  exact⟨⟨a,k,b⟩,ha.append (.cons (.sc _) rfl (.cons hv h1c (.nil W)))⟩
theorem open_steps{base:Nat}{v:Value}{d:DataW H}{p:List MemPlace}(h:DataW.Trod enc Tryz.prog W 0 (fun _=>true) hd 24 v d p)(hv:Value.okWide Tryz.prog W .any base 24 v):∃l:List Stp,l.length<2^63/\VR (gOf W) W (.sl (l.map q9) .no) v:=by
 have h1:v.cells=#[v]:=by
  unfold Value.okWide at hv
  rw[Tryz.underlying24]at hv
  simp only at hv
  unfold Cell.okWide at hv
  rw[Tryz.underlying24]at hv
  simp only at hv
  unfold Cell.ok at hv
  rw[Tryz.underlying24]at hv
  cases v<;>first|rfl|exact hv.elim
 obtain⟨fuel,h⟩:=h
 rw[h1]at h
 obtain⟨l,hl,hV,_⟩:=qfT (fun s:Stp=>wQ s) Tryz.underlying24 z53 (by omega) (fun _=>rfl) ⟨⟨⟨#[]⟩,[]⟩,0,[]⟩ (fun n cs x h=>qvP h) (show DataW.trod enc Tryz.prog W 0 (fun _=>true) hd fuel 24 [v]=some _ from h)
 exact⟨l,hl,hV⟩
end
end Go.Abs.Tz
namespace Go.Abs.Tz
open Go Go.Abs Go.Proofs
structure GrowsIn(Z W U:List PK):Prop where
 pre:∃T,U=W++T
 nd:W.Nodup->U.Nodup
 sub:W ⊆ Z->U ⊆ Z
end Go.Abs.Tz
namespace Go.Abs.Tz
open Go Go.Abs Go.Proofs
end Go.Abs.Tz
namespace Go.Abs.Tz
open Go Go.Abs Go.Proofs
end Go.Abs.Tz
namespace Go.Abs.Tz
open Go Go.Abs Go.Proofs
section
variable{l:List qf}{m:List (PK×Int)}
theorem qpb(hm:uW l m)(hg:∀c∈l,zq c):∀(k w:Nat){G F:List Stp},(∀a∈qw G,qD a)->uK G->G.length<=300->(∀v:Int,v<w->qfv l m v (·∈qw G))->wE m l k w G=some F ->
  uK F/\F.length<=300/\(∀a∈qw F,qD a)/\(∀a∈qw G,a∈qw F)/\∀v:Int,v<(w+k:Nat)->qfv l m v (·∈qw F)
 |0,w,G,F,h1,h2,h3,h4,h=>by
  cases h
  exact⟨h2,h3,h1,fun a ha=>ha,by simpa using h4⟩
 |k+1,w,G,F,h1,h2,h3,h4,h=>by
  unfold wE at h
  obtain⟨c1,c2⟩:=qkH (v:=(w:Int)) (S0:=(·∈qw G)) hm hg 302 (F:=G) (by omega) (.base h1) h2 h3
  cases hr:vY m w l 302 G with
  |none=>rw[hr]at h;cases h
  |some G2=>
   rw[hr]at h c1
   obtain⟨n1,n2,n3⟩:=c1
   have hcl:=c2 G2 hr
   have hprev:∀v:Int,v<(w+1:Nat)->qfv l m v (·∈qw G2):=fun v hv=>by
    by_cases hvw:v<w
    ·intro c hc hcv h hh
     refine n1.lo.sup _ (h4 v hvw c hc hcv h ?_)
     obtain⟨R,r1,r2,r3⟩:=hh
     refine⟨R,wd.mono2 (fun p hp a ha hoa=>n1.lo.low a ha ?_) r1,fun x hx=>⟨fun hk hf=>(r2 x hx).1 hk (n1.lo.sup _ hf),(r2 x hx).2⟩,r3⟩
     obtain⟨x,hx,hxk,rfl⟩:=qhF hp
     have:=(hm.lits hc hx).1 hxk
     rw[hoa]
     omega
    ·obtain rfl:v=(w:Int):=by omega
     exact hcl
   obtain⟨j1,j2,j3,j4,j5⟩:=qpb hm hg k (w+1) n1.lo.good n2 n3 hprev h
   exact⟨j1,j2,j3,fun a ha=>j4 a (n1.lo.sup a ha),fun v hv=>j5 v (by omega)⟩
end
theorem qlw{F:List Stp}{i:Nat}:∀{b:List Lit}{K:qm}{js:List Int}{R:qm},qac (F.take i) (qJ b) K js R->wJ F i b K js=some R
 |[],K,js,R,h=>by
  obtain⟨rfl,rfl⟩:js=[]/\R=K:=h
  simp[wJ]
 |x::r,K,js,R,h=>by
  rw[qdF]at h
  unfold wJ
  by_cases hk:x.kind=1
  ·rw[if_pos hk]at h ⊢
   obtain⟨j,s,K',js',h1,h2,rfl,h4⟩:=h
   have hj:j<i:=by
    have:=(List.getElem?_eq_some_iff.1 h1).1
    rw[List.length_take]at this
    omega
   have hF:F[j]? = some s:=by
    rw[List.getElem?_take_of_lt hj]at h1
    exact h1
   simp only
   rw[if_pos ⟨by omega,by omega⟩,show ((j:Int)).toNat=j from rfl,hF]
   simp only[h2]
   exact qlw h4
  ·rw[if_neg hk]at h ⊢
   exact qlw h
theorem qrs{F:List Stp}{i:Nat}:∀{ps:List qd}{K:qm}{js:List Int}{R:qm},qac (F.take i) ps K js R->∀j∈js,0<=j/\j<(i:Int)
 |[],K,js,R,h,j,hj=>by
  obtain⟨rfl,_⟩:js=[]/\R=K:=h
  cases hj
 |p::ps,K,js,R,h,j,hj=>by
  obtain⟨q,s,K',js',h1,h2,rfl,h4⟩:=h
  rcases List.mem_cons.1 hj with rfl|hj
  ·have:=(List.getElem?_eq_some_iff.1 h1).1
   rw[List.length_take]at this
   omega
  ·exact qrs h4 j hj
theorem qrt{F:List Stp}:∀{ps:List qd}{K:qm}{js:List Int}{R:qm},qac F ps K js R->js.length=ps.length
 |[],K,js,R,h=>by
  obtain⟨rfl,_⟩:js=[]/\R=K:=h
  rfl
 |p::ps,K,js,R,h=>by
  obtain⟨q,s,K',js',h1,h2,rfl,h4⟩:=h
  rw[List.length_cons,List.length_cons,qrt h4]
theorem qpO:∀{D F:List Stp},uK (D++F)->(∀s∈F,qD s.atom)->qbE D F=true
 |_,[],_,_=>rfl
 |D,s::r,hN,hg=>by
  unfold qbE
  have h1:zr s.atom=true:=qec.2 (hg s List.mem_cons_self)
  have h2:qF (qt s.atom) D=false:=by
   cases h:qF (qt s.atom) D with
   |false=>rfl
   |true=>
    obtain⟨q,hq,e⟩:=wf.1 h
    unfold uK at hN
    rw[List.map_append,List.nodup_append]at hN
    exact absurd e (hN.2.2 _ (List.mem_map.2 ⟨q,hq,rfl⟩) _ (List.mem_map.2 ⟨s,List.mem_cons_self,rfl⟩))
  rw[h1,h2,qpO (D:=D++[s]) (F:=r) (by rw[List.append_assoc];exact hN) fun q hq=>hg q (List.mem_cons_of_mem _ hq)]
  rfl
theorem qqR{l:List qf}{base:List qd}{F:List Stp}:∀{r:List Stp}{i:Nat},(∀(k:Nat)(s:Stp),r[k]? = some s->(s.cl=-1/\s.frm=[]/\qF (qt s.atom) (zj base)=true)\/v8 l F (i+k) s=true)->qbl l base F i r=true
 |[],_,_=>rfl
 |s::r,i,h=>by
  unfold qbl
  rw[qqR (r:=r) (i:=i+1) fun k q hq=>by
   have:=h (k+1) q (by simpa using hq)
   rwa [show i+(k+1)=i+1+k by omega]at this]
  rcases h 0 s rfl with⟨h1,h2,h3⟩|h1
  ·simp[h1,h2,h3]
  ·rw[Nat.add_zero]at h1
   simp[h1]
theorem qwz{l:List qf}{base:List qd}{R:Option (List (PK×Int))}(hL:(qQ l).1=0->∀m,R=some m->uW l m)(hz:ua l R base=0):
  qbT l base (vX l R base)=true/\(vX l R base).length<=300/\uK (vX l R base)/\∀(i:Nat)(s:Stp),(vX l R base)[i]? = some s->s.frm.length<=5/\∀j∈s.frm,0<=j/\j<(i:Int):=by
 have hbe:zb l R base=0:=by
  unfold ua at hz
  by_cases h:zb l R base≠0
  ·rw[if_pos h]at hz;exact absurd hz h
  ·omega
 obtain⟨hc,hRn,hbl2,hbg⟩:=qgJ hbe
 have hg:=qdg hc
 obtain⟨m,hRm⟩:∃m,R=some m:=by
  cases R with
  |none=>exact absurd rfl hRn
  |some m=>exact⟨m,rfl⟩
 have hm:=hL hc m hRm
 obtain⟨F,hd⟩:∃F,qar m l base=some F:=by
  cases h:qar m l base with
  |none=>
   exfalso
   unfold ua at hz
   rw[hbe,hRm]at hz
   simp[h]at hz
  |some F=>exact⟨F,rfl⟩
 have eF:vX l R base=F:=by unfold vX;rw[hRm];simp[hd]
 rw[eF]
 have hS:∀s∈base.map (fun a=>(⟨a,-1,[]⟩:Stp)),qI s.atom=true:=fun s hs=>by
  obtain⟨a,ha,rfl⟩:=List.mem_map.1 hs
  exact(hbg a ha).1
 obtain⟨a1,a2⟩:=qeg (base.map fun a=>(⟨a,-1,[]⟩:Stp)) [] (fun s hs=>by cases hs) hS .nil
 have hl1:=(qfo (base.map fun a=>(⟨a,-1,[]⟩:Stp)) []).2
 have hbase:∀a,a∈qw (zj base)↔a∈base:=by
  intro a
  rw[show qw (zj base)=qw ((base.map fun a=>(⟨a,-1,[]⟩:Stp)).foldl zh []) from rfl,a2 a]
  simp[qw,Function.comp_def]
 have hbd:(zj base).length<=300:=by
  rw[List.length_map,List.length_nil]at hl1
  unfold zj
  omega
 obtain⟨v,hder⟩:=qyH hc hm hbg hd
 obtain⟨g1,g2,g3,g4,g5⟩:=qpb hm hg ((ub 0 (m.map (·.2))).toNat+1) 0 (G:=zj base) (fun a ha=>hbg a ((hbase a).1 ha)) a1 hbd (fun v hv c _ hcv=>by
  have:=hm.nn (ofA c.head)
  omega) hd
 have hFg:∀s∈F,qD s.atom:=fun s hs=>g3 _ (List.mem_map.2 ⟨s,hs,rfl⟩)
 have hFo:∀s∈F,qI s.atom=true:=fun s hs=>(hFg s hs).1
 have hin:∀{a:qd},qI a=true->(qF (qt a) F=true↔a∈qw F):=fun{a} ha=>by rw[qcC hFo ha,qah]
 have hbo:∀s∈zj base,qI s.atom=true:=fun s hs=>(hbg _ ((hbase _).1 (List.mem_map.2 ⟨s,hs,rfl⟩))).1
 refine⟨?_,g2,g1,fun i s hs=>?_⟩
 ·unfold qbT
  rw[Bool.and_eq_true,Bool.and_eq_true,Bool.and_eq_true]
  refine⟨qpO (by simpa using g1) hFg,qqR fun i s hs=>?_,List.all_eq_true.2 fun s hs=>?_,(qiF l true).2 ⟨rfl,fun c hc2 x hx=>?_⟩⟩
  ·rw[Nat.zero_add]
   have hsF:s∈F:=List.mem_iff_getElem?.2 ⟨i,hs⟩
   rcases hder i s hs with⟨h1,h2,h3⟩|⟨k,c,Q,h1,h2,_,h4,h5,h6⟩
   ·refine .inl ⟨h1,h2,?_⟩
    rw[qcC hbo (hFo s hsF),qah]
    exact(hbase _).2 h3
   ·right
    have hkl:=(List.getElem?_eq_some_iff.1 h2).1
    have hcm:c∈l:=List.mem_iff_getElem?.2 ⟨k,h2⟩
    unfold v8
    rw[h1,if_pos ⟨by omega,by omega⟩,show ((k:Int)).toNat=k from rfl,h2]
    simp only
    rw[qlw h4]
    show (decide (zk (qN Q c.head) s.atom=0)&&gd F Q c.body)=true
    have hch:=qdX h4
    obtain⟨q1,_,q3,_⟩:=qbJ (fun a ⟨t,ht,e⟩=>e▸hFg t (List.mem_of_mem_take ht)) .nil hch
    obtain⟨l1,l2⟩:=(hg c hcm).leaf q1 q3
    rw[<-qah]at h5
    rw[(qbV hFo fun x hx hk=>(l1 x hx hk).1).2 h5,h6]
    simp[qbI.refl]
  ·rw[hin (hbo s hs)]
   exact g4 _ (List.mem_map.2 ⟨s,hs,rfl⟩)
  ·obtain⟨js,h1,h2,_⟩:=qca.1 hx
   have hch:=qdX h1
   obtain⟨q1,_,q3,_⟩:=qbJ (fun a ⟨t,ht,e⟩=>e▸hFg t ht) .nil hch
   obtain⟨l1,l2⟩:=(hg c hc2).leaf q1 q3
   rw[hin l2.1]
   have h2:=(qbV hFo fun x hx hk=>(l1 x hx hk).1).1 h2
   rw[qah]at hch h2
   refine g5 (qo m (ofA c.head)) ?_ c hc2 rfl _ ⟨x.1,hch,h2,rfl⟩
   have hmx:=hm.max
   have:=hmx.2.2 _ (hm.has c hc2 (ofA c.head) (by simp[vx]))
   omega
 ·rcases hder i s hs with⟨_,h2,_⟩|⟨k,c,Q,_,h2,_,h4,_,_⟩
  ·rw[h2]
   exact⟨by simp,fun j hj=>by cases hj⟩
  ·obtain⟨_,c2,_⟩:=wl (hg c (List.mem_iff_getElem?.2 ⟨k,h2⟩)).ok
   refine⟨?_,qrs h4⟩
   rw[qrt h4]
   unfold qJ
   rw[List.length_map]
   exact Nat.le_trans (List.length_filter_le _ _) c2
end Go.Abs.Tz
namespace Go.Abs.Tz
open Go Go.Abs Go.Proofs
theorem qkI(l:List qf):∀(f k:Nat)(m:List (PK×Int))(R:Option (List (PK×Int))),jm l f m=some R->jm l (f+k) m=some R
 |0,_,_,_,h=>by cases h
 |f+1,k,m,R,h=>by
  rw[show f+1+k=(f+k)+1 by omega]
  unfold jm at h ⊢
  cases hr:qai l (m,false) with
  |none=>rw[hr]at h;exact h
  |some q=>
   rw[hr]at h
   obtain⟨m',b⟩:=q
   cases b
   ·exact h
   ·exact qkI l f k m' R h
theorem qpe{l:List qf}{f g:Nat}{m:List (PK×Int)}{R Q:Option (List (PK×Int))}(h:jm l f m=some R)(k:jm l g m=some Q):R=Q:=by
 have h1:=qkI l f g m R h
 have h2:=qkI l g f m Q k
 rw[Nat.add_comm]at h2
 rw[h1]at h2
 exact Option.some.inj h2
theorem meet9(l:List qf)(base:List qd):∃fuel R,((qQ l).1=0->jm l fuel (l.foldl jc [])=some R)/\((qQ l).1=0->∀m,R=some m->0<=ub 0 (m.map (·.2))/\ub 0 (m.map (·.2))<=2^30)/\Meet l R base/\zb l R base=zb l (zH l) base/\((qQ l).1=0->∀m,R=some m->uW l m):=by
 obtain⟨fuel,R,hR,hRb,hM⟩:=qwG l base
 refine⟨fuel,R,hR,hRb,hM,?_,fun hc m hm=>?_⟩
 ·by_cases hc:(qQ l).1=0
  ·obtain⟨f2,Q,hQ,h⟩:=qia l hc
   have e:=qpe (hR hc) hQ
   refine qlI (.inl ?_)
   rw[e]
   rcases h with⟨h1,h2⟩|⟨m,q,h1,h2,_⟩
   ·rw[h1,h2]
   ·rw[h1,h2];simp
  ·exact qlI (.inr hc)
 ·obtain⟨f2,Q,hQ,h⟩:=qia l hc
  have e:=qpe (hR hc) hQ
  rw[e]at hm
  rcases h with⟨h1,h2⟩|⟨m',q,h1,h2,h3,_⟩
  ·rw[h1]at hm;cases hm
  ·rw[h1]at hm
   cases hm
   exact h3
theorem qgq{F:List Stp}(hF:∀s∈F,qI s.atom=true){a:qd}(ha:qI a=true):yA (qw F) a=qF (qt a) F:=by
 rw[Bool.eq_iff_iff,qij,qcC hF ha,qah]
theorem qxz{base:List qd}(hb:∀a∈base,qD a){a:qd}(ha:qI a=true):yA base a=qF (qt a) (zj base):=by
 have hS:∀s∈base.map (fun a=>(⟨a,-1,[]⟩:Stp)),qI s.atom=true:=fun s hs=>by
  obtain⟨a,ha,rfl⟩:=List.mem_map.1 hs
  exact(hb a ha).1
 obtain⟨a1,a2⟩:=qeg (base.map fun a=>(⟨a,-1,[]⟩:Stp)) [] (fun s hs=>by cases hs) hS .nil
 have hbase:∀a,a∈qw (zj base)↔a∈base:=by
  intro a
  rw[show qw (zj base)=qw ((base.map fun a=>(⟨a,-1,[]⟩:Stp)).foldl zh []) from rfl,a2 a]
  simp[qw,Function.comp_def]
 rw[Bool.eq_iff_iff,qij,qcC (fun s hs=>(hb _ ((hbase _).1 (List.mem_map.2 ⟨s,hs,rfl⟩))).1) ha,qah]
 exact(hbase a).symm
theorem quZ{F:List Stp}(hF:∀s∈F,qI s.atom=true){K:qm}{b:List Lit}(hb:∀x∈b,x.kind=2->qI (qN K x.atom)=true):qaF (qw F) K b=gd F K b:=by
 rw[Bool.eq_iff_iff,qhx,qbV hF hb,qah]
theorem qzD{base:List qd}(hb:∀a∈base,qD a){F:List Stp}(hF:∀s∈F,qI s.atom=true):(base.all fun a=>yA (qw F) a)=(zj base).all fun s=>qF (qt s.atom) F:=by
 have hS:∀s∈base.map (fun a=>(⟨a,-1,[]⟩:Stp)),qI s.atom=true:=fun s hs=>by
  obtain⟨a,ha,rfl⟩:=List.mem_map.1 hs
  exact(hb a ha).1
 obtain⟨a1,a2⟩:=qeg (base.map fun a=>(⟨a,-1,[]⟩:Stp)) [] (fun s hs=>by cases hs) hS .nil
 have hbase:∀a,a∈qw (zj base)↔a∈base:=by
  intro a
  rw[show qw (zj base)=qw ((base.map fun a=>(⟨a,-1,[]⟩:Stp)).foldl zh []) from rfl,a2 a]
  simp[qw,Function.comp_def]
 rw[Bool.eq_iff_iff,List.all_eq_true,List.all_eq_true]
 constructor
 ·intro h s hs
  have hm:=(hbase _).1 (List.mem_map.2 ⟨s,hs,rfl⟩)
  rw[<-qgq hF (hb _ hm).1]
  exact h _ hm
 ·intro h a ha
  obtain⟨s,hs,rfl⟩:=List.mem_map.1 ((hbase a).2 ha)
  rw[qgq hF (hb _ ha).1]
  exact h s hs
theorem qpB{c:qf}(hc:zq c){F:List Stp}(hF:∀s∈F,qD s.atom):((zy c (qw F) c.body []).all fun a=>yA (qw F) a)=(jb F c (qJ c.body) [] []).all fun x=>qF (qt (qN x.1 c.head)) F:=by
 have hFo:∀s∈F,qI s.atom=true:=fun s hs=>(hF s hs).1
 have hS:∀a,wM F a->qD a:=fun a ⟨t,ht,e⟩=>e▸hF t ht
 rw[Bool.eq_iff_iff,List.all_eq_true,List.all_eq_true]
 constructor
 ·intro h x hx
  obtain⟨js,h1,h2,_⟩:=qca.1 hx
  have hch:=qdX h1
  obtain⟨q1,_,q3,_⟩:=qbJ hS .nil hch
  obtain⟨l1,l2⟩:=hc.leaf q1 q3
  have h2:=(qbV hFo fun x hx hk=>(l1 x hx hk).1).1 h2
  rw[qah]at hch h2
  rw[<-qgq hFo l2.1]
  exact h _ (qhQ.2 ⟨x.1,hch,h2,rfl⟩)
 ·intro h a ha
  obtain⟨R,r1,r2,rfl⟩:=qhQ.1 ha
  rw[<-qah]at r1 r2
  obtain⟨q1,_,q3,_⟩:=qbJ hS .nil r1
  obtain⟨l1,l2⟩:=hc.leaf q1 q3
  obtain⟨js,hjs⟩:=qhM r1
  rw[qgq hFo l2.1]
  exact h (R,[]++js) (qca.2 ⟨js,hjs,(qbV hFo fun x hx hk=>(l1 x hx hk).1).2 r2,rfl⟩)
theorem qyR{F:List Stp}:∀(l:List qf)(b:Bool),l.foldl (fun b c=>qdW F c b) b=(b&&l.all fun c=>(jb F c (qJ c.body) [] []).all fun x=>qF (qt (qN x.1 c.head)) F):=by
 intro l b
 rw[Bool.eq_iff_iff,qiF,Bool.and_eq_true,List.all_eq_true]
 constructor
 ·rintro⟨h1,h2⟩
  exact⟨h1,fun c hc=>List.all_eq_true.2 (h2 c hc)⟩
 ·rintro⟨h1,h2⟩
  exact⟨h1,fun c hc=>List.all_eq_true.1 (h2 c hc)⟩
end Go.Abs.Tz
namespace Go.Abs.Tz
open Go Go.Abs Go.Proofs
set_option maxRecDepth 20000
set_option linter.unusedSimpArgs false
attribute [local simp ↓] yC yB jT jS yf uO zu zG jR uB vl vm yD yF yG yE jY j6 j9 jZ ga gc j7 j8 j0 jW jU jX jV vj vh vk vi yy yw yz yx yK yI yJ jj z8 ge zw zU yi vn vo yN yP yO yL yM yZ gh gq gv gp gt gu g7 g6 gC gE jB jy jM jP jz jH jL jK jJ jI jF ju jv jw jx jN jD jE jq jO jQ jA jC jG jr gI gD gY ya gF gS gW gV gU gT gO gz g0 gM gN gw g9 yb gG gK gQ gx yd g8 gy yc gL gH gJ gA gZ gi gk gj yT yW yS yU yV qq uG
attribute [local simp] faL fdL iaL ixL qS zm ze eqK eqL qX zE uA yQ vg y5 y7 y9 vc ve vf y6 vb y8 vd zM LV.cells LV.whole qq uQ gg gf stL zN ui uI qa.alloc yg ye yh yu yt yr yq yp yo yn ym yk yj qe uD
structure NNRa where
 i:Nat
 n:Nat
 aa:List qd
 own:Own
 ob:List (Nat×qc)
theorem qtF(F:List Stp)(hF:F.length<=2^20)(ow:Own)(AA:List qd)(hAA:AA=qw F)(H:qa){kv kp:HP}(hk:∀ow n,H.next<=n->kv (.sl (AA.map qg) ow) ⟨H.objs,n⟩):cP E0 F0 80 [.sl (F.map q9) ow] H kv kp:=by
 refine zX c80 fun hH=>⟨Nat.le_of_ble_eq_true rfl,?_⟩
 simp(disch:=omega)[b80]
 refine qB (σ:=NNRa) (fun q=>(.nd (.sl (F.map q9) ow) (.nd .bot (.nd (.sl (q.aa.map qg) q.own) .nil .nil) .nil) (.nd (Nl) (.nd (.int q.i) .nil .nil) .nil))) (fun q=>⟨q.ob,q.n⟩) (fun q=>F.length - q.i)
  (fun q=>q.i<=F.length/\q.aa=qw (F.take q.i)/\vS H 2 q.aa.length q.own q.ob q.n) ⟨0,H.next,[],.full,H.objs⟩ ⟨Nat.zero_le _,rfl,.inl ⟨rfl,rfl,Nat.le_refl _⟩⟩ (by simp[FT.Le,Wk]) ⟨HWk.refl _,fun h=>h⟩ ?_
 rintro⟨i,n,aa,own,ob⟩ ⟨hi,haa,hr⟩ hok
 dsimp only at hi haa hr hok
 by_cases hlt:i<F.length
 case neg=>
  obtain rfl:i=F.length:=by omega
  rw[List.take_length,<-hAA]at haa
  subst haa
  simp(disch:=omega)
  exact⟨⟨H.objs,n⟩,⟨Nat.le_refl _,fun j x hx=>by rw[hr.old.2 j (hH.look hx)];exact hx⟩,fun _=>qx.mono hH hr.old.1,hk own n hr.old.1⟩
 have hl:aa.length=i:=by
  rw[haa]
  unfold qw
  rw[List.length_map,List.length_take];omega
 have e2:aa++[F[i].atom]=qw (F.take (i+1)):=by
  rw[haa]
  unfold qw
  rw[List.take_add_one,List.getElem?_eq_getElem hlt,List.map_append]
  rfl
 simp(disch:=omega)[hlt]
 refine zF ?_
 obtain⟨own1,ob1,n1,e1,hr1,hn1⟩:=qfL (H:=H) (sz:=2) (es:=aa.map qg) (by omega) (qaw _) (by rw[List.length_map,hl];omega) (by rw[List.length_map];exact hr) (x:=qg F[i].atom) rfl .full
 rw[List.length_map]at hr1
 simp(disch:=omega)
 rw[show apL ⟨ob,n⟩ 2 (.sl (aa.map qg) own) (.sl [.agg [.str F[i].atom.pred,ql F[i].atom.args]] .full)=_ from e1]
 simp(disch:=omega)[qk (show i<2^62 by omega)]
 exact⟨⟨i+1,n1,aa++[F[i].atom],own1,ob1⟩,by dsimp only;omega,⟨by dsimp only;omega,e2.trans (by simp[qw]),by simpa using hr1⟩,by simp[FT.Le,Wk],HWk.refl _,fun h=>h⟩
def qdy(l:List qf)(base:List qd)(F:List Stp)(i:Nat)(s:Stp):Bool:=(decide (s.cl=-1)&&(decide (s.frm=[])&&qF (qt s.atom) (zj base)))||v8 l F i s
theorem qyG(l:List qf)(base:List qd)(F:List Stp)(i:Nat)(s:Stp)(r:List Stp):qbl l base F i (s::r)=(qdy l base F i s&&qbl l base F (i+1) r):=rfl
structure NNSt where
 j:Nat
 k:Nat
 n:Nat
 K:qm
 ow:Own
set_option maxHeartbeats 1000000 in
theorem qte(l:List qf)(hl:l.length<=2^20)(hg:∀c∈l,zq c)(base:List qd)(hbl:base.length<=100)(hbg:∀a∈base,qD a)(owB owF owA:Own)(F:List Stp)(AA:List qd)(hAA:AA=qw F)(hF:F.length<=2^20)(hFg:∀s∈F,qD s.atom)(hfr:∀s∈F,s.frm.length<=2^20)(i:Nat)(hi:i<F.length)(H:qa)
  {kv kp:HP} (hk:∀n',H.next<=n'->kv (.bool (qdy l base F i F[i])) ⟨H.objs,n'⟩):
  cP E0 F0 82 [qz l,.sl (base.map qg) owB,.sl (F.map q9) owF,.sl (AA.map qg) owA,.int i] H kv kp:=by
 refine zX c82 fun hH=>⟨Nat.le_of_ble_eq_true rfl,?_⟩
 obtain⟨ob,n⟩:=H
 dsimp only at hk
 obtain⟨⟨a,cl,frm⟩,hs⟩:∃s,F[i]=s:=⟨_,rfl⟩
 have hsF:(⟨a,cl,frm⟩:Stp)∈F:=hs▸List.getElem_mem hi
 have hsg:qD a:=hFg _ hsF
 have hsf:frm.length<=2^20:=hfr _ hsF
 have hFo:∀s∈F,qI s.atom=true:=fun s hs=>(hFg s hs).1
 rw[hs]at hk
 obtain⟨X,hX⟩:∃X,qc.cells (wQ ⟨a,cl,frm⟩)=X:=⟨_,rfl⟩
 have fin:∀(m:Nat)(ob1:List (Nat×qc))(v:LV),(∀i,i<n->look i ob1=look i ob)->n<=m->kv v ⟨ob,m⟩->∃H'',HWk ⟨ob1,m⟩ H''/\(qa.Ok ⟨ob1,m⟩->H''.Ok)/\kv v H'':=fun m ob1 v ho hm hv=>⟨⟨ob,m⟩,qbC hH ho (Nat.le_refl _),fun _=>qx.mono hH hm,hv⟩
 by_cases hc1:cl=-1
 ·subst hc1
  have e:qdy l base F i ⟨a,-1,frm⟩=(yA base a&&decide (frm=[])):=by
   unfold qdy v8
   simp only
   rw[if_neg (by omega),Bool.or_false,qxz hbg hsg.1]
   simp[Bool.and_comm]
  rw[e]at hk
  simp(disch:=omega)[b82,hi,hs]
  refine(qfC base owB a (by omega) (fun x hx=>jo (hbg x hx).1) (jo hsg.1)).go fun n1 hn1=>?_
  cases hh:yA base a
  ·rw[hh,Bool.false_and]at hk
   simp(disch:=omega)
   exact fin _ _ _ (fun i hi=>qe (by omega) _ _) (Nat.le_trans (Nat.le_succ _) hn1) (hk n1 (Nat.le_trans (Nat.le_succ _) hn1))
  ·rw[hh,Bool.true_and]at hk
   by_cases hf:frm=[]
   ·rw[decide_eq_true hf]at hk
    subst hf
    simp(disch:=omega)
    exact fin _ _ _ (fun i hi=>qe (by omega) _ _) (Nat.le_trans (Nat.le_succ _) hn1) (hk n1 (Nat.le_trans (Nat.le_succ _) hn1))
   ·rw[decide_eq_false hf]at hk
    have hf2:¬frm.length=0:=fun h=>hf (List.eq_nil_of_length_eq_zero h)
    simp(disch:=omega)[hf,hf2]
    exact fin _ _ _ (fun i hi=>qe (by omega) _ _) (Nat.le_trans (Nat.le_succ _) hn1) (hk n1 (Nat.le_trans (Nat.le_succ _) hn1))
 have e:qdy l base F i ⟨a,cl,frm⟩=v8 l F i ⟨a,cl,frm⟩:=by
  unfold qdy
  simp[hc1]
 rw[e]at hk
 obtain⟨V,hV⟩:∃V,v8 l F i ⟨a,cl,frm⟩=V:=⟨_,rfl⟩
 rw[hV]at hk
 unfold v8 at hV
 simp only at hV
 by_cases hneg:cl<0
 ·rw[if_neg (by omega)]at hV
  rw[<-hV]at hk
  simp(disch:=omega)[b82,hi,hs,hc1,hneg]
  exact fin _ _ _ (fun i hi=>qe (by omega) _ _) (Nat.le_succ _) (hk (n+1) (Nat.le_succ _))
 obtain⟨q,rfl⟩:∃q:Nat,cl=(q:Int):=⟨cl.toNat,by omega⟩
 by_cases hql:q<l.length
 case neg=>
  rw[if_neg (by omega)]at hV
  rw[<-hV]at hk
  have hql2:l.length<=q:=by omega
  simp(disch:=omega)[b82,hi,hs,hc1,hneg,hql2]
  exact fin _ _ _ (fun i hi=>qe (by omega) _ _) (Nat.le_succ _) (hk (n+1) (Nat.le_succ _))
 rw[if_pos ⟨by omega,by omega⟩,show ((q:Int)).toNat=q from rfl,List.getElem?_eq_getElem hql]at hV
 simp only at hV
 obtain⟨c,hc⟩:∃c,l[q]=c:=⟨_,rfl⟩
 have hcm:c∈l:=hc▸List.getElem_mem hql
 rw[hc]at hV
 have hcg:=hg c hcm
 obtain⟨cp1,cp2,cp3⟩:=wl hcg.ok
 have hql2:¬l.length<=q:=by omega
 simp(disch:=omega)[b82,hi,hs,hc1,hneg,hql,hql2,hc]
 obtain⟨OB,hOB⟩:∃OB,(n+1,qc.cells [.str c.head.pred,ql c.head.args,zA c.body])::(n,qc.cells [.str a.pred,ql a.args,.int q,.sl (frm.map LV.int) .no])::ob=OB:=⟨_,rfl⟩
 have hl1:look n OB=some (.cells [.str a.pred,ql a.args,.int q,.sl (frm.map LV.int) .no]):=by rw[<-hOB,qe (by omega)];exact qq _ _ _
 have hl2:look (n+1) OB=some (.cells [.str c.head.pred,ql c.head.args,zA c.body]):=by rw[<-hOB];exact qq _ _ _
 have hold:∀i,i<n->look i OB=look i ob:=fun i hi=>by rw[<-hOB,qe (by omega),qe (by omega)]
 rw[hOB]
 refine qB (σ:=NNSt) (fun w=>(.nd .bot (.nd .bot (.nd (.sl (AA.map qg) owA) (.nd .bot (.nd (.int w.k) .nil .nil) .nil) (.nd (.ptr n 0) .nil .nil)) (.nd .bot .nil (.nd (.ptr (n+1) 0) .nil .nil))) (.nd (.sl (F.map q9) owF) (.nd (.int i) (.nd .bot (.nd (.int w.j) .nil .nil) .nil) .nil) (.nd .bot .nil (.nd (.sl (w.K.map wg) w.ow) .nil .nil))))) (fun w=>⟨OB,w.n⟩) (fun w=>c.body.length - w.j)
  (fun w=>n+1<w.n/\w.j<=c.body.length/\w.k<=w.j/\w.k<=frm.length/\w.K.length<=3*w.j/\uq w.K/\(∀p∈qJ (c.body.take w.j),uL w.K p.args)/\qeZ F c ⟨a,q,frm⟩ (wJ F i (c.body.drop w.j) w.K (frm.drop w.k))=V)
  ⟨0,0,n+1+1,[],.full⟩ ⟨Nat.lt_succ_self _,Nat.zero_le _,Nat.le_refl _,Nat.zero_le _,Nat.zero_le _,.nil,fun p hp=>by simp[qJ]at hp,hV⟩ (by simp[FT.Le,Wk]) ⟨HWk.refl _,fun h=>h⟩ ?_
 rintro⟨j,k,m,K,ow⟩ ⟨hm,hj,hkj,hkl,hKl,hK,hbd,hend⟩ hok
 dsimp only at hm hj hkj hkl hKl hK hbd hend hok
 by_cases hlt:j<c.body.length
 case neg=>
  obtain rfl:j=c.body.length:=by omega
  rw[List.take_length]at hbd
  rw[List.drop_length]at hend
  unfold wJ at hend
  obtain⟨g1,g2⟩:=hcg.leaf hK hbd
  obtain⟨gb1,_,_⟩:=hcg.bound hbd
  have hh:c.head.args.length<=2^20:=by have:=(wK cp1).1;omega
  have hAo:∀x∈AA,qd.ok x:=fun x hx=>by
   rw[hAA]at hx
   obtain⟨s,hs,rfl⟩:=List.mem_map.1 hx
   exact jo (hFo s hs)
  have hAl:AA.length<2^40:=by
   rw[hAA]
   unfold qw
   rw[List.length_map];omega
  have hRR:qaF AA K c.body=gd F K c.body:=by rw[hAA];exact quZ hFo fun x hx hk=>(g1 x hx hk).1
  simp(disch:=omega)[hlt,hl1,hl2]
  refine qmM c hcg K hK ow (by omega) hbd AA owA hAl hAo _ fun n3 hn3=>?_
  rw[hRR]
  dsimp only at hn3
  simp(disch:=omega)[hl1,hl2]
  refine qjg K ow (by omega) c.head hh gb1 _ fun n4 hn4=>?_
  dsimp only at hn4
  simp(disch:=omega)[hl1,hl2]
  refine(qji (qN K c.head) a (jo g2.1) (jo hsg.1)).go fun n5 hn5=>?_
  have hn5':n<=n5:=by omega
  by_cases hke:k=frm.length
  ·subst hke
   rw[if_pos (by simp)]at hend
   have hend:(decide (zk (qN K c.head) a=0)&&gd F K c.body)=V:=hend
   cases hr:gd F K c.body
   ·rw[hr,Bool.and_false]at hend
    simp(disch:=omega)[hl1]
    exact fin _ _ _ hold hn5' (by rw[<-hend]at hk;exact hk n5 hn5')
   ·rw[hr,Bool.and_true]at hend
    cases hz:decide (zk (qN K c.head) a=0)
    ·rw[hz]at hend
     simp(disch:=omega)[hl1]
     exact fin _ _ _ hold hn5' (by rw[<-hend]at hk;exact hk n5 hn5')
    ·rw[hz]at hend
     simp(disch:=omega)[hl1]
     exact fin _ _ _ hold hn5' (by rw[<-hend]at hk;exact hk n5 hn5')
  ·rw[if_neg (by intro h;have:=congrArg List.length h;simp at this;omega)]at hend
   have hV0:V=false:=hend.symm
   rw[hV0]at hk
   have hke2:¬(k:Int)=(frm.length:Int):=by omega
   cases hr:gd F K c.body
   ·simp(disch:=omega)[hl1]
    exact fin _ _ _ hold hn5' (hk n5 hn5')
   ·cases hz:decide (zk (qN K c.head) a=0)
    ·simp(disch:=omega)[hl1]
     exact fin _ _ _ hold hn5' (hk n5 hn5')
    ·simp(disch:=omega)[hl1,hke,hke2]
     exact fin _ _ _ hold hn5' (hk n5 hn5')
 rw[List.drop_eq_getElem_cons hlt]at hend
 unfold wJ at hend
 have hpt:=qkk hlt
 have hmem:c.body[j]∈c.body:=List.getElem_mem hlt
 have hnx:IntKind.wrap .i64 ((j:Int)+1)=((j+1:Nat):Int):=qk (show j<2^62 by omega)
 have hnk:IntKind.wrap .i64 ((k:Int)+1)=((k+1:Nat):Int):=qk (show k<2^62 by omega)
 by_cases k1:c.body[j].kind=1
 case neg=>
  rw[if_neg k1]at hend hpt
  simp(disch:=omega)[hlt,k1,hnx,hl1,hl2]
  exact⟨⟨j+1,k,m,K,ow⟩,by dsimp only;omega,⟨hm,by dsimp only;omega,by dsimp only;omega,hkl,by dsimp only;omega,hK,by dsimp only;rw[hpt,List.append_nil];exact hbd,hend⟩,by simp[FT.Le,Wk],HWk.refl _,fun h=>h⟩
 rw[if_pos k1]at hend hpt
 by_cases hkf:k<frm.length
 case neg=>
  rw[List.drop_eq_nil_of_le (by omega)]at hend
  have hV0:V=false:=hend.symm
  rw[hV0]at hk
  have hkf2:frm.length<=k:=by omega
  simp(disch:=omega)[hlt,k1,hl1,hl2,hkf,hkf2]
  exact fin _ _ _ hold (by omega) (hk m (by omega))
 rw[List.drop_eq_getElem_cons hkf]at hend
 simp only at hend
 obtain⟨f,hf⟩:∃f,frm[k]=f:=⟨_,rfl⟩
 rw[hf]at hend
 have hkf2:¬frm.length<=k:=by omega
 by_cases hfi:0<=f/\f<(i:Int)
 case neg=>
  rw[if_neg hfi]at hend
  have hV0:V=false:=hend.symm
  rw[hV0]at hk
  by_cases hf0:f<0
  ·simp(disch:=omega)[hlt,k1,hl1,hl2,hkf,hkf2,hf,hf0]
   exact fin _ _ _ hold (by omega) (hk m (by omega))
  ·have hfi2:(i:Int)<=f:=by omega
   simp(disch:=omega)[hlt,k1,hl1,hl2,hkf,hkf2,hf,hf0,hfi2]
   exact fin _ _ _ hold (by omega) (hk m (by omega))
 rw[if_pos hfi]at hend
 obtain⟨p,rfl⟩:∃p:Nat,f=(p:Int):=⟨f.toNat,by omega⟩
 have hpF:p<F.length:=by omega
 rw[show ((p:Int)).toNat=p from rfl,List.getElem?_eq_getElem hpF]at hend
 simp only at hend
 have hp0:¬(p:Int)<0:=by omega
 have hpi:¬i<=p:=by omega
 have hpk:qI c.body[j].atom=true:=qgh (cp3 _ hmem) (.inl k1)
 have hpg:=hFg _ (List.getElem_mem hpF)
 have hpa:=(wK hpk).1
 simp(disch:=omega)[hlt,k1,hl1,hl2,hkf,hkf2,hf,hp0,hpi,hpF]
 refine qmO K hK ow c.body[j].atom F[p].atom (jo hpk) hpg (by omega) _ (fun R hbr n6 hn6=>?_) (fun hbn n6 hn6 x=>?_)
 ·dsimp only at hn6
  rw[hbr]at hend
  obtain⟨s1,s2,s3,s4⟩:=qfm hK hpg hbr
  have hRl:=qrI hbr
  simp(disch:=omega)[hnk,hnx]
  exact⟨⟨j+1,k+1,n6,R,.no⟩,by dsimp only;omega,⟨by dsimp only;omega,by dsimp only;omega,by dsimp only;omega,by dsimp only;omega,by dsimp only;omega,s1,fun p hp=>by
   dsimp only at hp
   rw[hpt]at hp
   rcases List.mem_append.1 hp with h|h
   ·exact(hbd p h).ext s2
   ·rw[List.mem_singleton]at h
    subst h
    exact s3,hend⟩,by simp[FT.Le,Wk],HWk.refl _,fun h=>h⟩
 ·dsimp only at hn6
  rw[hbn]at hend
  have hV0:V=false:=hend.symm
  rw[hV0]at hk
  simp(disch:=omega)
  exact fin _ _ _ hold (by omega) (hk n6 (by omega))
def clR(AA:List qd)(c:qf):Bool:=(zy c AA c.body []).all fun a=>yA AA a
theorem qsX{l:List qf}(hg:∀c∈l,zq c){F:List Stp}(hF:∀s∈F,qD s.atom){AA:List qd}(hAA:AA=qw F):qdt l F=l.all (clR AA):=by
 unfold qdt
 rw[qyR,Bool.true_and,hAA]
 rw[Bool.eq_iff_iff,List.all_eq_true,List.all_eq_true]
 constructor
 ·intro h c hc
  unfold clR
  rw[qpB (hg c hc) hF]
  exact h c hc
 ·intro h c hc
  have:=h c hc
  unfold clR at this
  rw[qpB (hg c hc) hF]at this
  exact this
def baR(AA:List qd)(l:List qd):Bool:=l.all fun a=>yA AA a
theorem qrS(AA:List qd)(a:qd)(l:List qd):baR AA (a::l)=(yA AA a&&baR AA l):=rfl
theorem qtA(l:List qf)(hl:l.length<=40)(hg:∀c∈l,zq c)(h3:∀c∈l,(qJ c.body).length<=3)(base:List qd)(hbl:base.length<=100)(hbg:∀a∈base,qD a)(owB owF:Own)(F:List Stp)(hF:F.length<=300)(hFo:∀s∈F,s.atom.ok/\s.frm.length<=2^20)(H:qa)
  {kv kp:HP} (hk:∀n',H.next<=n'->kv (.bool (qbT l base F)) ⟨H.objs,n'⟩):
  cP E0 F0 36 [qz l,.sl (base.map qg) owB,.sl (F.map q9) owF] H kv kp:=by
 refine zX c36 fun hH=>⟨Nat.le_of_ble_eq_true rfl,?_⟩
 obtain⟨ob,n⟩:=H
 dsimp only at hk
 obtain⟨AA,hAA⟩:∃AA,qw F=AA:=⟨_,rfl⟩
 have hAA:=hAA.symm
 have hAl:AA.length=F.length:=by rw[hAA];unfold qw;rw[List.length_map]
 have hAg:∀(i:Nat)(h:i<AA.length)(h':i<F.length),AA[i]=F[i].atom:=fun i h h'=>by
  subst hAA
  simp[qw]
 obtain⟨V,hV⟩:∃V,qbT l base F=V:=⟨_,rfl⟩
 rw[hV]at hk
 rw[qnt]at hV
 have fin:∀(m:Nat)(v:LV),n<=m->kv v ⟨ob,m⟩->∃H'',HWk ⟨ob,m⟩ H''/\(qa.Ok ⟨ob,m⟩->H''.Ok)/\kv v H'':=fun m v hm hv=>keep hv
 simp(disch:=omega)[b36]
 refine qtF F (by omega) owF AA hAA _ fun owA n1 hn1=>?_
 dsimp only at hn1
 simp(disch:=omega)
 refine qB (σ:=NN) (fun q=>(.nd (qz l) (.nd (.sl (base.map qg) owB) (.nd .bot (.nd (.sl (AA.map qg) owA) .nil .nil) .nil) .nil) (.nd (.sl (F.map q9) owF) (.nd .bot (.nd (.int q.i) .nil .nil) .nil) .nil))) (fun q=>⟨ob,q.n⟩) (fun q=>F.length - q.i)
  (fun q=>n<=q.n/\q.i<=F.length/\(qbE (F.take q.i) (F.drop q.i)&&qdv l base F)=V/\(∀s∈F.take q.i,qD s.atom)) ⟨0,n1⟩ ⟨hn1,Nat.zero_le _,hV,fun s hs=>(by simp at hs)⟩ (by simp[FT.Le,Wk]) ⟨HWk.refl _,fun h=>h⟩ ?_
 rintro⟨i,m⟩ ⟨hm,hi,hf,hg1⟩ hok
 dsimp only at hm hi hf hg1 hok
 by_cases hlt:i<F.length
 case pos=>
  have hltA:i<AA.length:=by omega
  have hag:=hAg i hltA hlt
  have hao:=(hFo _ (List.getElem_mem hlt)).1
  obtain⟨G,hG⟩:∃G,F.take i=G:=⟨_,rfl⟩
  have hG2:F.take (i+1)=G++[F[i]]:=by rw[<-hG,List.take_add_one,List.getElem?_eq_getElem hlt];rfl
  have hAG:AA.take i=qw G:=by
   rw[hAA,<-hG]
   unfold qw
   rw[List.map_take]
  rw[hG]at hf hg1
  rw[List.drop_eq_getElem_cons hlt]at hf
  unfold qbE at hf
  have hiA:i<=AA.length:=by omega
  have hATo:∀x∈AA.take i,qd.ok x:=fun x hx=>by
   have:=List.mem_of_mem_take hx
   rw[hAA]at this
   obtain⟨s,hs,rfl⟩:=List.mem_map.1 this
   exact(hFo s hs).1
  have hnx:IntKind.wrap .i64 ((i:Int)+1)=((i+1:Nat):Int):=qk (show i<2^62 by omega)
  simp(disch:=omega)[hAl,hlt,hltA,hag]
  refine(qhe F[i].atom hao).go fun n3 hn3=>?_
  simp(disch:=omega)[hAl,hlt,hltA,hag]
  refine(qmR F[i].atom hao).go fun n4 hn4=>?_
  simp(disch:=omega)[hAl,hlt,hltA,hag,hi]
  rw[<-List.map_take]
  refine(qfC (AA.take i) _ F[i].atom (by rw[List.length_take];omega) hATo hao).go fun n5 hn5=>?_
  cases ha:qI F[i].atom
  ·have e:zr F[i].atom=false:=by simp[zr,ha]
   rw[e,Bool.false_and,Bool.false_and]at hf
   simp(disch:=omega)
   exact fin _ _ (by omega) (by rw[<-hf]at hk;exact hk n5 (by omega))
  cases hgr:F[i].atom.args.all ux
  ·have e:zr F[i].atom=false:=by simp[zr,hgr]
   rw[e,Bool.false_and,Bool.false_and]at hf
   simp(disch:=omega)
   exact fin _ _ (by omega) (by rw[<-hf]at hk;exact hk n5 (by omega))
  have e:zr F[i].atom=true:=by simp[zr,ha,hgr]
  rw[e,Bool.true_and]at hf
  have hh:yA (AA.take i) F[i].atom=qF (qt F[i].atom) G:=by rw[hAG];exact qgq (fun s hs=>(hg1 s hs).1) ha
  rw[hh]
  cases hx:qF (qt F[i].atom) G
  ·rw[hx,Bool.not_false,Bool.true_and]at hf
   simp(disch:=omega)[hnx]
   exact⟨⟨i+1,n5⟩,by dsimp only;omega,⟨by dsimp only;omega,by dsimp only;omega,by dsimp only;rw[hG2];exact hf,fun s hs=>by
    dsimp only at hs
    rw[hG2]at hs
    rcases List.mem_append.1 hs with h|h
    ·exact hg1 s h
    ·rw[List.mem_singleton]at h
     rw[h]
     exact qec.1 e⟩,by simp[FT.Le,Wk],HWk.refl _,fun h=>h⟩
  ·rw[hx,Bool.not_true,Bool.false_and,Bool.false_and]at hf
   simp(disch:=omega)
   exact fin _ _ (by omega) (by rw[<-hf]at hk;exact hk n5 (by omega))
 obtain rfl:i=F.length:=by omega
 rw[List.take_length]at hf hg1
 rw[List.drop_length]at hf
 have hf:(true&&qdv l base F)=V:=hf
 rw[Bool.true_and]at hf
 unfold qdv at hf
 have hAo:∀x∈AA,qD x:=fun x hx=>by
  rw[hAA]at hx
  obtain⟨s,hs,rfl⟩:=List.mem_map.1 hx
  exact hg1 s hs
 have hAok:∀x∈AA,qd.ok x:=fun x hx=>jo (hAo x hx).1
 have hF1:∀s∈F,qI s.atom=true:=fun s hs=>(hg1 s hs).1
 simp(disch:=omega)[hAl]
 refine qB (σ:=NN) (fun q=>(.nd (qz l) (.nd (.sl (base.map qg) owB) (.nd .bot (.nd (.sl (AA.map qg) owA) .nil .nil) .nil) .nil) (.nd (.sl (F.map q9) owF) (.nd .bot .nil (.nd (.int q.i) .nil .nil)) .nil))) (fun q=>⟨ob,q.n⟩) (fun q=>F.length - q.i)
  (fun q=>n<=q.n/\q.i<=F.length/\(qbl l base F q.i (F.drop q.i)&&qdu l base F)=V) ⟨0,m⟩ ⟨hm,Nat.zero_le _,hf⟩ (by simp[FT.Le,Wk]) ⟨HWk.refl _,fun h=>h⟩ ?_
 rintro⟨i,m2⟩ ⟨hm2,hi2,hf2⟩ hok2
 dsimp only at hm2 hi2 hf2 hok2
 by_cases hlt:i<F.length
 case pos=>
  rw[List.drop_eq_getElem_cons hlt,qyG]at hf2
  simp(disch:=omega)[hlt]
  refine qte l (by omega) hg base hbl hbg owB owF owA F AA hAA (by omega) hg1 (fun s hs=>(hFo s hs).2) i hlt _ fun n5 hn5=>?_
  dsimp only at hn5
  cases hd:qdy l base F i F[i]
  ·rw[hd,Bool.false_and,Bool.false_and]at hf2
   simp(disch:=omega)
   exact fin _ _ (by omega) (by rw[<-hf2]at hk;exact hk n5 (by omega))
  ·rw[hd,Bool.true_and]at hf2
   simp(disch:=omega)[qk (show i<2^62 by omega)]
   exact⟨⟨i+1,n5⟩,by dsimp only;omega,⟨by dsimp only;omega,by dsimp only;omega,hf2⟩,by simp[FT.Le,Wk],HWk.refl _,fun h=>h⟩
 obtain rfl:i=F.length:=by omega
 rw[List.drop_length]at hf2
 have hf2:(true&&qdu l base F)=V:=hf2
 rw[Bool.true_and]at hf2
 unfold qdu at hf2
 rw[<-qzD hbg hF1,<-hAA,qsX hg hg1 hAA]at hf2
 have hf2:(baR AA base&&l.all (clR AA))=V:=hf2
 simp(disch:=omega)
 refine qB (σ:=NN) (fun q=>(.nd (qz l) (.nd (.sl (base.map qg) owB) (.nd .bot (.nd (.sl (AA.map qg) owA) .nil .nil) .nil) .nil) (.nd .bot .nil (.nd .bot .nil (.nd (.int q.i) .nil .nil))))) (fun q=>⟨ob,q.n⟩) (fun q=>base.length - q.i)
  (fun q=>n<=q.n/\q.i<=base.length/\(baR AA (base.drop q.i)&&l.all (clR AA))=V) ⟨0,m2⟩ ⟨hm2,Nat.zero_le _,hf2⟩ (by simp[FT.Le,Wk]) ⟨HWk.refl _,fun h=>h⟩ ?_
 rintro⟨i,m3⟩ ⟨hm3,hi3,hf3⟩ hok3
 dsimp only at hm3 hi3 hf3 hok3
 by_cases hlt:i<base.length
 case pos=>
  rw[List.drop_eq_getElem_cons hlt,qrS]at hf3
  simp(disch:=omega)[hlt]
  refine(qfC AA owA base[i] (by omega) hAok (jo (hbg _ (List.getElem_mem hlt)).1)).go fun n5 hn5=>?_
  cases hd:yA AA base[i]
  ·rw[hd,Bool.false_and,Bool.false_and]at hf3
   simp(disch:=omega)
   exact fin _ _ (by omega) (by rw[<-hf3]at hk;exact hk n5 (by omega))
  ·rw[hd,Bool.true_and]at hf3
   simp(disch:=omega)[qk (show i<2^62 by omega)]
   exact⟨⟨i+1,n5⟩,by dsimp only;omega,⟨by dsimp only;omega,by dsimp only;omega,hf3⟩,by simp[FT.Le,Wk],HWk.refl _,fun h=>h⟩
 obtain rfl:i=base.length:=by omega
 rw[List.drop_length]at hf3
 have hf3:(true&&l.all (clR AA))=V:=hf3
 rw[Bool.true_and]at hf3
 simp(disch:=omega)
 refine qB (σ:=NN) (fun q=>(.nd (qz l) (.nd .bot (.nd .bot (.nd (.sl (AA.map qg) owA) .nil .nil) .nil) .nil) (.nd .bot (.nd .bot (.nd .bot (.nd (.int q.i) .nil .nil) .nil) .nil) .nil))) (fun q=>⟨ob,q.n⟩) (fun q=>l.length - q.i)
  (fun q=>n<=q.n/\q.i<=l.length/\(l.drop q.i).all (clR AA)=V) ⟨0,m3⟩ ⟨hm3,Nat.zero_le _,hf3⟩ (by simp[FT.Le,Wk]) ⟨HWk.refl _,fun h=>h⟩ ?_
 rintro⟨i,m4⟩ ⟨hm4,hi4,hf4⟩ hok4
 dsimp only at hm4 hi4 hf4 hok4
 by_cases hlt:i<l.length
 case neg=>
  obtain rfl:i=l.length:=by omega
  rw[List.drop_length]at hf4
  have hf4:true=V:=hf4
  simp(disch:=omega)
  exact fin _ _ (by omega) (by rw[<-hf4]at hk;exact hk m4 (by omega))
 rw[qax (clR AA) hlt]at hf4
 have hci:=List.getElem_mem hlt
 obtain⟨M,hM⟩:∃M,zy l[i] AA l[i].body []=M:=⟨_,rfl⟩
 have hMl:M.length<=2^29:=by rw[<-hM];exact qpC _ (h3 _ hci) AA (by omega)
 have hMg:∀a∈M,qD a:=fun a ha=>by
  rw[<-hM]at ha
  exact qgp (hg _ hci) hAo l[i].body [] [] rfl .nil (fun x hx=>(by cases hx)) a ha
 have hcR:clR AA l[i]=baR AA M:=by unfold clR;rw[hM];rfl
 rw[hcR]at hf4
 simp(disch:=omega)[hlt]
 refine qmP l[i] (hg _ hci) (h3 _ hci) AA owA hAo (by omega) _ fun n5 hn5=>?_
 dsimp only at hn5
 rw[hM]
 simp(disch:=omega)
 refine qB (σ:=NN) (fun q=>(.nd (qz l) (.nd .bot (.nd .bot (.nd (.sl (AA.map qg) owA) .nil .nil) .nil) (.nd .bot (.nd .bot (.nd (.sl (M.map qg) .no) .nil .nil) .nil) .nil)) (.nd .bot (.nd .bot (.nd .bot (.nd (.int i) .nil .nil) .nil) .nil) (.nd .bot (.nd .bot (.nd (.int q.i) .nil .nil) .nil) .nil)))) (fun q=>⟨ob,q.n⟩) (fun q=>M.length - q.i)
  (fun q=>n<=q.n/\q.i<=M.length/\(baR AA (M.drop q.i)&&(l.drop (i+1)).all (clR AA))=V) ⟨0,n5⟩ ⟨by dsimp only;omega,Nat.zero_le _,hf4⟩ (by simp[FT.Le,Wk]) ⟨HWk.refl _,fun h=>h⟩ ?_
 rintro⟨k,m5⟩ ⟨hm5,hk5,hf5⟩ hok5
 dsimp only at hm5 hk5 hf5 hok5
 by_cases hlk:k<M.length
 case pos=>
  rw[List.drop_eq_getElem_cons hlk,qrS]at hf5
  simp(disch:=omega)[hlk]
  refine(qfC AA owA M[k] (by omega) hAok (jo (hMg _ (List.getElem_mem hlk)).1)).go fun n6 hn6=>?_
  cases hd:yA AA M[k]
  ·rw[hd,Bool.false_and,Bool.false_and]at hf5
   simp(disch:=omega)
   exact fin _ _ (by omega) (by rw[<-hf5]at hk;exact hk n6 (by omega))
  ·rw[hd,Bool.true_and]at hf5
   simp(disch:=omega)[qk (show k<2^62 by omega)]
   exact⟨⟨k+1,n6⟩,by dsimp only;omega,⟨by dsimp only;omega,by dsimp only;omega,hf5⟩,by simp[FT.Le,Wk],HWk.refl _,fun h=>h⟩
 obtain rfl:k=M.length:=by omega
 rw[List.drop_length]at hf5
 have hf5:(true&&(l.drop (i+1)).all (clR AA))=V:=hf5
 rw[Bool.true_and]at hf5
 simp(disch:=omega)[qk (show i<2^62 by omega)]
 exact⟨⟨i+1,m5⟩,by dsimp only;omega,⟨hm5,by dsimp only;omega,hf5⟩,by simp[FT.Le,Wk],HWk.refl _,fun h=>h⟩
theorem qjk{l:List qf}{base:List qd}(hI:RIn l base)(R:Option (List (PK×Int)))(hE:zb l R base=zb l (zH l) base)(owB owF:Own)(F:List Stp)(hFl:F.length<2^63)(hFo:F.length<=300->∀s∈F,s.atom.ok/\s.frm.length<=2^20)(H:qa)
  {kv kp:HP} (hk:∀n',H.next<=n'->kv (.int (qdx l R base F)) ⟨H.objs,n'⟩):
  cP E0 F0 12 [qz l,.sl (base.map qg) owB,.sl (F.map q9) owF] H kv kp:=by
 refine zX c12 fun hH=>⟨Nat.le_of_ble_eq_true rfl,?_⟩
 obtain⟨ob,n⟩:=H
 dsimp only at hk
 simp(disch:=omega)[b12]
 refine(qmS l hI.hl base owB hI.hb hI.hok).go fun n1 hn1=>?_
 rw[<-hE]
 unfold qdx at hk
 by_cases he0:zb l R base=0
 case neg=>
  rw[if_pos he0]at hk
  simp(disch:=omega)[he0]
  exact keep (hk n1 hn1)
 rw[if_neg (by omega)]at hk
 obtain⟨hc,_,hbl,hbg⟩:=qgJ he0
 by_cases h300:300<F.length
 ·rw[if_pos h300]at hk
  have h300':(300:Int)<(F.length:Int):=by omega
  simp(disch:=omega)[he0,h300']
  exact keep (hk n1 hn1)
 rw[if_neg h300]at hk
 have h300':¬(300:Int)<(F.length:Int):=by omega
 simp(disch:=omega)[he0,h300']
 refine qtA l (qfg hc).1 (qdg hc) (hI.h3 hc) base hbl hbg owB owF F (by omega) (hFo (by omega)) _ fun n2 hn2=>?_
 dsimp only at hn2
 cases hst:qbT l base F
 ·rw[hst]at hk
  simp(disch:=omega)
  exact keep (hk n2 (by omega))
 ·rw[hst]at hk
  simp(disch:=omega)
  exact keep (hk n2 (by omega))
end Go.Abs.Tz
namespace Go.Abs.Tz
open Go Go.Abs Go.Proofs
def vq(W:List Int)(n:Int):List Int:=if n∈W then W else W++[n]
def qae(F:List Stp):Nat->List Int->List Int
 |0,W=>W
 |i+1,W=>qae F i (if (i:Int)∈W then (match F[i]? with
   |some s=>s.frm.foldl vq W
   |none=>W) else W)
def qav(F:List Stp):Nat->List Stp->Bool
 |_,[]=>true
 |i,s::r=>s.frm.all (fun j=>decide (0<=j)&&decide (j<(i:Int)))&&qav F (i+1) r
def qaL(a:qd):List Stp->Nat->Option Nat
 |[],_=>none
 |s::r,i=>if zk s.atom a=0 then some i else qaL a r (i+1)
def uY(F:List Stp)(k:Nat):List Int:=qae F (k+1) [(k:Int)]
def whyL(F:List Stp)(k:Nat):List Int:=((List.range F.length).filter fun i:Nat=>decide ((i:Int)∈uY F k)).map fun i:Nat=>(i:Int)
theorem qga{W:List Int}{n x:Int}:x∈vq W n↔x∈W\/x=n:=by
 unfold vq
 by_cases h:n∈W
 ·rw[if_pos h]
  exact⟨.inl,fun h'=>h'.elim id fun e=>e▸h⟩
 ·rw[if_neg h]
  simp
theorem qhS{l:List Int}:∀{W:List Int}{x:Int},x∈l.foldl vq W↔x∈W\/x∈l:=by
 induction l with
 |nil=>simp
 |cons n l ih=>
  intro W x
  rw[List.foldl_cons,ih,qga,List.mem_cons,or_assoc]
def qiX(F:List Stp):Prop:=∀(i:Nat)(s:Stp),F[i]? = some s->∀j∈s.frm,0<=j/\j<(i:Int)
theorem qrN{F:List Stp}:∀{r:List Stp}{i:Nat},qav F i r=true↔∀(k:Nat)(s:Stp),r[k]? = some s->∀j∈s.frm,0<=j/\j<((i+k:Nat):Int)
 |[],i=>⟨fun _ k s h=>by simp at h,fun _=>rfl⟩
 |s::r,i=>by
  unfold qav
  rw[Bool.and_eq_true,qrN (r:=r) (i:=i+1),List.all_eq_true]
  constructor
  ·rintro⟨h1,h2⟩ k t ht j hj
   cases k with
   |zero=>
    simp only[List.getElem?_cons_zero,Option.some.injEq]at ht
    subst ht
    have:=h1 j hj
    simpa using this
   |succ k=>
    have:=h2 k t (by simpa using ht) j hj
    omega
  ·intro h
   refine⟨fun j hj=>?_,fun k t ht j hj=>?_⟩
   ·have:=h 0 s rfl j hj
    simpa using this
   ·have:=h (k+1) t (by simpa using ht) j hj
    omega
theorem qgY{F:List Stp}(hF:qiX F)(k:Nat):∀(i:Nat)(W:List Int),i<=k+1->(∀x∈W,0<=x/\x<=(k:Int))->(∀x∈W,(i:Int)<=x->∀s,F[x.toNat]? = some s->∀j∈s.frm,j∈W) ->
  (∀x∈W,x∈qae F i W)/\(∀x∈qae F i W,0<=x/\x<=(k:Int))/\∀x∈qae F i W,∀s,F[x.toNat]? = some s->∀j∈s.frm,j∈qae F i W
 |0,W,_,h1,h2=>⟨fun x hx=>hx,h1,fun x hx s hs j hj=>h2 x hx (by have:=h1 x hx;omega) s hs j hj⟩
 |i+1,W,hi,h1,h2=>by
  unfold qae
  by_cases hw:(i:Int)∈W
  ·rw[if_pos hw]
   cases hs:F[i]? with
   |none=>
    refine qgY hF k i W (by omega) h1 fun x hx hxi s hs2 j hj=>?_
    by_cases hx2:(i:Int)+1<=x
    ·exact h2 x hx (by omega) s hs2 j hj
    ·obtain rfl:x=(i:Int):=by omega
     rw[show ((i:Int)).toNat=i from rfl,hs]at hs2
     cases hs2
   |some s0=>
    have hfr:=hF i s0 hs
    simp only
    obtain⟨g1,g2,g3⟩:=qgY hF k i (s0.frm.foldl vq W) (by omega) (fun x hx=>by
     rcases qhS.1 hx with h|h
     ·exact h1 x h
     ·have:=hfr x h
      omega) (fun x hx hxi s hs2 j hj=>by
     rw[qhS]
     rcases qhS.1 hx with h|h
     ·by_cases hx2:(i:Int)+1<=x
      ·exact .inl (h2 x h (by omega) s hs2 j hj)
      ·obtain rfl:x=(i:Int):=by omega
       rw[show ((i:Int)).toNat=i from rfl,hs]at hs2
       cases hs2
       exact .inr hj
     ·have:=hfr x h
      omega)
    exact⟨fun x hx=>g1 x (qhS.2 (.inl hx)),g2,g3⟩
  ·rw[if_neg hw]
   refine qgY hF k i W (by omega) h1 fun x hx hxi s hs2 j hj=>?_
   by_cases hx2:(i:Int)+1<=x
   ·exact h2 x hx (by omega) s hs2 j hj
   ·obtain rfl:x=(i:Int):=by omega
    exact absurd hx hw
theorem qss{F:List Stp}(hF:qiX F)(k:Nat):(k:Int)∈uY F k/\(∀x∈uY F k,0<=x/\x<=(k:Int))/\∀x∈uY F k,∀s,F[x.toNat]? = some s->∀j∈s.frm,j∈uY F k:=by
 obtain⟨h1,h2,h3⟩:=qgY hF k (k+1) [(k:Int)] (Nat.le_refl _) (fun x hx=>by
  rw[List.mem_singleton]at hx
  omega) (fun x hx hxi=>by
  rw[List.mem_singleton]at hx
  omega)
 exact⟨h1 _ (by simp),h2,h3⟩
end Go.Abs.Tz
namespace Go.Abs.Tz
open Go Go.Abs Go.Proofs
set_option maxRecDepth 20000
set_option linter.unusedSimpArgs false
attribute [local simp ↓] yC yB jT jS yf uO zu zG jR uB vl vm yD yF yG yE jY j6 j9 jZ ga gc j7 j8 j0 jW jU jX jV vj vh vk vi yy yw yz yx yK yI yJ jj z8 ge zw zU yi vn vo yN yP yO yL yM yZ gh gq gv gp gt gu g7 g6 gC gE jB jy jM jP jz jH jL jK jJ jI jF ju jv jw jx jN jD jE jq jO jQ jA jC jG jr gI gD gY ya gF gS gW gV gU gT gO gz g0 gM gN gw g9 yb gG gK gQ gx yd g8 gy yc gL gH gJ gA gZ gi gk gj yT yW yS yU yV qq uG
attribute [local simp] faL fdL iaL ixL qS zm ze eqK eqL qX zE uA yQ vg y5 y7 y9 vc ve vf y6 vb y8 vd zM LV.cells LV.whole qq uQ gg gf stL zN ui uI qa.alloc yg ye yh yu yt yr yq yp yo yn ym yk yj qe uD
theorem quw{l:List qf}{fuel:Nat}{R:Option (List (PK×Int))}{base:List qd}(hI:qiS l fuel R base)(ownB:Own)(ob:List (Nat×qc))(n:Nat)(hni:qU ob){kv kp:HP}
  (he:ua l R base≠0->∀n',n<=n'->kv (.tup [Nl,.int (ua l R base)]) ⟨ob,n'⟩)
  (hv:ua l R base=0->∀(ow:Own) n',n<=n'->kv (.tup [.sl ((vX l R base).map q9) ow,.int 0]) ⟨ob,n'⟩):
  cP E0 F0 10 [qz l,.sl (base.map qg) ownB] ⟨ob,n⟩ kv kp:=by
 refine zX c10 fun hH=>⟨Nat.le_of_ble_eq_true rfl,?_⟩
 simp(disch:=omega)[b10]
 refine quc hI ownB ob n hni (fun h0 n' hn'=>?_) (fun h0 hlen hg fo am ob' n' own' hn' hF hni' hold=>?_)
 ·simp(disch:=omega)[h0,z8]
  exact keep (he h0 n' hn')
 ·simp(disch:=omega)[hF.pair,z8]
  exact⟨⟨ob,n'⟩,qbC hH hold (Nat.le_refl _),fun _=>qx.mono hH (by dsimp only;omega),hv h0 own' n' (by omega)⟩
abbrev wI(W:List Int):List (LV×LV):=W.map fun n=>(.int n,.bool true)
theorem qqk(n:Int):∀W:List Int,yH (.pl 0) (.int n) (wI W)=some (if n∈W then some (.bool true) else none)
 |[]=>by simp[yH]
 |j::r=>by
  have ih:=qqk n r
  show (match eqK (.pl 0) (.int n) (.int j) with
   |some true=>some (some (LV.bool true))
   |some false=>yH (.pl 0) (.int n) (wI r)
   |none=>none)=_
  rw[ih]
  simp only[eqK,uA]
  by_cases h:n=j
  ·simp[h]
  ·simp[h]
theorem qnH(n:Int):∀W:List Int,vL (.pl 0) (.int n) (.bool true) (wI W)=some (wI (vq W n))
 |[]=>by simp[vL,vq]
 |j::r=>by
  have ih:=qnH n r
  show (match eqK (.pl 0) (.int n) (.int j) with
   |some true=>some ((LV.int j,LV.bool true)::wI r)
   |some false=>(vL (.pl 0) (.int n) (.bool true) (wI r)).map ((LV.int j,LV.bool true)::·)
   |none=>none)=_
  rw[ih]
  simp only[eqK,uA]
  by_cases h:n=j
  ·simp[h,vq]
  ·by_cases h2:n∈r
   ·simp[h,vq,h2]
   ·simp[h,vq,h2]
theorem lkN{H:qa}{o:Nat}{W:List Int}(h:look o H.objs=some (.map (wI W)))(n:Int):lkL H (.pl 0) false (.bool false) (.map o) (.int n)=some (.bool (decide (n∈W))):=by
 unfold lkL
 simp only[eqK,uA,decide_true,Option.isSome_some,if_true,h,qqk]
 by_cases hn:n∈W
 ·simp[hn]
 ·simp[hn]
theorem muN{H:qa}{o:Nat}{W:List Int}(h:look o H.objs=some (.map (wI W)))(n:Int):muL H (.pl 0) (.map o) (.int n) (.bool true)=some (H.put o (.map (wI (vq W n)))):=by
 unfold muL
 simp only[h,eqK,uA,decide_true,Option.isNone_some,Bool.false_eq_true,if_false,qnH,Option.map_some]
def qcj(i:Int)(j:Int):Bool:=!(decide (0<=j)&&decide (j<=i - 1))
theorem qtc(j:Int)(m:Nat)(i:Int)(hi:0<=i/\i<=2^30)(ob:List (Nat×qc))(n:Nat)(hl:look m ob=some (.cells [.int i])){kv kp:HP}(hk:∀n',n<=n'->kv (.bool (qcj i j)) ⟨ob,n'⟩):cP E0 F0 38 [.int j,.ptr m 0] ⟨ob,n⟩ kv kp:=by
 refine zX c38 fun hH=>⟨Nat.le_of_ble_eq_true rfl,?_⟩
 have hw:IntKind.wrap .i64 (i - 1)=i - 1:=uM (by omega) (by omega)
 simp(disch:=omega)[b38,hl,hw]
 refine(qhc j 0 _).go fun n1 hn1=>?_
 have e:qcj i j=(!decide (0<=j)||!decide (j<=i - 1)):=by unfold qcj;rw[Bool.not_and]
 rw[e]at hk
 simp(disch:=omega)
 exact keep (hk n1 hn1)
def qcy(p:Int->Bool):List Int->Nat->Int
 |[],_=>-1
 |t::r,i=>if p t then (i:Int) else qcy p r (i+1)
theorem qpx(p:Int->Bool):∀(l:List Int)(i:Nat),decide (0<=qcy p l i)=l.any p
 |[],i=>rfl
 |t::r,i=>by
  simp only[qcy,List.any_cons]
  by_cases h:p t=true
  ·simp[h]
  ·simp only[h,if_false,Bool.false_eq_true]
   rw[qpx p r (i+1)];simp
theorem qtV(js:List Int)(hjs:js.length<=2^20)(m:Nat)(i:Int)(hi:0<=i/\i<=2^30)(ob:List (Nat×qc))(n:Nat)(hl:look m ob=some (.cells [.int i])){kv kp:HP}(hk:∀n',n<=n'->kv (.int (qcy (qcj i) js 0)) ⟨ob,n'⟩):
  cP E0 F0 83 [.sl (js.map LV.int) .no,.fn (.func 38) [] [.ptr m 0]] ⟨ob,n⟩ kv kp:=by
 refine zX c83 fun hH=>⟨Nat.le_of_ble_eq_true rfl,?_⟩
 simp(disch:=omega)[b83]
 obtain⟨A,hA⟩:∃A,qcy (qcj i) js 0=A:=⟨_,rfl⟩
 rw[hA]at hk
 refine qB (σ:=NN) (fun q=>(.nd (.sl (js.map LV.int) .no) (.nd (.fn (.func 38) [] [.ptr m 0]) (.nd .bot (.nd (.int js.length) .nil .nil) .nil) .nil) (.nd .bot (.nd .bot (.nd (.int q.i) .nil .nil) .nil) (.nd (.sl (js.map LV.int) .no) .nil .nil)))) (fun q=>⟨ob,q.n⟩) (fun q=>js.length - q.i)
  (fun q=>n<=q.n/\q.i<=js.length/\qcy (qcj i) (js.drop q.i) q.i=A) ⟨0,n⟩ ⟨Nat.le_refl _,Nat.zero_le _,hA⟩ (by simp[FT.Le,Wk]) ⟨HWk.refl _,fun h=>h⟩ ?_
 rintro⟨q,k⟩ ⟨hn,hq,he⟩ hok
 dsimp only at hn hq he hok
 by_cases hlt:q<js.length
 ·rw[List.drop_eq_getElem_cons hlt]at he
  simp(disch:=omega)[hlt]
  refine qtc js[q] m i hi ob k hl fun n1 h1=>?_
  cases ht:qcj i js[q]
  ·simp[qcy,ht]at he
   simp(disch:=omega)[qk (show q<2^62 by omega)]
   exact⟨⟨q+1,n1⟩,by dsimp only;omega,⟨by dsimp only;omega,by dsimp only;omega,he⟩,by simp[FT.Le,Wk],HWk.refl _,fun h=>h⟩
  ·simp[qcy,ht]at he
   simp(disch:=omega)
   exact keep (by rw[<-he]at hk;exact hk n1 (by omega))
 ·obtain rfl:q=js.length:=by omega
  rw[List.drop_eq_nil_of_le (Nat.le_refl _)]at he
  simp(disch:=omega)
  simp[qcy]at he
  exact keep (by rw[<-he]at hk;exact hk k hn)
theorem qut(js:List Int)(hjs:js.length<=2^20)(m:Nat)(i:Int)(hi:0<=i/\i<=2^30)(ob:List (Nat×qc))(n:Nat)(hl:look m ob=some (.cells [.int i])){kv kp:HP}(hk:∀n',n<=n'->kv (.bool (js.any (qcj i))) ⟨ob,n'⟩):
  cP E0 F0 37 [.sl (js.map LV.int) .no,.fn (.func 38) [] [.ptr m 0]] ⟨ob,n⟩ kv kp:=by
 refine zX c37 fun hH=>⟨Nat.le_of_ble_eq_true rfl,?_⟩
 simp(disch:=omega)[b37]
 refine qtV js hjs m i hi ob n hl fun n1 hn1=>?_
 simp(disch:=omega)
 exact keep (by rw[qpx];exact hk n1 hn1)
theorem qtb(s:Stp)(a:qd)(hs:s.atom.ok)(ha:a.ok)(m:Nat)(ob:List (Nat×qc))(n:Nat)(hl:look m ob=some (.cells [.str a.pred,ql a.args])){kv kp:HP}(hk:∀n',n<=n'->kv (.bool (decide (zk s.atom a=0))) ⟨ob,n'⟩):cP E0 F0 41 [q9 s,.ptr m 0] ⟨ob,n⟩ kv kp:=by
 refine zX c41 fun hH=>⟨Nat.le_of_ble_eq_true rfl,?_⟩
 have hm:m<n:=hH.look hl
 simp(disch:=omega)[b41,hl]
 refine(qnn s.atom a hs ha).go fun n1 hn1=>?_
 by_cases hz:zk s.atom a=0
 ·simp(disch:=omega)[hz]
  exact⟨⟨ob,n1⟩,qbg hH (Nat.le_refl _),fun _=>qx.mono hH (Nat.le_trans (Nat.le_succ _) hn1),by simpa [hz] using hk n1 (Nat.le_trans (Nat.le_succ _) hn1)⟩
 ·simp(disch:=omega)[hz]
  exact⟨⟨ob,n1⟩,qbg hH (Nat.le_refl _),fun _=>qx.mono hH (Nat.le_trans (Nat.le_succ _) hn1),by simpa [hz] using hk n1 (Nat.le_trans (Nat.le_succ _) hn1)⟩
def qbf(o:Option Nat):Int:=match o with
 |some k=>k
 |none=>-1
theorem qtU(F:List Stp)(hF:F.length<=2^20)(own:Own)(a:qd)(hs:∀s∈F,s.atom.ok)(ha:a.ok)(m:Nat)(ob:List (Nat×qc))(n:Nat)(hl:look m ob=some (.cells [.str a.pred,ql a.args])){kv kp:HP}(hk:∀n',n<=n'->kv (.int (qbf (qaL a F 0))) ⟨ob,n'⟩):
  cP E0 F0 40 [.sl (F.map q9) own,.fn (.func 41) [] [.ptr m 0]] ⟨ob,n⟩ kv kp:=by
 refine zX c40 fun hH=>⟨Nat.le_of_ble_eq_true rfl,?_⟩
 simp(disch:=omega)[b40]
 obtain⟨A,hA⟩:∃A,qaL a F 0=A:=⟨_,rfl⟩
 rw[hA]at hk
 refine qB (σ:=NN) (fun q=>(.nd (.sl (F.map q9) own) (.nd (.fn (.func 41) [] [.ptr m 0]) (.nd .bot (.nd (.int F.length) .nil .nil) .nil) .nil) (.nd .bot (.nd .bot (.nd (.int q.i) .nil .nil) .nil) (.nd (.sl (F.map q9) own) .nil .nil)))) (fun q=>⟨ob,q.n⟩) (fun q=>F.length - q.i)
  (fun q=>n<=q.n/\q.i<=F.length/\qaL a (F.drop q.i) q.i=A) ⟨0,n⟩ ⟨Nat.le_refl _,Nat.zero_le _,hA⟩ (by simp[FT.Le,Wk]) ⟨HWk.refl _,fun h=>h⟩ ?_
 rintro⟨q,k⟩ ⟨hn,hq,he⟩ hok
 dsimp only at hn hq he hok
 by_cases hlt:q<F.length
 ·rw[List.drop_eq_getElem_cons hlt]at he
  unfold qaL at he
  simp(disch:=omega)[hlt]
  refine qtb F[q] a (hs _ (List.getElem_mem hlt)) ha m ob k hl fun n1 h1=>?_
  by_cases hz:zk F[q].atom a=0
  ·rw[if_pos hz]at he
   simp(disch:=omega)[hz]
   exact keep (by rw[<-he]at hk;exact hk n1 (by omega))
  ·rw[if_neg hz]at he
   simp(disch:=omega)[hz,qk (show q<2^62 by omega)]
   exact⟨⟨q+1,n1⟩,by dsimp only;omega,⟨by dsimp only;omega,by dsimp only;omega,he⟩,by simp[FT.Le,Wk],HWk.refl _,fun h=>h⟩
 ·obtain rfl:q=F.length:=by omega
  rw[List.drop_eq_nil_of_le (Nat.le_refl _)]at he
  simp(disch:=omega)
  exact keep (by rw[<-he]at hk;exact hk k hn)
end Go.Abs.Tz
