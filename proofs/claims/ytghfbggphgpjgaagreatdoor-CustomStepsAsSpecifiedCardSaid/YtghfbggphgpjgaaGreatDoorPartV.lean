/- Part of the proof that the law CustomStepsAsSpecified returns true for every input. Conditions: none. -/
import Derived.Test.YtghfbggphgpjgaaGreatDoorPartG
import Derived.Test.YtghfbggphgpjgaaGreatDoorPartD
import Derived.Test.YtghfbggphgpjgaaGreatDoorPartI
import Derived.Lib.ItoaNum
namespace Go.Abs.Tz
open Go Go.Abs Go.Proofs
set_option maxRecDepth 20000
set_option linter.unusedSimpArgs false
attribute [local simp ↓] yC yB jT jS yf uO zu zG jR uB vl vm yD yF yG yE jY j6 j9 jZ ga gc j7 j8 j0 jW jU jX jV vj vh vk vi yy yw yz yx yK yI yJ jj z8 ge zw zU yi vn vo yN yP yO yL yM yZ gh gq gv gp gt gu g7 g6 gC gE jB jy jM jP jz jH jL jK jJ jI jF ju jv jw jx jN jD jE jq jO jQ jA jC jG jr gI gD gY ya gF gS gW gV gU gT gO gz g0 gM gN gw g9 yb gG gK gQ gx yd g8 gy yc gL gH gJ gA gZ gi gk gj yT yW yS yU yV qq uG
attribute [local simp] faL fdL iaL ixL qS zm ze eqK eqL qX zE uA yQ vg y5 y7 y9 vc ve vf y6 vb y8 vd zM LV.cells LV.whole qq uQ gg gf stL zN ui uI qa.alloc yg ye yh yu yt yr yq yp yo yn ym yk yj qe uD
def qbP(t:qn):Bool:=decide (t.kind=0)&&(decide (t.n=0)&&qK t.s ⟨⟨[]⟩⟩)
def zI(l:Lit):Bool:=
 if l.kind=1\/l.kind=2 then qI l.atom&&(qbP l.a&&qbP l.b)
 else if l.kind=3\/l.kind=4\/l.kind=5\/l.kind=6 then qO l.a&&(qO l.b&&(qK l.atom.pred ⟨⟨[]⟩⟩&&decide (l.atom.args.length=0)))
 else false
def Lit.ok2(l:Lit):Prop:=l.atom.ok/\l.a.ok/\l.b.ok
theorem qtX(l:Lit)(hl:l.ok2):qh 105 [qda l] (.bool (zI l)):=by
 refine qh.of c105 fun H hH=>⟨Nat.le_of_ble_eq_true rfl,?_⟩
 by_cases h12:l.kind=1\/l.kind=2
 ·have e1:(decide (l.a.kind=0)&&(decide (l.a.n=0)&&qK l.a.s ⟨⟨[]⟩⟩))=qbP l.a:=rfl
  have e2:(decide (l.b.kind=0)&&(decide (l.b.n=0)&&qK l.b.s ⟨⟨[]⟩⟩))=qbP l.b:=rfl
  rcases h12 with h1|h1
  all_goals
   simp[qgM,h1]
   refine(qhg l.atom hl.1).go fun n hn=>?_
   cases ha:qI l.atom
   ·simp
    exact qp hH (by simp[zI,h1,ha])
   simp[e1]
   cases hz:qbP l.a
   ·simp
    exact qp hH (by simp[zI,h1,ha,hz])
   simp[e2]
   exact qp hH (by simp[zI,h1,ha,hz])
 have h1:¬l.kind=1:=fun e=>h12 (.inl e)
 have h2:¬l.kind=2:=fun e=>h12 (.inr e)
 by_cases hk:l.kind=3\/l.kind=4\/l.kind=5\/l.kind=6
 ·rcases hk with h3|h3|h3|h3
  all_goals
   simp[qgM,h3]
   refine(qjn l.a hl.2.1).go fun n hn=>?_
   cases ha:qO l.a
   ·simp
    exact qp hH (by simp[zI,h3,ha])
   simp
   refine(qjn l.b hl.2.2).go fun n1 hn1=>?_
   cases hb:qO l.b
   ·simp
    exact qp hH (by simp[zI,h3,ha,hb])
   simp
   cases hp:qK l.atom.pred ⟨⟨[]⟩⟩
   ·simp
    exact qp hH (by simp[zI,h3,ha,hb,hp])
   simp
   exact qp hH (by simp[zI,h3,ha,hb,hp])
 ·have h3:¬l.kind=3:=fun e=>hk (.inl e)
  have h4:¬l.kind=4:=fun e=>hk (.inr (.inl e))
  have h5:¬l.kind=5:=fun e=>hk (.inr (.inr (.inl e)))
  have h6:¬l.kind=6:=fun e=>hk (.inr (.inr (.inr e)))
  simp[qgM,h1,h2,h3,h4,h5,h6]
  exact qp hH (by simp[zI,h1,h2,h3,h4,h5,h6])
def qf.ok2(c:qf):Prop:=c.head.ok/\c.body.length<2^40/\∀l∈c.body,Lit.ok2 l
def je(c:qf):Bool:=qI c.head&&(decide (c.body.length<=5)&&c.body.all zI)
theorem qtY(c:qf)(hc:c.ok2):qh 60 [wA c] (.bool (je c)):=by
 refine qh.of c60 fun H hH=>⟨Nat.le_of_ble_eq_true rfl,?_⟩
 simp[b60]
 refine(qhg c.head hc.1).go fun n hn=>?_
 cases h1:qI c.head
 ·simp
  exact qp hH (by simp[je,h1])
 by_cases h2:(5:Int)<(c.body.length:Int)
 ·simp[h2]
  exact qp hH (by simp[je,h1,show ¬c.body.length<=5 by omega])
 have h3:c.body.length<=5:=by omega
 simp[h2]
 obtain⟨A,hA⟩:∃A,c.body.all zI=A:=⟨_,rfl⟩
 refine qB (σ:=NN) (fun q=>(.nd (wA c) (.nd .bot .nil (.nd .bot (.nd .bot (.nd (.int c.body.length) .nil .nil) .nil) .nil)) (.nd (.bool false) (.nd .bot (.nd .bot (.nd (zA c.body) .nil .nil) .nil) .nil) (.nd .bot (.nd .bot (.nd (.int q.i) .nil .nil) .nil) .nil)))) (fun q=>⟨H.objs,q.n⟩) (fun q=>c.body.length - q.i)
  (fun q=>H.next<=q.n/\q.i<=c.body.length/\(c.body.drop q.i).all zI=A) ⟨0,n⟩ ⟨by dsimp only;omega,Nat.zero_le _,hA⟩ (by simp[FT.Le,Wk]) (zJ hH) ?_
 rintro⟨i,n⟩ ⟨hn,hi,he⟩ hok
 simp only at hn hi he
 by_cases hlt:i<c.body.length
 ·rw[qax zI hlt]at he
  simp[hlt]
  refine(qtX c.body[i] (hc.2.2 _ (yv hlt))).go fun n1 h1'=>?_
  cases ht:zI c.body[i]
  ·rw[ht,Bool.false_and]at he
   simp
   exact qp hH (by simp[je,h1,hA,<-he])
  ·rw[ht,Bool.true_and]at he
   simp[qk (show i<2^62 by omega)]
   exact⟨⟨i+1,n1⟩,by dsimp only;omega,⟨by dsimp only;omega,by dsimp only;omega,he⟩,by simp[FT.Le,Wk],zJ hH⟩
 ·obtain rfl:i=c.body.length:=by omega
  rw[List.drop_eq_nil_of_le (Nat.le_refl _),List.all_nil]at he
  simp
  exact qp hH (by simp[je,h1,h3,hA,<-he])
def qas:List qf->Nat->Int×Int
 |[],_=>(0,0)
 |c::r,i=>if je c=false then (7,(i:Int)) else if qaZ c=false then (80,(i:Int)) else qas r (i+1)
def qQ(l:List qf):Int×Int:=if 40<l.length then (2,0) else qas l 0
abbrev qz(l:List qf):LV:=.sl (l.map wA) .no
def qf.ok3(c:qf):Prop:=c.ok2/\c.ok
theorem qux(l:List qf)(hc:l.length<=40->∀c∈l,qf.ok3 c):qh 29 [qz l] (.tup [.int (qQ l).1,.int (qQ l).2]):=by
 refine qh.of c29 fun H hH=>⟨Nat.le_of_ble_eq_true rfl,?_⟩
 by_cases h1:(40:Int)<(l.length:Int)
 ·simp[b29,h1]
  exact qp hH (by simp[qQ,show 40<l.length by omega])
 have hc:=hc (by omega)
 simp[b29,h1]
 obtain⟨R,hR⟩:∃R,qas l 0=R:=⟨_,rfl⟩
 have hB:qQ l=R:=by rw[<-hR];unfold qQ;rw[if_neg (by omega)]
 rw[hB]
 refine qB (σ:=NN) (fun q=>(.nd .bot (.nd .bot (.nd (.int 0) .nil (.nd (.int q.i) .nil .nil)) (.nd .bot (.nd (qz l) .nil .nil) .nil)) (.nd (.int 0) .nil (.nd .bot (.nd (.int l.length) .nil .nil) .nil)))) (fun q=>⟨H.objs,q.n⟩) (fun q=>l.length - q.i)
  (fun q=>H.next<=q.n/\q.i<=l.length/\qas (l.drop q.i) q.i=R) ⟨0,H.next⟩ ⟨Nat.le_refl _,Nat.zero_le _,hR⟩ (by simp[FT.Le,Wk]) ⟨HWk.refl _,fun h=>h⟩ ?_
 rintro⟨i,n⟩ ⟨hn,hi,he⟩ hok
 simp only at hn hi he
 by_cases hlt:i<l.length
 ·rw[List.drop_eq_getElem_cons hlt]at he
  simp[hlt]
  refine(qtY l[i] (hc _ (yv hlt)).1).go fun n1 h1'=>?_
  cases hf:je l[i]
  ·simp only[qas,hf,if_true]at he
   simp
   exact qp hH (by simp[<-he])
  simp
  refine(qmK l[i] (hc _ (yv hlt)).2).go fun n2 h2'=>?_
  cases hs:qaZ l[i]
  ·simp[qas,hf,hs]at he
   simp
   exact qp hH (by simp[<-he])
  simp[qas,hf,hs]at he
  simp[qk (show i<2^62 by omega)]
  exact⟨⟨i+1,n2⟩,by dsimp only;omega,⟨by dsimp only;omega,by dsimp only;omega,he⟩,by simp[FT.Le,Wk],zJ hH⟩
 ·obtain rfl:i=l.length:=by omega
  rw[List.drop_eq_nil_of_le (Nat.le_refl _)]at he
  simp only[qas]at he
  simp
  exact qp hH (by simp[<-he])
theorem qtm(a b c:Int):qh 174 [.int a,.int b,.int c] (.bool (decide (b<=a)&&decide (a<=c))):=by
 refine qh.of c174 fun H hH=>⟨Nat.le_of_ble_eq_true rfl,?_⟩
 by_cases h1:b<=a
 ·simp(disch:=omega)[b174,h1]
  exact qp hH (by simp[h1])
 ·simp(disch:=omega)[b174,h1]
  exact qp hH (by simp[h1])
theorem qtv(l:Lit)(hl:l.ok2):qh 152 [qda l] (.bool (zI l)):=by
 refine qh.of c152 fun H hH=>⟨Nat.le_of_ble_eq_true rfl,?_⟩
 by_cases h12:l.kind=1\/l.kind=2
 ·have e1:(decide (l.a.kind=0)&&(decide (l.a.n=0)&&qK l.a.s ⟨⟨[]⟩⟩))=qbP l.a:=rfl
  have e2:(decide (l.b.kind=0)&&(decide (l.b.n=0)&&qK l.b.s ⟨⟨[]⟩⟩))=qbP l.b:=rfl
  rcases h12 with h1|h1
  all_goals
   simp(disch:=omega)[b152,h1]
   refine(qhe l.atom hl.1).go fun n hn=>?_
   cases ha:qI l.atom
   ·simp(disch:=omega)
    exact qp hH (by simp[zI,h1,ha])
   simp(disch:=omega)[e1]
   cases hz:qbP l.a
   ·simp(disch:=omega)
    exact qp hH (by simp[zI,h1,ha,hz])
   simp(disch:=omega)[e2]
   exact qp hH (by simp[zI,h1,ha,hz])
 have h1:¬l.kind=1:=fun e=>h12 (.inl e)
 have h2:¬l.kind=2:=fun e=>h12 (.inr e)
 simp(disch:=omega)[b152,h1,h2]
 refine(qtm _ _ _).go fun n hn=>?_
 simp(disch:=omega)
 refine(qjh l.a hl.2.1).go fun n1 hn1=>?_
 simp(disch:=omega)
 refine(qjh l.b hl.2.2).go fun n2 hn2=>?_
 obtain⟨K,hK⟩:∃K,(decide (3<=l.kind)&&decide (l.kind<=6))=K:=⟨_,rfl⟩
 rw[hK]
 have hl0:zI l=(K&&(qO l.a&&(qO l.b&&(qK l.atom.pred ⟨⟨[]⟩⟩&&decide (l.atom.args.length=0))))):=by
  unfold zI
  rw[if_neg h12]
  by_cases hk:l.kind=3\/l.kind=4\/l.kind=5\/l.kind=6
  ·rw[if_pos hk,<-hK]
   have h3:3<=l.kind:=by omega
   have h6:l.kind<=6:=by omega
   simp[h3,h6]
  ·rw[if_neg hk]
   have:K=false:=by
    rw[<-hK,Bool.and_eq_false_iff,decide_eq_false_iff_not,decide_eq_false_iff_not]
    omega
   rw[this];rfl
 rw[hl0]
 cases K
 ·simp(disch:=omega)
  exact qp hH (by simp[])
 cases ha:qO l.a
 ·simp(disch:=omega)
  exact qp hH (by simp[])
 cases hb:qO l.b
 ·simp(disch:=omega)
  exact qp hH (by simp[])
 cases hp:qK l.atom.pred ⟨⟨[]⟩⟩
 ·simp(disch:=omega)[hp]
  exact qp hH (by first|rfl|simp[])
 simp(disch:=omega)[hp]
 exact qp hH (by first|rfl|simp[])
theorem qtw(c:qf)(hc:c.ok2):qh 114 [wA c] (.bool (je c)):=by
 refine qh.of c114 fun H hH=>⟨Nat.le_of_ble_eq_true rfl,?_⟩
 simp(disch:=omega)[b114]
 refine(qhe c.head hc.1).go fun n hn=>?_
 cases h1:qI c.head
 ·simp(disch:=omega)
  exact qp hH (by simp[je,h1])
 by_cases h2:(5:Int)<(c.body.length:Int)
 ·simp(disch:=omega)[h2]
  exact qp hH (by simp[je,h1,show ¬c.body.length<=5 by omega])
 have h3:c.body.length<=5:=by omega
 simp(disch:=omega)[h2]
 obtain⟨A,hA⟩:∃A,c.body.all zI=A:=⟨_,rfl⟩
 refine qB (σ:=NN) (fun q=>(.nd .bot (.nd (.ptr H.next 0) .nil .nil) (.nd (.bool false) (.nd (.int q.i) .nil .nil) .nil))) (fun q=>⟨(H.next,.cells [.str c.head.pred,ql c.head.args,zA c.body])::H.objs,q.n⟩) (fun q=>c.body.length - q.i)
  (fun q=>H.next+1<=q.n/\q.i<=c.body.length/\(c.body.drop q.i).all zI=A) ⟨0,n⟩ ⟨by dsimp only;omega,Nat.zero_le _,hA⟩ (by simp[FT.Le,Wk]) ⟨HWk.refl _,fun h=>h⟩ ?_
 rintro⟨i,n⟩ ⟨hn,hi,he⟩ hok
 simp only at hn hi he
 by_cases hlt:i<c.body.length
 ·rw[qax zI hlt]at he
  simp(disch:=omega)[hlt]
  refine(qtv c.body[i] (hc.2.2 _ (yv hlt))).go fun n1 h1'=>?_
  cases ht:zI c.body[i]
  ·rw[ht,Bool.false_and]at he
   simp(disch:=omega)
   exact qp hH (by simp[je,h1,hA,<-he])
  ·rw[ht,Bool.true_and]at he
   simp(disch:=omega)[qk (show i<2^62 by omega)]
   exact⟨⟨i+1,n1⟩,by dsimp only;omega,⟨by dsimp only;omega,by dsimp only;omega,he⟩,by simp[FT.Le,Wk],HWk.refl _,fun h=>h⟩
 ·obtain rfl:i=c.body.length:=by omega
  rw[List.drop_eq_nil_of_le (Nat.le_refl _),List.all_nil]at he
  simp(disch:=omega)
  exact qp hH (by simp[je,h1,h3,hA,<-he])
def qaQ(c:qf)(t:qn):Bool:=if t.kind=3 then c.body.any (fun x=>decide (x.kind=1)&&x.atom.args.any fun u=>eqT u t) else true
theorem qlM{α:Type}(p:α->Bool){l:List α}{i:Nat}(h:i<l.length):(l.drop i).any p=(p l[i]||(l.drop (i+1)).any p):=by
 rw[List.drop_eq_getElem_cons h,List.any_cons]
theorem qtD(c:qf)(hc:c.ok)(t:qn):qh 153 [wA c,qW t] (.bool (qaQ c t)):=by
 refine qh.of c153 fun H hH=>⟨Nat.le_of_ble_eq_true rfl,?_⟩
 by_cases h3:t.kind=3
 case neg=>
  simp(disch:=omega)[b153,h3]
  exact qp hH (by simp[qaQ,h3])
 simp(disch:=omega)[b153,h3]
 obtain⟨A,hA⟩:∃A,c.body.any (fun x=>decide (x.kind=1)&&x.atom.args.any fun u=>eqT u t)=A:=⟨_,rfl⟩
 have hB:qaQ c t=A:=by rw[<-hA];simp[qaQ,h3]
 rw[hB]
 have hHe:qa.Ok ⟨(H.next+1,.cells [.int t.kind,.int t.n,.str t.s])::(H.next,.cells [.str c.head.pred,ql c.head.args,zA c.body])::H.objs,H.next+2⟩:=⟨Nat.lt_succ_self _,Nat.lt_succ_self _,hH⟩
 rw[<-h3]
 refine qB (σ:=NN) (fun q=>(.nd .bot (.nd .bot (.nd (.ptr (H.next+1) 0) .nil .nil) (.nd (.int q.i) .nil .nil)) (.nd (.ptr H.next 0) .nil .nil))) (fun q=>⟨(H.next+1,.cells [.int t.kind,.int t.n,.str t.s])::(H.next,.cells [.str c.head.pred,ql c.head.args,zA c.body])::H.objs,q.n⟩) (fun q=>c.body.length - q.i)
  (fun q=>H.next+2<=q.n/\q.i<=c.body.length/\(c.body.drop q.i).any (fun x=>decide (x.kind=1)&&x.atom.args.any fun u=>eqT u t)=A) ⟨0,H.next+2⟩ ⟨by dsimp only;omega,Nat.zero_le _,hA⟩ (by simp[FT.Le,Wk]) ⟨HWk.refl _,fun h=>h⟩ ?_
 rintro⟨i,n⟩ ⟨hn,hi,he⟩ hok
 simp only at hn hi he
 have hcl:=hc.2.1
 by_cases hlt:i<c.body.length
 case neg=>
  obtain rfl:i=c.body.length:=by omega
  rw[List.drop_eq_nil_of_le (Nat.le_refl _),List.any_nil]at he
  simp(disch:=omega)
  exact qp hH (by simp[<-he])
 rw[qlM _ hlt]at he
 by_cases hk:c.body[i].kind=1
 case neg=>
  have he2:decide (c.body[i].kind=1)=false:=by simp[hk]
  rw[he2,Bool.false_and,Bool.false_or]at he
  simp(disch:=omega)[hlt,hk,qk (show i<2^62 by omega)]
  exact⟨⟨i+1,n⟩,by dsimp only;omega,⟨by dsimp only;omega,by dsimp only;omega,he⟩,by simp[FT.Le,Wk],HWk.refl _,fun h=>h⟩
 have he2:decide (c.body[i].kind=1)=true:=by simp[hk]
 rw[he2,Bool.true_and]at he
 simp(disch:=omega)[hlt,hk]
 obtain⟨Q,hQ⟩:∃Q,c.body[i].atom.args.any (fun u=>eqT u t)=Q:=⟨_,rfl⟩
 rw[hQ]at he
 have hal:=(hc.2.2 _ (yv hlt)).2.1
 refine qB (σ:=NN) (fun q=>(.nd .bot (.nd .bot (.nd (.ptr (H.next+1) 0) .nil .nil) (.nd (.int i) .nil .nil)) (.nd (.ptr H.next 0) .nil (.nd (.int q.i) .nil .nil)))) (fun q=>⟨(H.next+1,.cells [.int t.kind,.int t.n,.str t.s])::(H.next,.cells [.str c.head.pred,ql c.head.args,zA c.body])::H.objs,q.n⟩) (fun q=>c.body[i].atom.args.length - q.i)
  (fun q=>H.next+2<=q.n/\q.i<=c.body[i].atom.args.length/\(c.body[i].atom.args.drop q.i).any (fun u=>eqT u t)=Q) ⟨0,n⟩ ⟨by dsimp only;omega,Nat.zero_le _,hQ⟩ (by simp[FT.Le,Wk]) ⟨HWk.refl _,fun h=>h⟩ ?_
 rintro⟨j,n2⟩ ⟨hn2,hj,he3⟩ hok2
 simp only at hn2 hj he3
 by_cases hlt2:j<c.body[i].atom.args.length
 case neg=>
  obtain rfl:j=c.body[i].atom.args.length:=by omega
  rw[List.drop_eq_nil_of_le (Nat.le_refl _),List.any_nil]at he3
  rw[<-he3,Bool.false_or]at he
  simp(disch:=omega)[hlt,qk (show i<2^62 by omega)]
  exact⟨⟨i+1,n2⟩,by dsimp only;omega,⟨by dsimp only;omega,by dsimp only;omega,he⟩,by simp[FT.Le,Wk],HWk.refl _,fun h=>h⟩
 rw[qlM _ hlt2]at he3
 have e1:(decide (c.body[i].atom.args[j].kind=t.kind)&&(decide (c.body[i].atom.args[j].n=t.n)&&qK c.body[i].atom.args[j].s t.s))=eqT c.body[i].atom.args[j] t:=rfl
 simp(disch:=omega)[hlt,hlt2]
 rw[e1]
 cases hq:eqT c.body[i].atom.args[j] t
 ·rw[hq,Bool.false_or]at he3
  simp(disch:=omega)[qk (show j<2^62 by omega)]
  exact⟨⟨j+1,n2⟩,by dsimp only;omega,⟨by dsimp only;omega,by dsimp only;omega,he3⟩,by simp[FT.Le,Wk],HWk.refl _,fun h=>h⟩
 ·rw[hq,Bool.true_or]at he3
  rw[<-he3,Bool.true_or]at he
  simp(disch:=omega)
  exact qp hH (by simp[<-he])
def qbc(x:Lit):List qn:=(if x.kind=2 then x.atom.args else [])++[x.a,x.b]
def qeu(c:qf):List qn:=c.head.args++c.body.flatMap qbc
def qev(c:qf):Bool:=(qeu c).all (qaQ c)
theorem qha(G:List qn):(G.map qW).all (fun e=>e.cells.length==3)=true:=by simp[LV.cells]
structure NNT where
 i:Nat
 n:Nat
 ts:List qn
theorem wK{a:qd}(h:qI a=true):a.args.length<=3/\a.args.all qO=true:=by
 unfold qI at h
 simp only[Bool.and_eq_true,decide_eq_true_eq]at h
 exact h.2
theorem wl{c:qf}(h:je c=true):qI c.head=true/\c.body.length<=5/\∀x∈c.body,zI x=true:=by
 unfold je at h
 simp only[Bool.and_eq_true,decide_eq_true_eq,List.all_eq_true]at h
 exact⟨h.1,h.2.1,h.2.2⟩
theorem qgg{x:Lit}(h:zI x=true):x.atom.args.length<=3:=by
 unfold zI at h
 split at h
 ·simp only[Bool.and_eq_true]at h;exact(wK h.1).1
 ·split at h
  ·simp only[Bool.and_eq_true,decide_eq_true_eq]at h;omega
  ·cases h
theorem qwR{x:Lit}(h:zI x=true):(qbc x).length<=5:=by
 have:=qgg h
 unfold qbc
 split<;>simp<;>omega
theorem qqb:∀{b:List Lit},(∀x∈b,zI x=true)->(b.flatMap qbc).length<=5*b.length
 |[],_=>by simp
 |x::b,h=>by
  have h1:=qwR (h x List.mem_cons_self)
  have h2:=qqb fun y hy=>h y (List.mem_cons_of_mem _ hy)
  rw[List.flatMap_cons,List.length_append,List.length_cons]
  omega
theorem quM{c:qf}(h:je c=true):(qeu c).length<=28:=by
 obtain⟨h1,h2,h3⟩:=wl h
 have h4:=(wK h1).1
 have h5:=qqb h3
 unfold qeu
 rw[List.length_append]
 omega
theorem qtn(c:qf)(hc:c.ok)(hf:je c=true):qh 115 [wA c] (.bool (qev c)):=by
 refine qh.of c115 fun H hH=>⟨Nat.le_of_ble_eq_true rfl,?_⟩
 obtain⟨hp1,hp2,hp3⟩:=wl hf
 have hha:=(wK hp1).1
 simp(disch:=omega)[b115]
 refine zF ?_
 have hcan0:c.head.args.length<=2^30:=by omega
 simp(disch:=omega)[apL,vE,qha,hcan0]
 obtain⟨L,hL⟩:∃L,qeu c=L:=⟨_,rfl⟩
 have hLl:=quM hf
 rw[hL]at hLl
 have hR:qev c=L.all (qaQ c):=by rw[<-hL];rfl
 rw[hR]
 refine qB (σ:=NNT) (fun q=>(.nd .bot (.nd (.ptr H.next 0) (.nd (.sl (q.ts.map qW) (.tok (H.next+1))) .nil .nil) .nil) (.nd (.bool false) (.nd (.int q.i) .nil .nil) .nil)))
  (fun q=>⟨(H.next+1,.tok q.ts.length 3)::(H.next,.cells [.str c.head.pred,ql c.head.args,zA c.body])::H.objs,q.n⟩) (fun q=>c.body.length - q.i)
  (fun q=>H.next+2<=q.n/\q.i<=c.body.length/\q.ts++(c.body.drop q.i).flatMap qbc=L) ⟨0,H.next+2,c.head.args⟩ ⟨Nat.le_refl _,Nat.zero_le _,by rw[<-hL];rfl⟩ (by simp[FT.Le,Wk]) ⟨HWk.refl _,fun h=>h⟩ ?_
 rintro⟨i,n,ts⟩ ⟨hn,hi,he⟩ hok
 dsimp only at hn hi he
 have htl:ts.length<=28:=by
  have:=congrArg List.length he
  rw[List.length_append]at this
  omega
 have hHe:∀m:Nat,qa.Ok ⟨(H.next+1,.tok m 3)::(H.next,.cells [.str c.head.pred,ql c.head.args,zA c.body])::H.objs,H.next+2⟩:=fun _=>⟨Nat.lt_succ_self _,Nat.lt_succ_self _,hH⟩
 by_cases hlt:i<c.body.length
 case neg=>
  obtain rfl:i=c.body.length:=by omega
  rw[List.drop_eq_nil_of_le (Nat.le_refl _),List.flatMap_nil,List.append_nil]at he
  subst he
  simp(disch:=omega)
  obtain⟨A,hA⟩:∃A,ts.all (qaQ c)=A:=⟨_,rfl⟩
  rw[hA]
  refine qB (σ:=NN) (fun q=>(.nd .bot (.nd (.ptr H.next 0) (.nd (.sl (ts.map qW) (.tok (H.next+1))) .nil .nil) (.nd (.int q.i) .nil .nil)) (.nd (.bool false) .nil .nil)))
   (fun q=>⟨(H.next+1,.tok ts.length 3)::(H.next,.cells [.str c.head.pred,ql c.head.args,zA c.body])::H.objs,q.n⟩) (fun q=>ts.length - q.i)
   (fun q=>H.next+2<=q.n/\q.i<=ts.length/\(ts.drop q.i).all (qaQ c)=A) ⟨0,n⟩ ⟨by dsimp only;omega,Nat.zero_le _,hA⟩ (by simp[FT.Le,Wk]) ⟨HWk.refl _,fun h=>h⟩ ?_
  rintro⟨j,n2⟩ ⟨hn2,hj,he2⟩ hok2
  simp only at hn2 hj he2
  by_cases hlt2:j<ts.length
  case neg=>
   obtain rfl:j=ts.length:=by omega
   rw[List.drop_eq_nil_of_le (Nat.le_refl _),List.all_nil]at he2
   simp(disch:=omega)
   exact qp hH (by simp[<-he2])
  rw[qax (qaQ c) hlt2]at he2
  simp(disch:=omega)[hlt2]
  refine(qtD c hc ts[j]).go fun n3 hn3=>?_
  cases hb:qaQ c ts[j]
  ·rw[hb,Bool.false_and]at he2
   simp(disch:=omega)
   exact qp hH (by simp[<-he2])
  ·rw[hb,Bool.true_and]at he2
   simp(disch:=omega)[qk (show j<2^62 by omega)]
   exact⟨⟨j+1,n3⟩,by dsimp only;omega,⟨by dsimp only;omega,by dsimp only;omega,he2⟩,by simp[FT.Le,Wk],HWk.refl _,fun h=>h⟩
 rw[List.drop_eq_getElem_cons hlt,List.flatMap_cons,<-List.append_assoc]at he
 have hla:=qgg (hp3 _ (yv hlt))
 by_cases hk2:c.body[i].kind=2
 ·have e2:qbc c.body[i]=c.body[i].atom.args++[c.body[i].a,c.body[i].b]:=by simp[qbc,hk2]
  rw[e2]at he
  simp(disch:=omega)[hlt,hk2]
  refine zF ?_
  have hcan:ts.length+c.body[i].atom.args.length<=2^30:=by omega
  simp(disch:=omega)[apL,vE,qha,hcan]
  refine zF ?_
  have hcan2:ts.length+(c.body[i].atom.args.length+2)<=2^30:=by omega
  have hcan3:ts.length+c.body[i].atom.args.length+2<=2^30:=by omega
  simp(disch:=omega)[apL,vE,qha,hcan2,hcan3,qk (show i<2^62 by omega),Nat.add_assoc]
  refine⟨⟨i+1,n,ts++(c.body[i].atom.args++[c.body[i].a,c.body[i].b])⟩,by dsimp only;omega,⟨by dsimp only;omega,by dsimp only;omega,he⟩,by simp[FT.Le,Wk],?_⟩
  simp only[List.length_append,List.length_cons,List.length_nil]
  simp[Nat.add_assoc,HWk.refl]
 ·have e2:qbc c.body[i]=[c.body[i].a,c.body[i].b]:=by simp[qbc,hk2]
  rw[e2]at he
  simp(disch:=omega)[hlt,hk2]
  refine zF ?_
  have hcan:ts.length+2<=2^30:=by omega
  simp(disch:=omega)[apL,vE,qha,hcan,qk (show i<2^62 by omega)]
  refine⟨⟨i+1,n,ts++[c.body[i].a,c.body[i].b]⟩,by dsimp only;omega,⟨by dsimp only;omega,by dsimp only;omega,he⟩,by simp[FT.Le,Wk],?_⟩
  simp only[List.length_append,List.length_cons,List.length_nil]
  simp[HWk.refl]
def qbW:List qf->Nat->Int×Int
 |[],_=>(0,0)
 |c::r,i=>if je c=false then (7,(i:Int)) else if qev c=false then (80,(i:Int)) else qbW r (i+1)
def qcV(l:List qf):Int×Int:=if 40<l.length then (2,0) else qbW l 0
theorem qhf(l:List qf)(hc:l.length<=40->∀c∈l,qf.ok3 c):qh 74 [qz l] (.tup [.int (qcV l).1,.int (qcV l).2]):=by
 refine qh.of c74 fun H hH=>⟨Nat.le_of_ble_eq_true rfl,?_⟩
 by_cases h1:(40:Int)<(l.length:Int)
 ·simp(disch:=omega)[b74,h1]
  exact qp hH (by simp[qcV,show 40<l.length by omega])
 have hc:=hc (by omega)
 simp(disch:=omega)[b74,h1]
 obtain⟨R,hR⟩:∃R,qbW l 0=R:=⟨_,rfl⟩
 have hB:qcV l=R:=by rw[<-hR];unfold qcV;rw[if_neg (by omega)]
 rw[hB]
 refine qB (σ:=NN) (fun q=>(.nd (qz l) (.nd .bot (.nd (.int 0) .nil .nil) .nil) (.nd (.int 0) (.nd (.int q.i) .nil .nil) .nil))) (fun q=>⟨H.objs,q.n⟩) (fun q=>l.length - q.i)
  (fun q=>H.next<=q.n/\q.i<=l.length/\qbW (l.drop q.i) q.i=R) ⟨0,H.next⟩ ⟨Nat.le_refl _,Nat.zero_le _,hR⟩ (by simp[FT.Le,Wk]) ⟨HWk.refl _,fun h=>h⟩ ?_
 rintro⟨i,n⟩ ⟨hn,hi,he⟩ hok
 simp only at hn hi he
 by_cases hlt:i<l.length
 ·rw[List.drop_eq_getElem_cons hlt]at he
  simp(disch:=omega)[hlt]
  refine(qtw l[i] (hc _ (yv hlt)).1).go fun n1 h1'=>?_
  cases hf:je l[i]
  ·simp only[qbW,hf,if_true]at he
   simp(disch:=omega)
   exact qp hH (by simp[<-he])
  simp(disch:=omega)[hlt]
  refine(qtn l[i] (hc _ (yv hlt)).2 hf).go fun n2 h2'=>?_
  cases hs:qev l[i]
  ·simp[qbW,hf,hs]at he
   simp(disch:=omega)
   exact qp hH (by simp[<-he])
  simp[qbW,hf,hs]at he
  simp(disch:=omega)[qk (show i<2^62 by omega)]
  exact⟨⟨i+1,n2⟩,by dsimp only;omega,⟨by dsimp only;omega,by dsimp only;omega,he⟩,by simp[FT.Le,Wk],zJ hH⟩
 ·obtain rfl:i=l.length:=by omega
  rw[List.drop_eq_nil_of_le (Nat.le_refl _)]at he
  simp only[qbW]at he
  simp(disch:=omega)
  exact qp hH (by simp[<-he])
end Go.Abs.Tz
namespace Go.Abs.Tz
open Go Go.Abs Go.Proofs
theorem qye{a b:qn}(h:a=b):eqT a b=true:=by
 subst h
 simp[eqT,wH]
theorem qii{v:ByteArray}{S:List ByteArray}:wy v S=true↔v∈S:=by
 unfold wy
 rw[List.any_eq_true]
 exact⟨fun⟨x,h1,h2⟩=>by rw[wH.1 h2];exact h1,fun h=>⟨v,h,wH.2 rfl⟩⟩
theorem qwF{v k:ByteArray}{S:List ByteArray}:v∈qbL k S↔v∈S\/v=k:=by
 unfold qbL
 split
 ·rename_i h
  have:=qii.1 h
  exact⟨.inl,fun h=>h.elim id fun e=>e▸this⟩
 ·rw[List.mem_append,List.mem_singleton]
def qcI(ts:List qn)(v:ByteArray):Prop:=∃t∈ts,t.kind=3/\t.s=v
theorem qeG{v:ByteArray}:∀{ts:List qn}{S:List ByteArray},v∈vG ts S↔v∈S\/qcI ts v
 |[],S=>by simp[vG,qcI]
 |t::ts,S=>by
  have ih:=qeG (v:=v) (ts:=ts) (S:=qgO t S)
  simp only[vG]
  rw[ih]
  unfold qgO qcI
  by_cases hk:t.kind=3
  ·rw[if_pos hk,qwF]
   constructor
   ·rintro((h|h)|⟨u,h1,h2⟩)
    ·exact .inl h
    ·exact .inr ⟨t,List.mem_cons_self,hk,h.symm⟩
    ·exact .inr ⟨u,List.mem_cons_of_mem _ h1,h2⟩
   ·rintro(h|⟨u,h1,h2,h3⟩)
    ·exact .inl (.inl h)
    ·rcases List.mem_cons.1 h1 with rfl|h1
     ·exact .inl (.inr h3.symm)
     ·exact .inr ⟨u,h1,h2,h3⟩
  ·rw[if_neg hk]
   constructor
   ·rintro(h|⟨u,h1,h2⟩)
    ·exact .inl h
    ·exact .inr ⟨u,List.mem_cons_of_mem _ h1,h2⟩
   ·rintro(h|⟨u,h1,h2,h3⟩)
    ·exact .inl h
    ·rcases List.mem_cons.1 h1 with rfl|h1
     ·exact absurd h2 hk
     ·exact .inr ⟨u,h1,h2,h3⟩
theorem qhZ{v:ByteArray}:∀{b:List Lit}{q:List ByteArray×List ByteArray},v∈(wU b q).1↔v∈q.1\/∃x∈b,x.kind=1/\qcI x.atom.args v
 |[],q=>by simp[wU]
 |x::b,q=>by
  have ih:=qhZ (v:=v) (b:=b) (q:=qcc x q)
  simp only[wU]
  rw[ih]
  have e:v∈(qcc x q).1↔v∈q.1\/(x.kind=1/\qcI x.atom.args v):=by
   unfold qcc
   by_cases h1:x.kind=1
   ·rw[if_pos h1];dsimp only;rw[qeG]
    exact⟨fun h=>h.imp id fun h=>⟨h1,h⟩,fun h=>h.imp id fun h=>h.2⟩
   ·rw[if_neg h1]
    have:∀a b:List ByteArray×List ByteArray,(if x.kind=2 then (q.1,a.1) else (q.1,b.1)).1=q.1:=fun _ _=>by split<;>rfl
    split<;>exact⟨.inl,fun h=>h.elim id fun h=>absurd h.1 h1⟩
  rw[e]
  constructor
  ·rintro((h|h)|⟨y,h1,h2⟩)
   ·exact .inl h
   ·exact .inr ⟨x,List.mem_cons_self,h⟩
   ·exact .inr ⟨y,List.mem_cons_of_mem _ h1,h2⟩
  ·rintro(h|⟨y,h1,h2⟩)
   ·exact .inl (.inl h)
   ·rcases List.mem_cons.1 h1 with rfl|h1
    ·exact .inl (.inr h2)
    ·exact .inr ⟨y,h1,h2⟩
theorem qgf{v:ByteArray}:∀{b:List Lit}{q:List ByteArray×List ByteArray},v∈(wU b q).2↔v∈q.2\/∃x∈b,¬x.kind=1/\qcI (if x.kind=2 then x.atom.args else [x.a,x.b]) v
 |[],q=>by simp[wU]
 |x::b,q=>by
  have ih:=qgf (v:=v) (b:=b) (q:=qcc x q)
  simp only[wU]
  rw[ih]
  have e:v∈(qcc x q).2↔v∈q.2\/(¬x.kind=1/\qcI (if x.kind=2 then x.atom.args else [x.a,x.b]) v):=by
   unfold qcc
   by_cases h1:x.kind=1
   ·rw[if_pos h1]
    exact⟨.inl,fun h=>h.elim id fun h=>absurd h1 h.1⟩
   ·rw[if_neg h1]
    by_cases h2:x.kind=2
    ·rw[if_pos h2,if_pos h2];dsimp only;rw[qeG]
     exact⟨fun h=>h.imp id fun h=>⟨h1,h⟩,fun h=>h.imp id fun h=>h.2⟩
    ·rw[if_neg h2,if_neg h2];dsimp only;rw[qeG]
     exact⟨fun h=>h.imp id fun h=>⟨h1,h⟩,fun h=>h.imp id fun h=>h.2⟩
  rw[e]
  constructor
  ·rintro((h|h)|⟨y,h1,h2⟩)
   ·exact .inl h
   ·exact .inr ⟨x,List.mem_cons_self,h⟩
   ·exact .inr ⟨y,List.mem_cons_of_mem _ h1,h2⟩
  ·rintro(h|⟨y,h1,h2⟩)
   ·exact .inl (.inl h)
   ·rcases List.mem_cons.1 h1 with rfl|h1
    ·exact .inl (.inr h2)
    ·exact .inr ⟨y,h1,h2⟩
theorem qmi{t:qn}(h:qO t=true)(hk:t.kind=3):t.n=0:=by
 unfold qO at h
 rw[if_neg (by omega),if_neg (by omega),if_pos hk]at h
 simp only[Bool.and_eq_true,decide_eq_true_eq]at h
 exact h.1
theorem qlZ{t:qn}(h:qbP t=true):t.kind=0:=by
 unfold qbP at h
 simp only[Bool.and_eq_true,decide_eq_true_eq]at h
 exact h.1
theorem qkF{x:Lit}(h:zI x=true):((x.kind=1\/x.kind=2)->x.atom.args.all qO=true/\x.a.kind=0/\x.b.kind=0)/\(¬(x.kind=1\/x.kind=2)->qO x.a=true/\qO x.b=true):=by
 unfold zI at h
 refine⟨fun hk=>?_,fun hk=>?_⟩
 ·rw[if_pos hk]at h
  simp only[Bool.and_eq_true]at h
  exact⟨(wK h.1).2,qlZ h.2.1,qlZ h.2.2⟩
 ·rw[if_neg hk]at h
  split at h
  ·simp only[Bool.and_eq_true]at h;exact⟨h.1,h.2.1⟩
  ·cases h
theorem quL{c:qf}(h:je c=true):qev c=qaZ c:=by
 obtain⟨h1,h2,h3⟩:=wl h
 have hb:∀(t:qn),t.kind=3->qO t=true->(qaQ c t=true↔∃x∈c.body,x.kind=1/\qcI x.atom.args t.s):=by
  intro t hk ht
  unfold qaQ
  rw[if_pos hk,List.any_eq_true]
  constructor
  ·rintro⟨x,hx,hy⟩
   simp only[Bool.and_eq_true,decide_eq_true_eq,List.any_eq_true]at hy
   obtain⟨hy1,u,hu,he⟩:=hy
   rw[qgv he]at hu
   exact⟨x,hx,hy1,t,hu,hk,rfl⟩
  ·rintro⟨x,hx,hy,u,hu,hu3,hus⟩
   refine⟨x,hx,?_⟩
   simp only[Bool.and_eq_true,decide_eq_true_eq,List.any_eq_true]
   refine⟨hy,u,hu,qye ?_⟩
   have hua:=List.all_eq_true.1 ((qkF (h3 x hx)).1 (.inl hy)).1 u hu
   obtain⟨k,n,s⟩:=u
   obtain⟨k',n',s'⟩:=t
   have e1:=qmi hua hu3
   have e2:=qmi ht hk
   simp only at hk hu3 hus e1 e2
   subst hk;subst hu3;subst hus;subst e1;subst e2
   rfl
 have hterms:∀t∈qeu c,t.kind=3->qO t=true:=by
  intro t ht hk
  rcases List.mem_append.1 ht with ht|ht
  ·exact List.all_eq_true.1 (wK h1).2 t ht
  ·obtain⟨x,hx,ht⟩:=List.mem_flatMap.1 ht
   obtain⟨g1,g2⟩:=qkF (h3 x hx)
   unfold qbc at ht
   by_cases h12:x.kind=1\/x.kind=2
   ·obtain⟨g3,g4,g5⟩:=g1 h12
    rcases List.mem_append.1 ht with ht|ht
    ·split at ht
     ·exact List.all_eq_true.1 g3 t ht
     ·cases ht
    ·simp only[List.mem_cons,List.not_mem_nil,or_false]at ht
     rcases ht with rfl|rfl<;>omega
   ·obtain⟨g3,g4⟩:=g2 h12
    rw[if_neg fun e=>h12 (.inr e)]at ht
    simp only[List.nil_append,List.mem_cons,List.not_mem_nil,or_false]at ht
    rcases ht with rfl|rfl
    ·exact g3
    ·exact g4
 have hask:∀v,v∈(wU c.body ([],vG c.head.args [])).2↔qcI (qeu c) v:=by
  intro v
  rw[qgf]
  dsimp only
  rw[qeG]
  constructor
  ·rintro((h|⟨t,ht,hv⟩)|⟨x,hx,hk,t,ht,hv⟩)
   ·cases h
   ·exact⟨t,List.mem_append_left _ ht,hv⟩
   ·refine⟨t,List.mem_append_right _ (List.mem_flatMap.2 ⟨x,hx,?_⟩),hv⟩
    unfold qbc
    by_cases h2:x.kind=2
    ·rw[if_pos h2]at ht ⊢;exact List.mem_append_left _ ht
    ·rw[if_neg h2]at ht;exact List.mem_append_right _ ht
  ·rintro⟨t,ht,hv⟩
   rcases List.mem_append.1 ht with ht|ht
   ·exact .inl (.inr ⟨t,ht,hv⟩)
   ·obtain⟨x,hx,ht⟩:=List.mem_flatMap.1 ht
    obtain⟨g1,g2⟩:=qkF (h3 x hx)
    unfold qbc at ht
    by_cases h12:x.kind=1\/x.kind=2
    ·obtain⟨g3,g4,g5⟩:=g1 h12
     rcases List.mem_append.1 ht with ht|ht
     ·split at ht
      ·rename_i h2
       exact .inr ⟨x,hx,by omega,t,by rw[if_pos h2];exact ht,hv⟩
      ·cases ht
     ·simp only[List.mem_cons,List.not_mem_nil,or_false]at ht
      rcases ht with rfl|rfl<;>omega
    ·rw[if_neg fun e=>h12 (.inr e),List.nil_append]at ht
     exact .inr ⟨x,hx,fun e=>h12 (.inl e),t,by rw[if_neg fun e=>h12 (.inr e)];exact ht,hv⟩
 rw[Bool.eq_iff_iff]
 unfold qev qaZ
 rw[List.all_eq_true,List.all_eq_true]
 constructor
 ·intro hs v hv
  obtain⟨t,ht,hk,rfl⟩:=(hask v).1 hv
  rw[qii,qhZ]
  exact .inr ((hb t hk (hterms t ht hk)).1 (hs t ht))
 ·intro hs t ht
  by_cases hk:t.kind=3
  ·rw[hb t hk (hterms t ht hk)]
   have:=hs t.s ((hask t.s).2 ⟨t,ht,hk,rfl⟩)
   rw[qii,qhZ]at this
   exact this.resolve_left (by simp)
  ·unfold qaQ;rw[if_neg hk]
theorem qyV(l:List qf):qcV l=qQ l:=by
 have go:∀(l:List qf)(i:Nat),qbW l i=qas l i:=by
  intro l
  induction l with
  |nil=>intro i;rfl
  |cons c l ih=>
   intro i
   simp only[qbW,qas,ih]
   by_cases hf:je c=false
   ·rw[if_pos hf,if_pos hf]
   ·rw[if_neg hf,if_neg hf,quL (by simpa using hf)]
 unfold qcV qQ
 rw[go]
end Go.Abs.Tz
namespace Go.Abs.Tz
section
variable{K:Type}[DecidableEq K]
abbrev wN(K:Type):=K×K×Nat
def qaX(f:K->Nat)(e:wN K):K->Nat:=fun k=>if k=e.1 then max (f k) (f e.2.1+e.2.2) else f k
def vy(E:List (wN K))(f:K->Nat):K->Nat:=E.foldl qaX f
def jf(E:List (wN K))(g:K->Nat):Prop:=∀e∈E,g e.2.1+e.2.2<=g e.1
theorem qmB(f:K->Nat)(e:wN K)(k:K):f k<=qaX f e k:=by
 unfold qaX;split<;>omega
theorem qoA:∀(E:List (wN K))(f:K->Nat)(k:K),f k<=vy E f k
 |[],_,_=>Nat.le_refl _
 |e::E,f,k=>Nat.le_trans (qmB f e k) (qoA E (qaX f e) k)
theorem qdG:∀{E:List (wN K)}{f g:K->Nat},jf E g->(∀k,f k<=g k)->∀k,vy E f k<=g k
 |[],_,_,_,h,k=>h k
 |e::E,f,g,hs,h,k=>by
  refine qdG (E:=E) (fun e' he=>hs e' (List.mem_cons_of_mem _ he)) (fun k=>?_) k
  have h1:=hs e List.mem_cons_self
  have h2:=h e.2.1
  have h3:=h k
  unfold qaX
  split
  ·rename_i hk;subst hk;omega
  ·exact h3
theorem qkp:∀{E:List (wN K)}{f:K->Nat}{e:wN K},e∈E->f e.2.1+e.2.2<=vy E f e.1
 |a::E,f,e,h=>by
  rcases List.mem_cons.1 h with rfl|h
  ·refine Nat.le_trans ?_ (qoA E (qaX f e) e.1)
   unfold qaX;rw[if_pos rfl];omega
  ·have:=qkp (f:=qaX f a) h
   have h2:=qmB f a e.2.1
   show _<=vy E (qaX f a) e.1
   omega
theorem quG{E:List (wN K)}{f:K->Nat}(h:∀e∈E,vy E f e.1=f e.1):jf E f:=fun e he=>by rw[<-h e he];exact qkp he
def vu(V:List K)(f:K->Nat):Nat:=(V.map f).sum
omit [DecidableEq K] in
theorem qnp{V:List K}{f g:K->Nat}(h:∀k∈V,f k<=g k):vu V f<=vu V g:=by
 induction V with
 |nil=>exact Nat.le_refl _
 |cons a V ih=>
  have h1:=h a List.mem_cons_self
  have h2:=ih fun k hk=>h k (List.mem_cons_of_mem _ hk)
  simp only[vu,List.map_cons,List.sum_cons]at h2 ⊢
  omega
omit [DecidableEq K] in
theorem qhk{V:List K}{f g:K->Nat}(h:∀k∈V,f k<=g k){v:K}(hv:v∈V)(hlt:f v<g v):vu V f<vu V g:=by
 induction V with
 |nil=>cases hv
 |cons a V ih=>
  have h1:=h a List.mem_cons_self
  have h2:=qnp (V:=V) fun k hk=>h k (List.mem_cons_of_mem _ hk)
  simp only[vu,List.map_cons,List.sum_cons]at h2 ⊢
  rcases List.mem_cons.1 hv with rfl|hv
  ·omega
  ·have h3:=ih (fun k hk=>h k (List.mem_cons_of_mem _ hk)) hv
   simp only[vu]at h3
   omega
omit [DecidableEq K] in
theorem qkL{E:List (wN K)}(V:List K){g:K->Nat}(hg:jf E g):∃F,jf E F/\∀g',jf E g'->vu V F<=vu V g':=by
 obtain⟨n,hn⟩:∃n,vu V g=n:=⟨_,rfl⟩
 induction n using Nat.strongRecOn generalizing g with
 |_ n ih=>
  by_cases h:∃g',jf E g'/\vu V g'<n
  ·obtain⟨g',h1,h2⟩:=h
   exact ih _ h2 h1 rfl
  ·refine⟨g,hg,fun g' h1=>?_⟩
   rcases Nat.lt_or_ge (vu V g') n with h2|h2
   ·exact absurd ⟨g',h1,h2⟩ h
   ·omega
theorem qvF{E:List (wN K)}{V:List K}{F f:K->Nat}(hF:jf E F)(hmin:∀g',jf E g'->vu V F<=vu V g')(hV:∀e∈E,e.1∈V/\e.2.1∈V)(hf:∀k,f k<=F k)
  {v:K} (hv:v∈V) (hne:f v≠F v):∃u∈V,f u≠F u/\vy E f u=F u:=by
 have hall:∃e∈E,f e.1≠F e.1/\f e.2.1=F e.2.1/\F e.2.1+e.2.2=F e.1:=by
  apply Classical.byContradiction
  intro hno
  have hs:jf E fun k=>if f k=F k then F k else F k - 1:=by
   intro e he
   have h1:=hF e he
   have h2:=hf e.1
   show (if f e.2.1=F e.2.1 then F e.2.1 else F e.2.1 - 1)+e.2.2<=if f e.1=F e.1 then F e.1 else F e.1 - 1
   by_cases ha:f e.1=F e.1
   ·rw[if_pos ha]
    split<;>omega
   ·rw[if_neg ha]
    by_cases hb:f e.2.1=F e.2.1
    ·rw[if_pos hb]
     have:F e.2.1+e.2.2≠F e.1:=fun hq=>hno ⟨e,he,ha,hb,hq⟩
     omega
    ·rw[if_neg hb]
     have:=hf e.2.1
     omega
  have h1:=hmin _ hs
  have h2:=qhk (V:=V) (f:=fun k=>if f k=F k then F k else F k - 1) (g:=F) (fun k _=>by split<;>omega) hv (by
   have:=hf v
   rw[if_neg hne];omega)
  omega
 obtain⟨e,he,h1,h2,h3⟩:=hall
 refine⟨e.1,(hV e he).1,h1,?_⟩
 have h4:=qkp (f:=f) he
 have h5:=qdG hF hf e.1
 omega
omit [DecidableEq K] in
theorem qxU{V:List K}{p q:K->Bool}(h:∀k∈V,q k=true->p k=true){u:K}(hu:u∈V)(hp:p u=true)(hq:q u=false):(V.filter q).length<(V.filter p).length:=by
 have hle:∀W:List K,(∀k∈W,q k=true->p k=true)->(W.filter q).length<=(W.filter p).length:=by
  intro W
  induction W with
  |nil=>intro _;exact Nat.le_refl _
  |cons a W ih=>
   intro hW
   have h1:=ih fun k hk=>hW k (List.mem_cons_of_mem _ hk)
   have h2:=hW a List.mem_cons_self
   simp only[List.filter_cons]
   cases hqa:q a<;>cases hpa:p a<;>simp_all
   omega
 induction V with
 |nil=>cases hu
 |cons a V ih=>
  have h2:=h a List.mem_cons_self
  have h3:=hle V fun k hk=>h k (List.mem_cons_of_mem _ hk)
  simp only[List.filter_cons]
  rcases List.mem_cons.1 hu with rfl|hu
  ·simp[hp,hq];omega
  ·have h1:=ih (fun k hk=>h k (List.mem_cons_of_mem _ hk)) hu
   cases hqa:q a<;>cases hpa:p a<;>simp_all
   omega
omit [DecidableEq K] in
theorem qic{E:List (wN K)}{V:List K}{F:K->Nat}(hF:jf E F)(hmin:∀g',jf E g'->vu V F<=vu V g')(hV:∀e∈E,e.1∈V/\e.2.1∈V)(hw:∀e∈E,e.2.2<=1){v:K}(hv:v∈V):F v<V.length:=by
 have gap:∀m,(∃v∈V,F v=m+1)->∃v∈V,F v=m:=by
  rintro m ⟨v,hv,hm⟩
  apply Classical.byContradiction
  intro hno
  have hs:jf E fun k=>if m<F k then F k - 1 else F k:=by
   intro e he
   have h1:=hF e he
   have hw1:=hw e he
   have hb:F e.2.1≠m:=fun hq=>hno ⟨_,(hV e he).2,hq⟩
   show (if m<F e.2.1 then F e.2.1 - 1 else F e.2.1)+e.2.2<=if m<F e.1 then F e.1 - 1 else F e.1
   split<;>split<;>omega
  have h1:=hmin _ hs
  have h2:=qhk (V:=V) (f:=fun k=>if m<F k then F k - 1 else F k) (g:=F) (fun k _=>by split<;>omega) hv (by rw[if_pos (by omega)];omega)
  omega
 have down:∀j m,(∃v∈V,F v=m+j)->∃v∈V,F v=m:=by
  intro j
  induction j with
  |zero=>exact fun m h=>h
  |succ j ih=>exact fun m h=>ih m (gap (m+j) h)
 have all:∀m,m<=F v->m∈V.map F:=fun m hm=>by
  obtain⟨u,hu,he⟩:=down (F v - m) m ⟨v,hv,by omega⟩
  exact List.mem_map.2 ⟨u,hu,he⟩
 have cover:∀(n:Nat)(L:List Nat),(∀m,m<n->m∈L)->n<=L.length:=by
  intro n
  induction n with
  |zero=>exact fun _ _=>Nat.zero_le _
  |succ n ih=>
   intro L hL
   have hn:=hL n (Nat.lt_succ_self _)
   have h1:=ih (L.erase n) fun m hm=>(List.mem_erase_of_ne (by omega)).2 (hL m (by omega))
   have h2:=List.length_erase_of_mem hn
   have h3:=List.length_pos_of_mem hn
   omega
 have:=cover (F v+1) (V.map F) fun m hm=>all m (by omega)
 rw[List.length_map]at this
 omega
end
end Go.Abs.Tz
namespace Go.Abs.Tz
open Go Go.Abs Go.Proofs
abbrev PK:=ByteArray×Int
abbrev uz(k:PK):LV:=.agg [.str k.1,.int k.2]
abbrev za(m:List (PK×Int)):List (LV×LV):=m.map fun e=>(uz e.1,LV.int e.2)
def vD(a b:PK):Bool:=qK a.1 b.1&&decide (a.2=b.2)
theorem vC{a b:PK}:vD a b=true↔a=b:=by
 obtain⟨p,n⟩:=a
 obtain⟨q,m⟩:=b
 have h:qK p q=true↔p=q:=by
  constructor
  ·intro h
   unfold qK at h
   rw[ByteArray.toList_eq,ByteArray.toList_eq]at h
   have h1:=eq_of_beq h
   obtain⟨⟨x⟩⟩:=p
   obtain⟨⟨y⟩⟩:=q
   simp at h1
   rw[h1]
  ·rintro rfl;simp[qK]
 simp[vD,h]
theorem qeY(a b:PK):eqK (.st [1,0]) (uz a) (uz b)=some (vD a b):=by
 simp[eqK,eqL,zE,uA,vD]
def zn(k:PK)(v:Int):List (PK×Int)->List (PK×Int)
 |[]=>[(k,v)]
 |(j,u)::r=>if vD k j then (j,v)::r else (j,u)::zn k v r
def vQ(k:PK):List (PK×Int)->Option Int
 |[]=>none
 |(j,u)::r=>if vD k j then some u else vQ k r
theorem qnF(k:PK)(v:Int):∀m:List (PK×Int),vL (.st [1,0]) (uz k) (LV.int v) (za m)=some (za (zn k v m))
 |[]=>rfl
 |(j,u)::r=>by
  have ih:=qnF k v r
  show (match eqK (.st [1,0]) (uz k) (uz j) with
   |some true=>some ((uz j,LV.int v)::za r)
   |some false=>(vL (.st [1,0]) (uz k) (LV.int v) (za r)).map ((uz j,LV.int u)::·)
   |none=>none)=_
  rw[qeY]
  cases h:vD k j
  ·simp only[ih,zn,h];rfl
  ·simp only[zn,h];rfl
theorem qqi(k:PK):∀m:List (PK×Int),yH (.st [1,0]) (uz k) (za m)=some ((vQ k m).map LV.int)
 |[]=>rfl
 |(j,u)::r=>by
  have ih:=qqi k r
  show (match eqK (.st [1,0]) (uz k) (uz j) with
   |some true=>some (some (LV.int u))
   |some false=>yH (.st [1,0]) (uz k) (za r)
   |none=>none)=_
  rw[qeY]
  cases h:vD k j
  ·simp only[ih,vQ,h];rfl
  ·simp only[vQ,h];rfl
def qA(m:List (PK×Int)):List PK:=m.map (·.1)
def qo(m:List (PK×Int))(k:PK):Int:=(vQ k m).getD 0
theorem qoD(k j:PK)(v:Int):∀m:List (PK×Int),vQ j (zn k v m)=if j=k then some v else vQ j m
 |[]=>by
  simp only[zn,vQ]
  by_cases h:j=k
  ·rw[if_pos (vC.2 h),if_pos h]
  ·rw[if_neg (fun e=>h (vC.1 e)),if_neg h]
 |(i,u)::r=>by
  have ih:=qoD k j v r
  simp only[zn]
  by_cases hk:vD k i=true
  ·rw[if_pos hk]
   obtain rfl:=vC.1 hk
   simp only[vQ]
   by_cases hj:j=k
   ·rw[if_pos (vC.2 hj),if_pos hj]
   ·rw[if_neg (fun e=>hj (vC.1 e)),if_neg hj,if_neg (fun e=>hj (vC.1 e))]
  ·rw[if_neg hk]
   simp only[vQ]
   by_cases hj:vD j i=true
   ·rw[if_pos hj,if_pos hj]
    obtain rfl:=vC.1 hj
    rw[if_neg (fun e=>hk (vC.2 e.symm))]
   ·rw[if_neg hj,if_neg hj,ih]
theorem qlL{k:PK}{l:List PK}:l.any (vD k)=true↔k∈l:=by
 rw[List.any_eq_true]
 constructor
 ·rintro⟨x,h1,h2⟩;rw[vC.1 h2];exact h1
 ·intro h;exact⟨k,h,vC.2 rfl⟩
theorem qeC(k:PK)(v:Int):∀m:List (PK×Int),qA (zn k v m)=if (qA m).any (vD k) then qA m else qA m++[k]
 |[]=>by simp[zn,qA]
 |(i,u)::r=>by
  have ih:=qeC k v r
  simp only[zn]
  have e2:qA ((i,u)::r)=i::qA r:=rfl
  by_cases hk:vD k i=true
  ·rw[if_pos hk,e2,List.any_cons,hk,Bool.true_or,if_pos rfl]
   rfl
  ·rw[if_neg hk]
   have hf:vD k i=false:=by simpa using hk
   have e1:qA ((i,u)::zn k v r)=i::qA (zn k v r):=rfl
   rw[e1,e2,ih,List.any_cons,hf,Bool.false_or]
   split<;>rfl
end Go.Abs.Tz
namespace Go.Abs.Tz
open Go Go.Abs Go.Proofs
set_option maxRecDepth 20000
set_option linter.unusedSimpArgs false
attribute [local simp ↓] yC yB jT jS yf uO zu zG jR uB vl vm yD yF yG yE jY j6 j9 jZ ga gc j7 j8 j0 jW jU jX jV vj vh vk vi yy yw yz yx yK yI yJ jj z8 ge zw zU yi vn vo yN yP yO yL yM yZ gh gq gv gp gt gu g7 g6 gC gE jB jy jM jP jz jH jL jK jJ jI jF ju jv jw jx jN jD jE jq jO jQ jA jC jG jr gI gD gY ya gF gS gW gV gU gT gO gz g0 gM gN gw g9 yb gG gK gQ gx yd g8 gy yc gL gH gJ gA gZ gi gk gj yT yW yS yU yV qq uG
attribute [local simp] faL fdL iaL ixL qS zm ze eqK eqL qX zE uA yQ vg y5 y7 y9 vc ve vf y6 vb y8 vd zM LV.cells LV.whole qq uQ gg gf stL zN ui uI qa.alloc yg ye yh yu yt yr yq yp yo yn ym yk yj qe uD
def ofA(a:qd):PK:=(a.pred,a.args.length)
def wF(m:List (PK×Int))(x:Lit):List (PK×Int):=if decide (x.kind=1)||decide (x.kind=2) then zn (ofA x.atom) 0 m else m
def jc(m:List (PK×Int))(c:qf):List (PK×Int):=c.body.foldl wF (zn (ofA c.head) 0 m)
theorem muP{o:Nat}{m:List (PK×Int)}{ob:List (Nat×qc)}{nx:Nat}(hl:look o ob=some (.map (za m)))(k:PK)(v:Int):
  muL ⟨ob,nx⟩ (.st [1,0]) (.map o) (uz k) (LV.int v)=some ⟨qy o (.map (za (zn k v m))) ob,nx⟩:=by
 have hs:eqK (.st [1,0]) (uz k) (uz k)=some true:=by rw[qeY,vC.2 rfl]
 have h2:=qnF k v m
 simp only[muL,hl]
 rw[hs,h2]
 rfl
structure NNP where
 i:Nat
 n:Nat
 m:List (PK×Int)
def i77:qr:=match w8.body with
 |.seq _ (.seq _ (.seq x _))=>x
 |_=>.bad
theorem qtR(l:List qf)(hl:l.length<2^40)(hb:∀c∈l,c.body.length<2^40)(o:Nat)(m0:List (PK×Int))(ob:List (Nat×qc))(nx:Nat)(ho:look o ob=some (.map (za m0))):
  lP E0 F0 i77 (.nd (qz l) (.nd .bot (.nd (.bool false) .nil .nil) .nil) (.nd (.sc (.map none)) (.nd (.map o) .nil .nil) .nil)) ⟨ob,nx⟩ (fun e t' H'=>e=.normal/\FT.Le (.nd (qz l) (.nd .bot (.nd (.bool false) .nil .nil) .nil) (.nd (.sc (.map none)) (.nd (.map o) .nil .nil) .nil)) t'/\∃n,nx<=n/\HWk H' ⟨qy o (.map (za (l.foldl jc m0))) ob,n⟩/\(H'.Ok->qa.Ok ⟨qy o (.map (za (l.foldl jc m0))) ob,n⟩)):=by
 refine ur ?_
 simp(disch:=omega)[i77,w8]
 obtain⟨R,hR⟩:∃R,l.foldl jc m0=R:=⟨_,rfl⟩
 rw[hR]
 refine qB (σ:=NNP) (fun q=>(.nd (qz l) (.nd .bot (.nd (.bool false) .nil (.nd .bot (.nd (.int q.i) .nil .nil) .nil)) (.nd .bot (.nd .bot (.nd (qz l) .nil .nil) .nil) .nil)) (.nd (.sc (.map none)) (.nd (.map o) .nil .nil) (.nd .bot (.nd .bot (.nd (.int l.length) .nil .nil) .nil) .nil)))) (fun q=>⟨qy o (.map (za q.m)) ob,q.n⟩) (fun q=>l.length - q.i)
  (fun q=>nx<=q.n/\q.i<=l.length/\(l.drop q.i).foldl jc q.m=R) ⟨0,nx,m0⟩ ⟨Nat.le_refl _,Nat.zero_le _,hR⟩ (by simp[FT.Le,Wk]) ?_ ?_
 ·dsimp only;rw[qfN ho];exact⟨HWk.refl _,fun h=>h⟩
 rintro⟨i,n,m⟩ ⟨hn,hi,he⟩ hok
 dsimp only at hn hi he hok
 by_cases hlt:i<l.length
 case neg=>
  rw[List.drop_eq_nil_of_le (by omega)]at he
  simp only[List.foldl_nil]at he
  subst he
  simp(disch:=omega)[hlt]
  exact⟨by simp[FT.Le,Wk],n,hn,HWk.refl _,fun h=>h⟩
 rw[List.drop_eq_getElem_cons hlt,List.foldl_cons]at he
 have hon:o<n:=by
  have h2:qa.Ok ⟨qy o (.map (za m)) ob,n⟩:=hok
  exact h2.look (jl ho)
 have hself:∀k:PK,eqK (.st [1,0]) (uz k) (uz k)=some true:=fun k=>by rw[qeY,vC.2 rfl]
 simp(disch:=omega)[hlt]
 refine(qbR l[i].head).go fun n1 h1=>?_
 simp(disch:=omega)
 have hmu:=muP (nx:=n1) (ob:=(n,.cells [.str l[i].head.pred,ql l[i].head.args,zA l[i].body])::qy o (.map (za m)) ob) (o:=o) (m:=m) (by rw[qe (by omega)];exact jl ho) (ofA l[i].head) 0
 rw[show muL ⟨(n,.cells [.str l[i].head.pred,ql l[i].head.args,zA l[i].body])::qy o (.map (za m)) ob,n1⟩ (.st [1,0]) (.map o) (.agg [.str l[i].head.pred,.int l[i].head.args.length]) (Z 0)=_ from hmu]
 simp(disch:=omega)[qbY]
 have hHe:∀m':List (PK×Int),qa.Ok ⟨qy o (.map (za m')) ob,n⟩:=fun m'=>by
  have:=qx.put (i:=o) (o:=.map (za m')) (show qx (qy o (.map (za m)) ob) n from hok)
  rwa [qbY]at this
 obtain⟨W,hW⟩:∃W,jc m l[i]=W:=⟨_,rfl⟩
 rw[hW]at he
 have hbl:=hb _ (yv hlt)
 refine qB (σ:=NNP) (fun q=>(.nd (qz l) (.nd .bot (.nd (.bool false) .nil (.nd .bot (.nd (.int i) .nil .nil) .nil)) (.nd .bot (.nd .bot (.nd (qz l) .nil .nil) .nil) (.nd .bot .nil (.nd (.int l[i].body.length) .nil .nil)))) (.nd (.sc (.map none)) (.nd (.map o) .nil (.nd .bot .nil (.nd (zA l[i].body) .nil .nil))) (.nd .bot (.nd .bot (.nd (.int l.length) .nil .nil) .nil) (.nd .bot .nil (.nd (.int q.i) .nil .nil)))))) (fun q=>⟨qy o (.map (za q.m)) ob,q.n⟩) (fun q=>l[i].body.length - q.i)
  (fun q=>n<=q.n/\q.i<=l[i].body.length/\(l[i].body.drop q.i).foldl wF q.m=W) ⟨0,n1,zn (ofA l[i].head) 0 m⟩ ⟨by dsimp only;omega,Nat.zero_le _,hW⟩ (by simp[FT.Le,Wk]) (zo (hHe _) (by first|exact qi.refl' _|(repeat (first|exact qi.refl (by first|omega|(dsimp only;omega))|refine qi.cons' (hHe _) (by first|omega|(dsimp only;omega)) (by first|omega|(dsimp only;omega)) ?_)))) ?_
 rintro⟨j,n2,m2⟩ ⟨hn2,hj,he2⟩ hok2
 dsimp only at hn2 hj he2 hok2
 by_cases hlt2:j<l[i].body.length
 case neg=>
  rw[List.drop_eq_nil_of_le (by omega)]at he2
  simp only[List.foldl_nil]at he2
  subst he2
  simp(disch:=omega)[hlt2,qk (show i<2^62 by omega)]
  exact⟨⟨i+1,n2,m2⟩,by dsimp only;omega,⟨by dsimp only;omega,by dsimp only;omega,he⟩,by simp[FT.Le,Wk],HWk.refl _,fun h=>h⟩
 rw[List.drop_eq_getElem_cons hlt2,List.foldl_cons]at he2
 have step:∀k:Int,l[i].body[j].kind=k->k=1\/k=2->(l[i].body.drop (j+1)).foldl wF (zn (ofA l[i].body[j].atom) 0 m2)=W:=by
  intro k hk h12
  rw[<-he2]
  congr 1
  unfold wF
  rcases h12 with rfl|rfl<;>simp[hk]
 by_cases h12:l[i].body[j].kind=1\/l[i].body[j].kind=2
 ·rcases h12 with hk|hk
  all_goals
   simp(disch:=omega)[hlt2,hk]
   refine(qbR l[i].body[j].atom).go fun n3 h3=>?_
   simp(disch:=omega)
   have hmu:∀x:qc,muL ⟨(n2,x)::qy o (.map (za m2)) ob,n3⟩ (.st [1,0]) (.map o) (.agg [.str l[i].body[j].atom.pred,.int l[i].body[j].atom.args.length]) (Z 0)=some ⟨qy o (.map (za (zn (ofA l[i].body[j].atom) 0 m2))) ((n2,x)::qy o (.map (za m2)) ob),n3⟩:=
    fun x=>muP (by rw[qe (by omega)];exact jl ho) (ofA l[i].body[j].atom) 0
   rw[hmu]
   simp(disch:=omega)[qbY,qk (show j<2^62 by omega)]
   exact⟨⟨j+1,n3,zn (ofA l[i].body[j].atom) 0 m2⟩,by dsimp only;omega,⟨by dsimp only;omega,by dsimp only;omega,step _ hk (by omega)⟩,by simp[FT.Le,Wk],zo (hHe _) (by first|exact qi.refl' _|(repeat (first|exact qi.refl (by first|omega|(dsimp only;omega))|refine qi.cons' (hHe _) (by first|omega|(dsimp only;omega)) (by first|omega|(dsimp only;omega)) ?_)))⟩
 ·have h1':¬l[i].body[j].kind=1:=fun e=>h12 (.inl e)
  have h2':¬l[i].body[j].kind=2:=fun e=>h12 (.inr e)
  simp(disch:=omega)[hlt2,h1',h2',qk (show j<2^62 by omega)]
  refine⟨⟨j+1,n2+1,m2⟩,by dsimp only;omega,⟨by dsimp only;omega,by dsimp only;omega,?_⟩,by simp[FT.Le,Wk],zo (hHe _) (by first|exact qi.refl' _|(repeat (first|exact qi.refl (by first|omega|(dsimp only;omega))|refine qi.cons' (hHe _) (by first|omega|(dsimp only;omega)) (by first|omega|(dsimp only;omega)) ?_)))⟩
  rw[<-he2]
  simp[wF,h1',h2']
theorem lkP{o:Nat}{m:List (PK×Int)}{ob:List (Nat×qc)}{nx:Nat}(hl:look o ob=some (.map (za m)))(k:PK):
  lkL ⟨ob,nx⟩ (.st [1,0]) false (Z 0) (.map o) (uz k)=some (LV.int (qo m k)):=by
 have hs:eqK (.st [1,0]) (uz k) (uz k)=some true:=by rw[qeY,vC.2 rfl]
 have h2:=qqi k m
 unfold lkL
 rw[hs]
 simp only[Option.isSome_some,if_true,hl]
 rw[h2]
 unfold qo
 cases vQ k m<;>rfl
def vz(m:List (PK×Int))(x:Lit):Int:=if x.kind=1 then qo m (ofA x.atom) else if x.kind=2 then qo m (ofA x.atom)+1 else -1
def zB(h:PK)(s:List (PK×Int)×Bool)(x:Lit):List (PK×Int)×Bool:=if qo s.1 h<vz s.1 x then (zn h (vz s.1 x) s.1,true) else s
def z7(s:List (PK×Int)×Bool)(c:qf):List (PK×Int)×Bool:=c.body.foldl (zB (ofA c.head)) s
def qai:List qf->List (PK×Int)×Bool->Option (List (PK×Int)×Bool)
 |[],s=>some s
 |c::r,s=>if ((z7 s c).1.length:Int)<qo (z7 s c).1 (ofA c.head) then none else qai r (z7 s c)
def jm(l:List qf):Nat->List (PK×Int)->Option (Option (List (PK×Int)))
 |0,_=>none
 |n+1,m=>match qai l (m,false) with
  |none=>some none
  |some (m',true)=>jm l n m'
  |some (m',false)=>some (some m')
def InP(m:List (PK×Int))(N:Int):Prop:=∀k,0<=qo m k/\qo m k<=N
theorem qcu(k j:PK)(v:Int)(m:List (PK×Int)):qo (zn k v m) j=if j=k then v else qo m j:=by
 unfold qo
 rw[qoD]
 split<;>rfl
theorem qvI{k:PK}{v:Int}{m:List (PK×Int)}(h:k∈qA m):qA (zn k v m)=qA m:=by
 rw[qeC,if_pos (qlL.2 h)]
theorem qwN{m:List (PK×Int)}{N:Int}(h:InP m N)(x:Lit):vz m x<=N+1:=by
 have h1:=h (ofA x.atom)
 unfold vz
 repeat' split
 all_goals omega
theorem qkG{h:PK}{s:List (PK×Int)×Bool}{x:Lit}(hk:h∈qA s.1):qA (zB h s x).1=qA s.1:=by
 unfold zB
 split
 ·exact qvI hk
 ·rfl
theorem qwU{h:PK}{s:List (PK×Int)×Bool}{x:Lit}{N:Int}(hk:InP s.1 N):InP (zB h s x).1 (N+1):=by
 intro k
 have h1:=hk k
 have h2:=qwN hk x
 have h3:=hk h
 unfold zB
 split
 ·dsimp only
  rw[qcu]
  split<;>omega
 ·omega
def InQ(h:PK)(m:List (PK×Int))(N M:Int):Prop:=∀k,0<=qo m k/\(k≠h->qo m k<=N)/\qo m k<=M
theorem qwT{h:PK}{s:List (PK×Int)×Bool}{x:Lit}{N M:Int}(hk:InQ h s.1 N M):InQ h (zB h s x).1 N (M+1):=by
 intro k
 have h1:=hk k
 have h3:=hk h
 have h2:vz s.1 x<=M+1:=by
  have:=hk (ofA x.atom)
  unfold vz
  repeat' split
  all_goals omega
 unfold zB
 split
 ·dsimp only
  rw[qcu]
  split
  ·rename_i e;subst e;exact⟨by omega,fun h=>absurd rfl h,by omega⟩
  ·exact⟨h1.1,h1.2.1,by omega⟩
 ·exact⟨h1.1,h1.2.1,by omega⟩
structure NNQ where
 i:Nat
 n:Nat
 m:List (PK×Int)
 ch:Bool
structure NNW where
 f:Nat
 n:Nat
 m:List (PK×Int)
 ch:Bool
def w77:qr:=match w8.body with
 |.seq _ (.seq _ (.seq _ (.seq x _)))=>x
 |_=>.bad
theorem vV(m:List (PK×Int)):(qA m).length=m.length:=List.length_map ..
def okR(o:Nat)(ob:List (Nat×qc))(nx:Nat)(R:Option (List (PK×Int))):XP:=fun e t' H'=>∃(n:Nat)(m1:List (PK×Int)),nx<=n/\HWk H' ⟨qy o (.map (za m1)) ob,n⟩/\(H'.Ok->qa.Ok ⟨qy o (.map (za m1)) ob,n⟩) /\
 ((R=none/\e=.ret/\FT.Le (.nd .bot (.nd .bot (.nd (.bool false) .nil .nil) .nil) (.nd (.sc (.map none)) .nil .nil)) t')\/(R=some m1/\e=.normal/\FT.Le (.nd .bot .nil (.nd .bot (.nd (.map o) .nil .nil) .nil)) t'))
theorem qtd(l:List qf)(hl:l.length<2^40)(hb:∀c∈l,c.body.length<2^40)(V:List PK)(hN:V.length<2^40)(hh:∀c∈l,ofA c.head∈V)(m0:List (PK×Int))(hk0:qA m0=V)(hi0:InP m0 V.length)(fuel:Nat)(R:Option (List (PK×Int)))(hR:jm l fuel m0=some R)
  (o:Nat) (x0:qc) (ob:List (Nat×qc)) (nx:Nat) (ho:look o ob=some x0):
  lP E0 F0 w77 (.nd (qz l) (.nd .bot (.nd (.bool false) .nil .nil) .nil) (.nd (.sc (.map none)) (.nd (.map o) .nil .nil) .nil)) ⟨qy o (.map (za m0)) ob,nx⟩ (okR o ob nx R):=by
 refine ur ?_
 simp(disch:=omega)[w77,w8]
 refine qB (σ:=NNW) (fun q=>(.nd (qz l) (.nd .bot (.nd (.bool false) .nil .nil) (.nd .bot (.nd (.bool q.ch) .nil .nil) .nil)) (.nd (.sc (.map none)) (.nd (.map o) .nil .nil) .nil))) (fun q=>⟨qy o (.map (za q.m)) ob,q.n⟩) (fun q=>if q.ch then q.f+1 else 0)
  (fun q=>nx<=q.n/\qA q.m=V/\InP q.m V.length/\(q.ch=true->jm l q.f q.m=some R)/\(q.ch=false->R=some q.m)) ⟨fuel,nx,m0,true⟩ ⟨Nat.le_refl _,hk0,hi0,fun _=>hR,fun h=>(by cases h)⟩ (by simp[FT.Le,Wk]) ⟨HWk.refl _,fun h=>h⟩ ?_
 rintro⟨f,n,m,ch⟩ ⟨hn,hk,hin,h1,h2⟩ hok
 dsimp only at hn hk hin h1 h2 hok
 cases ch
 ·simp(disch:=omega)
  exact⟨n,m,hn,HWk.refl _,fun h=>h,.inr ⟨h2 rfl,rfl,by simp[FT.Le,Wk]⟩⟩
 have h1:=h1 rfl
 cases f with
 |zero=>cases h1
 |succ f=>
 simp only[jm]at h1
 obtain⟨Q,hQ⟩:∃Q,qai l (m,false)=Q:=⟨_,rfl⟩
 rw[hQ]at h1
 simp(disch:=omega)
 refine qB (σ:=NNQ) (fun q=>(.nd (qz l) (.nd .bot (.nd (.bool false) .nil (.nd .bot (.nd .bot .nil (.nd (.int q.i) .nil .nil)) .nil)) (.nd .bot (.nd (.bool q.ch) (.nd .bot .nil (.nd (qz l) .nil .nil)) .nil) .nil)) (.nd (.sc (.map none)) (.nd (.map o) .nil .nil) (.nd .bot (.nd .bot (.nd .bot .nil (.nd (.int l.length) .nil .nil)) .nil) .nil)))) (fun q=>⟨qy o (.map (za q.m)) ob,q.n⟩) (fun q=>l.length - q.i)
  (fun q=>n<=q.n/\q.i<=l.length/\qA q.m=V/\InP q.m V.length/\qai (l.drop q.i) (q.m,q.ch)=Q) ⟨0,n,m,false⟩ ⟨Nat.le_refl _,Nat.zero_le _,hk,hin,hQ⟩ (by simp[FT.Le,Wk]) ⟨HWk.refl _,fun h=>h⟩ ?_
 rintro⟨i,n2,m2,ch2⟩ ⟨hn2,hi,hk2,hin2,he⟩ hok2
 dsimp only at hn2 hi hk2 hin2 he hok2
 by_cases hlt:i<l.length
 case neg=>
  rw[List.drop_eq_nil_of_le (by omega)]at he
  simp only[qai]at he
  subst he
  simp(disch:=omega)[hlt]
  cases ch2
  ·simp only[Option.some.injEq]at h1
   exact⟨⟨f,n2,m2,false⟩,by simp,⟨by dsimp only;omega,hk2,hin2,fun h=>(by cases h),fun _=>h1.symm⟩,by simp[FT.Le,Wk],HWk.refl _,fun h=>h⟩
  ·exact⟨⟨f,n2,m2,true⟩,by simp,⟨by dsimp only;omega,hk2,hin2,fun _=>h1,fun h=>(by cases h)⟩,by simp[FT.Le,Wk],HWk.refl _,fun h=>h⟩
 rw[List.drop_eq_getElem_cons hlt]at he
 simp only[qai]at he
 have hon:o<n2:=by
  have h2:qa.Ok ⟨qy o (.map (za m2)) ob,n2⟩:=hok2
  exact h2.look (jl ho)
 have hHe:∀m':List (PK×Int),qa.Ok ⟨qy o (.map (za m')) ob,n2⟩:=fun m'=>by
  have:=qx.put (i:=o) (o:=.map (za m')) (show qx (qy o (.map (za m2)) ob) n2 from hok2)
  rwa [qbY]at this
 have hbl:=hb _ (yv hlt)
 have hhd:=hh _ (yv hlt)
 have hself:∀k:PK,eqK (.st [1,0]) (uz k) (uz k)=some true:=fun k=>by rw[qeY,vC.2 rfl]
 simp(disch:=omega)[hlt]
 refine(qbR l[i].head).x (qea _) ?_
 simp(disch:=omega)
 obtain⟨W,hW⟩:∃W,z7 (m2,ch2) l[i]=W:=⟨_,rfl⟩
 rw[hW]at he
 have hok3:∀m':List (PK×Int),qa.Ok ⟨(n2+1,.cells [.str l[i].head.pred,.int l[i].head.args.length])::(n2,.cells [.str l[i].head.pred,ql l[i].head.args,zA l[i].body])::qy o (.map (za m')) ob,n2+1+1⟩:=fun m'=>⟨Nat.lt_succ_self _,Nat.lt_succ_self _,hHe m'⟩
 refine qB (σ:=NNQ) (fun q=>(.nd (qz l) (.nd .bot (.nd (.bool false) .nil (.nd .bot (.nd .bot .nil (.nd (.int i) .nil .nil)) (.nd .bot .nil (.nd (zA l[i].body) .nil .nil)))) (.nd .bot (.nd (.bool q.ch) (.nd .bot .nil (.nd (qz l) .nil .nil)) .nil) (.nd .bot .nil (.nd .bot .nil (.nd (.int q.i) .nil .nil))))) (.nd (.sc (.map none)) (.nd (.map o) .nil (.nd (.ptr (n2+1) 0) .nil (.nd .bot .nil (.nd (.int l[i].body.length) .nil .nil)))) (.nd .bot (.nd .bot (.nd .bot .nil (.nd (.int l.length) .nil .nil)) .nil) .nil))))
  (fun q=>⟨(n2+1,.cells [.str l[i].head.pred,.int l[i].head.args.length])::(n2,.cells [.str l[i].head.pred,ql l[i].head.args,zA l[i].body])::qy o (.map (za q.m)) ob,q.n⟩) (fun q=>l[i].body.length - q.i)
  (fun q=>n2+1+1<=q.n/\q.i<=l[i].body.length/\qA q.m=V/\InQ (ofA l[i].head) q.m V.length (V.length+q.i)/\(l[i].body.drop q.i).foldl (zB (ofA l[i].head)) (q.m,q.ch)=W) ⟨0,n2+1+1,m2,ch2⟩
  ⟨Nat.le_refl _,Nat.zero_le _,hk2,fun k=>⟨(hin2 k).1,fun _=>(hin2 k).2,by have:=(hin2 k).2;dsimp only;omega⟩,hW⟩ (by simp[FT.Le,Wk]) ⟨HWk.refl _,fun h=>h⟩ ?_
 rintro⟨j,n3,m3,ch3⟩ ⟨hn3,hj,hk3,hin3,he3⟩ hok4
 dsimp only at hn3 hj hk3 hin3 he3 hok4
 have hlo:look o (qy o (.map (za m3)) ob)=some (.map (za m3)):=jl ho
 have hlk:∀(a:qd)(n:Nat)(r:List (Nat×qc)),look o r=some (.map (za m3))->lkL ⟨r,n⟩ (.st [1,0]) false (Z 0) (.map o) (.agg [.str a.pred,.int a.args.length])=some (LV.int (qo m3 (ofA a))):=
  fun a n r hr=>lkP hr (ofA a)
 have hln:m3.length=V.length:=by rw[<-hk3,vV]
 by_cases hlt2:j<l[i].body.length
 case neg=>
  rw[List.drop_eq_nil_of_le (by omega)]at he3
  simp only[List.foldl_nil]at he3
  subst he3
  dsimp only at he
  rw[hln]at he
  simp(disch:=omega)[hlt2]
  rw[hlk _ _ _ (by rw[qe (by omega),qe (by omega)];exact hlo)]
  simp(disch:=omega)[hlo,hln]
  by_cases hgt:(V.length:Int)<qo m3 (ofA l[i].head)
  ·rw[if_pos hgt]at he
   subst he
   simp only[Option.some.injEq]at h1
   simp(disch:=omega)[hgt]
   have hbk:=zo (hHe m3) (l:=(n2+1,.cells [.str l[i].head.pred,.int l[i].head.args.length])::(n2,.cells [.str l[i].head.pred,ql l[i].head.args,zA l[i].body])::qy o (.map (za m3)) ob) (n:=n3) (by first|exact qi.refl' _|(repeat (first|exact qi.refl (by first|omega|(dsimp only;omega))|refine qi.cons' (hHe _) (by first|omega|(dsimp only;omega)) (by first|omega|(dsimp only;omega)) ?_)))
   exact⟨n3,m3,by omega,hbk.1,hbk.2,.inl ⟨h1.symm,rfl,by simp[FT.Le,Wk]⟩⟩
  ·rw[if_neg hgt]at he
   simp(disch:=omega)[hgt,qk (show i<2^62 by omega)]
   refine⟨⟨i+1,n3,m3,ch3⟩,by dsimp only;omega,⟨by dsimp only;omega,by dsimp only;omega,hk3,fun k=>⟨(hin3 k).1,?_⟩,he⟩,by simp[FT.Le,Wk],zo (hHe m3) (by first|exact qi.refl' _|(repeat (first|exact qi.refl (by first|omega|(dsimp only;omega))|refine qi.cons' (hHe _) (by first|omega|(dsimp only;omega)) (by first|omega|(dsimp only;omega)) ?_)))⟩
   by_cases hkh:k=ofA l[i].head
   ·rw[hkh];dsimp only;omega
   ·exact(hin3 k).2.1 hkh
 rw[List.drop_eq_getElem_cons hlt2,List.foldl_cons]at he3
 have hpv:∀k:PK,0<=qo m3 k/\qo m3 k<2^42:=fun k=>⟨(hin3 k).1,by have:=(hin3 k).2.2;omega⟩
 have hmu:∀(v:Int)(n:Nat)(r:List (Nat×qc)),look o r=some (.map (za m3))->muL ⟨r,n⟩ (.st [1,0]) (.map o) (.agg [.str l[i].head.pred,.int l[i].head.args.length]) (LV.int v)=some ⟨qy o (.map (za (zn (ofA l[i].head) v m3))) r,n⟩:=
  fun v n r hr=>muP hr (ofA l[i].head) v
 have hinS:=qwT (h:=ofA l[i].head) (s:=(m3,ch3)) (x:=l[i].body[j]) hin3
 have hkS:=qkG (h:=ofA l[i].head) (s:=(m3,ch3)) (x:=l[i].body[j]) (by dsimp only;rw[hk3];exact hhd)
 dsimp only at hinS hkS
 rw[hk3]at hkS
 have hc:(V.length:Int)+(j:Int)+1=V.length+((j+1:Nat):Int):=by omega
 rw[hc]at hinS
 obtain⟨v,hv⟩:∃v,vz m3 l[i].body[j]=v:=⟨_,rfl⟩
 have hst:zB (ofA l[i].head) (m3,ch3) l[i].body[j]=if qo m3 (ofA l[i].head)<v then (zn (ofA l[i].head) v m3,true) else (m3,ch3):=by
  unfold zB;dsimp only;rw[hv]
 have hokN:∀m':List (PK×Int),qa.Ok ⟨(n2+1,.cells [.str l[i].head.pred,.int l[i].head.args.length])::(n2,.cells [.str l[i].head.pred,ql l[i].head.args,zA l[i].body])::qy o (.map (za m')) ob,n3⟩:=fun m'=>⟨by show n2+1<n3;omega,Nat.lt_succ_self _,hHe m'⟩
 by_cases hk1:l[i].body[j].kind=1
 ·have hv':qo m3 (ofA l[i].body[j].atom)=v:=by rw[<-hv];simp[vz,hk1]
  simp(disch:=omega)[hlt2,hk1]
  refine(qbR l[i].body[j].atom).x (qea _) ?_
  simp(disch:=omega)
  rw[hlk _ _ _ (by rw[qe (by omega),qe (by omega),qe (by omega)];exact hlo)]
  simp(disch:=omega)
  rw[hv']
  rw[hlk _ _ _ (by repeat (first|exact hlo|rw[qe (by omega)]))]
  simp(disch:=omega)
  by_cases hlt3:qo m3 (ofA l[i].head)<v
  ·rw[if_pos hlt3]at hst
   rw[hst]at hinS hkS he3
   simp(disch:=omega)[hlt3]
   rw[hmu _ _ _ (by repeat (first|exact hlo|rw[qe (by omega)]))]
   simp(disch:=omega)[qbY,qk (show j<2^62 by omega)]
   exact⟨⟨j+1,n3+1,zn (ofA l[i].head) v m3,true⟩,by dsimp only;omega,⟨by dsimp only;omega,by dsimp only;omega,hkS,hinS,he3⟩,by simp[FT.Le,Wk],zo (hokN _) (by first|exact qi.refl' _|(repeat (first|exact qi.refl (by first|omega|(dsimp only;omega))|refine qi.cons' (hokN _) (by first|omega|(dsimp only;omega)) (by first|omega|(dsimp only;omega)) ?_)))⟩
  ·rw[if_neg hlt3]at hst
   rw[hst]at hinS hkS he3
   simp(disch:=omega)[hlt3,qk (show j<2^62 by omega)]
   exact⟨⟨j+1,n3+1,m3,ch3⟩,by dsimp only;omega,⟨by dsimp only;omega,by dsimp only;omega,hkS,hinS,he3⟩,by simp[FT.Le,Wk],zo (hokN _) (by first|exact qi.refl' _|(repeat (first|exact qi.refl (by first|omega|(dsimp only;omega))|refine qi.cons' (hokN _) (by first|omega|(dsimp only;omega)) (by first|omega|(dsimp only;omega)) ?_)))⟩
 by_cases hk2':l[i].body[j].kind=2
 ·have hv':qo m3 (ofA l[i].body[j].atom)+1=v:=by rw[<-hv];simp[vz,hk2']
  have hpo:=hpv (ofA l[i].body[j].atom)
  simp(disch:=omega)[hlt2,hk1,hk2']
  refine(qbR l[i].body[j].atom).x (qea _) ?_
  simp(disch:=omega)
  rw[hlk _ _ _ (by rw[qe (by omega),qe (by omega),qe (by omega)];exact hlo)]
  simp(disch:=omega)[hv',uM]
  rw[hlk _ _ _ (by repeat (first|exact hlo|rw[qe (by omega)]))]
  simp(disch:=omega)
  by_cases hlt3:qo m3 (ofA l[i].head)<v
  ·rw[if_pos hlt3]at hst
   rw[hst]at hinS hkS he3
   simp(disch:=omega)[hlt3]
   rw[hmu _ _ _ (by repeat (first|exact hlo|rw[qe (by omega)]))]
   simp(disch:=omega)[qbY,qk (show j<2^62 by omega)]
   exact⟨⟨j+1,n3+1,zn (ofA l[i].head) v m3,true⟩,by dsimp only;omega,⟨by dsimp only;omega,by dsimp only;omega,hkS,hinS,he3⟩,by simp[FT.Le,Wk],zo (hokN _) (by first|exact qi.refl' _|(repeat (first|exact qi.refl (by first|omega|(dsimp only;omega))|refine qi.cons' (hokN _) (by first|omega|(dsimp only;omega)) (by first|omega|(dsimp only;omega)) ?_)))⟩
  ·rw[if_neg hlt3]at hst
   rw[hst]at hinS hkS he3
   simp(disch:=omega)[hlt3,qk (show j<2^62 by omega)]
   exact⟨⟨j+1,n3+1,m3,ch3⟩,by dsimp only;omega,⟨by dsimp only;omega,by dsimp only;omega,hkS,hinS,he3⟩,by simp[FT.Le,Wk],zo (hokN _) (by first|exact qi.refl' _|(repeat (first|exact qi.refl (by first|omega|(dsimp only;omega))|refine qi.cons' (hokN _) (by first|omega|(dsimp only;omega)) (by first|omega|(dsimp only;omega)) ?_)))⟩
 ·have hv':v=-1:=by rw[<-hv];simp[vz,hk1,hk2']
  simp(disch:=omega)[hlt2,hk1,hk2',uM]
  rw[hlk _ _ _ (by repeat (first|exact hlo|rw[qe (by omega)]))]
  have hlt3:¬qo m3 (ofA l[i].head) < -1:=by have:=(hpv (ofA l[i].head)).1;omega
  rw[if_neg (by rw[hv'];exact hlt3)]at hst
  rw[hst]at hinS hkS he3
  simp(disch:=omega)[hlt3,qk (show j<2^62 by omega)]
  exact⟨⟨j+1,n3+1,m3,ch3⟩,by dsimp only;omega,⟨by dsimp only;omega,by dsimp only;omega,hkS,hinS,he3⟩,by simp[FT.Le,Wk],zo (hokN _) (by first|exact qi.refl' _|(repeat (first|exact qi.refl (by first|omega|(dsimp only;omega))|refine qi.cons' (hokN _) (by first|omega|(dsimp only;omega)) (by first|omega|(dsimp only;omega)) ?_)))⟩
end Go.Abs.Tz
namespace Go.Abs
open Go
section
variable{E:Env}{F:Fns}
theorem qgl{c:qr}{t:FT}{H:qa}{k k':XP}(h:lP E F c t H k)(hk:∀e t' H',k e t' H'->k' e t' H'):lP E F c t H k':=
 fun hH=>.mono (h hH) fun r hr=>by
  obtain⟨e,t',H',h1,h2,h3⟩:=hr
  exact⟨e,t',H',h1,h2,hk _ _ _ h3⟩
theorem vB{a b:qr}{t:FT}{H:qa}{k:XP}(h:lP E F a t H (qdz (fun t' H'=>lP E F b t' H' k) k)):lP E F (.seq a b) t H k:=by
 intro hH
 refine .seq (h hH) (fun fr df H' hT=>?_) (fun e fr df H' hT hne=>?_)
 ·obtain⟨e,t',H'',he,hok,hk⟩:=hT
  cases he
  exact hk hok
 ·obtain⟨e',t',H'',he,hok,hk⟩:=hT
  cases he
  cases e with
  |normal=>exact absurd rfl hne
  |exit n=>exact⟨_,t',H',rfl,hok,hk⟩
  |ret=>exact⟨_,t',H',rfl,hok,hk⟩
  |pan v=>exact⟨_,t',H',rfl,hok,hk⟩
theorem qgk{c:qr}{t:FT}{H:qa}{k:XP}(h:H.Ok->lP E F c t H k):lP E F c t H k:=fun hH=>h hH hH
theorem qfi{b:BFn}{f:FuncId}{args:List LV}{H:qa}{kv kp:HP}(hf:F.fn f b)(hn:args.length<=b.n)
  (h:H.Ok->qdk args 0 .nil fun t=>lP E F b.body t H (qeW E b (fun v H'=>∃H'',HWk H' H''/\(H'.Ok->H''.Ok)/\kv v H'') kp)):cP E F f args H kv kp:=by
 intro hH
 obtain⟨t,h1,h2⟩:=qgN (h hH)
 have ht:t.get=zz args:=by
  funext j
  rw[h2 j]
  simp only[zz]
  by_cases hj:j<args.length
  ·rw[if_pos (by omega)];simp
  ·rw[if_neg (by omega)]
   have:args[j]? = none:=List.getElem?_eq_none (by omega)
   simp[List.getD_eq_getElem?_getD,this,FT.get_nil]
 have hb:=h1 hH
 rw[ht]at hb
 refine .enter hf hn hb (fun fr df H' hT=>?_) (fun v fr df H' hT=>?_) (fun n fr df H' hT=>?_)
 ·have:∃(t':FT),fr=t'.get/\df=[]/\H'.Ok/\vU E b.res t' H' fun v=>∃H'',HWk H' H''/\(H'.Ok->H''.Ok)/\kv v H'':=by
   rcases hT with⟨e,t',H'',he,hok,hk⟩|⟨e,t',H'',he,hok,hk⟩<;>cases he
   ·exact⟨t',rfl,rfl,hok,hk⟩
   ·exact⟨t',rfl,rfl,hok,hk⟩
  obtain⟨t',rfl,rfl,hok,v,hv,H1,h3,h4,h5⟩:=this
  exact⟨rfl,v,v,H1,hv,.inl rfl,h3,.inl ⟨v,H1,rfl,h4 hok,h5⟩⟩
 ·obtain⟨e,t',H'',he,hok,hk⟩:=hT
  cases he
  exact⟨rfl,v,H',.inl rfl,⟨Nat.le_refl _,fun _ _ h=>h⟩,.inr ⟨v,H',rfl,hok,hk⟩⟩
 ·obtain⟨e,t',H'',he,hok,hk⟩:=hT
  cases he
  cases hk
end
end Go.Abs
namespace Go.Abs.Tz
open Go Go.Abs Go.Proofs
set_option maxRecDepth 20000
set_option linter.unusedSimpArgs false
attribute [local simp ↓] yC yB jT jS yf uO zu zG jR uB vl vm yD yF yG yE jY j6 j9 jZ ga gc j7 j8 j0 jW jU jX jV vj vh vk vi yy yw yz yx yK yI yJ jj z8 ge zw zU yi vn vo yN yP yO yL yM yZ gh gq gv gp gt gu g7 g6 gC gE jB jy jM jP jz jH jL jK jJ jI jF ju jv jw jx jN jD jE jq jO jQ jA jC jG jr gI gD gY ya gF gS gW gV gU gT gO gz g0 gM gN gw g9 yb gG gK gQ gx yd g8 gy yc gL gH gJ gA gZ gi gk gj yT yW yS yU yV qq uG
attribute [local simp] faL fdL iaL ixL qS zm ze eqK eqL qX zE uA yQ vg y5 y7 y9 vc ve vf y6 vb y8 vd zM LV.cells LV.whole qq uQ gg gf stL zN ui uI qa.alloc yg ye yh yu yt yr yq yp yo yn ym yk yj qe uD
theorem qoN{k j:PK}{v:Int}{m:List (PK×Int)}:j∈qA (zn k v m)↔j=k\/j∈qA m:=by
 rw[qeC]
 split
 ·rename_i h
  have:=qlL.1 h
  constructor
  ·exact .inr
  ·rintro(rfl|h)
   ·exact this
   ·exact h
 ·rw[List.mem_append,List.mem_singleton]
  exact⟨fun h=>h.symm,fun h=>h.symm⟩
theorem qoJ{k:PK}{v:Int}{m:List (PK×Int)}(h:(qA m).Nodup):(qA (zn k v m)).Nodup:=by
 rw[qeC]
 split
 ·exact h
 ·rename_i hn
  refine List.nodup_append.2 ⟨h,by simp,fun a ha b hb=>?_⟩
  rw[List.mem_singleton.1 hb]
  rintro rfl
  exact hn (qlL.2 ha)
def vx(c:qf):List PK:=ofA c.head::(c.body.filter fun x=>decide (x.kind=1)||decide (x.kind=2)).map fun x=>ofA x.atom
theorem qxu(b:List Lit):∀m:List (PK×Int),(∀k,qo m k=0)->(∀k,qo (b.foldl wF m) k=0)/\((qA m).Nodup->(qA (b.foldl wF m)).Nodup) /\
  (∀k,k∈qA (b.foldl wF m)↔k∈qA m\/k∈(b.filter fun x=>decide (x.kind=1)||decide (x.kind=2)).map fun x=>ofA x.atom)/\(b.foldl wF m).length<=m.length+b.length:=by
 induction b with
 |nil=>intro m h;exact⟨h,id,fun k=>by simp,Nat.le_refl _⟩
 |cons x b ih=>
  intro m h
  rw[List.foldl_cons,List.filter_cons]
  have hx:∀k,qo (wF m x) k=0:=by
   intro k
   unfold wF
   split
   ·rw[qcu];split
    ·rfl
    ·exact h k
   ·exact h k
  have hlen:(wF m x).length<=m.length+1:=by
   unfold wF
   split
   ·have:=congrArg List.length (qeC (ofA x.atom) 0 m)
    rw[vV]at this
    rw[this]
    split
    ·rw[vV];omega
    ·simp[vV]
   ·omega
  obtain⟨a1,a2,a3,a4⟩:=ih (wF m x) hx
  refine⟨a1,fun hn=>a2 ?_,fun k=>?_,by simp only[List.length_cons];omega⟩
  ·unfold wF;split
   ·exact qoJ hn
   ·exact hn
  ·rw[a3]
   unfold wF
   split
   ·rename_i hc
    rw[qoN]
    simp only[List.map_cons,List.mem_cons]
    constructor
    ·rintro((h|h)|h)
     ·exact .inr (.inl h)
     ·exact .inl h
     ·exact .inr (.inr h)
    ·rintro(h|h|h)
     ·exact .inl (.inr h)
     ·exact .inl (.inl h)
     ·exact .inr h
   ·rfl
theorem qkT(l:List qf):∀m:List (PK×Int),(∀k,qo m k=0)->(∀k,qo (l.foldl jc m) k=0)/\((qA m).Nodup->(qA (l.foldl jc m)).Nodup) /\
  (∀k,k∈qA (l.foldl jc m)↔k∈qA m\/∃c∈l,k∈vx c)/\(l.foldl jc m).length<=m.length+(l.map fun c=>c.body.length+1).sum:=by
 induction l with
 |nil=>intro m h;exact⟨h,id,fun k=>by simp,Nat.le_refl _⟩
 |cons c l ih=>
  intro m h
  rw[List.foldl_cons]
  have h0:∀k,qo (zn (ofA c.head) 0 m) k=0:=fun k=>by
   rw[qcu];split
   ·rfl
   ·exact h k
  have hlen0:(zn (ofA c.head) 0 m).length<=m.length+1:=by
   have:=congrArg List.length (qeC (ofA c.head) 0 m)
   rw[vV]at this
   rw[this]
   split
   ·rw[vV];omega
   ·simp[vV]
  obtain⟨b1,b2,b3,b4⟩:=qxu c.body (zn (ofA c.head) 0 m) h0
  obtain⟨a1,a2,a3,a4⟩:=ih (jc m c) b1
  refine⟨a1,fun hn=>a2 (b2 (qoJ hn)),fun k=>?_,?_⟩
  ·rw[a3]
   unfold jc
   rw[b3,qoN]
   have hp:k∈vx c↔k=ofA c.head\/k∈(c.body.filter fun x=>decide (x.kind=1)||decide (x.kind=2)).map fun x=>ofA x.atom:=by unfold vx;exact List.mem_cons
   constructor
   ·rintro(((h|h)|h)|⟨c',hc,h⟩)
    ·exact .inr ⟨c,List.mem_cons_self,hp.2 (.inl h)⟩
    ·exact .inl h
    ·exact .inr ⟨c,List.mem_cons_self,hp.2 (.inr h)⟩
    ·exact .inr ⟨c',List.mem_cons_of_mem _ hc,h⟩
   ·rintro(h|⟨c',hc,h⟩)
    ·exact .inl (.inl (.inr h))
    ·rcases List.mem_cons.1 hc with rfl|hc
     ·rcases hp.1 h with h|h
      ·exact .inl (.inl (.inl h))
      ·exact .inl (.inr h)
     ·exact .inr ⟨c',hc,h⟩
  ·simp only[List.map_cons,List.sum_cons]
   unfold jc at a4 ⊢
   omega
def a77:qr:=match w8.body with
 |.seq x _=>x
 |_=>.bad
def m77:qr:=match w8.body with
 |.seq _ (.seq x _)=>x
 |_=>.bad
def r77:qr:=match w8.body with
 |.seq _ (.seq _ (.seq _ (.seq _ x)))=>x
 |_=>.bad
theorem qzm:w8.body=.seq a77 (.seq m77 (.seq i77 (.seq w77 r77))):=rfl
theorem qpi{s t:FT}(h:FT.Le s t)(k:Nat){v:Value}(e:s.get k=.sc v):t.get k=.sc v:=by
 have:=h.fwk k
 rw[e]at this
 rcases this with h|h|h
 ·exact h.symm
 ·cases hx:t.get k<;>rw[hx]at h<;>simp[LV.strip]at h
  rw[h]
 ·cases h
theorem qtL(l:List qf)(hl:l.length<2^40)(hb:∀c∈l,c.body.length<2^40)(hm:(l.foldl jc []).length<2^40)(fuel:Nat)(R:Option (List (PK×Int)))(hR:jm l fuel (l.foldl jc [])=some R)(H:qa){kv kp:HP}
  (hk1:R=none->∀n,H.next<=n->kv (.tup [.sc (.map none),.bool false]) ⟨H.objs,n⟩) (hk2:∀m,R=some m->∀n,H.next<n->kv (.tup [.map H.next,.bool true]) ⟨(H.next,.map (za m))::H.objs,n⟩):
  cP E0 F0 108 [qz l] H kv kp:=by
 refine qfi c108 (Nat.le_of_ble_eq_true rfl) fun hH=>?_
 rw[qzm]
 obtain⟨i1,i2,i3,_⟩:=qkT l [] fun k=>rfl
 obtain⟨I,hI⟩:∃I,l.foldl jc []=I:=⟨_,rfl⟩
 simp(disch:=omega)
 refine vB (ur ?_)
 simp(disch:=omega)[a77,w8]
 refine vB (ur ?_)
 simp(disch:=omega)[m77,w8]
 have hH2:qa.Ok ⟨(H.next,.map [])::H.objs,H.next+1⟩:=⟨Nat.lt_succ_self _,hH⟩
 have ho:look H.next ((H.next,qc.map [])::H.objs)=some (.map (za [])):=by simp[look]
 refine vA (t':=(.nd (qz l) (.nd .bot (.nd (.bool false) .nil .nil) .nil) (.nd (.sc (.map none)) (.nd (.map H.next) .nil .nil) .nil))) (fun l h=>by cases h) (by simp[FT.Le,Wk]) (HWk.refl _) (fun h=>h) ?_
 refine vB (qgl (qtR l hl hb H.next [] _ (H.next+1) ho) ?_)
 rintro e t' H' ⟨rfl,hle,n,hn,hwk,hok⟩
 have hp:∀m:List (PK×Int),qy H.next (.map (za m)) ((H.next,qc.map [])::H.objs)=(H.next,.map (za m))::H.objs:=fun m=>by simp[qy]
 rw[hI]at hwk hok hm hR
 rw[hI]at i1 i2 i3
 show lP E0 F0 (.seq w77 r77) t' H' _
 refine vA (fun l h=>by cases h) hle hwk hok ?_
 refine vB (qgl (qtd l hl hb (qA I) (by rw[vV];exact hm) (fun c hc=>(i3 _).2 (.inr ⟨c,hc,List.mem_cons_self⟩)) I rfl (fun k=>⟨by rw[i1 k];omega,by rw[i1 k];omega⟩) fuel R hR H.next _ _ n ho) ?_)
 rintro e t2 H2 ⟨n2,m1,hn2,hwk2,hok2,h3|h3⟩
 ·obtain⟨rfl,rfl,hle2⟩:=h3
  have g2:t2.get 2=.sc (.map none):=qpi hle2 2 rfl
  have g3:t2.get 3=.bool false:=qpi hle2 3 rfl
  rw[hp]at hwk2 hok2
  show vU E0 w8.res t2 H2 _
  rw[show w8.res=[.t 2,.t 3] from rfl,z8]
  unfold zW
  rw[g2,g3]
  refine⟨⟨H.objs,n2⟩,⟨hwk2.1,fun i x hx=>hwk2.2 i x ?_⟩,fun h=>(hok2 h).2.mono (by show H.next<=n2;omega),hk1 rfl n2 (by omega)⟩
  have:=hH.look hx
  simp only[look]
  rw[if_neg (by omega)]
  exact hx
 ·obtain⟨rfl,rfl,hle2⟩:=h3
  show lP E0 F0 r77 t2 H2 _
  refine vA (fun l h=>by cases h) hle2 hwk2 hok2 ?_
  rw[hp]
  refine ur ?_
  simp(disch:=omega)[r77,w8,z8]
  exact keep (hk2 _ rfl _ (by omega))
end Go.Abs.Tz
namespace Go.Abs.Tz
open Go Go.Abs Go.Proofs
def wY(h:PK)(x:Lit):Option (wN PK):=if x.kind=1 then some (h,ofA x.atom,0) else if x.kind=2 then some (h,ofA x.atom,1) else none
def qgw(c:qf):List (wN PK):=c.body.filterMap (wY (ofA c.head))
def yR(l:List qf):List (wN PK):=l.flatMap qgw
def qR(m:List (PK×Int)):PK->Nat:=fun k=>(qo m k).toNat
def NN0(m:List (PK×Int)):Prop:=∀k,0<=qo m k
theorem qwS{h:PK}{s:List (PK×Int)×Bool}{x:Lit}(h0:NN0 s.1):
  NN0 (zB h s x).1/\qR (zB h s x).1=(match wY h x with|none=>qR s.1|some e=>qaX (qR s.1) e)/\(∀k,qo s.1 k<=qo (zB h s x).1 k)/\(∀k,k≠h->qo (zB h s x).1 k=qo s.1 k) /\
  ((zB h s x).2=false->zB h s x=s)/\((zB h s x).2=true->s.2=true\/qo s.1 h<qo (zB h s x).1 h):=by
 have hl:∀e,wY h x=some e->e.1=h/\vz s.1 x=qo s.1 e.2.1+e.2.2:=by
  intro e he
  unfold wY at he
  unfold vz
  by_cases h1:x.kind=1
  ·rw[if_pos h1]at he;cases he;rw[if_pos h1];exact⟨rfl,by simp⟩
  ·rw[if_neg h1]at he
   rw[if_neg h1]
   by_cases h2:x.kind=2
   ·rw[if_pos h2]at he;cases he;rw[if_pos h2];exact⟨rfl,by simp⟩
   ·rw[if_neg h2]at he;cases he
 have hn:wY h x=none->vz s.1 x=-1:=by
  intro he
  unfold wY at he
  unfold vz
  by_cases h1:x.kind=1
  ·rw[if_pos h1]at he;cases he
  ·rw[if_neg h1]at he
   by_cases h2:x.kind=2
   ·rw[if_pos h2]at he;cases he
   ·rw[if_neg h1,if_neg h2]
 have hh:=h0 h
 by_cases hc:qo s.1 h<vz s.1 x
 ·have e0:zB h s x=(zn h (vz s.1 x) s.1,true):=by unfold zB;rw[if_pos hc]
  rw[e0]
  refine⟨fun k=>?_,?_,fun k=>?_,fun k hk=>?_,fun h=>(by cases h),fun _=>.inr ?_⟩
  ·dsimp only;rw[qcu];split
   ·omega
   ·exact h0 k
  ·cases he:wY h x with
   |none=>rw[hn he]at hc;omega
   |some e=>
    obtain⟨h1,h2⟩:=hl e he
    funext k
    unfold qaX qR
    dsimp only
    rw[qcu,h1]
    by_cases hk:k=h
    ·rw[if_pos hk,if_pos hk,h2,hk]
     have:=h0 e.2.1
     rw[h2]at hc
     omega
    ·rw[if_neg hk,if_neg hk]
  ·dsimp only;rw[qcu];split
   ·rename_i hk;rw[hk];omega
   ·omega
  ·dsimp only;rw[qcu,if_neg hk]
  ·dsimp only;rw[qcu,if_pos rfl];exact hc
 ·have e0:zB h s x=s:=by unfold zB;rw[if_neg hc]
  rw[e0]
  refine⟨h0,?_,fun k=>by omega,fun _ _=>rfl,fun _=>rfl,fun h=>.inl h⟩
  cases he:wY h x with
  |none=>rfl
  |some e=>
   obtain⟨h1,h2⟩:=hl e he
   funext k
   unfold qaX qR
   dsimp only
   rw[h1]
   by_cases hk:k=h
   ·rw[if_pos hk,hk]
    rw[h2]at hc
    have:=h0 e.2.1
    omega
   ·rw[if_neg hk]
structure qbp(Hd:PK->Prop)(s t:List (PK×Int)×Bool):Prop where
 nn:NN0 t.1
 le:∀k,qo s.1 k<=qo t.1 k
 oth:∀k,¬Hd k->qo t.1 k=qo s.1 k
 no:t.2=false->t=s
 yes:t.2=true->s.2=true\/∃k,Hd k/\qo s.1 k<qo t.1 k
theorem qbp.refl{Hd:PK->Prop}{s:List (PK×Int)×Bool}(h:NN0 s.1):qbp Hd s s:=⟨h,fun _=>Int.le_refl _,fun _ _=>rfl,fun _=>rfl,fun h=>.inl h⟩
theorem qbp.trans{Hd:PK->Prop}{s t u:List (PK×Int)×Bool}(h1:qbp Hd s t)(h2:qbp Hd t u):qbp Hd s u where
 nn:=h2.nn
 le k:=Int.le_trans (h1.le k) (h2.le k)
 oth k hk:=(h2.oth k hk).trans (h1.oth k hk)
 no h:=by
  have e:=h2.no h
  rw[e]at h ⊢
  exact h1.no h
 yes h:=by
  rcases h2.yes h with h|⟨k,hk,hlt⟩
  ·rcases h1.yes h with h|⟨k,hk,hlt⟩
   ·exact .inl h
   ·exact .inr ⟨k,hk,by have:=h2.le k;omega⟩
  ·exact .inr ⟨k,hk,by have:=h1.le k;omega⟩
theorem qbp.mono{Hd Hd':PK->Prop}{s t:List (PK×Int)×Bool}(h:qbp Hd s t)(hh:∀k,Hd k->Hd' k):qbp Hd' s t where
 nn:=h.nn
 le:=h.le
 oth k hk:=h.oth k fun e=>hk (hh k e)
 no:=h.no
 yes e:=(h.yes e).imp id fun⟨k,hk,hlt⟩=>⟨k,hh k hk,hlt⟩
theorem qiI{h:PK}:∀(b:List Lit)(s:List (PK×Int)×Bool),NN0 s.1->qbp (fun k=>k=h) s (b.foldl (zB h) s)/\qR (b.foldl (zB h) s).1=vy (b.filterMap (wY h)) (qR s.1)/\(h∈qA s.1->qA (b.foldl (zB h) s).1=qA s.1)
 |[],s,h0=>⟨.refl h0,rfl,fun _=>rfl⟩
 |x::b,s,h0=>by
  obtain⟨a1,a2,a3,a4,a5,a6⟩:=qwS (h:=h) (x:=x) h0
  obtain⟨b1,b2,b3⟩:=qiI b (zB h s x) a1
  have h1:qbp (fun k=>k=h) s (zB h s x):=⟨a1,a3,a4,a5,fun e=>(a6 e).imp id fun hlt=>⟨h,rfl,hlt⟩⟩
  rw[List.foldl_cons]
  refine⟨h1.trans b1,?_,fun hk=>?_⟩
  ·rw[b2,a2,List.filterMap_cons]
   cases wY h x<;>rfl
  ·have hk':=qkG (x:=x) hk
   rw[b3 (by rw[hk'];exact hk),hk']
def qxx(l:List qf)(k:PK):Prop:=∃c∈l,ofA c.head=k
theorem qvG{K:Type}[DecidableEq K](A B:List (wN K))(f:K->Nat):vy (A++B) f=vy B (vy A f):=List.foldl_append
theorem qdD:∀(l:List qf)(s:List (PK×Int)×Bool),NN0 s.1->qbp (qxx l) s (l.foldl z7 s)/\qR (l.foldl z7 s).1=vy (yR l) (qR s.1)/\((∀c∈l,ofA c.head∈qA s.1)->qA (l.foldl z7 s).1=qA s.1)
 |[],s,h0=>⟨.refl h0,rfl,fun _=>rfl⟩
 |c::l,s,h0=>by
  obtain⟨a1,a2,a3⟩:=qiI (h:=ofA c.head) c.body s h0
  obtain⟨b1,b2,b3⟩:=qdD l (z7 s c) a1.nn
  rw[List.foldl_cons]
  refine⟨(a1.mono fun k hk=>⟨c,List.mem_cons_self,hk.symm⟩).trans (b1.mono fun k ⟨c',h1,h2⟩=>⟨c',List.mem_cons_of_mem _ h1,h2⟩),?_,fun hk=>?_⟩
  ·rw[b2]
   show vy (yR l) (qR (z7 s c).1)=vy (qgw c++yR l) (qR s.1)
   rw[qvG]
   show _=vy (yR l) (vy (qgw c) (qR s.1))
   unfold z7
   rw[a2]
   rfl
  ·have hc:=a3 (hk c List.mem_cons_self)
   have hc':qA (z7 s c).1=qA s.1:=hc
   rw[b3 fun c' h'=>by rw[hc'];exact hk c' (List.mem_cons_of_mem _ h'),hc']
theorem qjO{N:Int}:∀(l:List qf)(s t:List (PK×Int)×Bool),NN0 s.1->(∀c∈l,ofA c.head∈qA s.1)->((qA s.1).length:Int)=N->qai l s=some t->t=l.foldl z7 s/\(InP s.1 N->InP t.1 N)
 |[],s,t,_,_,_,h=>by cases h;exact⟨rfl,id⟩
 |c::l,s,t,h0,hk,hN,h=>by
  obtain⟨a1,a2,a3⟩:=qiI (h:=ofA c.head) c.body s h0
  have hc:=a3 (hk c List.mem_cons_self)
  have hc':qA (z7 s c).1=qA s.1:=hc
  simp only[qai]at h
  split at h
  ·cases h
  ·rename_i hle
   obtain⟨b1,b2⟩:=qjO (N:=N) l (z7 s c) t a1.nn (fun c' h'=>by rw[hc'];exact hk c' (List.mem_cons_of_mem _ h')) (by rw[hc'];exact hN) h
   refine⟨b1,fun hin=>b2 fun k=>⟨a1.nn k,?_⟩⟩
   have hlen:((z7 s c).1.length:Int)=N:=by rw[<-hN,<-hc',vV]
   by_cases hkh:k=ofA c.head
   ·rw[hkh];omega
   ·have:qo (z7 s c).1 k=qo s.1 k:=a1.oth k hkh
    rw[this];exact(hin k).2
theorem qjP{F:PK->Nat}{N:Nat}:∀(l:List qf)(s:List (PK×Int)×Bool),NN0 s.1->(∀c∈l,ofA c.head∈qA s.1)->(qA s.1).length=N->(∀k,qR s.1 k<=F k)->jf (yR l) F->(∀k∈qA s.1,F k<N)->qai l s≠none
 |[],_,_,_,_,_,_,_=>by simp[qai]
 |c::l,s,h0,hk,hN,hle,hs,hF=>by
  obtain⟨a1,a2,a3⟩:=qiI (h:=ofA c.head) c.body s h0
  have hc:=a3 (hk c List.mem_cons_self)
  have hc':qA (z7 s c).1=qA s.1:=hc
  have hs1:jf (qgw c) F:=fun e he=>hs e (List.mem_append_left _ he)
  have hs2:jf (yR l) F:=fun e he=>hs e (List.mem_append_right _ he)
  have hle2:∀k,qR (z7 s c).1 k<=F k:=by
   intro k
   have:qR (z7 s c).1=vy (qgw c) (qR s.1):=a2
   rw[this]
   exact qdG hs1 hle k
  have hlen:(z7 s c).1.length=N:=by rw[<-hN,<-hc',vV]
  simp only[qai]
  rw[if_neg]
  ·exact qjP (N:=N) l (z7 s c) a1.nn (fun c' h'=>by rw[hc'];exact hk c' (List.mem_cons_of_mem _ h')) (by rw[hc'];exact hN) hle2 hs2 (by rw[hc'];exact hF)
  ·have h1:=hle2 (ofA c.head)
   have h2:=hF _ (hk c List.mem_cons_self)
   have h3:=a1.nn (ofA c.head)
   unfold qR at h1
   have h3':0<=qo (z7 s c).1 (ofA c.head):=h3
   omega
structure qcM(l:List qf)(V:List PK)(m:List (PK×Int)):Prop where
 keys:qA m=V
 nn:NN0 m
 sol:jf (yR l) (qR m)
 le:∀g,jf (yR l) g->∀k,qR m k<=g k
def qgS(l:List qf)(V:List PK)(R:Option (List (PK×Int))):Prop:=match R with
 |none=>¬∃g,jf (yR l) g
 |some m=>qcM l V m
theorem qgx{l:List qf}{V:List PK}(hV:∀c∈l,∀k∈vx c,k∈V):∀e∈yR l,e.1∈V/\e.2.1∈V/\e.2.2<=1:=by
 intro e he
 obtain⟨c,hc,he⟩:=List.mem_flatMap.1 he
 obtain⟨x,hx,he⟩:=List.mem_filterMap.1 he
 have h1:ofA c.head∈V:=hV c hc _ List.mem_cons_self
 have h2:x.kind=1\/x.kind=2->ofA x.atom∈V:=fun hk=>hV c hc _ (List.mem_cons_of_mem _ (List.mem_map.2 ⟨x,List.mem_filter.2 ⟨hx,by simpa using hk⟩,rfl⟩))
 unfold wY at he
 split at he
 ·rename_i hk;cases he;exact⟨h1,h2 (.inl hk),by simp⟩
 ·split at he
  ·rename_i hk;cases he;exact⟨h1,h2 (.inr hk),by simp⟩
  ·cases he
theorem quy{V:List PK}{f:PK->Nat}{N:Nat}(h:∀k∈V,f k<=N):vu V f<=V.length*N:=by
 induction V with
 |nil=>exact Nat.zero_le _
 |cons a V ih=>
  have h1:=h a List.mem_cons_self
  have h2:=ih fun k hk=>h k (List.mem_cons_of_mem _ hk)
  simp only[vu,List.map_cons,List.sum_cons,List.length_cons,Nat.add_mul]at h2 ⊢
  omega
theorem qkv{l:List qf}{m m':List (PK×Int)}(h0:NN0 m)(h:(m',false)=l.foldl z7 (m,false)):m'=m/\jf (yR l) (qR m):=by
 obtain⟨a1,a2,a3⟩:=qdD l (m,false) h0
 have e:m'=m:=by
  have:=a1.no (by rw[<-h])
  rw[<-h]at this
  exact(Prod.mk.inj this).1
 refine⟨e,quG fun e' _=>?_⟩
 rw[<-h,e]at a2
 have a2':qR m=vy (yR l) (qR m):=a2
 rw[<-a2']
theorem qiG{l:List qf}{V:List PK}{m m':List (PK×Int)}(hh:∀c∈l,ofA c.head∈V)(h0:NN0 m)(h:(m',true)=l.foldl z7 (m,false)):∃k∈V,qR m k<qR m' k/\∀k,qR m k<=qR m' k:=by
 obtain⟨a1,a2,a3⟩:=qdD l (m,false) h0
 rw[<-h]at a1
 rcases a1.yes rfl with h|⟨k,⟨c,hc,hk⟩,hlt⟩
 ·cases h
 ·have hlt':qo m k<qo m' k:=hlt
  refine⟨k,hk▸hh c hc,?_,fun k=>?_⟩
  ·have:=h0 k
   unfold qR;omega
  ·have:qo m k<=qo m' k:=a1.le k
   unfold qR;omega
theorem qyO{l:List qf}{V:List PK}(hV:∀c∈l,∀k∈vx c,k∈V):∀(d:Nat)(m:List (PK×Int)),qA m=V->InP m V.length->(∀g,jf (yR l) g->∀k,qR m k<=g k)->V.length*V.length<=vu V (qR m)+d ->
  ∃R,jm l (d+1) m=some R/\qgS l V R:=by
 have hh:∀c∈l,ofA c.head∈V:=fun c hc=>hV c hc _ List.mem_cons_self
 have hE:=qgx hV
 intro d
 induction d with
 |zero=>
  intro m hk hin hle hd
  have h0:NN0 m:=fun k=>(hin k).1
  cases hr:qai l (m,false) with
  |none=>
   refine⟨none,by simp[jm,hr],?_⟩
   rintro⟨g,hg⟩
   obtain⟨F,hF,hmin⟩:=qkL V hg
   exact qjP l (m,false) h0 (by rw[hk];exact hh) (by rw[hk]) (hle F hF) hF (fun k hk'=>qic hF hmin (fun e he=>⟨(hE e he).1,(hE e he).2.1⟩) (fun e he=>(hE e he).2.2) (by rw[hk]at hk';exact hk')) hr
  |some t=>
   obtain⟨m',b⟩:=t
   obtain⟨h1,h2⟩:=qjO (N:=V.length) l (m,false) _ h0 (by rw[hk];exact hh) (by rw[hk]) hr
   have hin':=h2 hin
   cases b with
   |false=>
    obtain⟨rfl,hs⟩:=qkv h0 h1
    exact⟨some m',by simp[jm,hr],hk,h0,hs,hle⟩
   |true=>
    obtain⟨k,hkV,hlt,hle'⟩:=qiG hh h0 h1
    have hs1:=qhk (V:=V) (fun k _=>hle' k) hkV hlt
    have hs2:=quy (V:=V) (f:=qR m') (N:=V.length) fun k _=>by
     have:qo m' k<=V.length:=(hin' k).2
     unfold qR;omega
    omega
 |succ d ih=>
  intro m hk hin hle hd
  have h0:NN0 m:=fun k=>(hin k).1
  cases hr:qai l (m,false) with
  |none=>
   refine⟨none,by simp[jm,hr],?_⟩
   rintro⟨g,hg⟩
   obtain⟨F,hF,hmin⟩:=qkL V hg
   exact qjP l (m,false) h0 (by rw[hk];exact hh) (by rw[hk]) (hle F hF) hF (fun k hk'=>qic hF hmin (fun e he=>⟨(hE e he).1,(hE e he).2.1⟩) (fun e he=>(hE e he).2.2) (by rw[hk]at hk';exact hk')) hr
  |some t=>
   obtain⟨m',b⟩:=t
   obtain⟨h1,h2⟩:=qjO (N:=V.length) l (m,false) _ h0 (by rw[hk];exact hh) (by rw[hk]) hr
   have hin':=h2 hin
   cases b with
   |false=>
    obtain⟨rfl,hs⟩:=qkv h0 h1
    exact⟨some m',by simp[jm,hr],hk,h0,hs,hle⟩
   |true=>
    obtain⟨k,hkV,hlt,hle'⟩:=qiG hh h0 h1
    have hs1:=qhk (V:=V) (fun k _=>hle' k) hkV hlt
    obtain⟨a1,a2,a3⟩:=qdD l (m,false) h0
    rw[<-h1]at a2 a3
    have hk':qA m'=V:=(a3 (by rw[hk];exact hh)).trans hk
    obtain⟨R,hR,hE'⟩:=ih m' hk' hin' (fun g hg k=>by
     have a2':qR m'=vy (yR l) (qR m):=a2
     rw[a2']
     exact qdG hg (hle g hg) k) (by omega)
    exact⟨R,by simp only[jm,hr];exact hR,hE'⟩
def qba(l:List qf):Nat->List (PK×Int)->Option (List (PK×Int))
 |0,_=>none
 |n+1,m=>match l.foldl z7 (m,false) with
  |(m',false)=>some m'
  |(m',true)=>if m'.any (fun e=>decide ((m'.length:Int)<e.2)) then none else qba l n m'
theorem qhH:∀{m:List (PK×Int)},(qA m).Nodup->∀e∈m,qo m e.1=e.2
 |[],_,e,h=>by cases h
 |(j,u)::r,hn,e,h=>by
  obtain⟨h1,h2⟩:=List.nodup_cons.1 (show (j::qA r).Nodup from hn)
  unfold qo vQ
  rcases List.mem_cons.1 h with rfl|h
  ·simp only;rw[if_pos (vC.2 rfl)];rfl
  ·have:¬vD e.1 j=true:=fun he=>h1 (by rw[<-vC.1 he];exact List.mem_map_of_mem h)
   rw[if_neg this]
   exact qhH h2 e h
theorem qva{l:List qf}{V:List PK}(hV:∀c∈l,∀k∈vx c,k∈V){F:PK->Nat}(hF:jf (yR l) F)(hmin:∀g',jf (yR l) g'->vu V F<=vu V g')(hN:V.Nodup):
  ∀(n:Nat)(m:List (PK×Int)),qA m=V->NN0 m->(∀k,qR m k<=F k)->(V.filter fun k=>decide (qR m k≠F k)).length<=n->qba l (n+1) m≠none:=by
 have hh:∀c∈l,ofA c.head∈V:=fun c hc=>hV c hc _ List.mem_cons_self
 have hE:=qgx hV
 have hE':∀e∈yR l,e.1∈V/\e.2.1∈V:=fun e he=>⟨(hE e he).1,(hE e he).2.1⟩
 intro n
 induction n with
 |zero=>
  intro m hk h0 hle hn
  obtain⟨⟨m',b⟩,hr⟩:∃t,l.foldl z7 (m,false)=t:=⟨_,rfl⟩
  simp only[qba,hr]
  cases b with
  |false=>simp
  |true=>
   exfalso
   obtain⟨k,hkV,hlt,_⟩:=qiG hh h0 hr.symm
   obtain⟨a1,a2,a3⟩:=qdD l (m,false) h0
   rw[hr]at a2
   have a2':qR m'=vy (yR l) (qR m):=a2
   have h1:=qdG hF hle k
   rw[<-a2']at h1
   have:k∈V.filter fun k=>decide (qR m k≠F k):=List.mem_filter.2 ⟨hkV,by simp only[decide_eq_true_eq];omega⟩
   rw[List.length_eq_zero_iff.1 (Nat.le_zero.1 hn)]at this
   cases this
 |succ n ih=>
  intro m hk h0 hle hn
  obtain⟨⟨m',b⟩,hr⟩:∃t,l.foldl z7 (m,false)=t:=⟨_,rfl⟩
  rw[qba,hr]
  cases b with
  |false=>simp
  |true=>
   obtain⟨k,hkV,hlt,hle'⟩:=qiG hh h0 hr.symm
   obtain⟨a1,a2,a3⟩:=qdD l (m,false) h0
   rw[hr]at a1 a2 a3
   have hk':qA m'=V:=(a3 (by rw[hk];exact hh)).trans hk
   have a2':qR m'=vy (yR l) (qR m):=a2
   have hleF:∀k,qR m' k<=F k:=fun k=>by rw[a2'];exact qdG hF hle k
   have hne:qR m k≠F k:=by have:=hleF k;omega
   obtain⟨u,hu,h1,h2⟩:=qvF hF hmin hE' hle hkV hne
   have hcnt:=qxU (V:=V) (p:=fun k=>decide (qR m k≠F k)) (q:=fun k=>decide (qR m' k≠F k)) (fun k _ hk=>by
    have h3:=hle' k
    have h4:=hleF k
    simp only[decide_eq_true_eq]at hk ⊢
    omega) hu (by simpa using h1) (by rw[a2'];simpa using h2)
   have hno:m'.any (fun e=>decide ((m'.length:Int)<e.2))=false:=by
    rw[List.any_eq_false]
    intro e he
    have hv:=qhH (by rw[hk'];exact hN) e he
    have hkey:e.1∈V:=by rw[<-hk'];exact List.mem_map_of_mem he
    have hb:=qic hF hmin hE' (fun e he=>(hE e he).2.2) hkey
    have hf:=hleF e.1
    have hlen:m'.length=V.length:=by rw[<-hk',vV]
    unfold qR at hf
    rw[hv]at hf
    simp only[decide_eq_true_eq]
    omega
   dsimp only
   rw[hno]
   exact ih m' hk' a1.nn hleF (by omega)
theorem qok{l:List qf}{V:List PK}(hh:∀c∈l,ofA c.head∈V):∀(n:Nat)(m R:List (PK×Int)),qA m=V->NN0 m->(∀g,jf (yR l) g->∀k,qR m k<=g k)->qba l n m=some R->qcM l V R
 |0,_,_,_,_,_,h=>by cases h
 |n+1,m,R,hk,h0,hle,h=>by
  obtain⟨⟨m',b⟩,hr⟩:∃t,l.foldl z7 (m,false)=t:=⟨_,rfl⟩
  simp only[qba,hr]at h
  cases b with
  |false=>
   cases h
   obtain⟨rfl,hs⟩:=qkv h0 hr.symm
   exact⟨hk,h0,hs,hle⟩
  |true=>
   simp only at h
   split at h
   ·cases h
   ·obtain⟨a1,a2,a3⟩:=qdD l (m,false) h0
    rw[hr]at a1 a2 a3
    have hk':qA m'=V:=(a3 (by rw[hk];exact hh)).trans hk
    have a2':qR m'=vy (yR l) (qR m):=a2
    exact qok hh n m' R hk' a1.nn (fun g hg k=>by rw[a2'];exact qdG hg (hle g hg) k) h
theorem qvb{l:List qf}{V:List PK}(hV:∀c∈l,∀k∈vx c,k∈V)(hN:V.Nodup)(m:List (PK×Int))(hk:qA m=V)(h0:∀k,qo m k=0)(n:Nat)(hn:V.length<=n):qgS l V (qba l (n+1) m):=by
 have hnn:NN0 m:=fun k=>by rw[h0 k];omega
 have hz:∀k,qR m k=0:=fun k=>by unfold qR;rw[h0 k];rfl
 cases hr:qba l (n+1) m with
 |none=>
  rintro⟨g,hg⟩
  obtain⟨F,hF,hmin⟩:=qkL V hg
  exact qva hV hF hmin hN n m hk hnn (fun k=>by rw[hz k];omega) (Nat.le_trans (List.length_filter_le _ _) hn) hr
 |some R=>exact qok (fun c hc=>hV c hc _ List.mem_cons_self) _ m R hk hnn (fun g _ k=>by rw[hz k];omega) hr
theorem quK{l:List qf}{V W:List PK}{R S:Option (List (PK×Int))}(h1:qgS l V R)(h2:qgS l W S):(R=none/\S=none)\/∃m q,R=some m/\S=some q/\qcM l V m/\qcM l W q/\∀k,qo m k=qo q k:=by
 cases R with
 |none=>
  cases S with
  |none=>exact .inl ⟨rfl,rfl⟩
  |some q=>exact absurd ⟨_,(show qcM l W q from h2).sol⟩ h1
 |some m=>
  cases S with
  |none=>exact absurd ⟨_,(show qcM l V m from h1).sol⟩ h2
  |some q=>
   have a:qcM l V m:=h1
   have b:qcM l W q:=h2
   refine .inr ⟨m,q,rfl,rfl,a,b,fun k=>?_⟩
   have c1:=a.le _ b.sol k
   have c2:=b.le _ a.sol k
   have c3:=a.nn k
   have c4:=b.nn k
   unfold qR at c1 c2
   omega
end Go.Abs.Tz
namespace Go.Abs.Tz
open Go Go.Abs Go.Proofs
set_option maxRecDepth 20000
set_option linter.unusedSimpArgs false
attribute [local simp ↓] yC yB jT jS yf uO zu zG jR uB vl vm yD yF yG yE jY j6 j9 jZ ga gc j7 j8 j0 jW jU jX jV vj vh vk vi yy yw yz yx yK yI yJ jj z8 ge zw zU yi vn vo yN yP yO yL yM yZ gh gq gv gp gt gu g7 g6 gC gE jB jy jM jP jz jH jL jK jJ jI jF ju jv jw jx jN jD jE jq jO jQ jA jC jG jr gI gD gY ya gF gS gW gV gU gT gO gz g0 gM gN gw g9 yb gG gK gQ gx yd g8 gy yc gL gH gJ gA gZ gi gk gj yT yW yS yU yV qq uG
attribute [local simp] faL fdL iaL ixL qS zm ze eqK eqL qX zE uA yQ vg y5 y7 y9 vc ve vf y6 vb y8 vd zM LV.cells LV.whole qq uQ gg gf stL zN ui uI qa.alloc yg ye yh yu yt yr yq yp yo yn ym yk yj qe uD
def qbe(x:qv):PK:=(x.pred,x.args)
def qcw(x:qv)(k:PK):Bool:=qK x.pred k.1&&decide (x.args=k.2)
def uU:List qv->PK->Nat->Int
 |[],_,_=>-1
 |x::r,k,i=>if qcw x k then (i:Int) else uU r k (i+1)
theorem qmU(A:List qv)(own:Own)(a:qd)(hA:A.length<2^40):qh 34 [.sl (A.map qH) own,qg a] (.int (uU A (ofA a) 0)):=by
 refine qh.of c34 fun H hH=>⟨Nat.le_of_ble_eq_true rfl,?_⟩
 simp(disch:=omega)[b34]
 obtain⟨R,hR⟩:∃R,uU A (ofA a) 0=R:=⟨_,rfl⟩
 rw[hR]
 refine qB (σ:=NN) (fun q=>(.nd (.sl (A.map qH) own) (.nd .bot (.nd (.ptr H.next 0) .nil .nil) (.nd (.int q.i) .nil .nil)) .nil)) (fun q=>⟨(H.next,.cells [.str a.pred,ql a.args])::H.objs,q.n⟩) (fun q=>A.length - q.i)
  (fun q=>H.next+1<=q.n/\q.i<=A.length/\uU (A.drop q.i) (ofA a) q.i=R) ⟨0,H.next+1⟩ ⟨Nat.le_refl _,Nat.zero_le _,hR⟩ (by simp[FT.Le,Wk]) ⟨HWk.refl _,fun h=>h⟩ ?_
 rintro⟨i,n⟩ ⟨hn,hi,he⟩ hok
 simp only at hn hi he
 by_cases hlt:i<A.length
 case neg=>
  obtain rfl:i=A.length:=by omega
  rw[List.drop_eq_nil_of_le (Nat.le_refl _)]at he
  simp only[uU]at he
  simp(disch:=omega)
  exact qp hH (by simp[<-he])
 rw[List.drop_eq_getElem_cons hlt]at he
 simp only[uU]at he
 have em:qcw A[i] (ofA a)=(qK A[i].pred a.pred&&decide (A[i].args=a.args.length)):=rfl
 cases hp:qK A[i].pred a.pred
 ·simp[em,hp]at he
  simp(disch:=omega)[hlt,hp,qk (show i<2^62 by omega)]
  exact⟨⟨i+1,n⟩,by dsimp only;omega,⟨by dsimp only;omega,by dsimp only;omega,he⟩,by simp[FT.Le,Wk],HWk.refl _,fun h=>h⟩
 by_cases hq:A[i].args=a.args.length
 ·simp[em,hp,hq]at he
  simp(disch:=omega)[hlt,hp,hq]
  exact qp hH (by simp[<-he])
 ·simp[em,hp,hq]at he
  simp(disch:=omega)[hlt,hp,hq,qk (show i<2^62 by omega)]
  exact⟨⟨i+1,n⟩,by dsimp only;omega,⟨by dsimp only;omega,by dsimp only;omega,he⟩,by simp[FT.Le,Wk],HWk.refl _,fun h=>h⟩
theorem qxQ(A:List qv){j c:Nat}(hj:j<A.length)(hc:c<3):(A.flatMap zc)[j*3+c]? = (zc A[j])[c]?:=by
 have h:=qld qaY hj
 rw[<-h,List.getElem?_take,if_pos hc,List.getElem?_drop]
theorem ldA{A:List qv}{o:Nat}{ob:List (Nat×qc)}{n:Nat}(hl:look o ob=some (qL A)){j c:Nat}(hj:j<A.length)(hc:c<3):qS ⟨ob,n⟩ none (.ptr o (j*3+c))=(zc A[j])[c]?:=by
 simp only[qS,hl,zm]
 exact qxQ A hj hc
theorem iaA{A:List qv}{o:Nat}{ob:List (Nat×qc)}{n:Nat}(hl:look o ob=some (qL A)){j m:Nat}(hj:j<m):iaL ⟨ob,n⟩ 3 (.asl o 0 m) (.int (j:Int))=some (.ptr o (j*3)):=by
 simp[iaL,uG,hl,hj]
theorem qmT(A:List qv)(o:Nat)(ob:List (Nat×qc))(nx:Nat)(hlo:look o ob=some (qL A))(a:qd)(hA:A.length<2^40){kv kp:HP}
  (hk:∀n,nx<=n->kv (.int (uU A (ofA a) 0)) ⟨ob,n⟩):cP E0 F0 34 [.asl o 0 A.length,qg a] ⟨ob,nx⟩ kv kp:=by
 refine zX c34 fun hH=>⟨Nat.le_of_ble_eq_true rfl,?_⟩
 simp(disch:=omega)[b34]
 obtain⟨R,hR⟩:∃R,uU A (ofA a) 0=R:=⟨_,rfl⟩
 rw[hR]at hk
 have hon:o<nx:=by
  have h2:qa.Ok ⟨ob,nx⟩:=hH
  exact h2.look hlo
 have hlo2:look o ((nx,qc.cells [.str a.pred,ql a.args])::ob)=some (qL A):=by rw[qe (by omega)];exact hlo
 refine qB (σ:=NN) (fun q=>(.nd (.asl o 0 A.length) (.nd .bot (.nd (.ptr nx 0) .nil .nil) (.nd (.int q.i) .nil .nil)) .nil)) (fun q=>⟨(nx,.cells [.str a.pred,ql a.args])::ob,q.n⟩) (fun q=>A.length - q.i)
  (fun q=>nx+1<=q.n/\q.i<=A.length/\uU (A.drop q.i) (ofA a) q.i=R) ⟨0,nx+1⟩ ⟨Nat.le_refl _,Nat.zero_le _,hR⟩ (by simp[FT.Le,Wk]) ⟨HWk.refl _,fun h=>h⟩ ?_
 rintro⟨i,n⟩ ⟨hn,hi,he⟩ hok
 simp only at hn hi he
 have hfin:HWk ⟨(nx,qc.cells [.str a.pred,ql a.args])::ob,n⟩ ⟨ob,n⟩:=⟨Nat.le_refl _,fun j x hx=>by
  have h2:qa.Ok ⟨ob,nx⟩:=hH
  have:=h2.look hx
  simp only[look]
  rw[if_neg (by dsimp only at this;omega)]
  exact hx⟩
 have hfo:qa.Ok ⟨(nx,qc.cells [.str a.pred,ql a.args])::ob,n⟩->qa.Ok ⟨ob,n⟩:=fun h=>h.2.mono (by show nx<=n;omega)
 by_cases hlt:i<A.length
 case neg=>
  obtain rfl:i=A.length:=by omega
  rw[List.drop_eq_nil_of_le (Nat.le_refl _)]at he
  simp only[uU]at he
  simp(disch:=omega)
  rw[<-he]at hk
  exact⟨_,hfin,hfo,hk n (by omega)⟩
 rw[List.drop_eq_getElem_cons hlt]at he
 simp only[uU]at he
 have em:qcw A[i] (ofA a)=(qK A[i].pred a.pred&&decide (A[i].args=a.args.length)):=rfl
 have l0:qS ⟨(nx,.cells [.str a.pred,ql a.args])::ob,n⟩ none (.ptr o (i*3))=some (.str A[i].pred):=ldA (c:=0) hlo2 hlt (by omega)
 have l1:qS ⟨(nx,.cells [.str a.pred,ql a.args])::ob,n⟩ none (.ptr o (i*3+1))=some (.int A[i].args):=ldA (c:=1) hlo2 hlt (by omega)
 have l2:qS ⟨(nx,.cells [.str a.pred,ql a.args])::ob,n⟩ none (.ptr nx 0)=some (.str a.pred):=by simp[qS,qq,zm]
 have l3:qS ⟨(nx,.cells [.str a.pred,ql a.args])::ob,n⟩ none (.ptr nx 1)=some (ql a.args):=by simp[qS,qq,zm]
 have ia:=iaA (n:=n) hlo2 hlt
 cases hp:qK A[i].pred a.pred
 ·simp[em,hp]at he
  simp(disch:=omega)[-iaL,-qS,ia,l0,l1,l2,l3,hlt,hp,qk (show i<2^62 by omega)]
  exact⟨⟨i+1,n⟩,by dsimp only;omega,⟨by dsimp only;omega,by dsimp only;omega,he⟩,by simp[FT.Le,Wk],HWk.refl _,fun h=>h⟩
 by_cases hq:A[i].args=a.args.length
 ·simp[em,hp,hq]at he
  simp(disch:=omega)[-iaL,-qS,ia,l0,l1,l2,l3,hlt,hp,hq]
  rw[<-he]at hk
  exact⟨_,hfin,hfo,hk n (by omega)⟩
 ·simp[em,hp,hq]at he
  simp(disch:=omega)[-iaL,-qS,ia,l0,l1,l2,l3,hlt,hp,hq,qk (show i<2^62 by omega)]
  exact⟨⟨i+1,n⟩,by dsimp only;omega,⟨by dsimp only;omega,by dsimp only;omega,he⟩,by simp[FT.Le,Wk],HWk.refl _,fun h=>h⟩
def qbA(x:Lit):List qd:=if x.kind<=2 then [x.atom] else []
def qci(c:qf):List qd:=c.head::c.body.flatMap qbA
def vp(l:List qf):List qd:=l.flatMap qci
theorem qaw(G:List qd):(G.map qg).all (fun e=>e.cells.length==2)=true:=by simp[LV.cells]
def vS(H:qa)(sz len:Nat)(own:Own)(ob:List (Nat×qc))(n:Nat):Prop:=(own=.full/\ob=H.objs/\H.next<=n)\/∃t,own=.tok t/\H.next<=t/\t<n/\ob=(t,.tok len sz)::H.objs
theorem qfL{H:qa}{sz:Nat}{es:List LV}{own:Own}{ob:List (Nat×qc)}{n:Nat}(hsz:0<sz/\sz<=2^10)(hes:(es.all fun e=>e.cells.length==sz)=true)(hl:es.length+1<=2^30)(h:vS H sz es.length own ob n){x:LV}(hx:x.cells.length=sz)(ow:Own):
  ∃own' ob' n',apL ⟨ob,n⟩ sz (.sl es own) (.sl [x] ow)=some (.sl (es++[x]) own',⟨ob',n'⟩)/\vS H sz (es.length+1) own' ob' n'/\n<=n':=by
 have hxs:([x].all fun e=>e.cells.length==sz)=true:=by
  show (x.cells.length==sz&&true)=true
  rw[hx];simp
 rcases h with⟨rfl,rfl,h⟩|⟨t,rfl,h1,h2,rfl⟩
 ·refine⟨.tok n,(n,.tok (es.length+1) sz)::H.objs,n+1,?_,.inr ⟨n,rfl,h,Nat.lt_succ_self _,rfl⟩,Nat.le_succ _⟩
  unfold apL
  simp only
  rw[hes,hxs]
  simp only[Bool.and_self,if_true]
  rw[if_pos ⟨hl,hsz.2,rfl⟩]
  rfl
 ·refine⟨.tok t,(t,.tok (es.length+1) sz)::H.objs,n,?_,.inr ⟨t,rfl,h1,h2,rfl⟩,Nat.le_refl _⟩
  have hcan:vE ⟨(t,.tok es.length sz)::H.objs,n⟩ sz (.tok t) es.length=true:=by
   have:sz≠0:=by omega
   simp[vE,look,this]
  unfold apL
  simp only
  rw[hes,hxs]
  simp only[Bool.and_self,if_true]
  rw[if_pos ⟨hl,hsz.2,hcan⟩]
  simp[qa.put,qy]
structure NNAs where
 i:Nat
 n:Nat
 aa:List qd
 own:Own
 ob:List (Nat×qc)
def l72a:qr:=match qbo.body with
 |.seq _ (.seq _ (.seq x _))=>x
 |_=>.bad
theorem t_all(l:List qf)(hl:l.length<2^20)(hb:∀c∈l,c.body.length<2^20)(hA:(vp l).length<2^20)(H:qa):
  lP E0 F0 l72a (.nd (qz l) (.nd .bot (.nd (Nl) .nil .nil) .nil) .nil) H (fun e t' H'=>e=.normal/\∃own n,H.next<=n/\FT.Le (.nd .bot (.nd .bot (.nd (.sl ((vp l).map qg) own) .nil .nil) .nil) .nil) t'/\HWk H' ⟨H.objs,n⟩/\(H'.Ok->qa.Ok ⟨H.objs,n⟩)):=by
 refine qgk fun hH=>ur ?_
 simp(disch:=omega)[l72a,qbo]
 obtain⟨L,hL⟩:∃L,vp l=L:=⟨_,rfl⟩
 rw[hL]at hA ⊢
 refine qB (σ:=NNAs) (fun q=>(.nd (qz l) (.nd .bot (.nd (.sl (q.aa.map qg) q.own) .nil .nil) .nil) (.nd .bot (.nd (.int q.i) .nil .nil) .nil))) (fun q=>⟨q.ob,q.n⟩) (fun q=>l.length - q.i)
  (fun q=>vS H 2 q.aa.length q.own q.ob q.n/\H.next<=q.n/\q.i<=l.length/\q.aa++vp (l.drop q.i)=L) ⟨0,H.next,[],.full,H.objs⟩ ⟨.inl ⟨rfl,rfl,Nat.le_refl _⟩,Nat.le_refl _,Nat.zero_le _,hL⟩ (by simp[FT.Le,Wk]) ⟨HWk.refl _,fun h=>h⟩ ?_
 rintro⟨i,n,aa,own,ob⟩ ⟨hr,hn,hi,he⟩ hok
 dsimp only at hr hn hi he hok
 have hal:aa.length<2^20:=by
  have:=congrArg List.length he
  rw[List.length_append]at this
  omega
 by_cases hlt:i<l.length
 case neg=>
  rw[List.drop_eq_nil_of_le (by omega)]at he
  have he2:aa=L:=by simpa [vp] using he
  subst he2
  simp(disch:=omega)[hlt]
  refine⟨own,n,hn,by simp[FT.Le,Wk],⟨Nat.le_refl _,fun j x hx=>?_⟩,fun _=>qx.mono hH hn⟩
  rcases hr with⟨_,rfl,_⟩|⟨t,_,h1,h2,rfl⟩
  ·exact hx
  ·have:=hH.look hx
   simp only[look]
   rw[if_neg (by omega)]
   exact hx
 rw[List.drop_eq_getElem_cons hlt]at he
 have he1:aa++(qci l[i]++vp (l.drop (i+1)))=L:=he
 have hbl:=hb _ (yv hlt)
 simp(disch:=omega)[hlt]
 refine zF ?_
 obtain⟨own1,ob1,n1,e1,hr1,hn1⟩:=qfL (H:=H) (sz:=2) (es:=aa.map qg) (by omega) (qaw aa) (by rw[List.length_map];omega) (by rw[List.length_map];exact hr) (x:=qg l[i].head) rfl .full
 rw[List.length_map]at hr1
 simp(disch:=omega)
 rw[show apL ⟨ob,n⟩ 2 (.sl (aa.map qg) own) (.sl [.agg [.str l[i].head.pred,ql l[i].head.args]] .full)=_ from e1]
 simp(disch:=omega)
 obtain⟨Q,hQ⟩:∃Q,aa++qci l[i]=Q:=⟨_,rfl⟩
 rw[<-List.append_assoc,hQ]at he1
 have hQl:Q.length<2^20:=by
  have:=congrArg List.length he1
  rw[List.length_append]at this
  omega
 refine qB (σ:=NNAs) (fun q=>(.nd (qz l) (.nd .bot (.nd (.sl (q.aa.map qg) q.own) .nil .nil) (.nd (.int q.i) .nil .nil)) (.nd .bot (.nd (.int i) .nil .nil) .nil))) (fun q=>⟨q.ob,q.n⟩) (fun q=>l[i].body.length - q.i)
  (fun q=>vS H 2 q.aa.length q.own q.ob q.n/\n<=q.n/\q.i<=l[i].body.length/\q.aa++(l[i].body.drop q.i).flatMap qbA=Q) ⟨0,n1,aa++[l[i].head],own1,ob1⟩
  ⟨by simp only[List.length_append,List.length_cons,List.length_nil];exact hr1,hn1,Nat.zero_le _,by rw[<-hQ];simp[qci]⟩ (by simp[FT.Le,Wk]) ⟨HWk.refl _,fun h=>h⟩ ?_
 rintro⟨j,n2,aa2,own2,ob2⟩ ⟨hr2,hn2,hj,he2⟩ hok2
 dsimp only at hr2 hn2 hj he2 hok2
 have hal2:aa2.length<2^20:=by
  have:=congrArg List.length he2
  rw[List.length_append]at this
  omega
 by_cases hlt2:j<l[i].body.length
 case neg=>
  rw[List.drop_eq_nil_of_le (by omega)]at he2
  have he3:aa2=Q:=by simpa using he2
  subst he3
  simp(disch:=omega)[hlt,hlt2,qk (show i<2^62 by omega)]
  exact⟨⟨i+1,n2,aa2,own2,ob2⟩,by dsimp only;omega,⟨hr2,by dsimp only;omega,by dsimp only;omega,he1⟩,by simp[FT.Le,Wk],HWk.refl _,fun h=>h⟩
 rw[List.drop_eq_getElem_cons hlt2,List.flatMap_cons,<-List.append_assoc]at he2
 by_cases hk:l[i].body[j].kind<=2
 ·have e3:qbA l[i].body[j]=[l[i].body[j].atom]:=by simp[qbA,hk]
  rw[e3]at he2
  simp(disch:=omega)[hlt,hlt2,hk]
  refine zF ?_
  obtain⟨own3,ob3,n3,e4,hr3,hn3⟩:=qfL (H:=H) (sz:=2) (es:=aa2.map qg) (by omega) (qaw aa2) (by rw[List.length_map];omega) (by rw[List.length_map];exact hr2) (x:=qg l[i].body[j].atom) rfl .full
  rw[List.length_map]at hr3
  simp(disch:=omega)
  rw[show apL ⟨ob2,n2⟩ 2 (.sl (aa2.map qg) own2) (.sl [.agg [.str l[i].body[j].atom.pred,ql l[i].body[j].atom.args]] .full)=_ from e4]
  simp(disch:=omega)[qk (show j<2^62 by omega)]
  exact⟨⟨j+1,n3,aa2++[l[i].body[j].atom],own3,ob3⟩,by dsimp only;omega,⟨by simp only[List.length_append,List.length_cons,List.length_nil];exact hr3,by dsimp only;omega,by dsimp only;omega,he2⟩,by simp[FT.Le,Wk],HWk.refl _,fun h=>h⟩
 ·have e3:qbA l[i].body[j]=[]:=by simp[qbA,hk]
  rw[e3,List.append_nil]at he2
  simp(disch:=omega)[hlt,hlt2,hk,qk (show j<2^62 by omega)]
  exact⟨⟨j+1,n2,aa2,own2,ob2⟩,by dsimp only;omega,⟨hr2,by dsimp only;omega,by dsimp only;omega,he2⟩,by simp[FT.Le,Wk],HWk.refl _,fun h=>h⟩
end Go.Abs.Tz
namespace Go.Abs
open Go
section
variable{E:Env}{F:Fns}
theorem qdZ{b:BFn}{f:FuncId}{args:List LV}{H:qa}{kv kp:HP}(hf:F.fn f b)
  (h:H.Ok->fnP E F b args H (fun v H'=>∃v' H'',Wk v v'/\HWk H' H''/\(H'.Ok->H''.Ok)/\kv v' H'') kp):cP E F f args H kv kp:=by
 intro hH
 obtain⟨hn,h⟩:=h hH
 obtain⟨t,h1,h2⟩:=qgN h
 have ht:t.get=zz args:=by
  funext j
  rw[h2 j]
  simp only[zz]
  by_cases hj:j<args.length
  ·rw[if_pos (by omega)];simp
  ·rw[if_neg (by omega)]
   have:args[j]? = none:=List.getElem?_eq_none (by omega)
   simp[List.getD_eq_getElem?_getD,this,FT.get_nil]
 have hb:=qbv b.body t H _ hH h1
 rw[ht]at hb
 refine .enter hf hn hb (fun fr df H' hT=>?_) (fun v fr df H' hT=>?_) (fun n fr df H' hT=>?_)
 ·have:∃(t':FT),fr=t'.get/\df=[]/\H'.Ok/\vU E b.res t' H' fun v=>∃v' H'',Wk v v'/\HWk H' H''/\(H'.Ok->H''.Ok)/\kv v' H'':=by
   rcases hT with⟨e,t',H'',he,hok,hk⟩|⟨e,t',H'',he,hok,hk⟩<;>cases he
   ·exact⟨t',rfl,rfl,hok,hk⟩
   ·exact⟨t',rfl,rfl,hok,hk⟩
  obtain⟨t',rfl,rfl,hok,v,hv,v',H1,hw,h3,h4,h5⟩:=this
  exact⟨rfl,v,v',H1,hv,hw,h3,.inl ⟨v',H1,rfl,h4 hok,h5⟩⟩
 ·obtain⟨e,t',H'',he,hok,hk⟩:=hT
  cases he
  exact⟨rfl,v,H',.inl rfl,⟨Nat.le_refl _,fun _ _ h=>h⟩,.inr ⟨v,H',rfl,hok,hk⟩⟩
 ·obtain⟨e,t',H'',he,hok,hk⟩:=hT
  cases he
  cases hk
end
end Go.Abs
namespace Go.Abs.Tz
open Go Go.Abs Go.Proofs
set_option maxRecDepth 20000
set_option linter.unusedSimpArgs false
attribute [local simp ↓] yC yB jT jS yf uO zu zG jR uB vl vm yD yF yG yE jY j6 j9 jZ ga gc j7 j8 j0 jW jU jX jV vj vh vk vi yy yw yz yx yK yI yJ jj z8 ge zw zU yi vn vo yN yP yO yL yM yZ gh gq gv gp gt gu g7 g6 gC gE jB jy jM jP jz jH jL jK jJ jI jF ju jv jw jx jN jD jE jq jO jQ jA jC jG jr gI gD gY ya gF gS gW gV gU gT gO gz g0 gM gN gw g9 yb gG gK gQ gx yd g8 gy yc gL gH gJ gA gZ gi gk gj yT yW yS yU yV qq uG
attribute [local simp] faL fdL iaL ixL qS zm ze eqK eqL qX zE uA yQ vg y5 y7 y9 vc ve vf y6 vb y8 vd zM LV.cells LV.whole qq uQ gg gf stL zN ui uI qa.alloc yg ye yh yu yt yr yq yp yo yn ym yk yj qe uD
theorem qqg{k:ByteArray}:∀{K:qm},(z6 K).Nodup->wG (.pl 1) (.str k) (qG K)=some ((qY k K).map qW)
 |[],_=>rfl
 |(j,v)::r,hn=>by
  obtain⟨h1,h2⟩:=List.nodup_cons.1 (show (j::z6 r).Nodup from hn)
  have ih:=qqg (k:=k) h2
  show (match eqK (.pl 1) (.str k) (.str j),wG (.pl 1) (.str k) (qG r) with
   |some true,some none=>some (some (qW v))
   |some false,some x=>some x
   |_,_=>none)=_
  rw[ih]
  by_cases he:k=j
  ·subst he
   have hnone:qY k r=none:=by
    cases hf:qY k r with
    |none=>rfl
    |some t=>exact absurd (List.mem_map.2 ⟨_,(qgu h2).1 hf,rfl⟩) h1
   simp[hnone,qY,qbG]
  ·have:qK k j=false:=by
    cases h:qK k j with
    |false=>rfl
    |true=>exact absurd (wH.1 h) he
   simp[qY,this]
theorem lkU{H:qa}{o:Nat}{K:qm}(hl:look o H.objs=some (.um (qG K)))(hn:(z6 K).Nodup)(k:ByteArray)(z:LV):lkL H (.pl 1) false z (.map o) (.str k)=some (match qY k K with|some t=>qW t|none=>z):=by
 simp only[lkL,hl,qqg hn]
 cases qY k K<;>rfl
def zT:qn:=⟨0,0,⟨⟨[]⟩⟩⟩
def zi(K:qm)(t:qn):qn:=if t.kind=3 then (qY t.s K).getD zT else t
def qN(K:qm)(a:qd):qd:=⟨a.pred,a.args.map (zi K)⟩
theorem qjo(t:qn)(K:qm)(hn:(z6 K).Nodup)(o:Nat)(H:qa)(hl:look o H.objs=some (.um (qG K))){kv kp:HP}(hk:∀n,H.next<=n->kv (qW (zi K t)) ⟨H.objs,n⟩):
  cP E0 F0 121 [qW t,.map o] H kv kp:=by
 refine zX c121 fun hH=>⟨Nat.le_of_ble_eq_true rfl,?_⟩
 have ho:o<H.next:=hH.look hl
 have fin:∀(x y:qc)(v:LV),v=qW (zi K t)->∃H'',HWk ⟨(H.next+1,x)::(H.next,y)::H.objs,H.next+1+1⟩ H''/\(qa.Ok ⟨(H.next+1,x)::(H.next,y)::H.objs,H.next+1+1⟩->H''.Ok)/\kv v H'':=fun x y v hv=>by
  obtain⟨g1,g2⟩:=zo hH (qi.cons' hH (i:=H.next+1) (m:=H.next+1+1) (o:=x) (by omega) (by omega) (qi.cons' hH (i:=H.next) (m:=H.next) (o:=y) (by omega) (by omega) (qi.refl' _)))
  exact⟨_,g1,g2,by rw[hv];exact hk _ (by omega)⟩
 by_cases h3:t.kind=3
 ·simp(disch:=omega)[qgK,h3]
  rw[lkU (by rw[qe (by omega),qe (by omega)];exact hl) hn]
  cases hf:qY t.s K with
  |none=>
   simp(disch:=omega)[hf]
   exact fin _ _ _ (by simp[zi,h3,hf,zT])
  |some u=>
   simp(disch:=omega)[hf]
   exact fin _ _ _ (by simp[zi,h3,hf])
 ·simp(disch:=omega)[qgK,h3]
  exact fin _ _ _ (by simp[zi,h3])
theorem qiQ{H:qa}{sz:Nat}{X:List LV}{x:LV}{ow:Own}(hX:(X.all fun e=>e.cells.length==sz)=true)(hx:x.cells.length=sz)(hc:X.length+1<=2^30)(hs:sz<=2^10):
  apL H sz (.sl X .full) (.sl [x] ow)=some (.sl (X++[x]) (.tok H.next),H.alloc (.tok (X.length+1) sz)):=by
 have hxs:([x].all fun e=>e.cells.length==sz)=true:=by
  show (x.cells.length==sz&&true)=true
  rw[hx];simp
 unfold apL
 simp only
 rw[hX,hxs]
 simp only[Bool.and_self,if_true]
 rw[if_pos ⟨hc,hs,rfl⟩]
 rfl
theorem qiP{H:qa}{sz t:Nat}{X:List LV}{x:LV}{ow:Own}(hX:(X.all fun e=>e.cells.length==sz)=true)(hx:x.cells.length=sz)(hc:X.length+1<=2^30)(hs:sz<=2^10)(h0:0<sz)(hl:look t H.objs=some (.tok X.length sz)):
  apL H sz (.sl X (.tok t)) (.sl [x] ow)=some (.sl (X++[x]) (.tok t),H.put t (.tok (X.length+1) sz)):=by
 have hxs:([x].all fun e=>e.cells.length==sz)=true:=by
  show (x.cells.length==sz&&true)=true
  rw[hx];simp
 have hcan:vE H sz (.tok t) X.length=true:=by
  have:sz≠0:=by omega
  simp[vE,hl,this]
 unfold apL
 simp only
 rw[hX,hxs]
 simp only[Bool.and_self,if_true]
 rw[if_pos ⟨hc,hs,hcan⟩]
 rfl
structure NNFl where
 i:Nat
 n:Nat
 xs:List qn
 own:Own
 ob:List (Nat×qc)
abbrev wW(K:qn->qn)(l:List qn):List LV:=l.map fun t=>qW (K t)
theorem qqp(K:qn->qn)(l:List qn):(wW K l).all (fun e=>e.cells.length==3)=true:=by
 rw[List.all_map,List.all_eq_true]
 intro x _
 rfl
theorem qnd(a:qd)(hA:a.args.length<=2^20)(K:qn->qn)(mv:LV)(H:qa)(hf:∀t∈a.args,∀(l:List (Nat×qc)) (n:Nat) (kv kp:HP),H.next<=n->(∀i,i<H.next->look i l=look i H.objs)->(∀n',n<=n'->kv (qW (K t)) ⟨l,n'⟩)->cP E0 F0 121 [qW t,mv] ⟨l,n⟩ kv kp)
  {kv kp:HP} (hk:∀n,H.next<=n->kv (qg ⟨a.pred,a.args.map K⟩) ⟨H.objs,n⟩):cP E0 F0 84 [qg a,mv] H kv kp:=by
 refine qdZ c84 fun hH=>⟨Nat.le_of_ble_eq_true rfl,?_⟩
 obtain⟨N,hN⟩:∃N,H.next=N:=⟨_,rfl⟩
 obtain⟨ob0,nx0⟩:=H
 dsimp only at hN hf hk
 subst hN
 simp(disch:=omega)[b84]
 refine qB (σ:=NNFl) (fun q=>(.nd (qg a) (.nd (mv) .nil (.nd (.ptr (nx0+1+1) 0) .nil (.nd (.int a.args.length) .nil .nil))) (.nd (.ptr nx0 0) (.nd (.ptr (nx0+1) 0) .nil (.nd (ql a.args) .nil .nil)) (.nd .bot .nil (.nd (.int q.i) .nil .nil))))) (fun q=>⟨q.ob,q.n⟩) (fun q=>a.args.length - q.i)
  (fun q=>vS ⟨(nx0+1+1,.cells [.str a.pred,.sl (wW K q.xs) q.own])::(nx0+1,.cells [S [],Nl])::(nx0,.cells [.str a.pred,ql a.args])::ob0,nx0+1+1+1⟩ 3 q.i q.own q.ob q.n/\q.i<=a.args.length/\q.xs.length=q.i/\q.xs++a.args.drop q.i=a.args)
  ⟨0,nx0+1+1+1,[],.full,(nx0+1+1,.cells [.str a.pred,Nl])::(nx0+1,.cells [S [],Nl])::(nx0,.cells [.str a.pred,ql a.args])::ob0⟩ ⟨.inl ⟨rfl,rfl,Nat.le_refl _⟩,Nat.zero_le _,rfl,by simp⟩ (by simp[FT.Le,Wk]) ⟨HWk.refl _,fun h=>h⟩ ?_
 rintro⟨i,n,xs,own,ob⟩ ⟨hr,hi,hxl,hxs⟩ hok
 dsimp only at hr hi hok hxl hxs
 have hfin:∀(ow:Own)(H':qa),HWk H' ⟨ob0,n⟩->xs=a.args->∃v',Wk (LV.agg [.str a.pred,.sl (wW K xs) ow]) v'/\∃H'',HWk H' H''/\(H'.Ok->H''.Ok)/\kv v' H'':=by
  intro ow H' hw hx
  have hn0:nx0<=n:=by
   rcases hr with⟨_,_,h3⟩|⟨t,_,g1,g2,_⟩
   ·dsimp only at h3;omega
   ·dsimp only at g1;omega
  refine⟨qg ⟨a.pred,a.args.map K⟩,.inr (.inl ?_),⟨ob0,n⟩,hw,fun _=>qx.mono hH hn0,hk n hn0⟩
  subst hx
  simp[LV.strip,qdw,List.map_map,Function.comp_def]
 by_cases hlt:i<a.args.length
 case neg=>
  have hall:xs=a.args:=by rw[List.drop_eq_nil_of_le (by omega),List.append_nil]at hxs;exact hxs
  rcases hr with⟨rfl,rfl,h3⟩|⟨t,rfl,g1,g2,rfl⟩
  ·dsimp only at h3
   simp(disch:=omega)[hlt]
   refine hfin _ _ ⟨Nat.le_refl _,fun i x hx=>?_⟩ hall
   have:i<nx0:=hH.look hx
   rw[qe (by omega),qe (by omega),qe (by omega)]
   exact hx
  ·dsimp only at g1
   simp(disch:=omega)[hlt]
   refine hfin _ _ ⟨Nat.le_refl _,fun i x hx=>?_⟩ hall
   have:i<nx0:=hH.look hx
   rw[qe (by omega),qe (by omega),qe (by omega),qe (by omega)]
   exact hx
 have hX:=qqp K xs
 obtain⟨X,hXe⟩:∃X,wW K xs=X:=⟨_,rfl⟩
 have hXl:X.length=i:=by rw[<-hXe,List.length_map];exact hxl
 have hnew:wW K (xs++[a.args[i]])=X++[qW (K a.args[i])]:=by rw[<-hXe];simp[wW]
 have hxl2:(xs++[a.args[i]]).length=i+1:=by simp[hxl]
 have hxs2:(xs++[a.args[i]])++a.args.drop (i+1)=a.args:=by
  rw[List.append_assoc]
  show xs++(a.args[i]::a.args.drop (i+1))=a.args
  rw[<-List.drop_eq_getElem_cons hlt]
  exact hxs
 rw[hXe]at hX hr
 have hcan:i+1<=2^30:=by omega
 rcases hr with⟨rfl,rfl,h3⟩|⟨t,rfl,g1,g2,rfl⟩
 ·dsimp only at h3
  simp(disch:=omega)[hlt]
  refine hf a.args[i] (List.getElem_mem hlt) _ _ _ _ (by omega) (fun j hj=>by rw[qe (by omega),qe (by omega),qe (by omega),qe (by omega)]) fun n2 hn2=>?_
  simp(disch:=omega)
  refine zF ?_
  simp(disch:=omega)
  rw[qiQ hX rfl (by rw[hXl];exact hcan) (by omega)]
  simp(disch:=omega)[hXl,qk (show i<2^62 by omega)]
  refine⟨⟨i+1,n2+1,xs++[a.args[i]],.tok n2,(n2,.tok (i+1) 3)::(nx0+1+1,.cells [.str a.pred,.sl (wW K (xs++[a.args[i]])) (.tok n2)])::(nx0+1,.cells [S [],Nl])::(nx0,.cells [.str a.pred,ql a.args])::ob0⟩,by dsimp only;omega,⟨.inr ⟨n2,rfl,by dsimp only;omega,Nat.lt_succ_self _,rfl⟩,by dsimp only;omega,hxl2,hxs2⟩,by simp[FT.Le,Wk],?_⟩
  dsimp only
  rw[hnew]
  have hB:qx ((nx0+1+1,qc.cells [.str a.pred,.sl (X++[qW (K a.args[i])]) (.tok n2)])::(nx0+1,.cells [S [],Nl])::(nx0,.cells [.str a.pred,ql a.args])::ob0) n:=⟨by omega,by omega,by omega,hH⟩
  exact⟨qeM hB fun _ _ h=>h,fun _=>⟨Nat.lt_succ_self _,hB.mono (by omega)⟩⟩
 ·dsimp only at g1
  simp(disch:=omega)[hlt]
  refine hf a.args[i] (List.getElem_mem hlt) _ _ _ _ (by omega) (fun j hj=>by rw[qe (by omega),qe (by omega),qe (by omega),qe (by omega),qe (by omega)]) fun n2 hn2=>?_
  simp(disch:=omega)
  refine zF ?_
  simp(disch:=omega)
  rw[qiP hX rfl (by rw[hXl];exact hcan) (by omega) (by omega) (by rw[qe (by omega),hXl];simp[look])]
  simp(disch:=omega)[hXl,qk (show i<2^62 by omega)]
  refine⟨⟨i+1,n2,xs++[a.args[i]],.tok t,(t,.tok (i+1) 3)::(nx0+1+1,.cells [.str a.pred,.sl (wW K (xs++[a.args[i]])) (.tok t)])::(nx0+1,.cells [S [],Nl])::(nx0,.cells [.str a.pred,ql a.args])::ob0⟩,by dsimp only;omega,⟨.inr ⟨t,rfl,g1,by dsimp only;omega,rfl⟩,by dsimp only;omega,hxl2,hxs2⟩,by simp[FT.Le,Wk],?_⟩
  dsimp only
  rw[hnew]
  have hOk3:qa.Ok ⟨(t,.tok (i+1) 3)::(nx0+1+1,qc.cells [.str a.pred,.sl (X++[qW (K a.args[i])]) (.tok t)])::(nx0+1,.cells [S [],Nl])::(nx0,.cells [.str a.pred,ql a.args])::ob0,n⟩:=⟨g2,g1,by omega,by omega,hH⟩
  exact zo hOk3 (qi.cons hOk3 (Nat.le_refl _) (qi.refl (Nat.le_refl _)) (by dsimp only;omega))
theorem qhh(a:qd)(hA:a.args.length<=2^20)(K:qm)(hn:(z6 K).Nodup)(o:Nat)(H:qa)(hl:look o H.objs=some (.um (qG K))){kv kp:HP}(hk:∀n,H.next<=n->kv (qg (qN K a)) ⟨H.objs,n⟩):
  cP E0 F0 84 [qg a,.map o] H kv kp:=fun hH=>
 qnd a hA (zi K) (.map o) H (fun t _ l n kv kp _ hs hk2=>qjo t K hn o ⟨l,n⟩ (by dsimp only;rw[hs o (hH.look hl)];exact hl) hk2) hk hH
theorem qua(t:qn)(h3:t.kind≠3)(H:qa){kv kp:HP}(hk:∀n,H.next<=n->kv (qW t) ⟨H.objs,n⟩):cP E0 F0 121 [qW t,.sc (.map none)] H kv kp:=by
 refine zX c121 fun hH=>⟨Nat.le_of_ble_eq_true rfl,?_⟩
 simp(disch:=omega)[qgK,h3]
 obtain⟨g1,g2⟩:=zo hH (qi.cons' hH (i:=H.next+1) (m:=H.next+1+1) (o:=.cells [.int t.kind,.int t.n,.str t.s]) (by omega) (by omega) (qi.cons' hH (i:=H.next) (m:=H.next) (o:=.cells [.int t.kind,.int t.n,.str t.s]) (by omega) (by omega) (qi.refl' _)))
 exact⟨_,g1,g2,hk _ (by omega)⟩
theorem qtZ(a:qd)(hA:a.args.length<=2^20)(hg:∀t∈a.args,t.kind≠3)(H:qa){kv kp:HP}(hk:∀n,H.next<=n->kv (qg a) ⟨H.objs,n⟩):cP E0 F0 84 [qg a,.sc (.map none)] H kv kp:=
 qnd a hA id (.sc (.map none)) H (fun t ht l n kv kp _ _ hk2=>qua t (hg t ht) ⟨l,n⟩ hk2) (by simpa using hk)
def qal(t:qn):Bool:=decide (t.kind=1)
def qaO(K:qm)(x:Lit):Bool:=
 if x.kind=3 then eqT (zi K x.a) (zi K x.b)
 else if x.kind=4 then !eqT (zi K x.a) (zi K x.b)
 else if x.kind=5 then qal (zi K x.a)&&qal (zi K x.b)&&decide ((zi K x.a).n<(zi K x.b).n)
 else qal (zi K x.a)&&qal (zi K x.b)&&decide ((zi K x.a).n<=(zi K x.b).n)
theorem qne(x:Lit)(K:qm)(hn:(z6 K).Nodup)(o:Nat)(H:qa)(hl:look o H.objs=some (.um (qG K))){kv kp:HP}(hk:∀n,H.next<=n->kv (.bool (qaO K x)) ⟨H.objs,n⟩):
  cP E0 F0 93 [qda x,.map o] H kv kp:=by
 refine zX c93 fun hH=>⟨Nat.le_of_ble_eq_true rfl,?_⟩
 have ho:o<H.next:=hH.look hl
 obtain⟨ob0,nx0⟩:=H
 dsimp only at hl ho hk
 simp(disch:=omega)[b93]
 refine qjo x.a K hn o _ (by dsimp only;rw[qe (by omega)];exact hl) fun n2 hn2=>?_
 dsimp only at hn2
 simp(disch:=omega)
 refine qjo x.b K hn o _ (by dsimp only;rw[qe (by omega)];exact hl) fun n3 hn3=>?_
 dsimp only at hn3
 have hfin:∀(H':qa)(v:LV),HWk H' ⟨ob0,n3+1+1⟩->v=.bool (qaO K x)->∃H'',HWk H' H''/\(H'.Ok->H''.Ok)/\kv v H'':=fun H' v hw hv=>⟨⟨ob0,n3+1+1⟩,hw,fun _=>qx.mono hH (by dsimp only;omega),by rw[hv];exact hk _ (by omega)⟩
 have hw:∀(c1 c2 c3:qc),HWk ⟨(n3+1,c1)::(n3,c2)::(nx0,c3)::ob0,n3+1+1⟩ ⟨ob0,n3+1+1⟩:=fun c1 c2 c3=>⟨Nat.le_refl _,fun i y hy=>by
  have:i<nx0:=hH.look hy
  rw[qe (by omega),qe (by omega),qe (by omega)]
  exact hy⟩
 obtain⟨P,hP⟩:∃P,zi K x.a=P:=⟨_,rfl⟩
 obtain⟨Q,hQ⟩:∃Q,zi K x.b=Q:=⟨_,rfl⟩
 have hcl:qaO K x=if x.kind=3 then eqT P Q else if x.kind=4 then !eqT P Q else if x.kind=5 then qal P&&qal Q&&decide (P.n<Q.n) else qal P&&qal Q&&decide (P.n<=Q.n):=by rw[<-hP,<-hQ];rfl
 rw[hcl]at hfin
 rw[hP,hQ]
 simp(disch:=omega)
 rcases Classical.em (P.kind=1) with p1|p1<;>rcases Classical.em (Q.kind=1) with q1|q1<;>rcases Classical.em (x.kind=3) with k3|k3<;>rcases Classical.em (x.kind=4) with k4|k4<;>rcases Classical.em (x.kind=5) with k5|k5<;>(try (exfalso;omega))
 all_goals (simp(disch:=omega)[p1,q1,k3,k4,k5])
 all_goals (exact hfin _ _ (hw _ _ _) (by simp[k3,k4,k5,qal,eqT,p1,q1]))
end Go.Abs.Tz
namespace Go.Abs.Tz
open Go
def qlT(p:UInt8->Bool)(r:List UInt8):Prop:=∀c t,r=c::t->p c=false
theorem qjx{p:UInt8->Bool}:∀{xs ys r s:List UInt8},(∀x∈xs,p x=true)->(∀y∈ys,p y=true)->qlT p r->qlT p s->xs++r=ys++s->xs=ys/\r=s
 |[],[],_,_,_,_,_,_,h=>⟨rfl,h⟩
 |[],y::ys,r,s,_,hy,hr,_,h=>by
  have:=hr y (ys++s) h
  rw[hy y List.mem_cons_self]at this
  cases this
 |x::xs,[],r,s,hx,_,_,hs,h=>by
  have:=hs x (xs++r) h.symm
  rw[hx x List.mem_cons_self]at this
  cases this
 |x::xs,y::ys,r,s,hx,hy,hr,hs,h=>by
  simp only[List.cons_append,List.cons.injEq]at h
  obtain⟨h1,h2⟩:=qjx (fun z hz=>hx z (List.mem_cons_of_mem _ hz)) (fun z hz=>hy z (List.mem_cons_of_mem _ hz)) hr hs h.2
  exact⟨by rw[h.1,h1],h2⟩
theorem qfb{d:Nat}(h:d<10):(UInt8.ofNat (48+d)).toNat=48+d:=by
 rw[UInt8.toNat_ofNat']
 omega
theorem qls(u:Nat):Lib.decDigits u≠[]:=by
 rw[Lib.decDigits]
 split<;>simp
theorem qiA{u:Nat}(h:u<10):Lib.decDigits u=[UInt8.ofNat (48+u)]:=by rw[Lib.decDigits,dif_pos h]
theorem qiB{u:Nat}(h:¬u<10):Lib.decDigits u=Lib.decDigits (u / 10)++[UInt8.ofNat (48+u % 10)]:=by rw[Lib.decDigits,dif_neg h]
theorem qqZ(u:Nat):∀v,Lib.decDigits u=Lib.decDigits v->u=v:=by
 induction u using Nat.strongRecOn with
 |_ u ih=>
  intro v h
  by_cases hu:u<10
  ·rw[qiA hu]at h
   by_cases hv:v<10
   ·rw[qiA hv]at h
    have:=congrArg UInt8.toNat (List.cons.inj h).1
    rw[qfb hu,qfb hv]at this
    omega
   ·rw[qiB hv]at h
    have hl:=congrArg List.length h
    rw[List.length_append]at hl
    have:=List.length_pos_iff.2 (qls (v / 10))
    simp only[List.length_cons,List.length_nil]at hl
    omega
  ·rw[qiB hu]at h
   by_cases hv:v<10
   ·rw[qiA hv]at h
    have hl:=congrArg List.length h
    rw[List.length_append]at hl
    have:=List.length_pos_iff.2 (qls (u / 10))
    simp only[List.length_cons,List.length_nil]at hl
    omega
   ·rw[qiB hv]at h
    obtain⟨h1,h2⟩:=List.append_inj' h rfl
    have e1:=ih (u / 10) (by omega) (v / 10) h1
    have:=congrArg UInt8.toNat (List.cons.inj h2).1
    rw[qfb (Nat.mod_lt _ (by omega)),qfb (Nat.mod_lt _ (by omega))]at this
    omega
theorem qlt(u:Nat):∀c∈Lib.decDigits u,48<=c.toNat/\c.toNat<=57:=by
 induction u using Nat.strongRecOn with
 |_ u ih=>
  intro c hc
  by_cases hu:u<10
  ·rw[qiA hu,List.mem_singleton]at hc
   subst hc
   rw[qfb hu];omega
  ·rw[qiB hu,List.mem_append,List.mem_singleton]at hc
   rcases hc with hc|rfl
   ·exact ih (u / 10) (by omega) c hc
   ·rw[qfb (Nat.mod_lt _ (by omega))]
    have:=Nat.mod_lt u (show 0<10 by omega)
    omega
theorem qpn(n:Int):∀c∈Lib.itoa n,c=45\/(48<=c.toNat/\c.toNat<=57):=by
 intro c hc
 unfold Lib.itoa at hc
 split at hc
 ·rcases List.mem_cons.1 hc with h|h
  ·exact .inl h
  ·exact .inr (qlt _ c h)
 ·exact .inr (qlt _ c hc)
theorem qxd(n:Int):Lib.itoa n≠[]:=by
 unfold Lib.itoa
 split
 ·simp
 ·exact qls _
theorem qxe{m n:Int}(h:Lib.itoa m=Lib.itoa n):m=n:=by
 have no:∀(u:Nat)(r:List UInt8),Lib.decDigits u≠45::r:=by
  intro u r e
  have:=qlt u 45 (by rw[e];exact List.mem_cons_self)
  have h45:(45:UInt8).toNat=45:=rfl
  omega
 unfold Lib.itoa at h
 by_cases hm:m<0
 ·rw[if_pos hm]at h
  by_cases hn:n<0
  ·rw[if_pos hn]at h
   have:=qqZ _ _ (List.cons.inj h).2
   omega
  ·rw[if_neg hn]at h
   exact absurd h.symm (no _ _)
 ·rw[if_neg hm]at h
  by_cases hn:n<0
  ·rw[if_pos hn]at h
   exact absurd h (no _ _)
  ·rw[if_neg hn]at h
   have:=qqZ _ _ h
   omega
end Go.Abs.Tz
namespace Go.Abs.Tz
open Go Go.Abs Go.Proofs
set_option maxRecDepth 20000
set_option linter.unusedSimpArgs false
attribute [local simp ↓] yC yB jT jS yf uO zu zG jR uB vl vm yD yF yG yE jY j6 j9 jZ ga gc j7 j8 j0 jW jU jX jV vj vh vk vi yy yw yz yx yK yI yJ jj z8 ge zw zU yi vn vo yN yP yO yL yM yZ gh gq gv gp gt gu g7 g6 gC gE jB jy jM jP jz jH jL jK jJ jI jF ju jv jw jx jN jD jE jq jO jQ jA jC jG jr gI gD gY ya gF gS gW gV gU gT gO gz g0 gM gN gw g9 yb gG gK gQ gx yd g8 gy yc gL gH gJ gA gZ gi gk gj yT yW yS yU yV qq uG
attribute [local simp] faL fdL iaL ixL qS zm ze eqK eqL qX zE uA yQ vg y5 y7 y9 vc ve vf y6 vb y8 vd zM LV.cells LV.whole qq uQ gg gf stL zN ui uI qa.alloc yg ye yh yu yt yr yq yp yo yn ym yk yj qe uD
theorem qrR(a b:List UInt8):((⟨⟨a⟩⟩:ByteArray)++(⟨⟨b⟩⟩:ByteArray))=⟨⟨a++b⟩⟩:=by
 apply ByteArray.ext
 simp
theorem qrP(a:List UInt8):(⟨⟨a⟩⟩:ByteArray).size=a.length:=rfl
theorem qqP:∀(k u:Nat),u<10^(k+1)->(Lib.decDigits u).length<=k+1
 |0,u,h=>by
  have h':u<10:=by simpa using h
  rw[Lib.decDigits,dif_pos h'];simp
 |k+1,u,h=>by
  by_cases h':u<10
  ·rw[Lib.decDigits,dif_pos h'];simp
  ·have:=qqP k (u / 10) (by rw[Nat.pow_succ]at h;omega)
   rw[Lib.decDigits,dif_neg h',List.length_append]
   simp only[List.length_cons,List.length_nil]
   omega
theorem qqQ{u:Nat}(h:u<=2^40):(Lib.decDigits u).length<=13:=qqP 12 u (by omega)
def uh(t:qn):ByteArray:=if t.kind=1 then ⟨⟨Lib.itoa t.n⟩⟩ else t.s
theorem qtg(t:qn)(h:t.kind=1->-(2^40)<=t.n/\t.n<=2^40):qh 90 [qW t] (.str (uh t)):=by
 refine qh.of c90 fun H hH=>⟨Nat.le_of_ble_eq_true rfl,?_⟩
 by_cases h1:t.kind=1
 ·have:=h h1
  simp(disch:=omega)[b90,h1]
  refine(qtO t.n (by omega) (by omega)).go fun n hn=>?_
  simp(disch:=omega)
  exact qp hH (by simp[uh,h1])
 ·simp(disch:=omega)[b90,h1]
  exact qp hH (by simp[uh,h1])
def jp:List qn->Bool->List UInt8
 |[],first=>if first then [] else [41]
 |t::r,first=>(if first then [40] else [44,32])++(uh t).data.toList++jp r false
def qt(a:qd):ByteArray:=⟨⟨a.pred.data.toList++jp a.args true⟩⟩
theorem qzG(a:ByteArray):a.data.toList.length=a.size:=rfl
theorem qen{lo hi:Int}{s:ByteArray}(h:zS lo hi s=true):s.size<=24:=by
 unfold zS at h
 simp only[Bool.and_eq_true,decide_eq_true_eq]at h
 omega
theorem qmD{t:qn}(h:qO t=true):(uh t).size<=24/\(t.kind=1->-(2^40)<=t.n/\t.n<=2^40):=by
 unfold qO at h
 unfold uh
 by_cases h1:t.kind=1
 ·rw[if_pos h1]at h ⊢
  simp only[Bool.and_eq_true,decide_eq_true_eq]at h
  refine⟨?_,fun _=>by omega⟩
  show (Lib.itoa t.n).length<=24
  unfold Lib.itoa
  split
  ·have:=qqQ (u:=t.n.natAbs) (by omega)
   rw[List.length_cons];omega
  ·have:=qqQ (u:=t.n.toNat) (by omega)
   omega
 ·rw[if_neg h1]at h ⊢
  refine⟨?_,fun h=>absurd h h1⟩
  split at h
  ·simp only[Bool.and_eq_true]at h;exact qen h.2
  ·split at h
   ·simp only[Bool.and_eq_true]at h;exact qen h.2
   ·cases h
theorem qrV:∀{l:List qn}{b:Bool},l.all qO=true->(jp l b).length<=26*l.length+1
 |[],b,_=>by unfold jp;split<;>simp
 |t::r,b,h=>by
  simp only[List.all_cons,Bool.and_eq_true]at h
  have h1:=(qmD h.1).1
  have h2:=qrV (b:=false) h.2
  have h3:(uh t).data.toList.length<=24:=h1
  simp only[jp,List.length_append,List.length_cons]
  split<;>simp only[List.length_cons,List.length_nil]<;>omega
theorem qrT{a:qd}(h:qI a=true):a.pred.size<=24/\a.args.length<=3/\a.args.all qO=true:=by
 unfold qI at h
 simp only[Bool.and_eq_true,decide_eq_true_eq]at h
 exact⟨qen h.1,h.2⟩
theorem qzH{a:qd}(h:qI a=true):(qt a).size<=110:=by
 obtain⟨h1,h2,h3⟩:=qrT h
 have:=qrV (b:=true) h3
 show (a.pred.data.toList++jp a.args true).length<=110
 rw[List.length_append,qzG]
 omega
structure NNX where
 i:Nat
 n:Nat
 s:List UInt8
theorem qpm(sep:List UInt8):∀(x:List UInt8)(r:List (List UInt8)),Lib.join (x::r) sep=x++(r.map (sep++·)).flatten
 |x,[]=>by simp[Lib.join,List.intercalate,List.intersperse]
 |x,y::r=>by
  have ih:=qpm sep y r
  unfold Lib.join at ih ⊢
  unfold List.intercalate at ih ⊢
  rw[show List.intersperse sep (x::y::r)=x::sep::List.intersperse sep (y::r) from rfl]
  rw[List.flatten_cons,List.flatten_cons,ih]
  simp
theorem qrX:∀l:List qn,jp l false=((l.map fun t=>(uh t).data.toList).map ([44,32]++·)).flatten++[41]
 |[]=>rfl
 |t::r=>by
  have ih:=qrX r
  rw[jp,ih]
  simp
theorem qzI{l:List qn}(h:l≠[]):jp l true=[40]++Lib.join (l.map fun t=>(uh t).data.toList) [44,32]++[41]:=by
 cases l with
 |nil=>exact absurd rfl h
 |cons t r=>
  rw[List.map_cons,qpm,jp,qrX]
  simp
structure NNY where
 i:Nat
 n:Nat
 xs:List ByteArray
 own:Own
 ob:List (Nat×qc)
abbrev qns(xs:List ByteArray):List LV:=xs.map fun x=>.str x
theorem qnr(xs:List ByteArray):(qns xs).all (fun e=>e.cells.length==1)=true:=by
 rw[List.all_map,List.all_eq_true]
 intro x _
 rfl
theorem qep(a:qd)(h:qI a=true):qh 47 [qg a] (.str (qt a)):=by
 obtain⟨h1,h2,h3⟩:=qrT h
 have hX:(qt a).size<=110:=qzH h
 refine qh.of c47 fun H hH=>⟨Nat.le_of_ble_eq_true rfl,?_⟩
 by_cases h0:a.args.length=0
 ·have h0':(a.args.length:Int)=0:=by omega
  have hn:a.args=[]:=List.length_eq_zero_iff.1 h0
  have hX2:qt a=a.pred:=by
   unfold qt
   rw[hn]
   simp[jp]
  simp(disch:=omega)[b47,h0,h0']
  exact qp hH (by simp[hX2])
 have h0':¬(a.args.length:Int)=0:=by omega
 simp(disch:=omega)[b47,h0,h0']
 have hbase:qa.Ok ⟨(H.next,.cells [.str a.pred,ql a.args])::H.objs,H.next+1⟩:=⟨Nat.lt_succ_self _,hH⟩
 obtain⟨L,hL⟩:∃L,a.args.map uh=L:=⟨_,rfl⟩
 have hLl:L.length<=3:=by rw[<-hL,List.length_map];exact h2
 refine qB (σ:=NNY) (fun q=>(.nd .bot (.nd (.ptr H.next 0) (.nd (.sl (qns q.xs) q.own) (.nd .bot (.nd (.int q.i) .nil .nil) .nil) .nil) (.nd .bot .nil (.nd (ql a.args) .nil .nil))) (.nd .bot .nil (.nd .bot .nil (.nd (.int a.args.length) .nil .nil))))) (fun q=>⟨q.ob,q.n⟩) (fun q=>a.args.length - q.i)
  (fun q=>vS ⟨(H.next,.cells [.str a.pred,ql a.args])::H.objs,H.next+1⟩ 1 q.xs.length q.own q.ob q.n/\H.next<q.n/\q.i<=a.args.length/\q.xs++(a.args.drop q.i).map uh=L) ⟨0,H.next+1,[],.full,(H.next,.cells [.str a.pred,ql a.args])::H.objs⟩
  ⟨.inl ⟨rfl,rfl,Nat.le_refl _⟩,Nat.lt_succ_self _,Nat.zero_le _,by simpa using hL⟩ (by simp[FT.Le,Wk]) ⟨HWk.refl _,fun h=>h⟩ ?_
 rintro⟨i,n,xs,own,ob⟩ ⟨hr,hn,hi,he⟩ hok
 dsimp only at hr hn hi he hok
 have hxl:xs.length<=3:=by
  have:=congrArg List.length he
  rw[List.length_append]at this
  omega
 have hob:ob=(H.next,.cells [.str a.pred,ql a.args])::H.objs\/∃t,H.next<t/\ob=(t,.tok xs.length 1)::(H.next,.cells [.str a.pred,ql a.args])::H.objs:=by
  rcases hr with⟨_,rfl,_⟩|⟨t,_,g1,g2,rfl⟩
  ·exact .inl rfl
  ·exact .inr ⟨t,g1,rfl⟩
 have hlk:look H.next ob=some (.cells [.str a.pred,ql a.args]):=by
  rcases hob with rfl|⟨t,g1,rfl⟩
  ·simp[look]
  ·rw[qe (by omega)];simp[look]
 have hfg:HWk ⟨ob,n⟩ ⟨H.objs,n⟩:=⟨Nat.le_refl _,fun j x hx=>by
  have:=hH.look hx
  rcases hob with rfl|⟨t,g1,rfl⟩
  ·simp only[look];rw[if_neg (by omega)];exact hx
  ·simp only[look];rw[if_neg (by omega),if_neg (by omega)];exact hx⟩
 by_cases hlt:i<a.args.length
 case neg=>
  rw[List.drop_eq_nil_of_le (by omega),List.map_nil,List.append_nil]at he
  subst he
  have hdata:xs.map (·.data.toList)=a.args.map fun t=>(uh t).data.toList:=by rw[<-hL,List.map_map];rfl
  have hne:a.args≠[]:=fun e=>h0 (by rw[e];rfl)
  obtain⟨J,hJ⟩:∃J,Lib.join (xs.map (·.data.toList)) [44,32]=J:=⟨_,rfl⟩
  have hAX:qt a=⟨⟨a.pred.data.toList++[40]++J++[41]⟩⟩:=by
   unfold qt
   rw[qzI hne,<-hdata,hJ]
   simp
  obtain⟨P8,hP8⟩:∃P8,a.pred.data.toList=P8:=⟨_,rfl⟩
  have hpr:a.pred=⟨⟨P8⟩⟩:=by rw[<-hP8]
  have hPl:P8.length<=24:=by rw[<-hP8];exact h1
  rw[hP8]at hAX
  have hJl:J.length<=110:=by
   rw[hAX]at hX
   have:(P8++[40]++J++[41]).length<=110:=hX
   simp only[List.length_append]at this
   omega
  have hb1:P8.length+1<=2^40:=by omega
  have hb2:P8.length+1+J.length<=2^40:=by omega
  have hb3:P8.length+(1+J.length)<=2^40:=by omega
  have hb4:P8.length+1+J.length+1<=2^40:=by omega
  have hb5:P8.length+(1+(J.length+1))<=2^40:=by omega
  have hb6:P8.length+(J.length+1)+1<=2^40:=by omega
  have hb7:P8.length+(J.length+1)<=2^40:=by omega
  have hb8:P8.length+(J.length+1+1)<=2^40:=by omega
  rw[hpr]at hlk
  have lk1:qS ⟨ob,n⟩ none (.ptr H.next 0)=some (.str ⟨⟨P8⟩⟩):=by simp[qS,hlk,zm]
  simp(disch:=omega)[hlt,hlk,qrR,qrP,hb1]
  refine(qmY xs own ⟨⟨[44,32]⟩⟩ (by omega) (by show (Lib.join _ [44,32]).length<=_;rw[hJ];omega)).x (.sc _) ?_
  rw[show Lib.join (xs.map (·.data.toList)) (ByteArray.mk ⟨[44,32]⟩).data.toList=J from hJ]
  have hJa:(⟨J.toArray⟩:ByteArray)=⟨⟨J⟩⟩:=rfl
  rw[hJa]
  simp(disch:=omega)[hlk,qrR,qrP,hb1,hb2,hb3,hb4,hb5,hb6,hb7,hb8]
  refine⟨⟨H.objs,n⟩,hfg,fun _=>qx.mono hH (by first|omega|(dsimp only;omega)),?_,n,by first|omega|(dsimp only;omega),rfl⟩
  rw[hAX]
  simp
 rw[List.drop_eq_getElem_cons hlt,List.map_cons]at he
 have he':(xs++[uh a.args[i]])++(a.args.drop (i+1)).map uh=L:=by rw[List.append_assoc];exact he
 have htk:=List.all_eq_true.1 h3 _ (yv hlt)
 obtain⟨g1,g2⟩:=qmD htk
 simp(disch:=omega)[hlt]
 refine(qtg _ g2).x (.sc _) ?_
 simp(disch:=omega)
 refine zF ?_
 have hcan:xs.length+1<=2^30:=by omega
 have hlen1:(xs++[uh a.args[i]]).length=xs.length+1:=by simp
 rcases hr with⟨rfl,rfl,h3⟩|⟨t,rfl,f1,f2,rfl⟩
 ·dsimp only at h3
  simp(disch:=omega)[apL,vE,qnr,hcan,qk (show i<2^62 by omega)]
  refine⟨⟨i+1,n+1+1,xs++[uh a.args[i]],.tok (n+1),(n+1,.tok (xs.length+1) 1)::(H.next,.cells [.str a.pred,ql a.args])::H.objs⟩,by dsimp only;omega,⟨.inr ⟨n+1,rfl,by dsimp only;omega,Nat.lt_succ_self _,by dsimp only;rw[hlen1]⟩,by dsimp only;omega,by dsimp only;omega,by simpa using he'⟩,by simp[FT.Le,Wk],?_,fun _=>⟨Nat.lt_succ_self _,⟨by omega,hH⟩⟩⟩
  exact qeM (show qx ((H.next,qc.cells [.str a.pred,ql a.args])::H.objs) n from ⟨hn,hH⟩) fun _ _ h=>h
 ·dsimp only at f1
  simp(disch:=omega)[apL,vE,qnr,hcan,qk (show i<2^62 by omega)]
  refine⟨⟨i+1,n+1,xs++[uh a.args[i]],.tok t,(t,.tok (xs.length+1) 1)::(H.next,.cells [.str a.pred,ql a.args])::H.objs⟩,by dsimp only;omega,⟨.inr ⟨t,rfl,f1,by dsimp only;omega,by dsimp only;rw[hlen1]⟩,by dsimp only;omega,by dsimp only;omega,by simpa using he'⟩,by simp[FT.Le,Wk],?_⟩
  have hOk3:qa.Ok ⟨(t,.tok (xs.length+1) 1)::(H.next,.cells [.str a.pred,ql a.args])::H.objs,n⟩:=⟨f2,⟨by omega,hH⟩⟩
  exact zo hOk3 (qi.cons hOk3 (Nat.le_refl _) (qi.refl (Nat.le_refl _)) (Nat.le_succ _))
end Go.Abs.Tz
namespace Go.Abs.Tz
open Go Go.Abs Go.Proofs
def pW(c:UInt8):Bool:=qaV c.toNat||decide (c=45)
theorem qnW(p:Int->Bool):∀{l:List UInt8},uZ p l=l.length->∀c∈l,p c.toNat=true
 |[],_,c,hc=>by cases hc
 |a::l,h,c,hc=>by
  unfold uZ at h
  by_cases ha:p a.toNat=true
  ·rw[if_pos ha]at h
   have h':uZ p l=l.length:=by simpa using h
   rcases List.mem_cons.1 hc with rfl|hc
   ·exact ha
   ·exact qnW p h' c hc
  ·rw[if_neg ha]at h
   simp at h
theorem qgX{lo hi:Int}{s:ByteArray}(h:zS lo hi s=true):∀c∈s.data.toList,pW c=true:=by
 unfold zS at h
 simp only[Bool.and_eq_true,decide_eq_true_eq]at h
 obtain⟨_,_,_,_,_,h⟩:=h
 intro c hc
 unfold pW
 rw[qnW qaV h c hc]
 rfl
theorem qfy{lo hi:Int}{s:ByteArray}(h:zS lo hi s=true):∃c r,s.data.toList=c::r/\lo<=(c.toNat:Int)/\(c.toNat:Int)<=hi:=by
 unfold zS at h
 simp only[Bool.and_eq_true,decide_eq_true_eq]at h
 obtain⟨h1,_,_,_,hf,_⟩:=h
 have e:sL s=s.data.toList:=rfl
 rw[e]at hf
 cases hs:s.data.toList with
 |nil=>rw[hs]at hf;simp[qde]at hf
 |cons c r=>
  rw[hs]at hf
  simp[qde]at hf
  exact⟨c,r,rfl,hf.1,hf.2⟩
theorem qmE{t:qn}(h:qO t=true):∀c∈(uh t).data.toList,pW c=true:=by
 unfold qO at h
 unfold uh
 by_cases h1:t.kind=1
 ·rw[if_pos h1]
  intro c hc
  rcases qpn t.n c (by simpa using hc) with rfl|h
  ·rfl
  ·unfold pW qaV qaq
   simp
   omega
 ·rw[if_neg h1]at h ⊢
  by_cases h2:t.kind=2
  ·rw[if_pos h2]at h
   simp only[Bool.and_eq_true]at h
   exact qgX h.2
  ·rw[if_neg h2]at h
   by_cases h3:t.kind=3
   ·rw[if_pos h3]at h
    simp only[Bool.and_eq_true]at h
    exact qgX h.2
   ·rw[if_neg h3]at h;cases h
theorem qrQ{a b:ByteArray}(h:a.data.toList=b.data.toList):a=b:=by
 obtain⟨⟨x⟩⟩:=a
 obtain⟨⟨y⟩⟩:=b
 simp at h
 rw[h]
theorem qjd{t:qn}(h:qO t=true):(t.kind=1/\t.s=⟨⟨[]⟩⟩)\/(t.kind=2/\t.n=0/\zS 97 122 t.s=true)\/(t.kind=3/\t.n=0/\zS 65 90 t.s=true):=by
 unfold qO at h
 by_cases h1:t.kind=1
 ·rw[if_pos h1]at h
  simp only[Bool.and_eq_true]at h
  exact .inl ⟨h1,wH.1 h.1⟩
 ·rw[if_neg h1]at h
  by_cases h2:t.kind=2
  ·rw[if_pos h2]at h
   simp only[Bool.and_eq_true,decide_eq_true_eq]at h
   exact .inr (.inl ⟨h2,h.1,h.2⟩)
  ·rw[if_neg h2]at h
   by_cases h3:t.kind=3
   ·rw[if_pos h3]at h
    simp only[Bool.and_eq_true,decide_eq_true_eq]at h
    exact .inr (.inr ⟨h3,h.1,h.2⟩)
   ·rw[if_neg h3]at h;cases h
theorem qmF{t:qn}(h:t.kind=1):(uh t).data.toList=Lib.itoa t.n:=by
 unfold uh
 rw[if_pos h]
theorem qcn{t:qn}(h:t.kind≠1):uh t=t.s:=by
 unfold uh
 rw[if_neg h]
theorem qxf(n:Int):∃c r,Lib.itoa n=c::r/\c.toNat<=57:=by
 cases h:Lib.itoa n with
 |nil=>exact absurd h (qxd n)
 |cons c r=>
  refine⟨c,r,rfl,?_⟩
  rcases qpn n c (by rw[h];exact List.mem_cons_self) with rfl|h
  ·decide
  ·exact h.2
theorem qsV{t u:qn}(ht:qO t=true)(hu:qO u=true)(h:uh t=uh u):t=u:=by
 have num_word:∀{t u:qn},t.kind=1->u.kind≠1->(∃lo hi,(65:Int)<=lo/\zS lo hi u.s=true)->uh t≠uh u:=by
  intro t u h1 h2 ⟨lo,hi,hlo,hw⟩ e
  have e1:=congrArg (fun x:ByteArray=>x.data.toList) e
  simp only[qmF h1,qcn h2]at e1
  obtain⟨c,r,hc,hc2⟩:=qxf t.n
  obtain⟨d,r2,hd,hd2,_⟩:=qfy hw
  rw[hc,hd]at e1
  obtain⟨rfl,_⟩:=List.cons.inj e1
  omega
 obtain⟨tk,tn,ts⟩:=t
 obtain⟨uk,un,us⟩:=u
 rcases qjd ht with⟨h1,h2⟩|⟨h1,h2,h3⟩|⟨h1,h2,h3⟩<;>rcases qjd hu with⟨g1,g2⟩|⟨g1,g2,g3⟩|⟨g1,g2,g3⟩<;>dsimp only at h1 h2 g1 g2
 ·subst h1;subst g1;subst h2;subst g2
  have e1:=congrArg (fun x:ByteArray=>x.data.toList) h
  simp only[qmF]at e1
  rw[qxe e1]
 ·exact absurd h (num_word h1 (by show uk≠1;omega) ⟨97,122,by omega,g3⟩)
 ·exact absurd h (num_word h1 (by show uk≠1;omega) ⟨65,90,by omega,g3⟩)
 ·exact absurd h.symm (num_word g1 (by show tk≠1;omega) ⟨97,122,by omega,h3⟩)
 ·rw[qcn (by show tk≠1;omega),qcn (by show uk≠1;omega)]at h
  dsimp only at h
  rw[h1,h2,g1,g2,h]
 ·rw[qcn (by show tk≠1;omega),qcn (by show uk≠1;omega)]at h
  dsimp only at h h3 g3
  subst h
  obtain⟨c,r,e,a1,a2⟩:=qfy h3
  obtain⟨d,r2,e2,b1,b2⟩:=qfy g3
  rw[e]at e2
  obtain⟨rfl,_⟩:=List.cons.inj e2
  omega
 ·exact absurd h.symm (num_word g1 (by show tk≠1;omega) ⟨65,90,by omega,h3⟩)
 ·rw[qcn (by show tk≠1;omega),qcn (by show uk≠1;omega)]at h
  dsimp only at h h3 g3
  subst h
  obtain⟨c,r,e,a1,a2⟩:=qfy h3
  obtain⟨d,r2,e2,b1,b2⟩:=qfy g3
  rw[e]at e2
  obtain⟨rfl,_⟩:=List.cons.inj e2
  omega
 ·rw[qcn (by show tk≠1;omega),qcn (by show uk≠1;omega)]at h
  dsimp only at h
  rw[h1,h2,g1,g2,h]
theorem qiO(l:List qn)(b:Bool):qlT pW (jp l b):=by
 intro c t h
 cases l with
 |nil=>
  cases b<;>simp[jp]at h
  rw[<-h.1];rfl
 |cons x l=>
  cases b<;>simp[jp]at h
  ·rw[<-h.1];rfl
  ·rw[<-h.1];rfl
theorem qrW:∀{l m:List qn},l.all qO=true->m.all qO=true->∀b,jp l b=jp m b->l=m
 |[],[],_,_,_,_=>rfl
 |[],u::m,_,_,b,h=>by cases b<;>simp[jp]at h
 |t::l,[],_,_,b,h=>by cases b<;>simp[jp]at h
 |t::l,u::m,hl,hm,b,h=>by
  simp only[List.all_cons,Bool.and_eq_true]at hl hm
  have h':(uh t).data.toList++jp l false=(uh u).data.toList++jp m false:=by
   cases b<;>simpa [jp] using h
  obtain⟨h1,h2⟩:=qjx (qmE hl.1) (qmE hm.1) (qiO _ _) (qiO _ _) h'
  rw[qsV hl.1 hm.1 (qrQ h1),qrW hl.2 hm.2 false h2]
theorem qlJ{a b:qd}(ha:qI a=true)(hb:qI b=true)(h:qt a=qt b):a=b:=by
 have e:=congrArg (fun x:ByteArray=>x.data.toList) h
 have e':a.pred.data.toList++jp a.args true=b.pred.data.toList++jp b.args true:=e
 unfold qI at ha hb
 simp only[Bool.and_eq_true,decide_eq_true_eq]at ha hb
 obtain⟨h1,h2⟩:=qjx (qgX ha.1) (qgX hb.1) (qiO _ _) (qiO _ _) e'
 obtain⟨ap,aa⟩:=a
 obtain⟨bp,ba⟩:=b
 dsimp only at h1 h2 ha hb
 rw[qrQ h1,qrW ha.2.2 hb.2.2 true h2]
end Go.Abs.Tz
