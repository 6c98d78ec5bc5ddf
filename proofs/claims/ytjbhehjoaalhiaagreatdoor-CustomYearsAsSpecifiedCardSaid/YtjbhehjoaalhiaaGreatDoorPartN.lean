/- Part of the proof that the law CustomYearsAsSpecified holds. Conditions: none. -/
import Derived.Test.YtjbhehjoaalhiaaGreatDoorPartG
import Derived.Test.YtjbhehjoaalhiaaGreatDoorPartM
import Derived.Test.YtjbhehjoaalhiaaGreatDoorPartK
import Derived.Test.YtjbhehjoaalhiaaGreatDoorPartJ
import Derived.Test.YtjbhehjoaalhiaaGreatDoorPartI
import Derived.Test.YtjbhehjoaalhiaaGreatDoorPartH
import Derived.WalkKit
import Derived.OwnWalk
import Derived.Lib.SliceRun
import Derived.KernelRfl
set_option linter.unusedVariables false
set_option linter.unusedSimpArgs false
set_option linter.unusedSectionVars false
namespace Go.Abs.Tz
open Go Go.Abs Go.Proofs
set_option maxRecDepth 20000
set_option linter.unusedSimpArgs false
attribute [local simp ↓] gT gS jh jg gv ug q9 zu jf ub yD yE gU gW gY gV jm jp ju jn jv jw jq jr jo jk ji jl jj yB yz yC yA gN gL gO gM g8 g6 g7 uh zG jy qX jz gy yF yG yb yd yc g9 ya ym jD jI jL jH jJ jK gh gg jR jT uQ uN ja jd uO uW u9 uZ uY uX uU uJ uK uL uM jb uS uT uH jc je uP uR uV uI jX jS gd gk jU j8 gc gb ga j9 j6 jP gf j3 j5 jM gj gp jV jZ j7 jN gt gi jO gq j0 jW jY jQ ge jE jG jF yg yk yf yh yj qp ur
attribute [local simp] faL fdL iaL ixL qD qY qT eqK eqL qO zi uD ye yy yn yp yr yu yw yx yo yt yq yv zy LV.cells LV.whole qp uq zU jA stL zz zP uc qa.alloc gw gu gx gK gJ gI gH gG gF gD gC gA gz qd ui
theorem qkA{n:Nat}(h:n+1<2^63):IntKind.wrap .i64 ((n:Int)+1)=((n+1:Nat):Int):=by
 rw[zJ (by omega) (by omega)];omega
def qaG(x:Lit):Bool:=x.atom.small&&(decide (x.a.s.size<=40)&&decide (x.b.s.size<=40))
def qbj:List Lit->Nat
 |[]=>0
 |x::r=>(if x.kind=1 then 1 else 0)+qbj r
def qaO(c:qe):Bool:=c.body.all qaG&&(c.head.small&&(decide (qbj c.body<=3)&&decide (c.body.length<=8)))
def qbz(mo:Nat)(l:List qe):Bool:=if 40<l.length then true else if l.all qaO then decide (l.length<=mo) else false
theorem qpI:∀l:List Lit,qbj l<=l.length
 |[]=>Nat.le_refl _
 |x::r=>by
  have:=qpI r
  simp only[qbj,List.length_cons]
  split<;>omega
structure NNCq where
 i:Nat
 n:Nat
 c:Nat
theorem qkZ(mo:Nat)(hmo:mo<=100)(l:List qe)(hb:∀c∈l,c.body.length<2^63):qf 15 [qy l,.int mo] (.bool (qbz mo l)):=by
 refine qf.of c15 fun H hH=>⟨Nat.le_of_ble_eq_true rfl,?_⟩
 by_cases h1:(40:Int)<(l.length:Int)
 ·simp(disch:=omega)[b15,h1]
  exact qh hH (by simp[qbz,show 40<l.length by omega])
 have hl40:l.length<=40:=by omega
 simp(disch:=omega)[b15,h1]
 obtain⟨A,hA⟩:∃A,l.all qaO=A:=⟨_,rfl⟩
 have hB:qbz mo l=if A then decide (l.length<=mo) else false:=by unfold qbz;rw[if_neg (by omega),hA]
 obtain⟨Vv,hVv⟩:∃Vv,(if A then decide (l.length<=mo) else false)=Vv:=⟨_,rfl⟩
 rw[hB,hVv]
 refine qA (σ:=NN) (fun q=>(.nd (qy l) (.nd (.int mo) .nil (.nd (.int q.i) .nil .nil)) (.nd .bot (.nd (.bool false) .nil .nil) .nil))) (fun q=>⟨H.objs,q.n⟩) (fun q=>l.length - q.i)
  (fun q=>H.next<=q.n/\q.i<=l.length/\(l.drop q.i).all qaO=A) ⟨0,H.next⟩ ⟨Nat.le_refl _,Nat.zero_le _,hA⟩ (by simp[FT.Le,Wk]) ⟨HWk.refl _,fun h=>h⟩ ?_
 rintro⟨i,n⟩ ⟨hn,hi,he⟩ hok
 simp only at hn hi he
 by_cases hlt:i<l.length
 case neg=>
  obtain rfl:i=l.length:=by omega
  rw[List.drop_eq_nil_of_le (Nat.le_refl _),List.all_nil]at he
  simp(disch:=omega)
  refine qdn hH ?_ (by first|exact qq.refl' _|(repeat (first|exact qq.refl (by first|omega|(dsimp only;omega))|refine qq.cons' hH (by first|omega|(dsimp only;omega)) (by first|omega|(dsimp only;omega)) ?_)))
  rw[<-hVv,<-he]
  simp
 rw[qbR qaO hlt]at he
 have hbl:=hb _ (z7 hlt)
 obtain⟨D,hD⟩:∃D,l[i].body.all qaG=D:=⟨_,rfl⟩
 obtain⟨M,hM⟩:∃M,qbj l[i].body=M:=⟨_,rfl⟩
 have hC:qaO l[i]=(D&&(l[i].head.small&&(decide (M<=3)&&decide (l[i].body.length<=8)))):=by unfold qaO;rw[hD,hM]
 rw[hC]at he
 have hML:M<=l[i].body.length:=by rw[<-hM];exact qpI _
 simp(disch:=omega)[hlt]
 refine qA (σ:=NNCq) (fun q=>(.nd (qy l) (.nd (.int mo) (.nd .bot (.nd (.int q.i) .nil .nil) .nil) (.nd (.int i) .nil .nil)) (.nd .bot (.nd (.bool false) .nil .nil) (.nd (.int q.c) .nil .nil)))) (fun q=>⟨H.objs,q.n⟩) (fun q=>l[i].body.length - q.i)
  (fun q=>H.next<=q.n/\q.i<=l[i].body.length/\q.c+qbj (l[i].body.drop q.i)=M/\(l[i].body.drop q.i).all qaG=D) ⟨0,n,0⟩ ⟨hn,Nat.zero_le _,by simpa using hM,hD⟩ (by simp[FT.Le,Wk]) ⟨HWk.refl _,fun h=>h⟩ ?_
 rintro⟨j,n2,cn⟩ ⟨hn2,hj,hcn,he2⟩ hok2
 dsimp only at hn2 hj hcn he2
 by_cases hlt2:j<l[i].body.length
 case neg=>
  rw[List.drop_eq_nil_of_le (by omega)]at hcn he2
  simp only[qbj,List.all_nil,Nat.add_zero]at hcn he2
  subst hcn
  subst he2
  rw[Bool.true_and]at he
  simp(disch:=omega)[hlt,hlt2]
  refine(qla l[i].head).go fun n3 hn3=>?_
  cases hs:l[i].head.small
  ·rw[hs,Bool.false_and,Bool.false_and]at he
   simp(disch:=omega)
   exact qh hH (by simp[<-hVv,<-he])
  rw[hs,Bool.true_and]at he
  by_cases h3:cn<=3
  case neg=>
   have h3':(3:Int)<(cn:Int):=by omega
   have h3n:3<cn:=by omega
   simp only[h3,decide_false,Bool.false_and]at he
   simp(disch:=omega)[h3',h3n]
   exact qh hH (by simp[<-hVv,<-he])
  have h3':¬(3:Int)<(cn:Int):=by omega
  have h3n:¬3<cn:=by omega
  by_cases h8:l[i].body.length<=8
  case neg=>
   have h8':(8:Int)<(l[i].body.length:Int):=by omega
   have h8n:8<l[i].body.length:=by omega
   simp only[h3,h8,decide_false,Bool.and_false,Bool.false_and]at he
   simp(disch:=omega)[h3',h3n,h8',h8n,hlt]
   exact qh hH (by simp[<-hVv,<-he])
  have h8':¬(8:Int)<(l[i].body.length:Int):=by omega
  have h8n:¬8<l[i].body.length:=by omega
  simp only[h3,h8,decide_true,Bool.and_true,Bool.true_and]at he
  simp(disch:=omega)[h3',h3n,h8',h8n,hlt,qk (show i<2^62 by omega)]
  exact⟨⟨i+1,n3⟩,by dsimp only;omega,⟨by dsimp only;omega,by dsimp only;omega,he⟩,by simp[FT.Le,Wk],HWk.refl _,fun h=>h⟩
 rw[qbR qaG hlt2]at he2
 rw[List.drop_eq_getElem_cons hlt2]at hcn
 simp only[qbj]at hcn
 have hdone:qaG l[i].body[j]=false->Vv=false:=by
  intro h
  rw[<-hVv]
  rw[h,Bool.false_and]at he2
  rw[<-he2,Bool.false_and,Bool.false_and]at he
  rw[<-he];rfl
 have hnext:qaG l[i].body[j]=true->(l[i].body.drop (j+1)).all qaG=D:=by
  intro h
  rw[h,Bool.true_and]at he2
  exact he2
 have hcnj:∃cn2:Nat,(if l[i].body[j].kind=1 then IntKind.wrap .i64 ((cn:Int)+1) else (cn:Int))=(cn2:Int)/\cn2+qbj (l[i].body.drop (j+1))=M:=by
  by_cases hk:l[i].body[j].kind=1
  ·rw[if_pos hk]at hcn ⊢
   exact⟨cn+1,qkA (by omega),by omega⟩
  ·rw[if_neg hk]at hcn ⊢
   exact⟨cn,rfl,by omega⟩
 obtain⟨cn2,hc1,hc2⟩:=hcnj
 have hback:∀(x:qc)(n':Nat),H.next<=n'->H.next<=n2->HWk ⟨(n2,x)::H.objs,n'⟩ ⟨H.objs,n'⟩/\(qa.Ok ⟨(n2,x)::H.objs,n'⟩->qa.Ok ⟨H.objs,n'⟩):=fun x n' h1 h2=>zN hH (qq.cons' hH h2 h1 (qq.refl (Nat.le_refl _)))
 by_cases hk:l[i].body[j].kind=1
 all_goals
  first|rw[if_pos hk]at hc1|rw[if_neg hk]at hc1
  simp(disch:=omega)[hlt,hlt2,hk]
  refine(qla l[i].body[j].atom).go fun n3 hn3=>?_
  cases hs:l[i].body[j].atom.small
  ·have:=hdone (by unfold qaG;rw[hs];rfl)
   simp(disch:=omega)
   exact qh hH (by simp[this])
  by_cases ha:(40:Int)<(l[i].body[j].a.s.size:Int)
  ·have:=hdone (by
    unfold qaG
    rw[hs,show decide (l[i].body[j].a.s.size<=40)=false from decide_eq_false (by omega)];rfl)
   simp(disch:=omega)[ha]
   exact qh hH (by simp[this])
  by_cases hb2:(40:Int)<(l[i].body[j].b.s.size:Int)
  ·have:=hdone (by
    unfold qaG
    rw[hs,show decide (l[i].body[j].b.s.size<=40)=false from decide_eq_false (by omega),Bool.and_false];rfl)
   simp(disch:=omega)[ha,hb2]
   exact qh hH (by simp[this])
  have:=hnext (by
   unfold qaG
   rw[hs,show decide (l[i].body[j].a.s.size<=40)=true from decide_eq_true (by omega),show decide (l[i].body[j].b.s.size<=40)=true from decide_eq_true (by omega)];rfl)
  simp(disch:=omega)[ha,hb2,hc1,qkA (show j+1<2^63 by omega)]
  exact⟨⟨j+1,n3,cn2⟩,by dsimp only;omega,⟨by dsimp only;omega,by dsimp only;omega,hc2,this⟩,by simp[FT.Le,Wk,hc1],hback _ _ (by first|omega|(dsimp only at hn3 ⊢;omega)) (by omega)⟩
theorem qic{c:qe}(h:qaO c=true):qe.ok3 c:=by
 unfold qaO at h
 simp only[Bool.and_eq_true,decide_eq_true_iff,List.all_eq_true]at h
 obtain⟨h1,h2,h3,h4⟩:=h
 have hb:∀x∈c.body,x.atom.ok/\x.a.s.size<=40/\x.b.s.size<=40:=fun x hx=>by
  have:=h1 x hx
  unfold qaG at this
  simp only[Bool.and_eq_true,decide_eq_true_iff]at this
  exact⟨Atom.small_ok this.1,this.2.1,this.2.2⟩
 exact⟨⟨Atom.small_ok h2,by omega,fun x hx=>⟨(hb x hx).1,by have:=(hb x hx).2.1;unfold Term.ok;omega,by have:=(hb x hx).2.2;unfold Term.ok;omega⟩⟩,⟨Atom.small_ok h2,by omega,fun x hx=>(hb x hx).1⟩⟩
structure NNWi where
 i:Nat
 n:Nat
 is:Bool
theorem qxC{f:FuncId}{a a' b b':LV}{H H':qa}{kv kp:HP}(hw:Wk a a')(hw2:Wk b b')(hh:HWk H H')(hok:H.Ok->H'.Ok)(h:cP E0 F0 f [a',b'] H' kv kp):cP E0 F0 f [a,b] H kv kp:=fun hH=>
 .weakArgs (args':=[a',b']) rfl (fun i=>by
  match i with
  |0=>exact hw
  |1=>exact hw2
  |n+2=>exact .inl rfl) hh (h (hok hH))
theorem qlL(l:List qe)(ow:Own):Wk (.sl (l.map uo) ow) (qy l):=by
 refine .inr (.inl ?_)
 simp[LV.strip,stripL,qcz,List.map_map,Function.comp_def]
theorem qhn(l:List qe):((l.map uo).all fun e=>e.cells.length==3)=true:=by
 rw[List.all_eq_true]
 intro e he
 obtain⟨c,_,rfl⟩:=List.mem_map.1 he
 rfl
abbrev qS(c:qg):List LV:=[.int c.id,.int c.fr,.int c.to,qy c.cls]
abbrev qm(c:qg):LV:=.agg (qS c)
theorem uw.mono{H:qa}{sz len:Nat}{own:Own}{ob:List (Nat×qc)}{n m:Nat}(h:uw H sz len own ob n)(hm:n<=m):uw H sz len own ob m:=by
 rcases h with⟨h1,h2,h3⟩|⟨t,h1,h2,h3,h4⟩
 ·exact .inl ⟨h1,h2,by omega⟩
 ·exact .inr ⟨t,h1,h2,by omega,h4⟩
theorem qij{H:qa}(hH:H.Ok){sz:Nat}{es Y:List LV}{own:Own}{ob:List (Nat×qc)}{n m k:Nat}{cs:qc}(hsz:0<sz/\sz<=2^10)(hes:(es.all fun e=>e.cells.length==sz)=true)(hY:(Y.all fun e=>e.cells.length==sz)=true)
  (hl:es.length+Y.length<=2^30) (h:uw H sz es.length own ob n) (hm:n<=m) (hk:m<k):
  ∃own' ob' ob2 n',(∀ow,apL ⟨(m,cs)::ob,k⟩ sz (.sl es own) (.sl Y ow)=some (.sl (es++Y) own',⟨ob',n'⟩))/\uw H sz (es.length+Y.length) own' ob2 n'/\k<=n'/\HWk ⟨ob',n'⟩ ⟨ob2,n'⟩/\(qa.Ok ⟨ob',n'⟩->qa.Ok ⟨ob2,n'⟩):=by
 rcases h with⟨rfl,rfl,h⟩|⟨t,rfl,h1,h2,rfl⟩
 ·have hD:qn H.objs m:=qn.mono hH (by omega)
  refine⟨.tok k,(k,.tok (es.length+Y.length) sz)::(m,cs)::H.objs,(k,.tok (es.length+Y.length) sz)::H.objs,k+1,fun ow=>?_,.inr ⟨k,rfl,by omega,Nat.lt_succ_self _,rfl⟩,Nat.le_succ _,qbK hD fun _ _ h=>h,fun _=>⟨Nat.lt_succ_self _,hD.mono (by omega)⟩⟩
  unfold apL
  simp only
  rw[hes,hY]
  simp only[Bool.and_self,if_true]
  rw[if_pos ⟨hl,hsz.2,rfl⟩]
  rfl
 ·have hD:qn ((t,qc.tok (es.length+Y.length) sz)::H.objs) m:=⟨by omega,qn.mono hH h1⟩
  refine⟨.tok t,(m,cs)::(t,.tok (es.length+Y.length) sz)::H.objs,(t,.tok (es.length+Y.length) sz)::H.objs,k,fun ow=>?_,.inr ⟨t,rfl,h1,by omega,rfl⟩,Nat.le_refl _,yM hD (Nat.le_refl _),fun _=>hD.mono (by dsimp only;omega)⟩
  have hlk:look t ((m,cs)::(t,.tok es.length sz)::H.objs)=some (.tok es.length sz):=by rw[qd (by omega)];exact qp _ _ _
  have hcan:y9 ⟨(m,cs)::(t,.tok es.length sz)::H.objs,k⟩ sz (.tok t) es.length=true:=by
   have:sz≠0:=by omega
   simp[y9,hlk,this]
  unfold apL
  simp only
  rw[hes,hY]
  simp only[Bool.and_self,if_true]
  rw[if_pos ⟨hl,hsz.2,hcan⟩]
  have hp:qu t (.tok (es.length+Y.length) sz) ((m,cs)::(t,.tok es.length sz)::H.objs)=(m,cs)::(t,.tok (es.length+Y.length) sz)::H.objs:=by
   rw[ui (by omega),zU]
  simp only[qa.put,hp]
theorem uw.keep{H:qa}(hH:H.Ok){sz len:Nat}{own:Own}{ob:List (Nat×qc)}{n m:Nat}(h:uw H sz len own ob n):HWk ⟨ob,m⟩ ⟨H.objs,m⟩:=by
 refine⟨Nat.le_refl _,fun i x hx=>?_⟩
 have:=hH.look hx
 show look i ob=some x
 rw[h.old.2 i this]
 exact hx
theorem qok(y w:Int)(c:qg):inF y w c=((decide (c.fr<=y)&&decide (y<=c.to))&&decide (c.id≠w)):=by
 unfold inF
 rw[Bool.and_assoc]
structure NNcF where
 i:Nat
 n:Nat
 es:List qe
 own:Own
 ob:List (Nat×qc)
theorem qoE{l:List qg}{i:Nat}(h:i<l.length)(y w:Int):qH (l.drop i) y w=(if inF y w l[i] then l[i].cls else [])++qH (l.drop (i+1)) y w:=by
 rw[List.drop_eq_getElem_cons h]
 rfl
theorem qdR(l:List qg)(own:Own)(y w:Int)(hl:l.length<=2^20)(hF:(qH l y w).length<=2^20):qf 69 [.sl (l.map qm) own,.int y,.int w] (qy (qH l y w)):=by
 intro H kv kp hk
 refine qeB c69 fun hH=>⟨Nat.le_of_ble_eq_true rfl,?_⟩
 simp(disch:=omega)[b69]
 obtain⟨L,hL⟩:∃L,qH l y w=L:=⟨_,rfl⟩
 rw[hL]at hF hk
 refine qA (σ:=NNcF) (fun q=>(.nd .bot (.nd (.int y) (.nd .bot (.nd (.sl (q.es.map uo) q.own) .nil .nil) (.nd (.int l.length) .nil .nil)) .nil) (.nd (.int w) (.nd .bot .nil (.nd (.int q.i) .nil .nil)) (.nd .bot (.nd (.sl (l.map qm) own) .nil .nil) .nil)))) (fun q=>⟨q.ob,q.n⟩) (fun q=>l.length - q.i)
  (fun q=>uw H 3 q.es.length q.own q.ob q.n/\H.next<=q.n/\q.i<=l.length/\q.es++qH (l.drop q.i) y w=L) ⟨0,H.next,[],.full,H.objs⟩ ⟨.inl ⟨rfl,rfl,Nat.le_refl _⟩,Nat.le_refl _,Nat.zero_le _,hL⟩ (by simp[FT.Le,Wk]) ⟨HWk.refl _,fun h=>h⟩ ?_
 rintro⟨i,n,es,ow,ob⟩ ⟨hr,hn,hi,he⟩ hok
 dsimp only at hr hn hi he hok
 by_cases hlt:i<l.length
 case neg=>
  rw[List.drop_eq_nil_of_le (by omega)]at he
  have he2:es=L:=by simpa [qH] using he
  subst he2
  simp(disch:=omega)[hlt]
  exact⟨qy es,qlL es ow,⟨H.objs,n⟩,hr.keep hH,fun _=>qn.mono hH hn,hk n hn⟩
 rw[qoE hlt]at he
 have hel:es.length<=2^20:=by
  have:=congrArg List.length he
  rw[List.length_append]at this
  omega
 simp(disch:=omega)[hlt]
 refine(qeP y l[i].fr l[i].to).go fun n2 hn2=>?_
 obtain⟨B,hB⟩:∃B,(decide (l[i].fr<=y)&&decide (y<=l[i].to))=B:=⟨_,rfl⟩
 have hin:=qok y w l[i]
 rw[hB]at hin ⊢
 cases B
 ·rw[Bool.false_and]at hin
  rw[hin,if_neg (by simp),List.nil_append]at he
  simp(disch:=omega)[qk (show i<2^62 by omega)]
  exact⟨⟨i+1,n2,es,ow,ob⟩,by dsimp only;omega,⟨hr.mono (by dsimp only;omega),by dsimp only;omega,by dsimp only;omega,he⟩,by simp[FT.Le,Wk],yM hok (Nat.le_refl _),fun _=>qn.mono hok (by dsimp only;omega)⟩
 rw[Bool.true_and]at hin
 by_cases hid:l[i].id=w
 ·rw[hid]at hin
  have hin:inF y w l[i]=false:=by simpa using hin
  rw[hin,if_neg (by simp),List.nil_append]at he
  simp(disch:=omega)[hid,qk (show i<2^62 by omega)]
  exact⟨⟨i+1,n2,es,ow,ob⟩,by dsimp only;omega,⟨hr.mono (by dsimp only;omega),by dsimp only;omega,by dsimp only;omega,he⟩,by simp[FT.Le,Wk],yM hok (Nat.le_refl _),fun _=>qn.mono hok (by dsimp only;omega)⟩
 have hin:inF y w l[i]=true:=by simpa [hid] using hin
 rw[hin,if_pos rfl,<-List.append_assoc]at he
 simp(disch:=omega)[hid]
 refine zd ?_
 simp(disch:=omega)
 obtain⟨Y,hY⟩:∃Y,l[i].cls=Y:=⟨_,rfl⟩
 rw[hY]at he ⊢
 have hYl:es.length+Y.length<=2^20:=by
  have:=congrArg List.length he
  rw[List.length_append,List.length_append]at this
  omega
 obtain⟨own2,ob2,ob3,n3,e1,hr3,hn3,hw3,ho3⟩:=qij (m:=n) (k:=n2) (cs:=.cells [.int l[i].id,.int l[i].fr,.int l[i].to,qy Y]) hH (sz:=3) (es:=es.map uo) (Y:=Y.map uo) (by omega) (qhn es) (qhn Y) (by rw[List.length_map,List.length_map];omega) (by rw[List.length_map];exact hr) (Nat.le_refl _) (by omega)
 rw[List.length_map,List.length_map]at hr3
 rw[e1]
 simp(disch:=omega)[qk (show i<2^62 by omega)]
 exact⟨⟨i+1,n3,es++Y,own2,ob3⟩,by dsimp only;omega,⟨by rw[List.length_append];exact hr3,by dsimp only;omega,by dsimp only;omega,he⟩,by simp[FT.Le,Wk],hw3,ho3⟩
theorem qld(l:List qg)(own:Own)(y w:Int)(hl:l.length<=2^20)(hF:(qH l y w).length<=2^20):qf 76 [.sl (l.map qm) own,.int y,.int w] (qy (qH l y w)):=by
 intro H kv kp hk
 refine qeB c76 fun hH=>⟨Nat.le_of_ble_eq_true rfl,?_⟩
 simp(disch:=omega)[b76]
 obtain⟨L,hL⟩:∃L,qH l y w=L:=⟨_,rfl⟩
 rw[hL]at hF hk
 refine qA (σ:=NNcF) (fun q=>(.nd (.sl (l.map qm) own) (.nd (.int y) (.nd .bot (.nd (.sl (q.es.map uo) q.own) .nil .nil) .nil) .nil) (.nd (.int w) (.nd .bot (.nd (.int q.i) .nil .nil) .nil) .nil))) (fun q=>⟨q.ob,q.n⟩) (fun q=>l.length - q.i)
  (fun q=>uw H 3 q.es.length q.own q.ob q.n/\H.next<=q.n/\q.i<=l.length/\q.es++qH (l.drop q.i) y w=L) ⟨0,H.next,[],.full,H.objs⟩ ⟨.inl ⟨rfl,rfl,Nat.le_refl _⟩,Nat.le_refl _,Nat.zero_le _,hL⟩ (by simp[FT.Le,Wk]) ⟨HWk.refl _,fun h=>h⟩ ?_
 rintro⟨i,n,es,ow,ob⟩ ⟨hr,hn,hi,he⟩ hok
 dsimp only at hr hn hi he hok
 by_cases hlt:i<l.length
 case neg=>
  rw[List.drop_eq_nil_of_le (by omega)]at he
  have he2:es=L:=by simpa [qH] using he
  subst he2
  simp(disch:=omega)[hlt]
  exact⟨qy es,qlL es ow,⟨H.objs,n⟩,hr.keep hH,fun _=>qn.mono hH hn,hk n hn⟩
 rw[qoE hlt]at he
 have hel:es.length<=2^20:=by
  have:=congrArg List.length he
  rw[List.length_append]at this
  omega
 have hin:=qok y w l[i]
 have none:inF y w l[i]=false->es++qH (l.drop (i+1)) y w=L:=fun h=>by
  rw[h,if_neg (by simp),List.nil_append]at he
  exact he
 by_cases h1:l[i].fr<=y
 case neg=>
  have hn1:=none (by rw[hin,decide_eq_false h1];rfl)
  simp(disch:=omega)[hlt,h1,qk (show i<2^62 by omega)]
  exact⟨⟨i+1,n,es,ow,ob⟩,by dsimp only;omega,⟨hr,by dsimp only;omega,by dsimp only;omega,hn1⟩,by simp[FT.Le,Wk],HWk.refl _,fun h=>h⟩
 by_cases h2:y<=l[i].to
 case neg=>
  have hn1:=none (by rw[hin,decide_eq_false h2,Bool.and_false];rfl)
  simp(disch:=omega)[hlt,h1,h2,qk (show i<2^62 by omega)]
  exact⟨⟨i+1,n,es,ow,ob⟩,by dsimp only;omega,⟨hr,by dsimp only;omega,by dsimp only;omega,hn1⟩,by simp[FT.Le,Wk],HWk.refl _,fun h=>h⟩
 by_cases hid:l[i].id=w
 ·have hn1:=none (by rw[hin,hid];simp)
  simp(disch:=omega)[hlt,h1,h2,hid,qk (show i<2^62 by omega)]
  exact⟨⟨i+1,n,es,ow,ob⟩,by dsimp only;omega,⟨hr,by dsimp only;omega,by dsimp only;omega,hn1⟩,by simp[FT.Le,Wk],HWk.refl _,fun h=>h⟩
 have hin:inF y w l[i]=true:=by rw[hin,decide_eq_true h1,decide_eq_true h2,decide_eq_true hid];rfl
 rw[hin,if_pos rfl,<-List.append_assoc]at he
 simp(disch:=omega)[hlt,h1,h2,hid]
 refine zd ?_
 simp(disch:=omega)
 have hYl:es.length+l[i].cls.length<=2^20:=by
  have:=congrArg List.length he
  rw[List.length_append,List.length_append]at this
  omega
 obtain⟨own2,ob2,n3,e1,hr3,hn3⟩:=vA (sz:=3) (es:=es.map uo) (Y:=l[i].cls.map uo) (by omega) (qhn es) (qhn _) (by rw[List.length_map,List.length_map];omega) (by rw[List.length_map];exact hr)
 rw[List.length_map,List.length_map]at hr3
 rw[e1]
 simp(disch:=omega)[qk (show i<2^62 by omega)]
 exact⟨⟨i+1,n3,es++l[i].cls,own2,ob2⟩,by dsimp only;omega,⟨by rw[List.length_append];exact hr3,by dsimp only;omega,by dsimp only;omega,he⟩,by simp[FT.Le,Wk],HWk.refl _,fun h=>h⟩
end Go.Abs.Tz
set_option maxRecDepth 100000
namespace Go.Abs.Tz
open Go Go.Abs Go.Proofs Go.Shelf Go.RowKit Go.Lib Go.Sort
theorem qpF:∀(l:List Int)(z:Int),ud (l++[z])=if l.getLast? = some z then ud l else ud l++[z]
 |[],z=>by simp[ud]
 |[x],z=>by
  simp only[List.cons_append,List.nil_append,ud,List.getLast?_singleton,Option.some.injEq]
  by_cases h:x=z<;>simp[h]
 |x::y::r,z=>by
  have ih:=qpF (y::r) z
  rw[List.cons_append]at ih
  simp only[List.cons_append,List.getLast?_cons_cons]
  unfold ud
  by_cases h:x=y
  ·rw[if_pos h,if_pos h]
   exact ih
  ·rw[if_neg h,if_neg h]
   rw[ih]
   split<;>simp
theorem qxm(zs:List Int):Lib.compact zs=ud zs:=by
 have key:∀m,m<=zs.length->compactUpTo zs.toArray m=ud (zs.take m):=by
  intro m
  induction m with
  |zero=>intro _;rfl
  |succ m ih=>
   intro hm
   have hlt:m<zs.length:=by omega
   have e1:zs.take (m+1)=zs.take m++[zs[m]]:=by rw[List.take_add_one,List.getElem?_eq_getElem hlt];rfl
   have e2:zs.toArray[m]! = zs[m]:=by rw[getElem!_pos zs.toArray m (by simpa using hlt)];simp
   rw[compactUpTo_succ,ih (by omega),e1,qpF,e2]
   cases m with
   |zero=>simp[keeps,ud]
   |succ k=>
    have e3:(zs.take (k+1)).getLast? = some zs[k]:=by
     rw[List.getLast?_eq_getElem?,List.length_take,Nat.min_eq_left (by omega)]
     rw[List.getElem?_take,if_pos (by omega),Nat.add_sub_cancel,List.getElem?_eq_getElem (by omega)]
    have e4:zs.toArray[k]! = zs[k]:=by rw[getElem!_pos zs.toArray k (by simp;omega)];simp
    rw[e3]
    unfold keeps
    rw[e2,Nat.add_sub_cancel,e4]
    by_cases h:zs[k]=zs[k+1]
    ·simp[h]
    ·have h':¬zs[k+1]=zs[k]:=fun e=>h e.symm
     simp[h,h']
 have:=key zs.length (Nat.le_refl _)
 rw[List.take_length]at this
 exact this
theorem qpG:∀l:List Int,(ud l).length<=l.length
 |[]=>Nat.le_refl _
 |[x]=>Nat.le_refl _
 |x::y::r=>by
  have ih:=qpG (y::r)
  unfold ud
  split
  ·simp only[List.length_cons]at ih ⊢;omega
  ·simp only[List.length_cons]at ih ⊢;omega
abbrev yZ(A:List Int):qc:=.arr 1 (A.map LV.int)
section
variable{G:qb}{w:World}{H:qa}{o:Nat}{A:List Int}
theorem qon(hI:Inv G w H)(hlo:look o H.objs=some (yZ A)):Holds (Value.int .i64) w (G.loc o) 0 A.toArray:=by
 obtain⟨hob,vs,el,fz,c1,c2,c3,⟨d1,d2,d3⟩,c4,c5,c6⟩:=hI.objs o _ hlo
 intro j hj
 have hj':j<A.length:=by simpa using hj
 refine⟨?_,by rw[Nat.zero_add];exact c5 _⟩
 obtain⟨hv,_⟩:=c6 j (.int A[j]) (by rw[List.getElem?_map,List.getElem?_eq_getElem hj'];rfl)
 have hv:=hv.sc_inv
 have hjv:j<vs.size:=by
  have:(A.map LV.int).length=A.length:=List.length_map _
  omega
 unfold World.cell?
 rw[c1,Nat.zero_add]
 simp only[Array.getD_eq_getD_getElem?,Array.getElem?_eq_getElem hjv,Option.getD_some]at hv
 simp only[Array.getElem?_eq_getElem hjv,hv]
 rw[getElem!_pos A.toArray j hj]
 simp
theorem qkS(hI:Inv G w H)(hlo:look o H.objs=some (yZ A)){B:List Int}(hB:B.length=A.length)(n:Nat)(os:Array Obj):
  Ext G w G (grow (putRow (Value.int .i64) (Sort.ahead w n) (G.loc o) 0 B.toArray) os)/\Inv G (grow (putRow (Value.int .i64) (Sort.ahead w n) (G.loc o) 0 B.toArray) os) (H.put o (yZ B)):=by
 obtain⟨hob,vs,el,fz,c1,c2,c3,⟨d1,d2,d3⟩,c4,c5,c6⟩:=hI.objs o _ hlo
 have hlt:G.loc o<w.heap.size:=(Array.getElem?_eq_some_iff.1 c1).1
 have hml:∀C:List Int,(C.map LV.int).length=C.length:=fun C=>List.length_map _
 have hw1:(grow (putRow (Value.int .i64) (Sort.ahead w n) (G.loc o) 0 B.toArray) os).heap=(w.heap.modify (G.loc o) (onCells (putCells (Value.int .i64) 0 B.toArray)))++os:=rfl
 have hw2:∀k,k<w.heap.size->(grow (putRow (Value.int .i64) (Sort.ahead w n) (G.loc o) 0 B.toArray) os).heap[k]? = (w.heap.modify (G.loc o) (onCells (putCells (Value.int .i64) 0 B.toArray)))[k]?:=fun k hk=>by
  rw[hw1,Array.getElem?_append_left (by simpa using hk)]
 refine Inv.arr_turn (cs':=B.map LV.int) (vs':=putCells (Value.int .i64) 0 B.toArray vs) hI hlo c1 rfl rfl rfl (by rw[hw1];simp) (fun k hk hne=>by
   rw[hw2 k hk,Array.getElem?_modify,if_neg (fun e=>hne e.symm)]) (by
   rw[hw2 _ hlt,Array.getElem?_modify,if_pos rfl,c1];rfl) (by simp[putCells]) (by rw[hml,hml,hB]) (fun i c hc=>?_)
 have hi:i<B.length:=by
  have:=(List.getElem?_eq_some_iff.1 hc).1
  rw[hml]at this;exact this
 rw[List.getElem?_map,List.getElem?_eq_getElem hi]at hc
 cases hc
 have hi3:i<vs.size:=by have:=hml A;omega
 have e:(putCells (Value.int .i64) 0 B.toArray vs).getD i undef=.int .i64 B[i]:=by
  unfold putCells
  rw[Array.getD_eq_getD_getElem?,Array.getElem?_mapIdx,Array.getElem?_eq_getElem hi3]
  simp only[Option.map_some,Option.getD_some,Nat.zero_le,true_and,Nat.zero_add,Nat.sub_zero,List.size_toArray,hi,if_true]
  rw[getElem!_pos B.toArray i (by simpa using hi)]
  simp
 rw[e]
 exact⟨.sc _,rfl⟩
theorem qvZ(w:World):grow w #[]=w:=by
 cases w
 simp[grow]
end
theorem qrG(A:List Int)(o:Nat)(ob:List (Nat×qc))(nx:Nat)(hlo:look o ob=some (yZ A))(hA:A.length<2^40){kv kp:HP}
  (hk:∀B:List Int,B.Perm A->(B.Pairwise fun x y=>x<=y)->kv (.tup []) ⟨qu o (yZ B) ob,nx⟩):
  cP E0 F0 146 [.asl o 0 A.length] ⟨ob,nx⟩ kv kp:=by
 intro hH
 refine .prim (show qW Tryz.prog E0 _ _ _ _ from ⟨qjK _ c146,fun G w us hI hE ha=>?_⟩)
 obtain⟨u0,rfl,h0⟩:=qcS ha
 cases h0 with
 |@asl _ _ _ cap ho hlc hcap=>
 rw[Nat.zero_mul]
 have c1:=hI.objs o _ hlo
 obtain⟨_,vs,el,fz,c1,_⟩:=c1
 have hlt:G.loc o<w.heap.size:=(Array.getElem?_eq_some_iff.1 c1).1
 refine Calls.mono (Tryz.slices_Sort_int (G.loc o) 0 cap A w (qon hI hlo) hlt (by omega)) ?_
 rintro e w' ⟨rfl,n,os,rfl⟩
 have hp:=List.mergeSort_perm A fun x y=>decide (x<=y)
 have hs:(A.mergeSort fun x y=>decide (x<=y)).Pairwise fun x y=>x<=y:=by
  have:=List.pairwise_mergeSort (le:=fun x y:Int=>decide (x<=y)) (fun a b c h1 h2=>by simp at h1 h2 ⊢;omega) (fun a b=>by simp;omega) A
  exact this.imp fun h=>of_decide_eq_true h
 have hq:=qkS hI hlo (B:=A.mergeSort fun x y=>decide (x<=y)) hp.length_eq n os
 exact⟨.tup [],_,G,.inl ⟨_,_,rfl,qn.put hH,hk _ hp hs⟩,.tup rfl (fun _ _ h=>by simp at h),hq.2,hq.1⟩
theorem qsF(A:List Int)(o:Nat)(ob:List (Nat×qc))(nx:Nat)(hlo:look o ob=some (yZ A))(hA:A.length<2^40){kv kp:HP}
  (hk:∀rest:List Int,kv (.asl o 0 (ud A).length) ⟨qu o (yZ (ud A++rest)) ob,nx⟩):
  cP E0 F0 147 [.asl o 0 A.length] ⟨ob,nx⟩ kv kp:=by
 intro hH
 refine .prim (show qW Tryz.prog E0 _ _ _ _ from ⟨qjK _ c147,fun G w us hI hE ha=>?_⟩)
 obtain⟨u0,rfl,h0⟩:=qcS ha
 cases h0 with
 |@asl _ _ _ cap ho hlc hcap=>
 rw[Nat.zero_mul]
 have c1:=hI.objs o _ hlo
 obtain⟨_,vs,el,fz,c1,_⟩:=c1
 refine Calls.mono (Tryz.slices_Compact_int (G.loc o) 0 cap A w (qon hI hlo) (by omega) hlc) ?_
 rintro e w' ⟨rfl,q,rfl⟩
 rw[qxm]
 have hcl:=qpG A
 have hq:=qkS hI hlo (B:=ud A++List.replicate (A.length - (ud A).length) 0) (by rw[List.length_append,List.length_replicate];omega) q #[]
 rw[qvZ]at hq
 refine⟨.asl o 0 (ud A).length,_,G,.inl ⟨_,_,rfl,qn.put hH,hk _⟩,?_,hq.2,hq.1⟩
 have:=VR.asl (G:=G) (w:=putRow (Value.int .i64) (Sort.ahead w q) (G.loc o) 0 (ud A++List.replicate (A.length - (ud A).length) 0).toArray) (o:=o) (off:=0) (len:=(ud A).length) (cap:=cap) ho (by omega) hcap
 rw[Nat.zero_mul]at this
 exact this
end Go.Abs.Tz
namespace Go.Abs.Tz
open Go Go.Abs Go.Proofs
theorem qnv{p:Int->Bool}{l k:List Int}{a:Int}(h:∀x∈l,p x=true->x<=a\/x∈k):wM p l a<=wM p k a:=by
 obtain⟨_,_,h3⟩:=qiW p l a
 obtain⟨k1,k2,_⟩:=qiW p k a
 rcases h3 with h3|⟨y,hy,hp,h3⟩
 ·omega
 ·rcases h y hy hp with h|h
  ·omega
  ·have:=k2 y h hp
   omega
theorem qno{p:Int->Bool}{l k:List Int}{a:Int}(h:∀x∈l,p x=true->a<=x\/x∈k):wg p k a<=wg p l a:=by
 obtain⟨_,_,h3⟩:=qiS p l a
 obtain⟨k1,k2,_⟩:=qiS p k a
 rcases h3 with h3|⟨y,hy,hp,h3⟩
 ·omega
 ·rcases h y hy hp with h|h
  ·omega
  ·have:=k2 y h hp
   omega
def loR(l:List qg):List Int:=l.flatMap fun c=>[c.fr,c.to+1]
def hiR(l:List qg):List Int:=l.flatMap fun c=>[c.fr - 1,c.to]
theorem qnq{l:List qg}{x:Int}:x∈loR l↔∃c∈l,x=c.fr\/x=c.to+1:=by
 unfold loR
 simp[List.mem_flatMap]
theorem qns{l:List qg}{x:Int}:x∈hiR l↔∃c∈l,x=c.fr - 1\/x=c.to:=by
 unfold hiR
 simp[List.mem_flatMap]
theorem qee{l:List qg}{x:Int}:x∈vf 4000 (zx l)↔x=0\/∃c∈l,(x=c.fr/\c.fr<=4000)\/(x=c.to+1/\c.to+1<=4000):=by
 unfold vf
 rw[(qis 4000 (zx l) [0] (by simp)).2 x,List.mem_singleton]
 refine or_congr Iff.rfl ⟨?_,?_⟩
 ·rintro⟨c,hc,h⟩
  obtain⟨d,hd,rfl⟩:=List.mem_map.1 hc
  exact⟨d,hd,h⟩
 ·rintro⟨c,hc,h⟩
  exact⟨_,List.mem_map.2 ⟨c,hc,rfl⟩,h⟩
theorem qak{c:qg}:vI c=true↔(1<=c.id/\c.id<=2^40)/\0<=c.fr/\c.fr<=c.to/\c.to<=4000:=by
 unfold vI
 rw[Bool.and_eq_true,decide_eq_true_iff,decide_eq_true_iff]
theorem qtG{l:List qg}(h:qbr l){y:Int}(hy:0<=y/\y<=4000):qgv (vf 4000 (zx l)) y=wM (fun x=>decide (x<=y)) (loR l) 0:=by
 unfold qgv
 refine Int.le_antisymm (qnv fun x hx hp=>?_) (qnv fun x hx hp=>?_)
 ·rcases qee.1 hx with h0|⟨c,hc,h1⟩
  ·exact .inl (by omega)
  ·exact .inr (qnq.2 ⟨c,hc,h1.imp And.left And.left⟩)
 ·have hp:=of_decide_eq_true hp
  obtain⟨c,hc,h1⟩:=qnq.1 hx
  have hk:=qak.1 (h.ok c hc).1
  refine .inr (qee.2 (.inr ⟨c,hc,?_⟩))
  rcases h1 with h1|h1
  ·exact .inl ⟨h1,by omega⟩
  ·exact .inr ⟨h1,by omega⟩
theorem qtH{l:List qg}(h:qbr l){y:Int}(hy:0<=y/\y<=4000):qgw (vf 4000 (zx l)) y=wg (fun x=>decide (y<=x)) (hiR l) 4000:=by
 unfold qgw
 refine Int.le_antisymm (qno fun x hx hp=>?_) (qno fun x hx hp=>?_)
 ·have hp:=of_decide_eq_true hp
  obtain⟨c,hc,h1⟩:=qns.1 hx
  have hk:=qak.1 (h.ok c hc).1
  rcases h1 with h1|h1
  ·refine .inr (List.mem_map.2 ⟨c.fr,List.mem_filter.2 ⟨qee.2 (.inr ⟨c,hc,.inl ⟨rfl,by omega⟩⟩),decide_eq_true (by omega)⟩,by omega⟩)
  ·by_cases h4:c.to+1<=4000
   ·refine .inr (List.mem_map.2 ⟨c.to+1,List.mem_filter.2 ⟨qee.2 (.inr ⟨c,hc,.inr ⟨rfl,h4⟩⟩),decide_eq_true (by omega)⟩,by omega⟩)
   ·exact .inl (by omega)
 ·obtain⟨z,hz,rfl⟩:=List.mem_map.1 hx
  obtain⟨hz,hzy⟩:=List.mem_filter.1 hz
  have hzy:=of_decide_eq_true hzy
  rcases qee.1 hz with h0|⟨c,hc,h1⟩
  ·omega
  ·refine .inr (qns.2 ⟨c,hc,?_⟩)
   rcases h1 with⟨h1,_⟩|⟨h1,_⟩
   ·exact .inl (by omega)
   ·exact .inr (by omega)
def qba(c:qg):List qg->Nat
 |[]=>0
 |x::r=>if x.id<c.id then qba c r+1 else 0
theorem qmQ(c:qg):∀l:List qg,qba c l<=l.length
 |[]=>Nat.le_refl _
 |x::r=>by
  have:=qmQ c r
  unfold qba
  rw[List.length_cons]
  split<;>omega
theorem qoe(c:qg):∀l:List qg,qQ c l=l.take (qba c l)++[c]++l.drop (qba c l)
 |[]=>rfl
 |x::r=>by
  have ih:=qoe c r
  unfold qQ qba
  by_cases h:x.id<c.id
  ·rw[if_pos h,if_pos h,ih]
   simp
  ·rw[if_neg h,if_neg h]
   simp
theorem qoo{c:qg}:∀{l:List qg},l.Pairwise (fun a b=>a.id<b.id)->qbg l c.id=(match l[qba c l]? with
  |none=>false
  |some x=>decide (x.id=c.id))
 |[],_=>rfl
 |x::r,h=>by
  obtain⟨h1,h2⟩:=List.pairwise_cons.1 h
  have ih:=qoo (c:=c) h2
  unfold qba
  by_cases hx:x.id<c.id
  ·rw[if_pos hx,List.getElem?_cons_succ,<-ih]
   unfold qbg
   rw[List.any_cons,decide_eq_false (by omega),Bool.false_or]
  ·rw[if_neg hx,List.getElem?_cons_zero]
   simp only
   unfold qbg
   rw[List.any_cons]
   by_cases he:x.id=c.id
   ·rw[decide_eq_true he,Bool.true_or]
   ·rw[decide_eq_false he,Bool.false_or]
    cases ha:(r.any fun x=>decide (x.id=c.id)) with
    |false=>rfl
    |true=>
     obtain⟨z,hz,hc⟩:=List.any_eq_true.1 ha
     have:=h1 z hz
     have hc:=of_decide_eq_true hc
     omega
end Go.Abs.Tz
namespace Go.Abs.Tz
open Go Go.Abs Go.Proofs
set_option maxRecDepth 20000
set_option linter.unusedSimpArgs false
attribute [local simp ↓] gT gS jh jg gv ug q9 zu jf ub yD yE gU gW gY gV jm jp ju jn jv jw jq jr jo jk ji jl jj yB yz yC yA gN gL gO gM g8 g6 g7 uh zG jy qX jz gy yF yG yb yd yc g9 ya ym jD jI jL jH jJ jK gh gg jR jT uQ uN ja jd uO uW u9 uZ uY uX uU uJ uK uL uM jb uS uT uH jc je uP uR uV uI jX jS gd gk jU j8 gc gb ga j9 j6 jP gf j3 j5 jM gj gp jV jZ j7 jN gt gi jO gq j0 jW jY jQ ge jE jG jF yg yk yf yh yj qp ur
attribute [local simp] faL fdL iaL ixL qD qY qT eqK eqL qO zi uD ye yy yn yp yr yu yw yx yo yt yq yv zy LV.cells LV.whole qp uq zU jA stL zz zP uc qa.alloc gw gu gx gK gJ gI gH gG gF gD gC gA gz qd ui
theorem qso:qf 214 [.sl [.int 0] .full,.int 0,.int 1] (.tup []):=by
 refine qf.of c214 fun H hH=>⟨Nat.le_of_ble_eq_true rfl,?_⟩
 simp(disch:=omega)[b214,zJ]
 refine wZ ?_
 simp(disch:=omega)[qX]
 exact qh hH (by simp[])
theorem qsd(lim:Int):qf 187 [.sl [.int 0] .full,.int 0,.int 1,.int lim] (.tup []):=by
 refine qf.of c187 fun H hH=>⟨Nat.le_of_ble_eq_true rfl,?_⟩
 simp(disch:=omega)[b187,zJ]
 refine wZ ?_
 simp(disch:=omega)[zJ]
 refine qso.go fun n hn=>?_
 simp(disch:=omega)[qX]
 exact qh hH (by simp[])
theorem qrF:qf 146 [.sl [.int 0] .full] (.tup []):=by
 refine qf.of c146 fun H hH=>⟨Nat.le_of_ble_eq_true rfl,?_⟩
 have w0:IntKind.wrap .u64 1=1:=qky (n:=1) (by omega)
 simp(disch:=omega)[b146,zJ,w0]
 refine(qlx 1 (by omega) (by omega)).go fun n hn=>?_
 simp(disch:=omega)
 refine(qsd _).go fun n hn=>?_
 simp(disch:=omega)[qX]
 exact qh hH (by simp[])
theorem qsE:qf 147 [.sl [.int 0] .full] (.sl [.int 0] .full):=by
 refine qf.of c147 fun H hH=>⟨Nat.le_of_ble_eq_true rfl,?_⟩
 simp(disch:=omega)[b147,zJ]
 exact qh hH (by simp[])
theorem qqH{l:List (Nat×qc)}{m o:Nat}{A:List Int}(x:Int)(ow:Own)(hl:look o l=some (yZ A))(hA:A.length<=2^20):
  vx ⟨l,m⟩ 1 (.asl o 0 A.length) (.sl [.int x] ow)=some (.asl m 0 (A.length+1),⟨(m,yZ (A++[x]))::zD o l,m+1⟩):=by
 have h1:(A.map LV.int).length=A.length:=List.length_map _
 have h2:vy ⟨l,m⟩ 1 (.asl o 0 A.length)=some (A.map LV.int,⟨zD o l,m⟩,A.length):=by
  simp only[vy,hl]
  rw[if_pos ⟨trivial,by rw[h1];omega⟩,Nat.mul_one,<-h1,List.take_length]
  rfl
 have h3:qaC ⟨l,m⟩ 1 (.sl [.int x] ow)=some ([.int x],1):=rfl
 unfold vx
 rw[h2,h3]
 simp only
 rw[if_neg (by omega),if_pos ⟨by omega,by omega⟩]
 simp[qa.alloc]
def chV(M:Nat):Nat->List Int->LV
 |0,_=>.sl [.int 0] .full
 |_+1,A=>.asl M 0 A.length
def chH(M:Nat):Nat->List Int->List (Nat×qc)->List (Nat×qc)
 |0,_,ob=>ob
 |_+1,A,ob=>(M,yZ A)::ob
theorem qyk{i M n m:Nat}{A:List Int}{ob:List (Nat×qc)}{b:Nat}(hOb:qn ob b)(x:Int)(ow:Own)(c:qc)(h0:i=0->A=[0])(hM:0<i->b<=M/\M<n)(hA:A.length<=2^20):
  vx ⟨(n,c)::chH M i A ob,m⟩ 1 (chV M i A) (.sl [.int x] ow)=some (.asl m 0 (A.length+1),⟨(m,yZ (A++[x]))::(n,c)::ob,m+1⟩):=by
 cases i with
 |zero=>
  rw[h0 rfl]
  rfl
 |succ i=>
  obtain⟨hM1,hM2⟩:=hM (Nat.succ_pos _)
  have:=qqH (l:=(n,c)::(M,yZ A)::ob) (m:=m) (o:=M) x ow (by rw[qd (by omega)];exact qp _ _ _) hA
  have hdel:zD M ((n,c)::(M,yZ A)::ob)=(n,c)::ob:=by
   have hb:zD M ob=ob:=qfG (H:=⟨ob,b⟩) hOb hM1
   simp only[zD]
   rw[if_neg (by omega),if_pos trivial,hb]
  rw[hdel]at this
  exact this
theorem qtI(M:Int)(l:List (Int×Int))(c:Int×Int):wW M (l++[c])=wW M l++(c.1::if c.2<M then [c.2+1] else []):=by
 unfold wW
 rw[List.flatMap_append]
 simp
theorem qtJ(M:Int)(l:List (Int×Int)):1<=(wW M l).length/\(wW M l).length<=1+2*l.length:=by
 induction l with
 |nil=>exact⟨Nat.le_refl _,Nat.le_refl _⟩
 |cons c l ih=>
  have e:(wW M (c::l)).length=(wW M l).length+(1+if c.2<M then 1 else 0):=by
   unfold wW
   rw[List.flatMap_cons,List.length_cons,List.length_cons,List.length_append,List.length_cons]
   split<;>simp<;>omega
  rw[e,List.length_cons]
  split<;>omega
def qdk(l:List qg):List Int:=wW 4000 (zx l)
theorem qtK{l:List qg}{i:Nat}(h:i<l.length):qdk (l.take (i+1))=qdk (l.take i)++(l[i].fr::if l[i].to<4000 then [l[i].to+1] else []):=by
 have e:l.take (i+1)=l.take i++[l[i]]:=by rw[List.take_add_one,List.getElem?_eq_getElem h];rfl
 unfold qdk zx
 rw[e,List.map_append]
 exact qtI _ _ _
structure NNcC where
 i:Nat
 n:Nat
 M:Nat
theorem qsR(l:List qg)(own:Own)(hl:l.length<=2^18)(hok:∀c∈l,vI c=true)(ob:List (Nat×qc))(n:Nat){kv kp:HP}
  (hk0:l=[]->∀n',n<=n'->kv (.sl [.int 0] .full) ⟨ob,n'⟩)
  (hk1:l≠[]->∀(M n':Nat)(rest:List Int),n<=M->M<n'->kv (.asl M 0 (vf 4000 (zx l)).length) ⟨(M,yZ (vf 4000 (zx l)++rest))::ob,n'⟩):
  cP E0 F0 84 [.sl (l.map qm) own] ⟨ob,n⟩ kv kp:=by
 refine zR c84 fun hH=>⟨Nat.le_of_ble_eq_true rfl,?_⟩
 have hOb:qn ob n:=hH
 simp(disch:=omega)[b84]
 refine qA (σ:=NNcC) (fun q=>(.nd .bot (.nd .bot (.nd (chV q.M q.i (qdk (l.take q.i))) (.nd (.sl (l.map qm) own) .nil .nil) .nil) (.nd .bot (.nd (.int q.i) .nil .nil) .nil)) (.nd .bot (.nd .bot (.nd (.int l.length) .nil .nil) .nil) .nil))) (fun q=>⟨chH q.M q.i (qdk (l.take q.i)) ob,q.n⟩) (fun q=>l.length - q.i)
  (fun q=>n<=q.n/\q.i<=l.length/\(0<q.i->n<=q.M/\q.M<q.n)) ⟨0,n,0⟩ ⟨Nat.le_refl _,Nat.zero_le _,fun h=>absurd h (by simp)⟩ (by simp[FT.Le,Wk,chV]) ⟨HWk.refl _,fun h=>h⟩ ?_
 rintro⟨i,m,M⟩ ⟨hn,hi,hM⟩ hok1
 dsimp only at hn hi hM hok1
 have hAl:=qtJ 4000 (zx (l.take i))
 have hsl:(zx (l.take i)).length<=2^18:=by unfold zx;rw[List.length_map,List.length_take];omega
 by_cases hlt:i<l.length
 case neg=>
  obtain rfl:i=l.length:=by omega
  rw[List.take_length]
  rw[List.take_length]at hAl hsl
  have hyr:=fun(s:List Int)=>qqR 4000 (zx l) (fun c hc=>by
   obtain⟨d,hd,rfl⟩:=List.mem_map.1 hc
   have:=(qak.1 (hok d hd)).2
   dsimp only
   omega) (s:=s)
  by_cases hl0:l.length=0
  ·have hle:l=[]:=List.eq_nil_of_length_eq_zero hl0
   rw[hl0]
   simp only[chV,chH]
   simp(disch:=omega)[hl0]
   refine qrF.go fun n1 hn1=>?_
   simp(disch:=omega)
   refine qsE.go fun n2 hn2=>?_
   simp(disch:=omega)
   exact keep (hk0 hle n2 (by omega))
  ·obtain⟨k,hk⟩:∃k,l.length=k+1:=⟨l.length - 1,by omega⟩
   obtain⟨hM1,hM2⟩:=hM (by omega)
   obtain⟨A,hA⟩:∃A,qdk l=A:=⟨_,rfl⟩
   have hA2:wW 4000 (zx l)=A:=hA
   rw[hA2]at hAl
   rw[hA]
   have e1:chV M l.length A=.asl M 0 A.length:=by rw[hk];rfl
   have e2:chH M l.length A ob=(M,yZ A)::ob:=by rw[hk];rfl
   rw[e1,e2]
   simp(disch:=omega)
   refine qrG A M _ _ (qp _ _ _) (by omega) fun B hB hBs=>?_
   rw[zU]
   have hy:=hyr B (by rw[hA2];exact hB) hBs
   simp(disch:=omega)
   rw[<-hB.length_eq]
   refine qsF B M _ _ (qp _ _ _) (by have:=hB.length_eq;omega) fun rest=>?_
   rw[zU,hy]
   simp(disch:=omega)
   exact keep (hk1 (fun e=>hl0 (by rw[e];rfl)) M m rest hM1 hM2)
 obtain⟨hfr,hto⟩:=qak.1 (hok _ (z7 hlt))
 have hsn:=qtK hlt
 obtain⟨A,hA⟩:∃A,qdk (l.take i)=A:=⟨_,rfl⟩
 have hA2:wW 4000 (zx (l.take i))=A:=hA
 rw[hA2]at hAl
 rw[hA]at hsn
 rw[hA]at hok1 ⊢
 have h0:i=0->A=[0]:=fun e=>by subst e;rw[<-hA];rfl
 have hAb:A.length<=2^19+1:=by omega
 simp(disch:=omega)[hlt]
 refine wn ?_
 simp(disch:=omega)
 rw[qyk hOb (x:=l[i].fr) (ow:=.full) (c:=.cells [.int l[i].id,.int l[i].fr,.int l[i].to,qy l[i].cls]) h0 hM (by omega)]
 by_cases h4:l[i].to<4000
 case neg=>
  rw[if_neg h4]at hsn
  simp(disch:=omega)[h4,qk (show i<2^62 by omega)]
  refine⟨⟨i+1,m+1+1,m+1⟩,by dsimp only;omega,⟨by dsimp only;omega,by dsimp only;omega,fun _=>⟨by dsimp only;omega,by dsimp only;omega⟩⟩,?_,?_⟩
  ·dsimp only
   rw[hsn]
   simp[FT.Le,Wk,chV]
  ·dsimp only
   rw[hsn]
   exact⟨qbK (hOb.mono hn) fun _ _ h=>h,fun _=>⟨Nat.lt_succ_self _,hOb.mono (by omega)⟩⟩
 rw[if_pos h4]at hsn
 have hw:IntKind.wrap .i64 (l[i].to+1)=l[i].to+1:=zJ (by omega) (by omega)
 simp(disch:=omega)[h4]
 refine wn ?_
 simp(disch:=omega)[hw]
 have hap:=qqH (l:=(m+1,yZ (A++[l[i].fr]))::(m,.cells [.int l[i].id,.int l[i].fr,.int l[i].to,qy l[i].cls])::ob) (m:=m+1+1) (o:=m+1) (A:=A++[l[i].fr]) (l[i].to+1) .full (qp _ _ _) (by rw[List.length_append,List.length_singleton];omega)
 have hdel:zD (m+1) ((m+1,yZ (A++[l[i].fr]))::(m,.cells [.int l[i].id,.int l[i].fr,.int l[i].to,qy l[i].cls])::ob)=(m,.cells [.int l[i].id,.int l[i].fr,.int l[i].to,qy l[i].cls])::ob:=by
  have hb:zD (m+1) ob=ob:=qfG (H:=⟨ob,n⟩) hOb (by dsimp only;omega)
  simp only[zD]
  rw[if_pos trivial,if_neg (by omega),hb]
 rw[hdel,List.length_append,List.length_singleton]at hap
 rw[hap]
 simp(disch:=omega)[qk (show i<2^62 by omega)]
 refine⟨⟨i+1,m+1+1+1,m+1+1⟩,by dsimp only;omega,⟨by dsimp only;omega,by dsimp only;omega,fun _=>⟨by dsimp only;omega,by dsimp only;omega⟩⟩,?_,?_⟩
 ·dsimp only
  rw[hsn]
  simp[FT.Le,Wk,chV]
 ·dsimp only
  rw[hsn]
  exact⟨qbK (hOb.mono hn) fun _ _ h=>h,fun _=>⟨Nat.lt_succ_self _,hOb.mono (by omega)⟩⟩
theorem qpT:∀(C rest:List Int),vU 1 C.length ((C++rest).map LV.int)=C.map LV.int
 |[],_=>rfl
 |x::C,rest=>by
  have ih:=qpT C rest
  show qdr [.int x]::vU 1 C.length ((C++rest).map LV.int)=_
  rw[ih]
  rfl
theorem frzI{H:qa}{C rest:List Int}{o:Nat}(hl:look o H.objs=some (yZ (C++rest))):wB H [o] o 0 C.length=.sl (C.map LV.int) .no:=by
 unfold wB
 have h1:((C++rest).map LV.int).length=C.length+rest.length:=by simp
 simp only[List.contains_cons,BEq.rfl,Bool.true_or,if_true,hl]
 rw[if_pos (by rw[h1];omega)]
 rw[Nat.zero_mul,List.drop_zero,qpT]
theorem qlv(l:List qg)(own:Own)(hl:l.length<=2^18)(hok:∀c∈l,vI c=true)(ob:List (Nat×qc))(n:Nat){kv kp:HP}
  (hk:∀(ow:Own)(n':Nat),n<=n'->kv (.sl (uB (vf 4000 (zx l))) ow) ⟨ob,n'⟩):
  cP E0 F0 84 [.sl (l.map qm) own] ⟨ob,n⟩ kv kp:=by
 intro hH
 obtain⟨C,hC⟩:∃C,vf 4000 (zx l)=C:=⟨_,rfl⟩
 have h1:=qsR (kv:=fun v H'=>(l=[]/\v=.sl [.int 0] .full/\∃n',n<=n'/\H'=⟨ob,n'⟩)\/∃(M n':Nat)(rest:List Int),n<=M/\M<n'/\v=.asl M 0 C.length/\H'=⟨(M,yZ (C++rest))::ob,n'⟩) (kp:=fun _ _=>False)
  l own hl hok ob n (fun he n' hn=>.inl ⟨he,rfl,n',hn,rfl⟩) (fun _ M n' rest hM hn=>.inr ⟨M,n',rest,hM,hn,by rw[hC],by rw[hC]⟩) hH
 rw[hC]at hk
 refine .frz (fun v _=>match v with|.asl o _ _=>[o]|_=>[]) h1 (fun v H' hT=>?_) (fun v H' hT=>?_)
 ·rcases hT with⟨u,H2,he,hok,hT⟩|⟨u,H2,he,hok,hf⟩
  ·cases he
   rcases hT with⟨rfl,rfl,n',hn,rfl⟩|⟨M,n',rest,hM,hn,rfl,rfl⟩
   ·have hC0:C=[0]:=by rw[<-hC];rfl
    subst hC0
    exact⟨⟨ob,n'⟩,⟨Nat.le_refl _,fun i x hx=>(qbG (L:=[]) rfl).trans hx⟩,.inl ⟨_,_,rfl,qn.mono hH hn,hk .full n' hn⟩⟩
   ·refine⟨⟨ob,n'⟩,⟨Nat.le_refl _,fun i x hx=>?_⟩,.inl ⟨_,_,rfl,qn.mono hH (by dsimp only;omega),?_⟩⟩
    ·have:=hH.look hx
     dsimp only at this
     have e1:look i (vw [M] ((M,yZ (C++rest))::ob))=look i ((M,yZ (C++rest))::ob):=qbG (by simp;omega)
     show look i (vw [M] ((M,yZ (C++rest))::ob))=some x
     rw[e1,qd (by omega)]
     exact hx
    ·have:=hk .no n' (by omega)
     have e:wB ⟨(M,yZ (C++rest))::ob,n'⟩ [M] M 0 C.length=.sl (C.map LV.int) .no:=frzI (qp _ _ _)
     simpa [zL,e] using this
  ·cases he
 ·rcases hT with⟨u,H2,he,hok,hT⟩|⟨u,H2,he,hok,hf⟩
  ·cases he
  ·exact hf.elim
def wP{α:Type}(p:α->Bool):List α->Nat->Int
 |[],_=>-1
 |t::r,i=>if p t then (i:Int) else wP p r (i+1)
theorem qjr{α:Type}(p:α->Bool):∀(l:List α)(i:Nat),decide (0<=wP p l i)=l.any p
 |[],i=>rfl
 |t::r,i=>by
  simp only[wP,List.any_cons]
  by_cases h:p t=true
  ·simp[h]
  ·simp only[h,if_false,Bool.false_eq_true]
   rw[qjr p r (i+1)];simp
def qhy{α:Type}(g:FuncId)(el:α->LV)(m:Nat)(ob:List (Nat×qc))(n:Nat)(p:α->Bool)(l:List α):Prop:=
 ∀x∈l,∀(n':Nat)(kv kp:HP),n<=n'->(∀n'',n'<=n''->kv (.bool (p x)) ⟨ob,n''⟩)->cP E0 F0 g [el x,.ptr m 0] ⟨ob,n'⟩ kv kp
theorem qss(l:List qg)(hl:l.length<=2^20)(own:Own)(g:FuncId)(p:qg->Bool)(m:Nat)(ob:List (Nat×qc))(n:Nat)(hg:qhy g qm m ob n p l){kv kp:HP}(hk:∀n',n<=n'->kv (.int (wP p l 0)) ⟨ob,n'⟩):
  cP E0 F0 140 [.sl (l.map qm) own,.fn (.func g) [] [.ptr m 0]] ⟨ob,n⟩ kv kp:=by
 refine zR c140 fun hH=>⟨Nat.le_of_ble_eq_true rfl,?_⟩
 simp(disch:=omega)[b140]
 obtain⟨A,hA⟩:∃A,wP p l 0=A:=⟨_,rfl⟩
 rw[hA]at hk
 refine qA (σ:=NN) (fun q=>(.nd (.sl (l.map qm) own) (.nd (.fn (.func g) [] [.ptr m 0]) (.nd .bot (.nd (.int l.length) .nil .nil) .nil) .nil) (.nd .bot (.nd .bot (.nd (.int q.i) .nil .nil) .nil) (.nd (.sl (l.map qm) own) .nil .nil)))) (fun q=>⟨ob,q.n⟩) (fun q=>l.length - q.i)
  (fun q=>n<=q.n/\q.i<=l.length/\wP p (l.drop q.i) q.i=A) ⟨0,n⟩ ⟨Nat.le_refl _,Nat.zero_le _,hA⟩ (by simp[FT.Le,Wk]) ⟨HWk.refl _,fun h=>h⟩ ?_
 rintro⟨q,k⟩ ⟨hn,hq,he⟩ hok
 dsimp only at hn hq he hok
 by_cases hlt:q<l.length
 ·rw[List.drop_eq_getElem_cons hlt]at he
  simp(disch:=omega)[hlt]
  refine hg l[q] (List.getElem_mem hlt) k _ _ hn fun n1 h1=>?_
  cases ht:p l[q]
  ·simp[wP,ht]at he
   simp(disch:=omega)[qk (show q<2^62 by omega)]
   exact⟨⟨q+1,n1⟩,by dsimp only;omega,⟨by dsimp only;omega,by dsimp only;omega,he⟩,by simp[FT.Le,Wk],HWk.refl _,fun h=>h⟩
  ·simp[wP,ht]at he
   simp(disch:=omega)
   exact keep (by rw[<-he]at hk;exact hk n1 (by omega))
 ·obtain rfl:q=l.length:=by omega
  rw[List.drop_eq_nil_of_le (Nat.le_refl _)]at he
  simp(disch:=omega)
  simp[wP]at he
  exact keep (by rw[<-he]at hk;exact hk k hn)
theorem qhT(l:List qg)(hl:l.length<=2^20)(own:Own)(g:FuncId)(p:qg->Bool)(m:Nat)(ob:List (Nat×qc))(n:Nat)(hg:qhy g qm m ob n p l){kv kp:HP}(hk:∀n',n<=n'->kv (.bool (l.any p)) ⟨ob,n'⟩):
  cP E0 F0 77 [.sl (l.map qm) own,.fn (.func g) [] [.ptr m 0]] ⟨ob,n⟩ kv kp:=by
 refine zR c77 fun hH=>⟨Nat.le_of_ble_eq_true rfl,?_⟩
 simp(disch:=omega)[b77]
 refine qss l hl own g p m ob n hg fun n1 hn1=>?_
 simp(disch:=omega)
 exact keep (by rw[qjr];exact hk n1 hn1)
theorem t_cc1(x c:qg)(m:Nat)(ob:List (Nat×qc))(n:Nat)(hl:look m ob=some (.cells (qS c))){kv kp:HP}(hk:∀n',n<=n'->kv (.bool (decide (c.id<=x.id))) ⟨ob,n'⟩):
  cP E0 F0 83 [qm x,.ptr m 0] ⟨ob,n⟩ kv kp:=by
 refine zR c83 fun hH=>⟨Nat.le_of_ble_eq_true rfl,?_⟩
 have hm:m<n:=hH.look hl
 simp(disch:=omega)[b83,hl]
 exact⟨⟨ob,n+1⟩,yM hH (Nat.le_succ _),fun _=>qn.mono hH (Nat.le_succ _),hk _ (Nat.le_succ _)⟩
theorem qtd(x c:qg)(m:Nat)(ob:List (Nat×qc))(n:Nat)(hl:look m ob=some (.cells (qS c))){kv kp:HP}(hk:∀n',n<=n'->kv (.bool (decide (x.id=c.id))) ⟨ob,n'⟩):
  cP E0 F0 90 [qm x,.ptr m 0] ⟨ob,n⟩ kv kp:=by
 refine zR c90 fun hH=>⟨Nat.le_of_ble_eq_true rfl,?_⟩
 have hm:m<n:=hH.look hl
 simp(disch:=omega)[b90,hl]
 exact⟨⟨ob,n+1⟩,yM hH (Nat.le_succ _),fun _=>qn.mono hH (Nat.le_succ _),hk _ (Nat.le_succ _)⟩
theorem qsz(x:qg)(id:Int)(m:Nat)(ob:List (Nat×qc))(n:Nat)(hl:look m ob=some (.cells [.int id])){kv kp:HP}(hk:∀n',n<=n'->kv (.bool (decide (x.id=id))) ⟨ob,n'⟩):
  cP E0 F0 78 [qm x,.ptr m 0] ⟨ob,n⟩ kv kp:=by
 refine zR c78 fun hH=>⟨Nat.le_of_ble_eq_true rfl,?_⟩
 have hm:m<n:=hH.look hl
 simp(disch:=omega)[b78,hl]
 exact⟨⟨ob,n+1⟩,yM hH (Nat.le_succ _),fun _=>qn.mono hH (Nat.le_succ _),hk _ (Nat.le_succ _)⟩
theorem qwg{l:List qg}(h:∀c∈l,c.cls.length<=40)(y w:Int):(qH l y w).length<=l.length*40:=by
 refine qoR _ 40 l fun c hc=>?_
 split
 ·exact h c hc
 ·simp
theorem qbr.le{l:List qg}(h:qbr l)(h30:l.length<=30)(y w:Int):(qH l y w).length<=1200:=by
 have:=qwg (fun c hc=>(qez (h.ok c hc).2).1) y w
 omega
theorem qod(y:Int):∀l:List Int,(wz y l).length<=l.length+1
 |[]=>Nat.le_refl _
 |x::r=>by
  have ih:=qod y r
  unfold wz
  split
  ·simp only[List.length_cons];omega
  ·split<;>simp
theorem qit(M:Int)(l:List (Int×Int)):(vf M l).length<=1+2*l.length:=by
 have key:∀(l:List (Int×Int))(o:List Int),(l.foldl (fun o c=>zg M (zg M o c.1) (c.2+1)) o).length<=o.length+2*l.length:=by
  intro l
  induction l with
  |nil=>intro o;exact Nat.le_refl _
  |cons c l ih=>
   intro o
   have h1:∀(o:List Int)(y:Int),(zg M o y).length<=o.length+1:=fun o y=>by
    unfold zg
    split
    ·exact qod _ _
    ·omega
   have:=ih (zg M (zg M o c.1) (c.2+1))
   have h2:=h1 o c.1
   have h3:=h1 (zg M o c.1) (c.2+1)
   rw[List.foldl_cons,List.length_cons]
   omega
 have:=key l [0]
 unfold vf
 simpa using this
theorem qeW(l:List qg)(own:Own)(hl:l.length<2^63)(hS:l.length<=30->∀c∈l,qat c.cls):qf 29 [.sl (l.map qm) own] (.tup [.int (zA l).1,.int (zA l).2]):=by
 refine qf.of c29 fun H hH=>⟨Nat.le_of_ble_eq_true rfl,?_⟩
 obtain⟨E,hE⟩:∃E,zA l=E:=⟨_,rfl⟩
 rw[hE]
 unfold zA at hE
 by_cases h30:30<l.length
 ·rw[if_pos h30]at hE
  have h30':(30:Int)<(l.length:Int):=by omega
  simp(disch:=omega)[b29,h30']
  exact qh hH (by simp[<-hE])
 rw[if_neg h30]at hE
 have h30':¬(30:Int)<(l.length:Int):=by omega
 simp(disch:=omega)[b29,h30']
 obtain⟨A,hA⟩:∃A,w9 [] l 0=A:=⟨_,rfl⟩
 rw[hA]at hE
 have hSm:=hS (by omega)
 have ret:∀(e:Int)(i:Nat),(e,(i:Int))=A->e≠0->E=(e,(i:Int)):=fun e i h h0=>by rw[<-h,if_pos h0]at hE;exact hE.symm
 refine qA (σ:=NN) (fun q=>(.nd (.sl (l.map qm) own) (.nd .bot .nil (.nd .bot (.nd .bot (.nd (.int l.length) .nil .nil) .nil) .nil)) (.nd .bot (.nd .bot (.nd .bot (.nd (.sl (l.map qm) own) .nil .nil) .nil) .nil) (.nd .bot (.nd .bot (.nd (.int q.i) .nil .nil) .nil) .nil)))) (fun q=>⟨H.objs,q.n⟩) (fun q=>l.length - q.i)
  (fun q=>H.next<=q.n/\q.i<=l.length/\w9 (l.take q.i) (l.drop q.i) q.i=A) ⟨0,H.next⟩ ⟨Nat.le_refl _,Nat.zero_le _,hA⟩ (by simp[FT.Le,Wk]) ⟨HWk.refl _,fun h=>h⟩ ?_
 rintro⟨i,n⟩ ⟨hn,hi,he⟩ hok
 dsimp only at hn hi he hok
 by_cases hlt:i<l.length
 case pos=>
  rw[List.drop_eq_getElem_cons hlt]at he
  unfold w9 at he
  simp(disch:=omega)[hlt]
  refine(qeP l[i].id 1 1099511627776).go fun n2 hn2=>?_
  obtain⟨B,hB⟩:∃B,(decide (1<=l[i].id)&&decide (l[i].id<=1099511627776))=B:=⟨_,rfl⟩
  rw[hB]
  cases B
  ·have hio:vI l[i]=false:=by
    cases hx:vI l[i] with
    |false=>rfl
    |true=>
     have:=(qak.1 hx).1
     rw[decide_eq_true this.1,decide_eq_true (by omega)]at hB
     cases hB
   rw[if_pos hio]at he
   have hEE:=ret 1 i he (by decide)
   simp(disch:=omega)
   exact qh hH (by simp[hEE])
  have hB2:1<=l[i].id/\l[i].id<=2^40:=by
   rw[Bool.and_eq_true,decide_eq_true_iff,decide_eq_true_iff]at hB
   omega
  have hbad:¬(0<=l[i].fr/\l[i].fr<=l[i].to/\l[i].to<=4000)->E=(1,(i:Int)):=fun h=>by
   have hio:vI l[i]=false:=by
    cases hx:vI l[i] with
    |false=>rfl
    |true=>exact absurd (qak.1 hx).2 h
   rw[if_pos hio]at he
   exact ret 1 i he (by decide)
  by_cases h1:l[i].fr<0
  ·have hEE:=hbad (by omega)
   simp(disch:=omega)[h1]
   exact qh hH (by simp[hEE])
  by_cases h2:l[i].to<l[i].fr
  ·have hEE:=hbad (by omega)
   simp(disch:=omega)[h1,h2]
   exact qh hH (by simp[hEE])
  by_cases h3:4000<l[i].to
  ·have hEE:=hbad (by omega)
   simp(disch:=omega)[h1,h2,h3]
   exact qh hH (by simp[hEE])
  have hio:¬vI l[i]=false:=by rw[qak.2 ⟨hB2,by omega⟩];simp
  rw[if_neg hio]at he
  have hil:i<=l.length:=by omega
  simp(disch:=omega)[h1,h2,h3,hil]
  rw[<-List.map_take]
  refine qhT (l.take i) (by rw[List.length_take];omega) _ 83 (fun x=>decide (l[i].id<=x.id)) n _ _ (fun x _ n' kv kp hn' hk=>t_cc1 x l[i] n _ n' (qp _ _ _) hk) fun n3 hn3=>?_
  obtain⟨B2,hB2⟩:∃B2,((l.take i).any fun x=>decide (l[i].id<=x.id))=B2:=⟨_,rfl⟩
  rw[hB2]at he ⊢
  cases B2
  case true=>
   rw[if_pos rfl]at he
   have hEE:=ret 6 i he (by decide)
   simp(disch:=omega)
   exact qh hH (by simp[hEE])
  rw[if_neg (by simp)]at he
  simp(disch:=omega)
  refine(qlG l[i].cls (hSm _ (z7 hlt)).ok3).go fun n4 hn4=>?_
  by_cases hc:(qJ l[i].cls).1=0
  case neg=>
   rw[if_pos hc]at he
   have hEE:=ret _ i he hc
   simp(disch:=omega)[hc]
   exact qh hH (by simp[hEE])
  rw[if_neg (by simpa using hc)]at he
  simp(disch:=omega)[hc,qk (show i<2^62 by omega)]
  have htk:l.take (i+1)=l.take i++[l[i]]:=by rw[List.take_add_one,List.getElem?_eq_getElem hlt];rfl
  exact⟨⟨i+1,n4⟩,by dsimp only;omega,⟨by dsimp only;omega,by dsimp only;omega,by dsimp only;rw[htk];exact he⟩,by simp[FT.Le,Wk],yM hok (Nat.le_refl _),fun _=>qn.mono hok (by dsimp only;omega)⟩
 obtain rfl:i=l.length:=by omega
 rw[List.drop_eq_nil_of_le (Nat.le_refl _)]at he
 have hA0:A.1=0:=by rw[<-he];rfl
 have hC:qbr l:=qhc (by rw[hA];exact hA0)
 rw[if_neg (by rw[hA0];simp)]at hE
 simp(disch:=omega)
 refine qlv l own (by omega) (fun c hc=>(hC.ok c hc).1) _ _ fun ow n2 hn2=>?_
 have hyl:=qit 4000 (zx l)
 have hsl:(zx l).length=l.length:=by unfold zx;rw[List.length_map]
 obtain⟨ys,hys⟩:∃ys,vf 4000 (zx l)=ys:=⟨_,rfl⟩
 rw[hys]at hyl hE ⊢
 obtain⟨Y,hY⟩:∃Y,qbT l ys=Y:=⟨_,rfl⟩
 rw[hY]at hE
 simp(disch:=omega)
 refine qA (σ:=NN) (fun q=>(.nd (.sl (l.map qm) own) (.nd .bot (.nd .bot .nil (.nd .bot (.nd .bot (.nd .bot (.nd (.int q.i) .nil .nil) .nil) .nil) .nil)) (.nd .bot (.nd .bot (.nd .bot (.nd .bot (.nd (.sl (uB ys) ow) .nil .nil) .nil) .nil) .nil) .nil)) (.nd .bot .nil (.nd .bot (.nd .bot (.nd .bot (.nd .bot (.nd (.int ys.length) .nil .nil) .nil) .nil) .nil) .nil)))) (fun q=>⟨H.objs,q.n⟩) (fun q=>ys.length - q.i)
  (fun q=>H.next<=q.n/\q.i<=ys.length/\qbT l (ys.drop q.i)=Y) ⟨0,n2⟩ ⟨by dsimp only;omega,Nat.zero_le _,hY⟩ (by simp[FT.Le,Wk]) ⟨HWk.refl _,fun h=>h⟩ ?_
 rintro⟨j,m⟩ ⟨hm,hj,he2⟩ hok2
 dsimp only at hm hj he2 hok2
 by_cases hjl:j<ys.length
 case neg=>
  rw[List.drop_eq_nil_of_le (by omega)]at he2
  have hY0:Y=0:=he2.symm
  simp(disch:=omega)[hjl]
  exact qh hH (by simp[<-hE,hY0])
 rw[List.drop_eq_getElem_cons hjl]at he2
 unfold qbT at he2
 have hfl:=hC.le (by omega) ys[j] 0
 simp(disch:=omega)[hjl]
 refine(qdR l own ys[j] 0 (by omega) (by omega)).go fun n4 hn4=>?_
 obtain⟨F,hF⟩:∃F,qH l ys[j] 0=F:=⟨_,rfl⟩
 have hck:=qoC hC (y:=ys[j]) (w:=0)
 rw[hF]at he2 hfl hck ⊢
 by_cases h40:40<F.length
 ·rw[if_pos h40]at he2
  have h40':(40:Int)<(F.length:Int):=by omega
  simp(disch:=omega)[h40']
  exact qh hH (by simp[<-hE,<-he2])
 rw[if_neg h40]at he2
 have h40':¬(40:Int)<(F.length:Int):=by omega
 have hck0:=hck (by omega)
 have hg:=qgV hck0
 obtain⟨fuel,R,hR,hRS⟩:=qnH F hck0
 simp(disch:=omega)[h40']
 refine qlm F (by omega) (fun c hcm=>by have:=hg.body c hcm;omega) (by have:=hg.initLen;omega) fuel R hR _ (fun hRn n5 hn5=>?_) (fun mm hRm n5 hn5=>?_)
 ·dsimp only at hn5
  have hS:y5 F=none:=by
   rcases hRS with⟨_,h⟩|⟨m',_,h,_⟩
   ·exact h
   ·rw[hRn]at h;cases h
  rw[hS]at he2
  have hYY:Y=81:=he2.symm
  simp(disch:=omega)
  exact qh hH (by simp[<-hE,hYY])
 ·dsimp only at hn5
  have hS:(y5 F).isNone=false:=by
   rcases hRS with⟨h,_⟩|⟨_,q,_,h,_⟩
   ·rw[hRm]at h;cases h
   ·rw[h];rfl
  rw[hS,if_neg (by simp)]at he2
  simp(disch:=omega)[qk (show j<2^62 by omega)]
  exact⟨⟨j+1,n5⟩,by dsimp only;omega,⟨by dsimp only;omega,by dsimp only;omega,he2⟩,by simp[FT.Le,Wk],yM (qn.mono hH (by omega)) (Nat.le_refl _),fun _=>qn.mono hH (by dsimp only;omega)⟩
theorem qjX(k:IntKind)(a b:Int):zq .mul (.sc (.int k a)) (.sc (.int k b))=some (.sc (.int k (k.wrap (a*b)))):=by simp[zq]
def plI(y:Int):List Int->Nat
 |[]=>0
 |x::r=>if x<y then plI y r+1 else 0
theorem qmS(y:Int):∀l:List Int,plI y l<=l.length
 |[]=>Nat.le_refl _
 |x::r=>by
  have:=qmS y r
  unfold plI
  rw[List.length_cons]
  split<;>omega
theorem qoc(y:Int):∀l:List Int,wz y l=(match l[plI y l]? with
  |some x=>if x=y then l else l.take (plI y l)++[y]++l.drop (plI y l)
  |none=>l.take (plI y l)++[y]++l.drop (plI y l))
 |[]=>rfl
 |x::r=>by
  have ih:=qoc y r
  unfold wz plI
  by_cases h:x<y
  ·rw[if_pos h,if_pos h,List.getElem?_cons_succ,ih]
   split
   ·rename_i z hz
    by_cases he:z=y
    ·rw[if_pos he,if_pos he]
    ·rw[if_neg he,if_neg he];simp
   ·simp
  ·rw[if_neg h,if_neg h,List.getElem?_cons_zero]
   simp only
   by_cases he:x=y
   ·rw[if_pos he,if_pos he]
   ·rw[if_neg he,if_neg he];simp
def qbh:List qg->List Int
 |[]=>[]
 |c::r=>c.fr::(c.to+1)::qbh r
theorem qoO:∀l:List qg,(qbh l).length=2*l.length
 |[]=>rfl
 |c::r=>by
  have:=qoO r
  unfold qbh
  simp only[List.length_cons]
  omega
theorem qoP:∀(l:List qg)(i:Nat)(h:i / 2<l.length),(qbh l)[i]? = some (if i % 2=1 then l[i / 2].to+1 else l[i / 2].fr)
 |[],i,h=>by simp at h
 |c::r,0,h=>rfl
 |c::r,1,h=>rfl
 |c::r,i+2,h=>by
  have e1:(i+2) / 2=i / 2+1:=by omega
  have e2:(i+2) % 2=i % 2:=by omega
  have h2:i / 2<r.length:=by rw[e1]at h;simpa using h
  have ih:=qoP r i h2
  show (c.fr::(c.to+1)::qbh r)[i+2]? = _
  rw[List.getElem?_cons_succ,List.getElem?_cons_succ,ih]
  simp only[e1,e2,List.getElem_cons_succ]
theorem qoQ(M:Int):∀(l:List qg)(o:List Int),(qbh l).foldl (zg M) o=(zx l).foldl (fun o c=>zg M (zg M o c.1) (c.2+1)) o
 |[],_=>rfl
 |_::r,_=>qoQ M r _
theorem qgh(l:List Int)(ow:Own):Wk (.sl (uB l) ow) (.sl (uB l) .no):=by
 refine .inr (.inl ?_)
 simp[LV.strip,stripL,qcz,List.map_map,Function.comp_def]
theorem wj(l:List Int):((l.map LV.int).all fun e=>e.cells.length==1)=true:=by
 rw[List.all_eq_true]
 intro e he
 obtain⟨c,_,rfl⟩:=List.mem_map.1 he
 rfl
structure NNcY where
 i:Nat
 n:Nat
 out:List Int
set_option maxHeartbeats 2000000 in
theorem qrM(l:List qg)(own:Own)(hl:l.length<=2^18)(hw:∀c∈l,-2^62<=c.to/\c.to<=2^62)(H:qa){kv kp:HP}(hk:∀n,H.next<=n->kv (.sl (uB (vf 4000 (zx l))) .no) ⟨H.objs,n⟩):
  cP E0 F0 88 [.sl (l.map qm) own] H kv kp:=by
 refine qeB c88 fun hH=>⟨Nat.le_of_ble_eq_true rfl,?_⟩
 have hOb:qn H.objs H.next:=hH
 simp(disch:=omega)[b88]
 obtain⟨R,hR⟩:∃R,vf 4000 (zx l)=R:=⟨_,rfl⟩
 rw[hR]at hk
 have hR0:(qbh l).foldl (zg 4000) [0]=R:=by rw[qoQ];exact hR
 have hfl:=qoO l
 refine qA (σ:=NNcY) (fun q=>(.nd (.sl (l.map qm) own) (.nd .bot (.nd (.sl (uB q.out) .no) .nil .nil) .nil) (.nd .bot (.nd (.int q.i) .nil .nil) .nil))) (fun q=>⟨H.objs,q.n⟩) (fun q=>2*l.length - q.i)
  (fun q=>H.next<=q.n/\q.i<=2*l.length/\q.out.length<=1+q.i/\((qbh l).drop q.i).foldl (zg 4000) q.out=R) ⟨0,H.next,[0]⟩ ⟨Nat.le_refl _,Nat.zero_le _,by simp,hR0⟩ (by simp[FT.Le,Wk,LV.strip,stripL]) ⟨HWk.refl _,fun h=>h⟩ ?_
 rintro⟨i,n,out⟩ ⟨hn,hi,hol,he⟩ hok
 dsimp only at hn hi hol he hok
 have hmul:IntKind.wrap .i64 (2*(l.length:Int))=2*(l.length:Int):=zJ (by omega) (by omega)
 by_cases hlt:i<2*l.length
 case neg=>
  rw[List.drop_eq_nil_of_le (by omega)]at he
  have he2:out=R:=he
  subst he2
  have hlt':¬(i:Int)<2*(l.length:Int):=by omega
  simp(disch:=omega)[qjX,hmul,hlt']
  exact⟨.sl (uB out) .no,.inl rfl,⟨H.objs,n⟩,HWk.refl _,fun h=>h,hk n hn⟩
 obtain⟨k,hkk⟩:∃k,i / 2=k:=⟨_,rfl⟩
 have hq:k<l.length:=by omega
 have hget:(qbh l)[i]? = some (if i % 2=1 then l[k].to+1 else l[k].fr):=by
  subst hkk
  exact qoP l i hq
 obtain⟨y,hy⟩:∃y,(if i % 2=1 then l[k].to+1 else l[k].fr)=y:=⟨_,rfl⟩
 rw[hy]at hget
 have hid:i<(qbh l).length:=by omega
 rw[List.drop_eq_getElem_cons hid]at he
 have hgy:(qbh l)[i]=y:=by rw[List.getElem?_eq_getElem hid]at hget;exact Option.some.inj hget
 rw[hgy,List.foldl_cons]at he
 have hlt':(i:Int)<2*(l.length:Int):=by omega
 have hquo:Int.tdiv (i:Int) 2=(k:Int):=by
  rw[<-hkk,show (2:Int)=((2:Nat):Int) from rfl]
  exact(Int.ofNat_tdiv _ _).symm
 have hwq:IntKind.wrap .i64 (k:Int)=(k:Int):=zJ (by omega) (by omega)
 have hrem:Int.tmod (i:Int) 2=((i % 2:Nat):Int):=by
  rw[show (2:Int)=((2:Nat):Int) from rfl]
  exact(Int.ofNat_tmod _ _).symm
 have htb:=hw _ (z7 hq)
 have hwt:IntKind.wrap .i64 (l[k].to+1)=l[k].to+1:=zJ (by omega) (by omega)
 obtain⟨P,hP⟩:∃P,plI y out=P:=⟨_,rfl⟩
 have hPl:P<=out.length:=by rw[<-hP];exact qmS y out
 have hins:=qoc y out
 rw[hP]at hins
 have hi1:IntKind.wrap .i64 ((i:Int)+1)=((i+1:Nat):Int):=qk (by omega)
 by_cases hodd:i % 2=1
 ·rw[if_pos hodd]at hy
  rw[hodd]at hrem
  have hwy:IntKind.wrap .i64 y=y:=by rw[<-hy];exact hwt
  simp(disch:=omega)[qjX,hmul,hlt',qqq,qqp,hquo,hwq,hrem,hq,hwt,hy,hwy]
  refine qA (σ:=NN) (fun q=>(.nd (.sl (l.map qm) own) (.nd .bot (.nd (.sl (uB out) .no) .nil .nil) (.nd (.int y) .nil .nil)) (.nd .bot (.nd (.int i) .nil .nil) (.nd (.int q.i) .nil .nil)))) (fun q=>⟨H.objs,q.n⟩) (fun q=>out.length - q.i)
   (fun q=>H.next<=q.n/\q.i<=out.length/\q.i+plI y (out.drop q.i)=P) ⟨0,n⟩ ⟨hn,Nat.zero_le _,by simpa using hP⟩ (by simp[FT.Le,Wk]) ⟨HWk.refl _,fun h=>h⟩ ?_
  rintro⟨j,m0⟩ ⟨hm0,hj,hpj⟩ hok3
  dsimp only at hm0 hj hpj hok3
  by_cases hjl:j<out.length
  case pos=>
   rw[List.drop_eq_getElem_cons hjl]at hpj
   unfold plI at hpj
   by_cases hxy:out[j]<y
   ·rw[if_pos hxy]at hpj
    simp(disch:=omega)[hjl,hxy,qk (show j<2^62 by omega)]
    exact⟨⟨j+1,m0⟩,by dsimp only;omega,⟨by dsimp only;omega,by dsimp only;omega,by dsimp only;omega⟩,by simp[FT.Le,Wk],HWk.refl _,fun h=>h⟩
   rw[if_neg hxy,Nat.add_zero]at hpj
   subst hpj
   rw[List.getElem?_eq_getElem hjl]at hins
   simp only at hins
   by_cases h4:y<=4000
   case neg=>
    have hadd:zg 4000 out y=out:=by unfold zg;rw[if_neg h4]
    rw[hadd]at he
    simp(disch:=omega)[hjl,hxy,h4,hi1]
    exact⟨⟨i+1,m0,out⟩,by dsimp only;omega,⟨by dsimp only;omega,by dsimp only;omega,by dsimp only;omega,he⟩,by simp[FT.Le,Wk],HWk.refl _,fun h=>h⟩
   have hadd:zg 4000 out y=wz y out:=by unfold zg;rw[if_pos h4]
   have hjne:¬(j:Int)=(out.length:Int):=by omega
   by_cases hxe:out[j]=y
   ·rw[if_pos hxe]at hins
    rw[hadd,hins]at he
    simp(disch:=omega)[hjl,hxy,h4,hjne,hxe,hi1]
    exact⟨⟨i+1,m0,out⟩,by dsimp only;omega,⟨by dsimp only;omega,by dsimp only;omega,by dsimp only;omega,he⟩,by simp[FT.Le,Wk],HWk.refl _,fun h=>h⟩
   rw[if_neg hxe]at hins
   rw[hadd,hins]at he
   have hj2:j<=out.length:=hj
   simp(disch:=omega)[hjl,hxy,h4,hjne,hxe,hj2]
   clear hok3
   refine zd ?_
   simp(disch:=omega)
   obtain⟨o1,ob1,m1,e1,hr1,hm1⟩:=vA (sz:=1) (H:=⟨H.objs,H.next⟩) (es:=[]) (Y:=(out.map LV.int).take j) (own:=.full) (n:=m0) (by omega) rfl (yP (wj out) j).1 (by simp;omega) (.inl ⟨rfl,rfl,by dsimp only;omega⟩)
   rw[e1]
   simp(disch:=omega)
   refine zd ?_
   simp(disch:=omega)
   obtain⟨o2,ob2,m2,e2,hr2,hm2⟩:=vA (sz:=1) (es:=[]++(out.map LV.int).take j) (Y:=[.int y]) (by omega) (by simpa using (yP (wj out) j).1) rfl (by simp;omega) (by rw[List.length_append];exact hr1)
   rw[List.nil_append]at e2
   rw[e2]
   simp(disch:=omega)
   refine zd ?_
   simp(disch:=omega)
   obtain⟨o3,ob3,m3,e3,hr3,hm3⟩:=vA (sz:=1) (es:=([]++(out.map LV.int).take j)++[.int y]) (Y:=(out.map LV.int).drop j) (by omega) (by
    rw[List.all_append,List.nil_append,(yP (wj out) j).1];rfl) (yP (wj out) j).2 (by simp;omega) (by rw[List.length_append (bs:=[LV.int y])];exact hr2)
   rw[List.nil_append]at e3
   have hold3:=hr3.old
   dsimp only at hold3
   have hdr:List.take (out.length - j) (List.drop j (out.map LV.int))=List.drop j (out.map LV.int):=List.take_of_length_le (by simp)
   rw[hdr,e3]
   simp(disch:=omega)[hi1]
   refine⟨⟨i+1,m3,out.take j++[y]++out.drop j⟩,by dsimp only;omega,⟨by dsimp only;omega,by dsimp only;omega,by simp;omega,he⟩,?_,qaJ hH hold3.2 (Nat.le_refl _),fun _=>qn.mono hH (by dsimp only;omega)⟩
   have hst:=qgh (out.take j++[y]++out.drop j) o3
   have hmm:List.take j (out.map LV.int)++LV.int y::List.drop j (out.map LV.int)=uB (out.take j++[y]++out.drop j):=by simp
   rw[hmm]
   simp only[FT.Le,Wk,true_or,or_true,and_true,true_and]
   exact⟨hst,.inl (by simp)⟩
  case neg=>
   obtain rfl:j=out.length:=by omega
   rw[List.drop_eq_nil_of_le (Nat.le_refl _)]at hpj
   have hPe:P=out.length:=by rw[<-hpj];rfl
   have hnone:out[P]? = none:=List.getElem?_eq_none (by omega)
   rw[hnone]at hins
   simp only at hins
   by_cases h4:y<=4000
   case neg=>
    have hadd:zg 4000 out y=out:=by unfold zg;rw[if_neg h4]
    rw[hadd]at he
    simp(disch:=omega)[hjl,h4,hi1]
    exact⟨⟨i+1,m0,out⟩,by dsimp only;omega,⟨by dsimp only;omega,by dsimp only;omega,by dsimp only;omega,he⟩,by simp[FT.Le,Wk],HWk.refl _,fun h=>h⟩
   have hadd:zg 4000 out y=wz y out:=by unfold zg;rw[if_pos h4]
   rw[hadd,hins]at he
   simp(disch:=omega)[hjl,h4]
   rw[<-hPe]
   clear hok3 hpj
   refine zd ?_
   simp(disch:=omega)
   obtain⟨o1,ob1,m1,e1,hr1,hm1⟩:=vA (sz:=1) (H:=⟨H.objs,H.next⟩) (es:=[]) (Y:=(out.map LV.int).take P) (own:=.full) (n:=m0) (by omega) rfl (yP (wj out) P).1 (by simp;omega) (.inl ⟨rfl,rfl,by dsimp only;omega⟩)
   rw[e1]
   simp(disch:=omega)
   refine zd ?_
   simp(disch:=omega)
   obtain⟨o2,ob2,m2,e2,hr2,hm2⟩:=vA (sz:=1) (es:=[]++(out.map LV.int).take P) (Y:=[.int y]) (by omega) (by simpa using (yP (wj out) P).1) rfl (by simp;omega) (by rw[List.length_append];exact hr1)
   rw[List.nil_append]at e2
   rw[e2]
   simp(disch:=omega)
   refine zd ?_
   simp(disch:=omega)
   obtain⟨o3,ob3,m3,e3,hr3,hm3⟩:=vA (sz:=1) (es:=([]++(out.map LV.int).take P)++[.int y]) (Y:=(out.map LV.int).drop P) (by omega) (by
    rw[List.all_append,List.nil_append,(yP (wj out) P).1];rfl) (yP (wj out) P).2 (by simp;omega) (by rw[List.length_append (bs:=[LV.int y])];exact hr2)
   rw[List.nil_append]at e3
   have hold3:=hr3.old
   dsimp only at hold3
   rw[show (out.map LV.int).drop P=[] from List.drop_eq_nil_of_le (by rw[List.length_map];omega)]at e3
   rw[e3]
   simp(disch:=omega)[hi1]
   have hd0:out.drop P=[]:=List.drop_eq_nil_of_le (by omega)
   rw[hd0,List.append_nil]at he
   refine⟨⟨i+1,m3,out.take P++[y]⟩,by dsimp only;omega,⟨by dsimp only;omega,by dsimp only;omega,by simp;omega,he⟩,?_,qaJ hH hold3.2 (Nat.le_refl _),fun _=>qn.mono hH (by dsimp only;omega)⟩
   have hst:=qgh (out.take P++[y]) o3
   have hmm:List.take P (out.map LV.int)++[.int y]=uB (out.take P++[y]):=by simp
   rw[hmm]
   simp only[FT.Le,Wk,true_or,or_true,and_true,true_and]
   exact⟨hst,.inl (by simp)⟩
 ·rw[if_neg hodd]at hy
  rw[show i % 2=0 by omega]at hrem
  simp(disch:=omega)[qjX,hmul,hlt',qqq,qqp,hquo,hwq,hrem,hq,hwt,hy]
  refine qA (σ:=NN) (fun q=>(.nd (.sl (l.map qm) own) (.nd .bot (.nd (.sl (uB out) .no) .nil .nil) (.nd (.int y) .nil .nil)) (.nd .bot (.nd (.int i) .nil .nil) (.nd (.int q.i) .nil .nil)))) (fun q=>⟨H.objs,q.n⟩) (fun q=>out.length - q.i)
   (fun q=>H.next<=q.n/\q.i<=out.length/\q.i+plI y (out.drop q.i)=P) ⟨0,n⟩ ⟨hn,Nat.zero_le _,by simpa using hP⟩ (by simp[FT.Le,Wk]) ⟨HWk.refl _,fun h=>h⟩ ?_
  rintro⟨j,m0⟩ ⟨hm0,hj,hpj⟩ hok3
  dsimp only at hm0 hj hpj hok3
  by_cases hjl:j<out.length
  case pos=>
   rw[List.drop_eq_getElem_cons hjl]at hpj
   unfold plI at hpj
   by_cases hxy:out[j]<y
   ·rw[if_pos hxy]at hpj
    simp(disch:=omega)[hjl,hxy,qk (show j<2^62 by omega)]
    exact⟨⟨j+1,m0⟩,by dsimp only;omega,⟨by dsimp only;omega,by dsimp only;omega,by dsimp only;omega⟩,by simp[FT.Le,Wk],HWk.refl _,fun h=>h⟩
   rw[if_neg hxy,Nat.add_zero]at hpj
   subst hpj
   rw[List.getElem?_eq_getElem hjl]at hins
   simp only at hins
   by_cases h4:y<=4000
   case neg=>
    have hadd:zg 4000 out y=out:=by unfold zg;rw[if_neg h4]
    rw[hadd]at he
    simp(disch:=omega)[hjl,hxy,h4,hi1]
    exact⟨⟨i+1,m0,out⟩,by dsimp only;omega,⟨by dsimp only;omega,by dsimp only;omega,by dsimp only;omega,he⟩,by simp[FT.Le,Wk],HWk.refl _,fun h=>h⟩
   have hadd:zg 4000 out y=wz y out:=by unfold zg;rw[if_pos h4]
   have hjne:¬(j:Int)=(out.length:Int):=by omega
   by_cases hxe:out[j]=y
   ·rw[if_pos hxe]at hins
    rw[hadd,hins]at he
    simp(disch:=omega)[hjl,hxy,h4,hjne,hxe,hi1]
    exact⟨⟨i+1,m0,out⟩,by dsimp only;omega,⟨by dsimp only;omega,by dsimp only;omega,by dsimp only;omega,he⟩,by simp[FT.Le,Wk],HWk.refl _,fun h=>h⟩
   rw[if_neg hxe]at hins
   rw[hadd,hins]at he
   have hj2:j<=out.length:=hj
   simp(disch:=omega)[hjl,hxy,h4,hjne,hxe,hj2]
   clear hok3
   refine zd ?_
   simp(disch:=omega)
   obtain⟨o1,ob1,m1,e1,hr1,hm1⟩:=vA (sz:=1) (H:=⟨H.objs,H.next⟩) (es:=[]) (Y:=(out.map LV.int).take j) (own:=.full) (n:=m0) (by omega) rfl (yP (wj out) j).1 (by simp;omega) (.inl ⟨rfl,rfl,by dsimp only;omega⟩)
   rw[e1]
   simp(disch:=omega)
   refine zd ?_
   simp(disch:=omega)
   obtain⟨o2,ob2,m2,e2,hr2,hm2⟩:=vA (sz:=1) (es:=[]++(out.map LV.int).take j) (Y:=[.int y]) (by omega) (by simpa using (yP (wj out) j).1) rfl (by simp;omega) (by rw[List.length_append];exact hr1)
   rw[List.nil_append]at e2
   rw[e2]
   simp(disch:=omega)
   refine zd ?_
   simp(disch:=omega)
   obtain⟨o3,ob3,m3,e3,hr3,hm3⟩:=vA (sz:=1) (es:=([]++(out.map LV.int).take j)++[.int y]) (Y:=(out.map LV.int).drop j) (by omega) (by
    rw[List.all_append,List.nil_append,(yP (wj out) j).1];rfl) (yP (wj out) j).2 (by simp;omega) (by rw[List.length_append (bs:=[LV.int y])];exact hr2)
   rw[List.nil_append]at e3
   have hold3:=hr3.old
   dsimp only at hold3
   have hdr:List.take (out.length - j) (List.drop j (out.map LV.int))=List.drop j (out.map LV.int):=List.take_of_length_le (by simp)
   rw[hdr,e3]
   simp(disch:=omega)[hi1]
   refine⟨⟨i+1,m3,out.take j++[y]++out.drop j⟩,by dsimp only;omega,⟨by dsimp only;omega,by dsimp only;omega,by simp;omega,he⟩,?_,qaJ hH hold3.2 (Nat.le_refl _),fun _=>qn.mono hH (by dsimp only;omega)⟩
   have hst:=qgh (out.take j++[y]++out.drop j) o3
   have hmm:List.take j (out.map LV.int)++LV.int y::List.drop j (out.map LV.int)=uB (out.take j++[y]++out.drop j):=by simp
   rw[hmm]
   simp only[FT.Le,Wk,true_or,or_true,and_true,true_and]
   exact⟨hst,.inl (by simp)⟩
  case neg=>
   obtain rfl:j=out.length:=by omega
   rw[List.drop_eq_nil_of_le (Nat.le_refl _)]at hpj
   have hPe:P=out.length:=by rw[<-hpj];rfl
   have hnone:out[P]? = none:=List.getElem?_eq_none (by omega)
   rw[hnone]at hins
   simp only at hins
   by_cases h4:y<=4000
   case neg=>
    have hadd:zg 4000 out y=out:=by unfold zg;rw[if_neg h4]
    rw[hadd]at he
    simp(disch:=omega)[hjl,h4,hi1]
    exact⟨⟨i+1,m0,out⟩,by dsimp only;omega,⟨by dsimp only;omega,by dsimp only;omega,by dsimp only;omega,he⟩,by simp[FT.Le,Wk],HWk.refl _,fun h=>h⟩
   have hadd:zg 4000 out y=wz y out:=by unfold zg;rw[if_pos h4]
   rw[hadd,hins]at he
   simp(disch:=omega)[hjl,h4]
   rw[<-hPe]
   clear hok3 hpj
   refine zd ?_
   simp(disch:=omega)
   obtain⟨o1,ob1,m1,e1,hr1,hm1⟩:=vA (sz:=1) (H:=⟨H.objs,H.next⟩) (es:=[]) (Y:=(out.map LV.int).take P) (own:=.full) (n:=m0) (by omega) rfl (yP (wj out) P).1 (by simp;omega) (.inl ⟨rfl,rfl,by dsimp only;omega⟩)
   rw[e1]
   simp(disch:=omega)
   refine zd ?_
   simp(disch:=omega)
   obtain⟨o2,ob2,m2,e2,hr2,hm2⟩:=vA (sz:=1) (es:=[]++(out.map LV.int).take P) (Y:=[.int y]) (by omega) (by simpa using (yP (wj out) P).1) rfl (by simp;omega) (by rw[List.length_append];exact hr1)
   rw[List.nil_append]at e2
   rw[e2]
   simp(disch:=omega)
   refine zd ?_
   simp(disch:=omega)
   obtain⟨o3,ob3,m3,e3,hr3,hm3⟩:=vA (sz:=1) (es:=([]++(out.map LV.int).take P)++[.int y]) (Y:=(out.map LV.int).drop P) (by omega) (by
    rw[List.all_append,List.nil_append,(yP (wj out) P).1];rfl) (yP (wj out) P).2 (by simp;omega) (by rw[List.length_append (bs:=[LV.int y])];exact hr2)
   rw[List.nil_append]at e3
   have hold3:=hr3.old
   dsimp only at hold3
   rw[show (out.map LV.int).drop P=[] from List.drop_eq_nil_of_le (by rw[List.length_map];omega)]at e3
   rw[e3]
   simp(disch:=omega)[hi1]
   have hd0:out.drop P=[]:=List.drop_eq_nil_of_le (by omega)
   rw[hd0,List.append_nil]at he
   refine⟨⟨i+1,m3,out.take P++[y]⟩,by dsimp only;omega,⟨by dsimp only;omega,by dsimp only;omega,by simp;omega,he⟩,?_,qaJ hH hold3.2 (Nat.le_refl _),fun _=>qn.mono hH (by dsimp only;omega)⟩
   have hst:=qgh (out.take P++[y]) o3
   have hmm:List.take P (out.map LV.int)++[.int y]=uB (out.take P++[y]):=by simp
   rw[hmm]
   simp only[FT.Le,Wk,true_or,or_true,and_true,true_and]
   exact⟨hst,.inl (by simp)⟩
theorem qrS(l:List qe)(hc:(qJ l).1=0)(H:qa){kv kp:HP}(hk:∀v n,H.next<=n->kv (.tup [v,.bool (!(y5 l).isNone)]) ⟨H.objs,n⟩):cP E0 F0 89 [qy l] H kv kp:=by
 have hg:=qgV hc
 cases hl0:l with
 |nil=>
  rw[hl0]at hk
  exact qrQ H kv kp fun n hn=>hk Nl n hn
 |cons c r=>
  rw[<-hl0]
  have hp:=qrP l (by rw[hl0];simp) hg (qiC fun c hc x hx=>(hg.kind c hc x hx).1)
  refine hp H kv kp fun n hn=>?_
  cases hS:y5 l with
  |none=>rw[hS]at hk;exact hk Nl n hn
  |some m=>rw[hS]at hk;exact hk _ n hn
def qgy(l:List qg):Nat->Option qg
 |0=>none
 |k+1=>l[k]?
structure CustIn(l:List qg):Prop where
 len:l.length<2^63
 sm:l.length<=30->∀c∈l,qat c.cls
theorem qeS(l:List qg)(own:Own)(hI:CustIn l):qf 30 [.sl (l.map qm) own] (.tup [.int (zA l).1,.int (zA l).2]):=by
 refine qf.of c30 fun H hH=>⟨Nat.le_of_ble_eq_true rfl,?_⟩
 have hl:=hI.len
 obtain⟨E,hE⟩:∃E,zA l=E:=⟨_,rfl⟩
 rw[hE]
 unfold zA at hE
 by_cases h30:30<l.length
 ·rw[if_pos h30]at hE
  have h30':(30:Int)<(l.length:Int):=by omega
  simp(disch:=omega)[b30,h30']
  exact qh hH (by simp[<-hE])
 rw[if_neg h30]at hE
 have h30':¬(30:Int)<(l.length:Int):=by omega
 simp(disch:=omega)[b30,h30']
 obtain⟨A,hA⟩:∃A,w9 [] l 0=A:=⟨_,rfl⟩
 rw[hA]at hE
 have hA1:qdz none l 0=A:=by rw[<-hA];exact(qoV l [] none 0 rfl).symm
 have hSm:=hI.sm (by omega)
 have ret:∀(e:Int)(i:Nat),(e,(i:Int))=A->e≠0->E=(e,(i:Int)):=fun e i h h0=>by rw[<-h,if_pos h0]at hE;exact hE.symm
 refine qA (σ:=NN) (fun q=>(.nd (.sl (l.map qm) own) .nil (.nd .bot (.nd (.int q.i) .nil .nil) .nil))) (fun q=>⟨H.objs,q.n⟩) (fun q=>l.length - q.i)
  (fun q=>H.next<=q.n/\q.i<=l.length/\qdz (qgy l q.i) (l.drop q.i) q.i=A) ⟨0,H.next⟩ ⟨Nat.le_refl _,Nat.zero_le _,hA1⟩ (by simp[FT.Le,Wk]) ⟨HWk.refl _,fun h=>h⟩ ?_
 rintro⟨i,n⟩ ⟨hn,hi,he⟩ hok
 dsimp only at hn hi he hok
 by_cases hlt:i<l.length
 case pos=>
  rw[List.drop_eq_getElem_cons hlt]at he
  unfold qdz at he
  simp(disch:=omega)[hlt]
  refine(qlc l[i].id 1 1099511627776).go fun n2 hn2=>?_
  obtain⟨B,hB⟩:∃B,(decide (1<=l[i].id)&&decide (l[i].id<=1099511627776))=B:=⟨_,rfl⟩
  rw[hB]
  cases B
  ·have hio:vI l[i]=false:=by
    cases hx:vI l[i] with
    |false=>rfl
    |true=>
     have:=(qak.1 hx).1
     rw[decide_eq_true this.1,decide_eq_true (by omega)]at hB
     cases hB
   rw[if_pos hio]at he
   have hEE:=ret 1 i he (by decide)
   simp(disch:=omega)
   exact qh hH (by simp[hEE])
  have hB2:1<=l[i].id/\l[i].id<=2^40:=by
   rw[Bool.and_eq_true,decide_eq_true_iff,decide_eq_true_iff]at hB
   omega
  have hbad:¬(0<=l[i].fr/\l[i].fr<=l[i].to/\l[i].to<=4000)->E=(1,(i:Int)):=fun h=>by
   have hio:vI l[i]=false:=by
    cases hx:vI l[i] with
    |false=>rfl
    |true=>exact absurd (qak.1 hx).2 h
   rw[if_pos hio]at he
   exact ret 1 i he (by decide)
  by_cases h1:l[i].fr<0
  ·have hEE:=hbad (by omega)
   simp(disch:=omega)[h1]
   exact qh hH (by simp[hEE])
  by_cases h2:l[i].to<l[i].fr
  ·have hEE:=hbad (by omega)
   simp(disch:=omega)[h1,h2]
   exact qh hH (by simp[hEE])
  by_cases h3:4000<l[i].to
  ·have hEE:=hbad (by omega)
   simp(disch:=omega)[h1,h2,h3]
   exact qh hH (by simp[hEE])
  have hio:¬vI l[i]=false:=by rw[qak.2 ⟨hB2,by omega⟩];simp
  rw[if_neg hio]at he
  have tail:∀(n3:Nat),n<=n3->qfx (qgy l i) l[i]=false->(if (qJ l[i].cls).1≠0 then ((qJ l[i].cls).1,(i:Int)) else qdz (some l[i]) (l.drop (i+1)) (i+1))=A:=fun n3 _ hg=>by
   rw[hg,if_neg (by simp)]at he
   exact he
  have hpe:qgy l (i+1)=some l[i]:=List.getElem?_eq_getElem hlt
  by_cases hi0:i=0
  ·subst hi0
   have he2:=tail n (Nat.le_refl _) rfl
   simp(disch:=omega)[h1,h2,h3]
   refine(qlj l[0].cls (hSm _ (z7 hlt)).ok3).go fun n4 hn4=>?_
   rw[qpW]
   by_cases hc:(qJ l[0].cls).1=0
   case neg=>
    rw[if_pos hc]at he2
    have hEE:=ret _ 0 he2 hc
    simp(disch:=omega)[hc]
    exact qh hH (by simp[hEE])
   rw[if_neg (by simpa using hc)]at he2
   simp(disch:=omega)[hc,qkz]
   exact⟨⟨1,n4⟩,by dsimp only;omega,⟨by dsimp only;omega,by dsimp only;omega,by dsimp only;rw[hpe];exact he2⟩,by simp[FT.Le,Wk],yM hok (Nat.le_refl _),fun _=>qn.mono hok (by dsimp only;omega)⟩
  obtain⟨k,rfl⟩:∃k,i=k+1:=⟨i - 1,by omega⟩
  have hkl:k<l.length:=by omega
  have hgl:qfx (qgy l (k+1)) l[k+1]=decide (l[k+1].id<=l[k].id):=by
   show qfx l[k]? l[k+1]=_
   rw[List.getElem?_eq_getElem hkl]
   rfl
  have hk0:(0:Int)<((k+1:Nat):Int):=by omega
  have hwp:IntKind.wrap .i64 (((k+1:Nat):Int) - 1)=(k:Int):=qhG rfl (by omega)
  have hwk:IntKind.wrap .i64 (k:Int)=(k:Int):=zJ (by omega) (by omega)
  have hmx:(if (0:Int)<(k:Int) then (k:Int) else 0)=(k:Int):=by split<;>omega
  have hmx2:(if 0<k then (k:Int) else 0)=(k:Int):=by split<;>omega
  by_cases hle:l[k+1].id<=l[k].id
  ·rw[hgl,decide_eq_true hle,if_pos rfl]at he
   have hEE:=ret 6 (k+1) he (by decide)
   simp(disch:=omega)[h1,h2,h3,hk0,hwp,hwk,hmx,hmx2,hkl,hle]
   exact qh hH (by simp[hEE])
  have he2:=tail n (Nat.le_refl _) (by rw[hgl];exact decide_eq_false hle)
  simp(disch:=omega)[h1,h2,h3,hk0,hwp,hwk,hmx,hmx2,hkl,hle]
  refine(qlj l[k+1].cls (hSm _ (z7 hlt)).ok3).go fun n4 hn4=>?_
  rw[qpW]
  by_cases hc:(qJ l[k+1].cls).1=0
  case neg=>
   rw[if_pos hc]at he2
   have hEE:=ret _ (k+1) he2 hc
   simp(disch:=omega)[hc]
   exact qh hH (by simp[hEE])
  rw[if_neg (by simpa using hc)]at he2
  have hw2:IntKind.wrap .i64 ((k:Int)+1+1)=(k:Int)+1+1:=zJ (by omega) (by omega)
  simp(disch:=omega)[hc,hw2]
  exact⟨⟨k+1+1,n4⟩,by dsimp only;omega,⟨by dsimp only;omega,by dsimp only;omega,by dsimp only;rw[hpe];exact he2⟩,by simp[FT.Le,Wk],yM hok (Nat.le_refl _),fun _=>qn.mono hok (by dsimp only;omega)⟩
 obtain rfl:i=l.length:=by omega
 rw[List.drop_eq_nil_of_le (Nat.le_refl _)]at he
 have hA0:A.1=0:=by rw[<-he];rfl
 have hC:qbr l:=qhc (by rw[hA];exact hA0)
 rw[if_neg (by rw[hA0];simp)]at hE
 simp(disch:=omega)
 refine qrM l own (by omega) (fun c hc=>by have:=(qak.1 (hC.ok c hc).1).2;omega) _ fun n2 hn2=>?_
 dsimp only at hn2
 have hyl:=qit 4000 (zx l)
 have hsl:(zx l).length=l.length:=by unfold zx;rw[List.length_map]
 obtain⟨ys,hys⟩:∃ys,vf 4000 (zx l)=ys:=⟨_,rfl⟩
 rw[hys]at hyl hE ⊢
 obtain⟨Y,hY⟩:∃Y,qbT l ys=Y:=⟨_,rfl⟩
 rw[hY]at hE
 simp(disch:=omega)
 refine qA (σ:=NN) (fun q=>(.nd (.sl (l.map qm) own) (.nd .bot .nil (.nd .bot (.nd (.sl (uB ys) .no) .nil .nil) .nil)) (.nd .bot .nil (.nd .bot (.nd (.int q.i) .nil .nil) .nil)))) (fun q=>⟨H.objs,q.n⟩) (fun q=>ys.length - q.i)
  (fun q=>H.next<=q.n/\q.i<=ys.length/\qbT l (ys.drop q.i)=Y) ⟨0,n2⟩ ⟨by dsimp only;omega,Nat.zero_le _,hY⟩ (by simp[FT.Le,Wk]) ⟨HWk.refl _,fun h=>h⟩ ?_
 rintro⟨j,m⟩ ⟨hm,hj,he2⟩ hok2
 dsimp only at hm hj he2 hok2
 by_cases hjl:j<ys.length
 case neg=>
  rw[List.drop_eq_nil_of_le (by omega)]at he2
  have hY0:Y=0:=he2.symm
  simp(disch:=omega)[hjl]
  exact qh hH (by simp[<-hE,hY0])
 rw[List.drop_eq_getElem_cons hjl]at he2
 unfold qbT at he2
 have hfl:=hC.le (by omega) ys[j] 0
 simp(disch:=omega)[hjl]
 refine(qld l own ys[j] 0 (by omega) (by omega)).go fun n4 hn4=>?_
 obtain⟨F,hF⟩:∃F,qH l ys[j] 0=F:=⟨_,rfl⟩
 have hck:=qoC hC (y:=ys[j]) (w:=0)
 rw[hF]at he2 hfl hck ⊢
 by_cases h40:40<F.length
 ·rw[if_pos h40]at he2
  have h40':(40:Int)<(F.length:Int):=by omega
  simp(disch:=omega)[h40']
  exact qh hH (by simp[<-hE,<-he2])
 rw[if_neg h40]at he2
 have h40':¬(40:Int)<(F.length:Int):=by omega
 have hck0:=hck (by omega)
 simp(disch:=omega)[h40']
 refine qrS F hck0 _ fun v n5 hn5=>?_
 dsimp only at hn5
 cases hS:(y5 F).isNone
 ·rw[hS,if_neg (by simp)]at he2
  simp(disch:=omega)[qk (show j<2^62 by omega)]
  exact⟨⟨j+1,n5⟩,by dsimp only;omega,⟨by dsimp only;omega,by dsimp only;omega,he2⟩,by simp[FT.Le,Wk],HWk.refl _,fun h=>h⟩
 ·rw[hS,if_pos rfl]at he2
  have hYY:Y=81:=he2.symm
  simp(disch:=omega)
  exact qh hH (by simp[<-hE,hYY])
theorem qeU(l:List qg)(own:Own)(y:Int)(hI:CustIn l):qf 66 [.sl (l.map qm) own,.int y] (.int (zO l y)):=by
 refine qf.of c66 fun H hH=>⟨Nat.le_of_ble_eq_true rfl,?_⟩
 obtain⟨E,hE⟩:∃E,zO l y=E:=⟨_,rfl⟩
 rw[hE]
 unfold zO at hE
 simp(disch:=omega)[b66]
 refine(qeW l own hI.len hI.sm).go fun n1 hn1=>?_
 by_cases hc:(zA l).1=0
 case neg=>
  rw[if_pos hc]at hE
  simp(disch:=omega)[hc]
  exact qh hH (by simp[hE])
 rw[if_neg (by simpa using hc)]at hE
 simp(disch:=omega)[hc]
 refine(qeP y 0 4000).go fun n2 hn2=>?_
 by_cases hy:0<=y/\y<=4000
 ·rw[if_pos hy]at hE
  simp(disch:=omega)[hy.1,hy.2]
  exact qh hH (by simp[<-hE])
 ·rw[if_neg hy]at hE
  have hyf:(decide (0<=y)&&decide (y<=4000))=false:=by
   rw[<-Bool.decide_and]
   exact decide_eq_false hy
  rw[hyf]
  simp(disch:=omega)
  exact qh hH (by simp[<-hE])
theorem qhN(l:List qg)(own:Own)(y:Int)(hI:CustIn l):qf 71 [.sl (l.map qm) own,.int y] (.int (zO l y)):=by
 refine qf.of c71 fun H hH=>⟨Nat.le_of_ble_eq_true rfl,?_⟩
 obtain⟨E,hE⟩:∃E,zO l y=E:=⟨_,rfl⟩
 rw[hE]
 unfold zO at hE
 simp(disch:=omega)[b71]
 refine(qeS l own hI).go fun n1 hn1=>?_
 by_cases hc:(zA l).1=0
 case neg=>
  rw[if_pos hc]at hE
  simp(disch:=omega)[hc]
  exact qh hH (by simp[hE])
 rw[if_neg (by simpa using hc)]at hE
 by_cases h1:y<0
 ·rw[if_neg (by omega)]at hE
  simp(disch:=omega)[hc,h1]
  exact qh hH (by simp[<-hE])
 by_cases h2:4000<y
 ·rw[if_neg (by omega)]at hE
  simp(disch:=omega)[hc,h1,h2]
  exact qh hH (by simp[<-hE])
 rw[if_pos (by omega)]at hE
 simp(disch:=omega)[hc,h1,h2]
 exact qh hH (by simp[<-hE])
theorem qcp{l:List qg}{y:Int}(h:zO l y=0)(x w:Int):l.length<=30/\(qH l x w).length<=1200:=by
 unfold zO at h
 by_cases h1:(zA l).1≠0
 ·rw[if_pos h1]at h;exact absurd h h1
 have h1:(zA l).1=0:=by simpa using h1
 unfold zA at h1
 by_cases h2:30<l.length
 ·rw[if_pos h2]at h1;cases h1
 rw[if_neg h2]at h1
 by_cases h3:(w9 [] l 0).1≠0
 ·rw[if_pos h3]at h1;exact absurd h1 h3
 exact⟨by omega,(qhc (by simpa using h3)).le (by omega) x w⟩
theorem qlE(l:List qg)(own:Own)(y:Int)(hI:CustIn l)(h:zO l y≠0):qf 33 [.sl (l.map qm) own,.int y] (.tup [Nl,.int (zO l y)]):=by
 refine qf.of c33 fun H hH=>⟨Nat.le_of_ble_eq_true rfl,?_⟩
 simp(disch:=omega)[b33]
 refine(qeU l own y hI).go fun n1 hn1=>?_
 simp(disch:=omega)[h]
 exact qh hH (by first|rfl|simp[])
theorem qlD(l:List qg)(own:Own)(y:Int)(hI:CustIn l)(h:zO l y=0):qf 33 [.sl (l.map qm) own,.int y] (.tup [qy (qH l y 0),.int 0]):=by
 refine qf.of c33 fun H hH=>⟨Nat.le_of_ble_eq_true rfl,?_⟩
 obtain⟨h30,hf⟩:=qcp h y 0
 simp(disch:=omega)[b33]
 refine(qeU l own y hI).go fun n1 hn1=>?_
 rw[h]
 simp(disch:=omega)
 refine(qdR l own y 0 (by omega) (by omega)).go fun n2 hn2=>?_
 simp(disch:=omega)
 exact qh hH (by first|rfl|simp[])
theorem qli(l:List qg)(own:Own)(y:Int)(hI:CustIn l)(h:zO l y≠0):qf 34 [.sl (l.map qm) own,.int y] (.agg [Nl,.int (zO l y),.int 0]):=by
 refine qf.of c34 fun H hH=>⟨Nat.le_of_ble_eq_true rfl,?_⟩
 simp(disch:=omega)[b34]
 refine(qhN l own y hI).go fun n1 hn1=>?_
 simp(disch:=omega)[h]
 exact qh hH (by first|rfl|simp[])
theorem qlh(l:List qg)(own:Own)(y:Int)(hI:CustIn l)(h:zO l y=0):qf 34 [.sl (l.map qm) own,.int y] (.agg [qy (qH l y 0),.int 0,.int 0]):=by
 refine qf.of c34 fun H hH=>⟨Nat.le_of_ble_eq_true rfl,?_⟩
 obtain⟨h30,hf⟩:=qcp h y 0
 simp(disch:=omega)[b34]
 refine(qhN l own y hI).go fun n1 hn1=>?_
 rw[h]
 simp(disch:=omega)
 refine(qld l own y 0 (by omega) (by omega)).go fun n2 hn2=>?_
 simp(disch:=omega)
 exact qh hH (by first|rfl|simp[])
end Go.Abs.Tz
namespace Go.Abs.Tz
open Go Go.Abs Go.Proofs
def qbb(A B:List Atom):List Atom:=A.filter fun x=>!qaK B x
end Go.Abs.Tz
namespace Go.Abs.Tz
open Go Go.Abs Go.Proofs
set_option maxRecDepth 20000
set_option linter.unusedSimpArgs false
attribute [local simp ↓] gT gS jh jg gv ug q9 zu jf ub yD yE gU gW gY gV jm jp ju jn jv jw jq jr jo jk ji jl jj yB yz yC yA gN gL gO gM g8 g6 g7 uh zG jy qX jz gy yF yG yb yd yc g9 ya ym jD jI jL jH jJ jK gh gg jR jT uQ uN ja jd uO uW u9 uZ uY uX uU uJ uK uL uM jb uS uT uH jc je uP uR uV uI jX jS gd gk jU j8 gc gb ga j9 j6 jP gf j3 j5 jM gj gp jV jZ j7 jN gt gi jO gq j0 jW jY jQ ge jE jG jF yg yk yf yh yj qp ur
attribute [local simp] faL fdL iaL ixL qD qY qT eqK eqL qO zi uD ye yy yn yp yr yu yw yx yo yt yq yv zy LV.cells LV.whole qp uq zU jA stL zz zP uc qa.alloc gw gu gx gK gJ gI gH gG gF gD gC gA gz qd ui
structure RIn(l:List qe)(base:List Atom):Prop where
 hl:qat l
 h3:(qJ l).1=0->∀c∈l,(qV c.body).length<=3
 hb:base.length<2^63
 hok:base.length<=100->∀a∈base,a.ok
def qdl(l:List qe)(base:List Atom)(a:Atom):Bool:=if vt l base≠0 then false else if zE a then qaK (yL l base) a else false
def qbD(l:List qe)(base:List Atom)(a:Atom):Int:=if vt l base≠0 then vt l base else if zE a then 0 else 1
end Go.Abs.Tz
namespace Go.Abs.Tz
open Go Go.Abs Go.Proofs
def gE(base:List Atom):Int:=zZ [] (some []) base
def qdi(A:List qg)(y:Int)(base:List Atom)(a:Atom)(now:Bool):List qg->List Int->List Int×Int
 |[],out=>(out,0)
 |c::r,out=>if c.fr<=y/\y<=c.to then (if qbD (qH A y c.id) base a≠0 then ([],qbD (qH A y c.id) base a) else
   qdi A y base a now r (if qdl (qH A y c.id) base a=now then out else out++[c.id])) else qdi A y base a now r out
def qdW(l:List qg)(base:List Atom)(y:Int)(a:Atom):List Int×Int:=
 if zO l y≠0 then ([],zO l y) else if gE base≠0 then ([],gE base) else if zE a=false then ([],1) else
 if qbD (qH l y 0) base a≠0 then ([],qbD (qH l y 0) base a) else qdi l y base a (qdl (qH l y 0) base a) l []
def qbO(l:List qg)(base:List Atom)(y i:Int):Int:=
 if zO l y≠0 then zO l y else if qbg l i=false then 5 else if gE base≠0 then gE base else
 if vt (qH l y 0) base≠0 then vt (qH l y 0) base else vt (qH l y i) base
def effW(l:List qg)(base:List Atom)(y i:Int):List Atom:=if qbO l base y i≠0 then [] else qbb (yL (qH l y 0) base) (yL (qH l y i) base)
def effO(l:List qg)(base:List Atom)(y i:Int):List Atom:=if qbO l base y i≠0 then [] else qbb (yL (qH l y i) base) (yL (qH l y 0) base)
theorem qvQ{l:List qg}(h:l.Pairwise fun a b=>a.id<b.id){c d:qg}(hc:c∈l)(hd:d∈l)(e:c.id=d.id):c=d:=by
 induction l with
 |nil=>cases hc
 |cons x r ih=>
  obtain⟨h1,h2⟩:=List.pairwise_cons.1 h
  rcases List.mem_cons.1 hc with rfl|hc
  ·rcases List.mem_cons.1 hd with rfl|hd
   ·rfl
   ·have:=h1 _ hd;omega
  ·rcases List.mem_cons.1 hd with rfl|hd
   ·have:=h1 _ (by assumption);omega
   ·exact ih h2 hc hd
theorem qck{l:List qg}(h:(zA l).1=0):qbr l/\qbT l (vf 4000 (zx l))=0/\l.length<=30:=by
 unfold zA at h
 by_cases h1:30<l.length
 ·rw[if_pos h1]at h;cases h
 rw[if_neg h1]at h
 by_cases h2:(w9 [] l 0).1≠0
 ·rw[if_pos h2]at h;exact absurd h h2
 rw[if_neg h2]at h
 exact⟨qhc (by omega),h,by omega⟩
theorem qhv{l:List qg}{y:Int}(h:zO l y=0):(zA l).1=0/\0<=y/\y<=4000:=by
 unfold zO at h
 by_cases h1:(zA l).1≠0
 ·rw[if_pos h1]at h;exact absurd h h1
 rw[if_neg h1]at h
 by_cases h2:0<=y/\y<=4000
 ·exact⟨by omega,h2⟩
 ·rw[if_neg h2]at h;cases h
end Go.Abs.Tz
namespace Go.Abs.Tz
open Go Go.Abs Go.Proofs
set_option maxRecDepth 20000
set_option linter.unusedSimpArgs false
attribute [local simp ↓] gT gS jh jg gv ug q9 zu jf ub yD yE gU gW gY gV jm jp ju jn jv jw jq jr jo jk ji jl jj yB yz yC yA gN gL gO gM g8 g6 g7 uh zG jy qX jz gy yF yG yb yd yc g9 ya ym jD jI jL jH jJ jK gh gg jR jT uQ uN ja jd uO uW u9 uZ uY uX uU uJ uK uL uM jb uS uT uH jc je uP uR uV uI jX jS gd gk jU j8 gc gb ga j9 j6 jP gf j3 j5 jM gj gp jV jZ j7 jN gt gi jO gq j0 jW jY jQ ge jE jG jF yg yk yf yh yj qp ur
attribute [local simp] faL fdL iaL ixL qD qY qT eqK eqL qO zi uD ye yy yn yp yr yu yw yx yo yt yq yv zy LV.cells LV.whole qp uq zU jA stL zz zP uc qa.alloc gw gu gx gK gJ gI gH gG gF gD gC gA gz qd ui
theorem qgu(n:Nat)(m:Option Nat)(q:Nat)(t:FT)(H:qa)(k:LV->Prop):ve E0 [.c n m,.t q] t H k=zC t n fun a=>vP (qD H m a) fun v=>zC t q fun b=>k (.tup [v,b]):=by
 have e1:wy H t.get (.c n m)=qD H m (t.get n):=rfl
 have e2:wy H t.get (.t q)=some (t.get q):=rfl
 unfold ve zC vP
 simp only[wV,List.mapM_cons,List.mapM_nil,e1,e2]
 cases qD H m (t.get n) with
 |none=>simp
 |some v=>simp
def qaY(l:List qg)(y:Int):Int×Int×Int:=if zO l y≠0 then (0,0,zO l y) else (qgv (vf 4000 (zx l)) y,qgw (vf 4000 (zx l)) y,0)
def hiY(ys:List Int)(y:Int):List Int:=(ys.filter fun x=>decide (y<x)).map fun x=>x - 1
theorem qiX(p:Int->Bool)(x:Int)(l:List Int)(a:Int):wM p (x::l) a=wM p l (if p x then (if a<x then x else a) else a):=rfl
theorem qiT(p:Int->Bool)(x:Int)(l:List Int)(a:Int):wg p (x::l) a=wg p l (if p x then (if x<a then x else a) else a):=rfl
theorem qvR(x y:Int)(r:List Int)(a:Int):wg (fun x=>decide (y<=x)) (hiY (x::r) y) a=wg (fun x=>decide (y<=x)) (hiY r y) (if x<=y then a else if x - 1<a then x - 1 else a):=by
 unfold hiY
 by_cases h:x<=y
 ·rw[List.filter_cons,decide_eq_false (by omega:¬y<x),if_neg (by simp),if_pos h]
 ·rw[List.filter_cons,decide_eq_true (by omega:y<x),if_pos rfl,List.map_cons,qiT,decide_eq_true (by omega:y<=x - 1),if_pos rfl,if_neg h]
structure NNcR where
 i:Nat
 n:Nat
 lo:Int
 hi:Int
theorem qeV(l:List qg)(own:Own)(y:Int)(hI:CustIn l):qf 35 [.sl (l.map qm) own,.int y] (.tup [.agg [.int (qaY l y).1,.int (qaY l y).2.1],.int (qaY l y).2.2]):=by
 refine qf.of c35 fun H hH=>⟨Nat.le_of_ble_eq_true rfl,?_⟩
 obtain⟨V,hV⟩:∃V,qaY l y=V:=⟨_,rfl⟩
 rw[hV]
 unfold qaY at hV
 simp(disch:=omega)[b35]
 refine(qeU l own y hI).go fun n1 hn1=>?_
 by_cases ha:zO l y=0
 case neg=>
  rw[if_pos ha]at hV
  have e1:V.1=0:=by rw[<-hV]
  have e2:V.2.1=0:=by rw[<-hV]
  have e3:V.2.2=zO l y:=by rw[<-hV]
  rw[e1,e2,e3]
  simp(disch:=omega)[ha,qgu]
  exact qh hH (by first|rfl|simp[])
 rw[if_neg (by simpa using ha)]at hV
 obtain⟨h30,_⟩:=qcp ha y 0
 obtain⟨hcu,hyb⟩:=qhv ha
 obtain⟨hC,_,_⟩:=qck hcu
 rw[ha]
 simp(disch:=omega)
 refine qlv l own (by omega) (fun c hc=>(hC.ok c hc).1) _ _ fun ow n2 hn2=>?_
 have hyl:=qit 4000 (zx l)
 have hsl:(zx l).length=l.length:=by unfold zx;rw[List.length_map]
 have hyb2:∀x∈vf 4000 (zx l),-10<=x/\x<=4001:=fun x hx=>by
  rcases qee.1 hx with h|⟨c,hc,h⟩
  ·omega
  ·have:=(qak.1 (hC.ok c hc).1).2
   omega
 obtain⟨ys,hys⟩:∃ys,vf 4000 (zx l)=ys:=⟨_,rfl⟩
 rw[hys]at hyl hV hyb2 ⊢
 obtain⟨LO,hLO⟩:∃x,qgv ys y=x:=⟨_,rfl⟩
 obtain⟨HI,hHI⟩:∃x,qgw ys y=x:=⟨_,rfl⟩
 rw[hLO,hHI]at hV
 simp(disch:=omega)
 refine qA (σ:=NNcR) (fun q=>(.nd .bot (.nd (.int y) (.nd .bot (.nd (.ptr n1 0) .nil .nil) (.nd .bot (.nd (.sl (uB ys) ow) .nil .nil) .nil)) (.nd .bot .nil (.nd .bot (.nd (.int q.i) .nil .nil) .nil))) (.nd .bot (.nd (.ptr H.next 0) .nil (.nd .bot (.nd (.int ys.length) .nil .nil) .nil)) .nil))) (fun q=>⟨(n1,.cells [.int q.lo,.int q.hi])::(H.next,.cells [.int 0,.int 0])::H.objs,q.n⟩) (fun q=>ys.length - q.i)
  (fun q=>n2<=q.n/\q.i<=ys.length/\wM (fun x=>decide (x<=y)) (ys.drop q.i) q.lo=LO/\wg (fun x=>decide (y<=x)) (hiY (ys.drop q.i) y) q.hi=HI) ⟨0,n2,0,4000⟩ ⟨Nat.le_refl _,Nat.zero_le _,hLO,hHI⟩ (by simp[FT.Le,Wk]) ⟨HWk.refl _,fun h=>h⟩ ?_
 rintro⟨i,n,lo,hi⟩ ⟨hn,hil,he1,he2⟩ hok
 dsimp only at hn hil he1 he2 hok
 by_cases hlt:i<ys.length
 case neg=>
  rw[List.drop_eq_nil_of_le (by omega)]at he1 he2
  have e1:lo=LO:=he1
  have e2:hi=HI:=he2
  subst e1 e2
  have e1:V.1=lo:=by rw[<-hV]
  have e2:V.2.1=hi:=by rw[<-hV]
  have e3:V.2.2=0:=by rw[<-hV]
  rw[e1,e2,e3]
  simp(disch:=omega)[hlt,qgu]
  exact qh hH (by first|rfl|simp[])
 rw[List.drop_eq_getElem_cons hlt]at he1 he2
 rw[qiX]at he1
 rw[qvR]at he2
 have hyx:=hyb2 _ (List.getElem_mem hlt)
 by_cases hle:ys[i]<=y
 ·rw[decide_eq_true hle,if_pos rfl]at he1
  rw[if_pos hle]at he2
  simp(disch:=omega)[hlt,hle,qk (show i<2^62 by omega)]
  exact⟨⟨i+1,n,if lo<ys[i] then ys[i] else lo,hi⟩,by dsimp only;omega,⟨by dsimp only;omega,by dsimp only;omega,he1,he2⟩,by simp[FT.Le,Wk],HWk.refl _,fun h=>h⟩
 ·rw[decide_eq_false hle,if_neg (by simp)]at he1
  rw[if_neg hle]at he2
  have hw:IntKind.wrap .i64 (ys[i] - 1)=ys[i] - 1:=zJ (by omega) (by omega)
  simp(disch:=omega)[hlt,hle,hw,qk (show i<2^62 by omega)]
  exact⟨⟨i+1,n,lo,if ys[i] - 1<hi then ys[i] - 1 else hi⟩,by dsimp only;omega,⟨by dsimp only;omega,by dsimp only;omega,he1,he2⟩,by simp[FT.Le,Wk],HWk.refl _,fun h=>h⟩
theorem qgd(l:List qg)(own:Own)(y:Int)(hI:CustIn l):qf 36 [.sl (l.map qm) own,.int y] (.tup [.agg [.int (qaY l y).1,.int (qaY l y).2.1],.int (qaY l y).2.2]):=by
 refine qf.of c36 fun H hH=>⟨Nat.le_of_ble_eq_true rfl,?_⟩
 obtain⟨V,hV⟩:∃V,qaY l y=V:=⟨_,rfl⟩
 rw[hV]
 unfold qaY at hV
 simp(disch:=omega)[b36]
 refine(qhN l own y hI).go fun n1 hn1=>?_
 by_cases ha:zO l y=0
 case neg=>
  rw[if_pos ha]at hV
  have e1:V.1=0:=by rw[<-hV]
  have e2:V.2.1=0:=by rw[<-hV]
  have e3:V.2.2=zO l y:=by rw[<-hV]
  rw[e1,e2,e3]
  simp(disch:=omega)[ha,qgu]
  exact qh hH (by first|rfl|simp[])
 rw[if_neg (by simpa using ha)]at hV
 obtain⟨h30,_⟩:=qcp ha y 0
 obtain⟨hcu,hyb⟩:=qhv ha
 obtain⟨hC,_,_⟩:=qck hcu
 rw[qtG hC hyb,qtH hC hyb]at hV
 rw[ha]
 obtain⟨LO,hLO⟩:∃x,wM (fun x=>decide (x<=y)) (loR l) 0=x:=⟨_,rfl⟩
 obtain⟨HI,hHI⟩:∃x,wg (fun x=>decide (y<=x)) (hiR l) 4000=x:=⟨_,rfl⟩
 rw[hLO,hHI]at hV
 simp(disch:=omega)
 refine qA (σ:=NNcR) (fun q=>(.nd (.sl (l.map qm) own) (.nd (.int y) (.nd .bot (.nd (.ptr n1 0) .nil .nil) .nil) .nil) (.nd .bot (.nd (.ptr H.next 0) (.nd (.int q.i) .nil .nil) .nil) .nil))) (fun q=>⟨(n1,.cells [.int q.lo,.int q.hi])::(H.next,.cells [.int 0,.int 0])::H.objs,q.n⟩) (fun q=>l.length - q.i)
  (fun q=>n1+1<=q.n/\q.i<=l.length/\wM (fun x=>decide (x<=y)) (loR (l.drop q.i)) q.lo=LO/\wg (fun x=>decide (y<=x)) (hiR (l.drop q.i)) q.hi=HI) ⟨0,n1+1,0,4000⟩ ⟨Nat.le_refl _,Nat.zero_le _,hLO,hHI⟩ (by simp[FT.Le,Wk]) ⟨HWk.refl _,fun h=>h⟩ ?_
 rintro⟨i,n,lo,hi⟩ ⟨hn,hil,he1,he2⟩ hok
 dsimp only at hn hil he1 he2 hok
 have hD:qn ((n1,qc.cells [.int lo,.int hi])::(H.next,.cells [.int 0,.int 0])::H.objs) n:=hok
 by_cases hlt:i<l.length
 case neg=>
  rw[List.drop_eq_nil_of_le (by omega)]at he1 he2
  have e1:lo=LO:=he1
  have e2:hi=HI:=he2
  subst e1 e2
  have e1:V.1=lo:=by rw[<-hV]
  have e2:V.2.1=hi:=by rw[<-hV]
  have e3:V.2.2=0:=by rw[<-hV]
  rw[e1,e2,e3]
  simp(disch:=omega)[hlt,qgu]
  exact qh hH (by first|rfl|simp[])
 rw[List.drop_eq_getElem_cons hlt]at he1 he2
 have hk:=(qak.1 (hC.ok _ (z7 hlt)).1).2
 have f1:loR (l[i]::l.drop (i+1))=l[i].fr::(l[i].to+1)::loR (l.drop (i+1)):=rfl
 have f2:hiR (l[i]::l.drop (i+1))=(l[i].fr - 1)::l[i].to::hiR (l.drop (i+1)):=rfl
 rw[f1,qiX,qiX]at he1
 rw[f2,qiT,qiT]at he2
 have hw1:IntKind.wrap .i64 (l[i].fr - 1)=l[i].fr - 1:=zJ (by omega) (by omega)
 have hw2:IntKind.wrap .i64 (l[i].to+1)=l[i].to+1:=zJ (by omega) (by omega)
 have hwi:IntKind.wrap .i64 ((i:Int)+1)=((i+1:Nat):Int):=qk (by omega)
 by_cases h1:l[i].fr<=y
 ·have d1:decide (l[i].fr<=y)=true:=decide_eq_true h1
  have d2:decide (y<=l[i].fr - 1)=false:=decide_eq_false (by omega)
  by_cases h2:l[i].to<y
  ·have d3:decide (l[i].to+1<=y)=true:=decide_eq_true (by omega)
   have d4:decide (y<=l[i].to)=false:=decide_eq_false (by omega)
   simp only[d1,d3,if_true]at he1
   simp only[d2,d4,Bool.false_eq_true,if_false]at he2
   simp(disch:=omega)[hlt,h1,h2,hw1,hw2,hwi]
   exact⟨⟨i+1,n+1,if (if lo<l[i].fr then l[i].fr else lo)<l[i].to+1 then l[i].to+1 else (if lo<l[i].fr then l[i].fr else lo),hi⟩,by dsimp only;omega,⟨by dsimp only;omega,by dsimp only;omega,he1,he2⟩,by simp[FT.Le,Wk],yM (by exact hD) (Nat.le_succ _),fun _=>qn.mono hD (Nat.le_succ _)⟩
  ·have d3:decide (l[i].to+1<=y)=false:=decide_eq_false (by omega)
   have d4:decide (y<=l[i].to)=true:=decide_eq_true (by omega)
   simp only[d1,d3,Bool.false_eq_true,if_false,if_true]at he1
   simp only[d2,d4,Bool.false_eq_true,if_false,if_true]at he2
   simp(disch:=omega)[hlt,h1,h2,hw1,hw2,hwi]
   exact⟨⟨i+1,n+1,if lo<l[i].fr then l[i].fr else lo,if l[i].to<hi then l[i].to else hi⟩,by dsimp only;omega,⟨by dsimp only;omega,by dsimp only;omega,he1,he2⟩,by simp[FT.Le,Wk],yM (by exact hD) (Nat.le_succ _),fun _=>qn.mono hD (Nat.le_succ _)⟩
 ·have d1:decide (l[i].fr<=y)=false:=decide_eq_false h1
  have d2:decide (y<=l[i].fr - 1)=true:=decide_eq_true (by omega)
  have h2:¬l[i].to<y:=by omega
  have d3:decide (l[i].to+1<=y)=false:=decide_eq_false (by omega)
  have d4:decide (y<=l[i].to)=true:=decide_eq_true (by omega)
  simp only[d1,d3,Bool.false_eq_true,if_false]at he1
  simp only[d2,d4,if_true]at he2
  simp(disch:=omega)[hlt,h1,h2,hw1,hw2,hwi]
  exact⟨⟨i+1,n+1,lo,if l[i].to<(if l[i].fr - 1<hi then l[i].fr - 1 else hi) then l[i].to else (if l[i].fr - 1<hi then l[i].fr - 1 else hi)⟩,by dsimp only;omega,⟨by dsimp only;omega,by dsimp only;omega,he1,he2⟩,by simp[FT.Le,Wk],yM (by exact hD) (Nat.le_succ _),fun _=>qn.mono hD (Nat.le_succ _)⟩
end Go.Abs.Tz
namespace Go.Abs
open Go
def FT.map(f:LV->LV):FT->FT
 |.nil=>.nil
 |.nd v l r=>.nd (f v) (FT.map f l) (FT.map f r)
theorem FT.map_get(f:LV->LV)(hf:f .bot=.bot):∀(t:FT)(k:Nat),(t.map f).get k=f (t.get k)
 |.nil,k=>by rw[FT.map,FT.get_nil,hf]
 |.nd v l r,k=>by
  rw[FT.map,FT.get_node,FT.get_node]
  split
  ·rfl
  ·split
   ·exact FT.map_get f hf l _
   ·exact FT.map_get f hf r _
theorem qnQ{E:Env}{F:Fns}{c:qo}{t:FT}{H H':qa}{k:XP}(L:List Nat)(hc:∀l,c≠.drw l)(hh:HWk (H.dels L) H')(hok:H.Ok->H'.Ok)(h:lP E F c (t.map (zL H L)) H' k):lP E F c t H k:=by
 intro hH
 refine .frzC L hc ?_
 have h1:=h (hok hH)
 have e:(fun j=>zL H L (t.get j))=(t.map (zL H L)).get:=by
  funext j
  rw[FT.map_get _ (by simp[zL])]
 rw[e]
 exact .weak hc (fun _=>.inl rfl) hh h1
end Go.Abs
namespace Go.Abs.Tz
open Go Go.Abs Go.Proofs
set_option maxRecDepth 20000
set_option linter.unusedSimpArgs false
attribute [local simp ↓] gT gS jh jg gv ug q9 zu jf ub yD yE gU gW gY gV jm jp ju jn jv jw jq jr jo jk ji jl jj yB yz yC yA gN gL gO gM g8 g6 g7 uh zG jy qX jz gy yF yG yb yd yc g9 ya ym jD jI jL jH jJ jK gh gg jR jT uQ uN ja jd uO uW u9 uZ uY uX uU uJ uK uL uM jb uS uT uH jc je uP uR uV uI jX jS gd gk jU j8 gc gb ga j9 j6 jP gf j3 j5 jM gj gp jV jZ j7 jN gt gi jO gq j0 jW jY jQ ge jE jG jF yg yk yf yh yj qp ur
attribute [local simp] faL fdL iaL ixL qD qY qT eqK eqL qO zi uD ye yy yn yp yr yu yw yx yo yt yq yv zy LV.cells LV.whole qp uq zU jA stL zz zP uc qa.alloc gw gu gx gK gJ gI gH gG gF gD gC gA gz qd ui
def cmpC(x y:qg):Int:=cmpI x.id y.id
def ltC(x y:qg):Bool:=decide (cmpC x y<0)
theorem qcG(x y:qg):ltC x y=true↔x.id<y.id:=by
 unfold ltC cmpC cmpI
 rw[decide_eq_true_iff]
 split
 ·simp_all
 ·split<;>simp_all
theorem qsI(x y:qg):qf 93 [qm x,qm y] (.int (cmpC x y)):=by
 refine qf.of c93 fun H hH=>⟨Nat.le_of_ble_eq_true rfl,?_⟩
 simp(disch:=omega)[b93]
 refine(qge _ _).go fun n hn=>?_
 simp(disch:=omega)
 exact qh hH (by first|rfl|simp[])
theorem qew(x:qg):(qS x).length=4:=rfl
abbrev zm(A:List qg):qc:=.arr 4 (A.flatMap qS)
structure NNcA where
 i:Nat
 a:List qg
theorem qnP{A:List qg}{j o:Nat}{l:List (Nat×qc)}{m:Nat}(hl:look o l=some (zm A))(hj:j<A.length):qD ⟨l,m⟩ (some 4) (.ptr o (j*4))=some (qm A[j]):=by
 have h1:j*4+4<=(A.flatMap qS).length:=by rw[qbN qew];omega
 simp only[qD,hl,qY,h1,if_true]
 rw[qjC qew hj]
theorem qlN{A:List qg}{j o:Nat}{l:List (Nat×qc)}{m:Nat}(hl:look o l=some (zm A))(hj:j<A.length)(x:qg):stL ⟨l,m⟩ 4 (.ptr o (j*4)) (qm x)=some ⟨qu o (zm (A.set j x)) l,m⟩:=by
 have h1:j*4+4<=(A.flatMap qS).length:=by rw[qbN qew];omega
 have h2:(A.flatMap qS).take (j*4)++qS x++(A.flatMap qS).drop (j*4+4)=(A.set j x).flatMap qS:=qoM qew hj x
 have hc:(qm x).cells.length=4/\(qm x).whole/\j*4+4<=(A.flatMap qS).length:=⟨rfl,rfl,h1⟩
 unfold stL
 simp only[hl]
 rw[if_pos hc]
 show some (qa.put ⟨l,m⟩ o (.arr 4 ((A.flatMap qS).take (j*4)++qS x++(A.flatMap qS).drop (j*4+4))))=_
 rw[h2]
 rfl
theorem qjs{A:List qg}{j o n:Nat}{l:List (Nat×qc)}{m:Nat}(hl:look o l=some (zm A))(hj:j<n):iaL ⟨l,m⟩ 4 (.asl o 0 n) (.sc (.int .i64 (j:Int)))=some (.ptr o (j*4)):=by
 simp[iaL,ur,hl,hj]
theorem qsm(A:List qg)(o:Nat)(ob:List (Nat×qc))(nx:Nat)(hlo:look o ob=some (zm A))(hA:A.length<2^40){kv kp:HP}
  (hk:kv (.tup []) ⟨qu o (zm (qaj ltC (A.length - 1) 1 A)) ob,nx⟩):
  cP E0 F0 190 [.asl o 0 A.length,.int 0,.int A.length,.fn (.func 93) [] []] ⟨ob,nx⟩ kv kp:=by
 refine zR c190 fun hH=>⟨Nat.le_of_ble_eq_true rfl,?_⟩
 simp(disch:=omega)[b190,zJ]
 obtain⟨R,hR⟩:∃R,qaj ltC (A.length - 1) 1 A=R:=⟨_,rfl⟩
 rw[hR]at hk
 refine qA (σ:=NNcA) (fun q=>(.nd (.asl o 0 A.length) (.nd (.int 0) (.nd (.fn (.func 93) [] []) .nil .nil) .nil) (.nd (.int A.length) (.nd .bot (.nd (.int q.i) .nil .nil) .nil) .nil)))
  (fun q=>⟨qu o (zm q.a) ob,nx⟩) (fun q=>A.length - q.i)
  (fun q=>q.a.length=A.length/\qaj ltC (A.length - q.i) q.i q.a=R) ⟨1,A⟩ ⟨rfl,hR⟩ (by simp[FT.Le,Wk]) ?_ ?_
 ·dsimp only;rw[qfc hlo];exact⟨HWk.refl _,fun h=>h⟩
 rintro⟨i,B⟩ ⟨hl,he⟩ hok
 dsimp only at hl he
 have hlB:∀B:List qg,look o (qu o (zm B) ob)=some (zm B):=fun B=>vF hlo
 by_cases hlt:i<A.length
 case neg=>
  rw[show A.length - i=0 by omega]at he
  simp only[qaj]at he
  subst he
  simp(disch:=omega)[hlt,qX]
  exact keep hk
 simp(disch:=omega)[hlt]
 obtain⟨W,hW⟩:∃W,wv ltC B i=W:=⟨_,rfl⟩
 have hWl:W.length=A.length:=by rw[<-hW,qlU,hl]
 rw[show A.length - i=(A.length - (i+1))+1 by omega]at he
 simp only[qaj,hW]at he
 refine qA (σ:=NNcA) (fun q=>(.nd (.asl o 0 A.length) (.nd (.int 0) (.nd (.fn (.func 93) [] []) .nil .nil) (.nd .bot (.nd (.int q.i) .nil .nil) .nil)) (.nd (.int A.length) (.nd .bot (.nd (.int i) .nil .nil) .nil) .nil)))
  (fun q=>⟨qu o (zm q.a) ob,nx⟩) (fun q=>q.i)
  (fun q=>q.i<=i/\q.a.length=A.length/\wv ltC q.a q.i=W) ⟨i,B⟩ ⟨Nat.le_refl _,hl,hW⟩ (by simp[FT.Le,Wk]) ⟨HWk.refl _,fun h=>h⟩ ?_
 rintro⟨j,C⟩ ⟨hj,hCl,hC⟩ hok2
 dsimp only at hj hCl hC
 by_cases hj0:j=0
 ·subst hj0
  simp only[wv]at hC
  subst hC
  simp(disch:=omega)[qk (show i<2^62 by omega)]
  exact⟨⟨i+1,C⟩,by dsimp only;omega,⟨hWl,he⟩,by simp[FT.Le,Wk],HWk.refl _,fun h=>h⟩
 obtain⟨k,hjk⟩:∃k,j=k+1:=⟨j - 1,by omega⟩
 have hk1:j<C.length:=by omega
 have hk0:k<C.length:=by omega
 have hi1:=qjs (n:=A.length) (m:=nx) (hlB C) (show j<A.length by omega)
 have hi0:=qjs (n:=A.length) (m:=nx) (hlB C) (show k<A.length by omega)
 have hl1:=qnP (m:=nx) (hlB C) hk1
 have hl0:=qnP (m:=nx) (hlB C) hk0
 have hpos:0<j:=by omega
 obtain⟨x,hx⟩:∃x,C[j]=x:=⟨_,rfl⟩
 obtain⟨y,hy⟩:∃y,C[k]=y:=⟨_,rfl⟩
 rw[hx]at hl1
 rw[hy]at hl0
 have hC':(if ltC x y=true then wv ltC ((C.set j y).set k x) k else C)=W:=by
  subst hjk
  simp only[wv,List.getElem?_eq_getElem hk1,List.getElem?_eq_getElem hk0,hx,hy]at hC
  exact hC
 simp(disch:=omega)[-iaL,-qD,hi1,hi0,hl1,hl0,hpos,qhG hjk (show k<2^62 by omega)]
 refine(qsI x y).x (.sc _) ?_
 by_cases hlt2:cmpC x y<0
 case neg=>
  have hf:ltC x y=false:=by simp[ltC,hlt2]
  rw[hf]at hC'
  simp at hC'
  subst hC'
  simp(disch:=omega)[hlt2,qk (show i<2^62 by omega)]
  exact⟨⟨i+1,C⟩,by dsimp only;omega,⟨hWl,he⟩,by simp[FT.Le,Wk],HWk.refl _,fun h=>h⟩
 have hf:ltC x y=true:=by simp[ltC,hlt2]
 rw[hf]at hC'
 simp at hC'
 have hs1:=qlN (m:=nx) (hlB C) hk1 y
 have hs0:=qlN (m:=nx) (j:=k) (hlB (C.set j y)) (by rw[List.length_set];exact hk0) x
 have hi2:=qjs (n:=A.length) (m:=nx) (hlB (C.set j y)) (show k<A.length by omega)
 rw[qbF]at hs1 hs0
 simp(disch:=omega)[-iaL,-qD,-stL,hi1,hi0,hl1,hl0,hi2,hs1,hs0,hlt2,qhG hjk (show k<2^62 by omega)]
 exact⟨⟨k,(C.set j y).set k x⟩,by dsimp only;omega,⟨by dsimp only;omega,by simp[hCl],hC'⟩,by simp[FT.Le,Wk],HWk.refl _,fun h=>h⟩
theorem qrD(A:List qg)(o:Nat)(ob:List (Nat×qc))(nx:Nat)(hlo:look o ob=some (zm A))(hA:A.length<=19){kv kp:HP}
  (hk:kv (.tup []) ⟨qu o (zm (qaj ltC (A.length - 1) 1 A)) ob,nx⟩):
  cP E0 F0 151 [.asl o 0 A.length,.int A.length,.fn (.func 93) [] []] ⟨ob,nx⟩ kv kp:=by
 refine zR c151 fun hH=>⟨Nat.le_of_ble_eq_true rfl,?_⟩
 simp(disch:=omega)[b151,zJ]
 refine wZ ?_
 have h20:¬(20:Int)<=(A.length:Int):=by omega
 have h20':¬(20:Int)<(A.length:Int):=by omega
 simp(disch:=omega)[h20]
 refine qsm A o ob nx hlo (by omega) ?_
 simp(disch:=omega)
 refine wZ ?_
 simp(disch:=omega)[h20',qX]
 exact keep hk
theorem qkX(A:List qg)(o:Nat)(ob:List (Nat×qc))(nx:Nat)(hlo:look o ob=some (zm A))(hA:A.length<=19){kv kp:HP}
  (hk:kv (.tup []) ⟨qu o (zm (qaj ltC (A.length - 1) 1 A)) ob,nx⟩):
  cP E0 F0 92 [.asl o 0 A.length,.fn (.func 93) [] []] ⟨ob,nx⟩ kv kp:=by
 refine zR c92 fun hH=>⟨Nat.le_of_ble_eq_true rfl,?_⟩
 simp(disch:=omega)[b92]
 refine qrD A o ob nx hlo hA ?_
 simp(disch:=omega)[qX]
 exact keep hk
theorem qdu(c:qg):∀l:List qg,(qQ c l).Perm (l++[c])
 |[]=>.refl _
 |x::r=>by
  have ih:=qdu c r
  unfold qQ
  split
  ·exact ih.cons x
  ·exact(List.perm_append_comm (l₁:=[c]) (l₂:=x::r))
theorem qof{c:qg}:∀{l:List qg},l.Pairwise (fun a b=>a.id<b.id)->(∀x∈l,x.id≠c.id)->(qQ c l).Pairwise fun a b=>a.id<b.id
 |[],_,_=>by simp[qQ]
 |x::r,h,hne=>by
  obtain⟨h1,h2⟩:=List.pairwise_cons.1 h
  have ih:=qof h2 fun y hy=>hne y (List.mem_cons_of_mem _ hy)
  unfold qQ
  by_cases hx:x.id<c.id
  ·rw[if_pos hx]
   refine List.pairwise_cons.2 ⟨fun y hy=>?_,ih⟩
   have:=(qdu c r).mem_iff.1 hy
   rcases List.mem_append.1 this with hy|hy
   ·exact h1 y hy
   ·rw[List.mem_singleton]at hy;rw[hy];exact hx
  ·rw[if_neg hx]
   have hxc:=hne x List.mem_cons_self
   refine List.pairwise_cons.2 ⟨fun y hy=>?_,h⟩
   rcases List.mem_cons.1 hy with rfl|hy
   ·omega
   ·have:=h1 y hy;omega
theorem qlQ{l:List qg}{c:qg}(h:l.Pairwise fun a b=>a.id<b.id)(hne:∀x∈l,x.id≠c.id):qaj ltC ((l++[c]).length - 1) 1 (l++[c])=qQ c l:=by
 have hp:=qnU ltC ((l++[c]).length - 1) 1 (l++[c])
 have hlen:(qaj ltC ((l++[c]).length - 1) 1 (l++[c])).length=(l++[c]).length:=hp.length_eq
 have hup:=qnT ltC (fun a b h=>by
  cases hb:ltC b a with
  |false=>rfl
  |true=>
   have h1:=(qcG _ _).1 h
   have h2:=(qcG _ _).1 hb
   omega) ((l++[c]).length - 1) 1 (l++[c]) (fun i x y hi _ _=>by omega) (by simp;omega)
 have e:1+((l++[c]).length - 1)=(qaj ltC ((l++[c]).length - 1) 1 (l++[c])).length:=by rw[hlen];simp;omega
 rw[e]at hup
 have hpw:=qkP ltC (fun a b d h1 h2=>by
  cases hb:ltC d a with
  |false=>rfl
  |true=>
   have h3:=(qcG _ _).1 hb
   have h1':¬b.id<a.id:=fun e=>by rw[(qcG _ _).2 e]at h1;cases h1
   have h2':¬d.id<b.id:=fun e=>by rw[(qcG _ _).2 e]at h2;cases h2
   omega) _ hup
 have hinc:=qof h hne
 refine qiE (le:=fun x y=>ltC y x=false) (hp.trans (qdu c l).symm) hpw (hinc.imp fun{a b} hab=>?_) fun a ha b hb h1 h2=>?_
 ·cases hb:ltC b a with
  |false=>rfl
  |true=>have:=(qcG _ _).1 hb;omega
 ·have ha':=(hp.trans (qdu c l).symm).mem_iff.1 ha
  have hb':=(hp.trans (qdu c l).symm).mem_iff.1 hb
  have h1':¬b.id<a.id:=fun e=>by rw[(qcG _ _).2 e]at h1;cases h1
  have h2':¬a.id<b.id:=fun e=>by rw[(qcG _ _).2 e]at h2;cases h2
  exact qvQ hinc ha' hb' (by omega)
theorem qxv(l:List qg):(l.map qm).flatMap LV.cells=l.flatMap qS:=by
 rw[List.flatMap_map]
 rfl
theorem qcl(l:List qg):((l.map qm).all fun e=>e.cells.length==4)=true:=by
 rw[List.all_eq_true]
 intro e he
 obtain⟨c,_,rfl⟩:=List.mem_map.1 he
 rfl
theorem qqG{l:List qg}(ob:List (Nat×qc))(m:Nat)(ow:Own)(hne:l≠[])(hl:l.length<=2^20):
  vx ⟨ob,m⟩ 4 (.sl [] .full) (.sl (l.map qm) ow)=some (.asl m 0 l.length,⟨(m,zm l)::ob,m+1⟩):=by
 have h2:vy ⟨ob,m⟩ 4 (.sl [] .full)=some ([],⟨ob,m⟩,0):=rfl
 have h3:qaC ⟨ob,m⟩ 4 (.sl (l.map qm) ow)=some (l.flatMap qS,l.length):=by
  unfold qaC
  simp only
  rw[qcl,if_pos rfl,qxv,List.length_map]
 have h0:l.length≠0:=fun e=>hne (List.eq_nil_of_length_eq_zero e)
 unfold vx
 rw[h2,h3]
 simp only
 rw[if_neg h0,if_pos ⟨by omega,by omega⟩]
 simp[qa.alloc]
theorem qyl{l:List (Nat×qc)}{m o:Nat}{A:List qg}(x:qg)(ow:Own)(hl:look o l=some (zm A))(hA:A.length<=2^20):
  vx ⟨l,m⟩ 4 (.asl o 0 A.length) (.sl [qm x] ow)=some (.asl m 0 (A.length+1),⟨(m,zm (A++[x]))::zD o l,m+1⟩):=by
 have h1:(A.flatMap qS).length=A.length*4:=qbN qew A
 have h2:vy ⟨l,m⟩ 4 (.asl o 0 A.length)=some (A.flatMap qS,⟨zD o l,m⟩,A.length):=by
  simp only[vy,hl]
  rw[if_pos ⟨trivial,by rw[h1];exact Nat.le_refl _⟩,<-h1,List.take_length]
  rfl
 have h3:qaC ⟨l,m⟩ 4 (.sl [qm x] ow)=some (qS x,1):=rfl
 unfold vx
 rw[h2,h3]
 simp only
 rw[if_neg (by omega),if_pos ⟨by omega,by omega⟩]
 simp[qa.alloc,List.flatMap_append,LV.cells]
theorem qsM(l:List qg)(own:Own)(hne:l≠[])(hl:l.length<=2^20)(ob:List (Nat×qc))(n:Nat){kv kp:HP}(hk:kv (.asl n 0 l.length) ⟨(n,zm l)::ob,n+1⟩):
  cP E0 F0 91 [.sl (l.map qm) own] ⟨ob,n⟩ kv kp:=by
 refine zR c91 fun hH=>⟨Nat.le_of_ble_eq_true rfl,?_⟩
 obtain⟨c,r,rfl⟩:∃c r,l=c::r:=by
  cases l with
  |nil=>exact absurd rfl hne
  |cons c r=>exact⟨c,r,rfl⟩
 have hap:=qqG ob n own hne hl
 have hm:List.map qm (c::r)=qm c::List.map qm r:=rfl
 rw[hm]at hap ⊢
 simp(disch:=omega)[b91]
 refine wn ?_
 simp(disch:=omega)
 rw[show vx ⟨ob,n⟩ 4 (.sl [] .full) (.sl (.agg [.int c.id,.int c.fr,.int c.to,qy c.cls]::List.map qm r) own)=_ from hap]
 simp(disch:=omega)
 exact keep (by simpa using hk)
end Go.Abs.Tz
namespace Go.Proofs
open Go Go.RowKit Go.Lib
set_option maxHeartbeats 2000000
set_option maxRecDepth 100000
theorem Tz.cloneC_nil(w:World):Calls Tryz.prog 91 #[.slice none 0 0] w fun e w'=>e=.returned (.slice none 0 0)/\w'=w:=by
 have q:∀(w:World)(a:Option Addr)(n c n' c':Nat),(binOp .eql 47 (.slice a n c) (.slice none n' c')).run Tryz.prog w=.ok (.bool a.isNone) w:=fun w a n c n' c'=>Lib.run_eql_slice_nil w _ _ a n c n' c' Tryz.underlying47
 go_enter Tryz.func91,Tryz.ntmps91
 go_wp2
 go_ret
 exact⟨rfl,rfl⟩
theorem Tz.cloneC_zero(a:Addr)(c:Nat)(w:World):Calls Tryz.prog 91 #[.slice (some a) 0 c] w fun e w'=>∃g,e=.returned (.slice (some ⟨g,0,none⟩) 0 0)/\w.grownBy w' none:=by
 have q:∀(w:World)(a:Option Addr)(n c n' c':Nat),(binOp .eql 47 (.slice a n c) (.slice none n' c')).run Tryz.prog w=.ok (.bool a.isNone) w:=fun w a n c n' c'=>Lib.run_eql_slice_nil w _ _ a n c n' c' Tryz.underlying47
 obtain⟨i0,hi,hz1⟩:=Option.map_eq_some_iff.1 (show (Tryz.prog.info? 66).map (·.size)=some 4 by kernel_rfl)
 go_enter Tryz.func91,Tryz.ntmps91
 go_wp2_with (at_builtin;refine wpList_append_fits _ rfl _ _ 47 rfl w.heap.size 66 i0 4 Tryz.underlying47 hi hz1 w.heap.size 0 0 [] rfl (World.ownsRow_made w #[] 0 (Nat.le_refl _) (Nat.zero_le _) rfl) a 0 c [] rfl rfl (by intro j u hj;simp at hj) (by intro u hu;cases hu) (by omega) ?_)
 intro w1 hown hgrow
 go_wp2
 go_ret
 refine⟨w.heap.size,rfl,?_⟩
 obtain⟨h1,h2,h3,h4,h5⟩:=hgrow
 have e:(w.alloc (.cells #[] 66)).heap=w.heap.push (.cells #[] 66):=rfl
 rw[e,Array.size_push]at h4
 refine⟨h1,h2,h3,by omega,fun k hk _=>?_⟩
 have h6:=h5 k (by rw[e,Array.size_push];omega) (by intro he;have:=Option.some.inj he;omega)
 rw[h6,e,Array.getElem?_push_lt hk]
 exact(Array.getElem?_eq_getElem hk).symm
end Go.Proofs
namespace Go.Abs.Tz
open Go Go.Abs Go.Proofs
set_option maxRecDepth 20000
set_option linter.unusedSimpArgs false
attribute [local simp ↓] gT gS jh jg gv ug q9 zu jf ub yD yE gU gW gY gV jm jp ju jn jv jw jq jr jo jk ji jl jj yB yz yC yA gN gL gO gM g8 g6 g7 uh zG jy qX jz gy yF yG yb yd yc g9 ya ym jD jI jL jH jJ jK gh gg jR jT uQ uN ja jd uO uW u9 uZ uY uX uU uJ uK uL uM jb uS uT uH jc je uP uR uV uI jX jS gd gk jU j8 gc gb ga j9 j6 jP gf j3 j5 jM gj gp jV jZ j7 jN gt gi jO gq j0 jW jY jQ ge jE jG jF yg yk yf yh yj qp ur
attribute [local simp] faL fdL iaL ixL qD qY qT eqK eqL qO zi uD ye yy yn yp yr yu yw yx yo yt yq yv zy LV.cells LV.whole qp uq zU jA stL zz zP uc qa.alloc gw gu gx gK gJ gI gH gG gF gD gC gA gz qd ui
theorem qsN(own:Own)(ob:List (Nat×qc))(n:Nat){kv kp:HP}(hk:kv Nl ⟨ob,n⟩):cP E0 F0 91 [.sl [] own] ⟨ob,n⟩ kv kp:=by
 intro hH
 refine .prim (qqg (v:=Nl) (enters_of (by kernel_rfl)) (.inl ⟨_,_,rfl,hH,hk⟩) fun G w us hI ha=>?_)
 obtain⟨u,rfl,hu⟩:=qcS ha
 obtain⟨base,cap,rfl,_,_,_⟩:=hu.sl_inv
 cases base with
 |none=>
  have hcap:cap=0:=by
   cases hu with
   |sln _=>rfl
  subst hcap
  refine(Tz.cloneC_nil w).mono ?_
  rintro e w' ⟨rfl,rfl⟩
  exact⟨_,rfl,.sln rfl,qel _⟩
 |some a=>
  refine(Tz.cloneC_zero a cap w).mono ?_
  rintro e w' ⟨g,rfl,hg⟩
  refine⟨_,rfl,?_,hg⟩
  exact VR.sl (G:=G) (w:=w') (es:=[]) (own:=.full) (b:=g) (off:=0) (sz:=4) (cap:=0) (xs:=fun _ _=>undef) (Nat.le_refl _) (fun i e h=>by simp at h) (fun i e j c h=>by simp at h) (fun i e j c h=>by simp at h) rfl
def ad0:qo:=match b31.body with
 |.seq a _=>a
 |_=>.bad
def ad1:qo:=match b31.body with
 |.seq _ (.seq a _)=>a
 |_=>.bad
def ad2:qo:=match b31.body with
 |.seq _ (.seq _ (.seq a _))=>a
 |_=>.bad
def ad3:qo:=match b31.body with
 |.seq _ (.seq _ (.seq _ (.seq a _)))=>a
 |_=>.bad
def ad4:qo:=match b31.body with
 |.seq _ (.seq _ (.seq _ (.seq _ (.seq a _))))=>a
 |_=>.bad
def ad5:qo:=match b31.body with
 |.seq _ (.seq _ (.seq _ (.seq _ (.seq _ a))))=>a
 |_=>.bad
theorem qxK:b31.body=.seq ad0 (.seq ad1 (.seq ad2 (.seq ad3 (.seq ad4 ad5)))):=rfl
theorem qpU:∀A:List qg,vU 4 A.length (A.flatMap qS)=A.map qm
 |[]=>rfl
 |x::A=>by
  have ih:=qpU A
  rw[List.length_cons,List.flatMap_cons]
  show qdr ((qS x++A.flatMap qS).take 4)::vU 4 A.length ((qS x++A.flatMap qS).drop 4)=_
  rw[show (qS x++A.flatMap qS).take 4=qS x from List.take_left (l₁:=qS x),show (qS x++A.flatMap qS).drop 4=A.flatMap qS from List.drop_left (l₁:=qS x),ih]
  rfl
theorem frzC{H:qa}{A:List qg}{o:Nat}(hl:look o H.objs=some (zm A)):wB H [o] o 0 A.length=.sl (A.map qm) .no:=by
 unfold wB
 have h1:(A.flatMap qS).length=A.length*4:=qbN qew A
 simp only[List.contains_cons,BEq.rfl,Bool.true_or,if_true,hl]
 rw[if_pos (by rw[h1];omega)]
 rw[Nat.zero_mul,List.drop_zero,qpU]
theorem qjp(c:qg)(l:List qg):(qQ c l).length=l.length+1:=by
 have:=(qdu c l).length_eq
 simpa using this
theorem CustIn.ins{l:List qg}{c:qg}(hI:CustIn l)(hc:qat c.cls)(hl:l.length<=30):CustIn (qQ c l):=
 ⟨by rw[qjp];omega,fun _ x hx=>by
  rcases List.mem_append.1 ((qdu c l).mem_iff.1 hx) with h|h
  ·exact hI.sm hl x h
  ·rw[List.mem_singleton]at h;rw[h];exact hc⟩
theorem t_Add(l:List qg)(own:Own)(c:qg)(hI:CustIn l)(hcl:qat c.cls)(h18:l.length<=18\/30<l.length)(ob:List (Nat×qc))(n:Nat){kv kp:HP}
  (hk0:vo l c≠0->∀n',n<=n'->kv (.tup [Nl,.int (vo l c)]) ⟨ob,n'⟩)
  (hk1:vo l c=0->∀(ow:Own)(n':Nat),n<=n'->kv (.tup [.sl ((qQ c l).map qm) ow,.int 0]) ⟨ob,n'⟩):
  cP E0 F0 31 [.sl (l.map qm) own,qm c] ⟨ob,n⟩ kv kp:=by
 refine qcN c31 (Nat.le_of_ble_eq_true rfl) fun hH=>?_
 have hOb:qn ob n:=hH
 rw[qxK]
 simp(disch:=omega)
 refine zW (zj ?_)
 simp(disch:=omega)[ad0,b31]
 refine zW (zj ?_)
 simp(disch:=omega)[ad1,b31]
 refine(qeW l own hI.len hI.sm).go fun n1 hn1=>?_
 have fin:∀(v:LV)(m:Nat)(x:qc),n<=m->(∀n',n<=n'->kv v ⟨ob,n'⟩)->∃H'',HWk ⟨(n,x)::ob,m⟩ H''/\(qa.Ok ⟨(n,x)::ob,m⟩->H''.Ok)/\kv v H'':=fun v m x hm hk=>⟨⟨ob,m⟩,yM hOb (Nat.le_refl _),fun _=>hOb.mono hm,hk m hm⟩
 by_cases hc:(zA l).1=0
 case neg=>
  have hE:vo l c=(zA l).1:=by unfold vo;rw[if_pos hc]
  rw[hE]at hk0
  simp(disch:=omega)[hc]
  exact fin _ _ _ (by omega) (hk0 hc)
 obtain⟨hC,_,hl30⟩:=qck hc
 have hl18:l.length<=18:=by omega
 simp(disch:=omega)[hc]
 refine zW (zj ?_)
 simp(disch:=omega)[ad2,b31]
 refine qhT l (by omega) own 90 (fun x=>decide (x.id=c.id)) n _ _ (fun x _ n' kv kp hn' hk=>qtd x c n _ n' (qp _ _ _) hk) fun n2 hn2=>?_
 obtain⟨B,hB⟩:∃B,qbg l c.id=B:=⟨_,rfl⟩
 have hB':(l.any fun x=>decide (x.id=c.id))=B:=hB
 rw[hB']
 cases B
 case true=>
  have hE:vo l c=6:=by unfold vo;rw[if_neg (by simpa using hc),hB,if_pos rfl]
  rw[hE]at hk0
  simp(disch:=omega)
  exact fin _ _ _ (by omega) (hk0 (by decide))
 have hE:vo l c=(zA (qQ c l)).1:=by unfold vo;rw[if_neg (by simpa using hc),hB,if_neg (by simp)]
 have hne:∀x∈l,x.id≠c.id:=fun x hx he=>by
  have:qbg l c.id=true:=List.any_eq_true.2 ⟨x,hx,decide_eq_true he⟩
  rw[hB]at this
  cases this
 simp(disch:=omega)
 refine zW (zj ?_)
 simp(disch:=omega)[ad3,b31]
 by_cases hl0:l=[]
 ·have hn0:List.map qm l=[]:=by rw[hl0];rfl
  rw[hn0]
  refine qsN own _ _ ?_
  simp(disch:=omega)
  refine wn ?_
  simp(disch:=omega)
  have hap:=qqG (l:=[c]) ((n,.cells (qS c))::ob) n2 .full (by simp) (by simp)
  rw[show vx ⟨(n,.cells [.int c.id,.int c.fr,.int c.to,qy c.cls])::ob,n2⟩ 4 (.sl [] .full) (.sl [.agg [.int c.id,.int c.fr,.int c.to,qy c.cls]] .full)=_ from hap]
  simp(disch:=omega)
  have hlc:[c]=l++[c]:=by rw[hl0];rfl
  have hLEN:(l++[c]).length=1:=by rw[hl0];rfl
  rw[hlc]
  obtain⟨M,hM⟩:∃M,n2=M:=⟨_,rfl⟩
  obtain⟨q,hq⟩:∃q,n2+1=q:=⟨_,rfl⟩
  have hMq:M<q:=by omega
  rw[hq,hM]
  refine zW (zj ?_)
  simp(disch:=omega)[ad4,b31]
  have hs:=@qkX (l++[c]) M ((M,zm (l++[c]))::(n,.cells (qS c))::ob) q (qp _ _ _) (by rw[List.length_append,List.length_singleton];omega)
  simp only[qlQ hC.inc hne,zU]at hs
  simp only[hLEN]at hs
  refine hs ?_
  simp(disch:=omega)
  refine vv (t':=(.nd .bot .nil (.nd .bot (.nd .bot (.nd (.asl M 0 (l++[c]).length) .nil .nil) .nil) .nil))) (H':=⟨(M,zm (qQ c l))::ob,q⟩) (fun l h=>by cases h) (by simp only[hLEN];simp[FT.Le,Wk]) (qbK (hOb.mono (show n<=n from Nat.le_refl _)) fun _ _ h=>h) (fun _=>⟨hMq,hOb.mono (by omega)⟩) ?_
  have hfz:wB ⟨(M,zm (qQ c l))::ob,q⟩ [M] M 0 (l++[c]).length=.sl ((qQ c l).map qm) .no:=by
   have:=frzC (H:=⟨(M,zm (qQ c l))::ob,q⟩) (A:=qQ c l) (o:=M) (qp _ _ _)
   rw[qjp]at this
   rw[List.length_append,List.length_singleton]
   exact this
  refine qnQ (H':=⟨ob,q⟩) [M] (fun l h=>by cases h) ⟨Nat.le_refl _,fun i x hx=>?_⟩ (fun _=>hOb.mono (by dsimp only;omega)) ?_
  ·have:=hOb.look hx
   have e1:look i (vw [M] ((M,zm (qQ c l))::ob))=look i ((M,zm (qQ c l))::ob):=qbG (by simp;omega)
   show look i (vw [M] ((M,zm (qQ c l))::ob))=some x
   rw[e1,qd (by omega)]
   exact hx
  have ht:FT.map (zL ⟨(M,zm (qQ c l))::ob,q⟩ [M]) ((.nd .bot .nil (.nd .bot (.nd .bot (.nd (.asl M 0 (l++[c]).length) .nil .nil) .nil) .nil)))=(.nd .bot .nil (.nd .bot (.nd .bot (.nd (.sl ((qQ c l).map qm) .no) .nil .nil) .nil) .nil)):=by
   simp only[FT.map,zL,hfz]
  rw[ht]
  refine zj ?_
  have hI2:=hI.ins hcl hl30
  simp(disch:=omega)[ad5,b31]
  refine(qeW (qQ c l) .no hI2.len hI2.sm).go fun n5 hn5=>?_
  by_cases hc2:(zA (qQ c l)).1=0
  case neg=>
   rw[hE]at hk0
   simp(disch:=omega)[hc2]
   exact keep (hk0 hc2 n5 (by omega))
  simp(disch:=omega)[hc2]
  exact keep (hk1 (by rw[hE];exact hc2) .no n5 (by omega))
 ·refine qsM l own hl0 (by omega) _ _ ?_
  have k1:look n ((n2,zm l)::(n,.cells (qS c))::ob)=some (.cells (qS c)):=by rw[qd (by omega)];exact qp _ _ _
  simp(disch:=omega)[k1]
  refine wn ?_
  simp(disch:=omega)
  have hap:=qyl (l:=(n2,zm l)::(n,.cells (qS c))::ob) (m:=n2+1) (o:=n2) (A:=l) c .full (qp _ _ _) (by omega)
  have hdel:zD n2 ((n2,zm l)::(n,.cells (qS c))::ob)=(n,.cells (qS c))::ob:=by
   have hb:zD n2 ob=ob:=qfG (H:=⟨ob,n⟩) hOb (by dsimp only;omega)
   simp only[zD]
   rw[if_pos trivial,if_neg (by omega),hb]
  rw[hdel]at hap
  rw[show vx ⟨(n2,zm l)::(n,.cells [.int c.id,.int c.fr,.int c.to,qy c.cls])::ob,n2+1⟩ 4 (.asl n2 0 l.length) (.sl [.agg [.int c.id,.int c.fr,.int c.to,qy c.cls]] .full)=_ from hap]
  simp(disch:=omega)
  have hLEN:(l++[c]).length=l.length+1:=by simp
  obtain⟨M,hM⟩:∃M,n2+1=M:=⟨_,rfl⟩
  obtain⟨q,hq⟩:∃q,M+1=q:=⟨_,rfl⟩
  have hMq:M<q:=by omega
  rw[hM,hq]
  refine zW (zj ?_)
  simp(disch:=omega)[ad4,b31]
  have hs:=@qkX (l++[c]) M ((M,zm (l++[c]))::(n,.cells (qS c))::ob) q (qp _ _ _) (by rw[List.length_append,List.length_singleton];omega)
  simp only[qlQ hC.inc hne,zU]at hs
  simp only[hLEN]at hs
  refine hs ?_
  simp(disch:=omega)
  refine vv (t':=(.nd .bot .nil (.nd .bot (.nd .bot (.nd (.asl M 0 (l++[c]).length) .nil .nil) .nil) .nil))) (H':=⟨(M,zm (qQ c l))::ob,q⟩) (fun l h=>by cases h) (by simp only[hLEN];simp[FT.Le,Wk]) (qbK (hOb.mono (show n<=n from Nat.le_refl _)) fun _ _ h=>h) (fun _=>⟨hMq,hOb.mono (by omega)⟩) ?_
  have hfz:wB ⟨(M,zm (qQ c l))::ob,q⟩ [M] M 0 (l++[c]).length=.sl ((qQ c l).map qm) .no:=by
   have:=frzC (H:=⟨(M,zm (qQ c l))::ob,q⟩) (A:=qQ c l) (o:=M) (qp _ _ _)
   rw[qjp]at this
   rw[List.length_append,List.length_singleton]
   exact this
  refine qnQ (H':=⟨ob,q⟩) [M] (fun l h=>by cases h) ⟨Nat.le_refl _,fun i x hx=>?_⟩ (fun _=>hOb.mono (by dsimp only;omega)) ?_
  ·have:=hOb.look hx
   have e1:look i (vw [M] ((M,zm (qQ c l))::ob))=look i ((M,zm (qQ c l))::ob):=qbG (by simp;omega)
   show look i (vw [M] ((M,zm (qQ c l))::ob))=some x
   rw[e1,qd (by omega)]
   exact hx
  have ht:FT.map (zL ⟨(M,zm (qQ c l))::ob,q⟩ [M]) ((.nd .bot .nil (.nd .bot (.nd .bot (.nd (.asl M 0 (l++[c]).length) .nil .nil) .nil) .nil)))=(.nd .bot .nil (.nd .bot (.nd .bot (.nd (.sl ((qQ c l).map qm) .no) .nil .nil) .nil) .nil)):=by
   simp only[FT.map,zL,hfz]
  rw[ht]
  refine zj ?_
  have hI2:=hI.ins hcl hl30
  simp(disch:=omega)[ad5,b31]
  refine(qeW (qQ c l) .no hI2.len hI2.sm).go fun n5 hn5=>?_
  by_cases hc2:(zA (qQ c l)).1=0
  case neg=>
   rw[hE]at hk0
   simp(disch:=omega)[hc2]
   exact keep (hk0 hc2 n5 (by omega))
  simp(disch:=omega)[hc2]
  exact keep (hk1 (by rw[hE];exact hc2) .no n5 (by omega))
end Go.Abs.Tz
namespace Go.Abs.Tz
open Go Go.Abs Go.Proofs
set_option maxRecDepth 20000
set_option linter.unusedSimpArgs false
attribute [local simp ↓] gT gS jh jg gv ug q9 zu jf ub yD yE gU gW gY gV jm jp ju jn jv jw jq jr jo jk ji jl jj yB yz yC yA gN gL gO gM g8 g6 g7 uh zG jy qX jz gy yF yG yb yd yc g9 ya ym jD jI jL jH jJ jK gh gg jR jT uQ uN ja jd uO uW u9 uZ uY uX uU uJ uK uL uM jb uS uT uH jc je uP uR uV uI jX jS gd gk jU j8 gc gb ga j9 j6 jP gf j3 j5 jM gj gp jV jZ j7 jN gt gi jO gq j0 jW jY jQ ge jE jG jF yg yk yf yh yj qp ur
attribute [local simp] faL fdL iaL ixL qD qY qT eqK eqL qO zi uD ye yy yn yp yr yu yw yx yo yt yq yv zy LV.cells LV.whole qp uq zU jA stL zz zP uc qa.alloc gw gu gx gK gJ gI gH gG gF gD gC gA gz qd ui
theorem qlb(a:List Int)(o1 o2:Own)(ha:a.length<2^60):qf 26 [.sl (uB a) o1,.sl (uB a) o2] (.bool true):=by
 refine qf.of c26 fun H hH=>⟨Nat.le_of_ble_eq_true rfl,?_⟩
 simp(disch:=omega)[b26]
 refine qA (σ:=NN) (fun q=>(.nd (.sl (uB a) o1) (.nd (.sl (uB a) o2) .nil (.nd (.int q.i) .nil .nil)) .nil)) (fun q=>⟨H.objs,q.n⟩) (fun q=>a.length - q.i)
  (fun q=>H.next<=q.n/\q.i<=a.length) ⟨0,H.next⟩ ⟨Nat.le_refl _,Nat.zero_le _⟩ (by simp[FT.Le,Wk]) ⟨HWk.refl _,fun h=>h⟩ ?_
 rintro⟨i,n⟩ ⟨hn,hi⟩ hok
 dsimp only at hn hi
 by_cases hlt:i<a.length
 ·simp(disch:=omega)[hlt,qk (show i<2^62 by omega)]
  exact⟨⟨i+1,n⟩,by dsimp only;omega,⟨by dsimp only;omega,by dsimp only;omega⟩,by simp[FT.Le,Wk],HWk.refl _,fun h=>h⟩
 ·simp(disch:=omega)[hlt]
  exact qh hH (by first|rfl|simp[])
theorem qwI(a:ByteArray):eqBA a a=true:=wD.2 rfl
theorem qrK(x:Lit)(hx:x.atom.ok):qf 58 [qeh x,qeh x] (.bool true):=by
 refine qf.of c58 fun H hH=>⟨Nat.le_of_ble_eq_true rfl,?_⟩
 simp(disch:=omega)[b58]
 refine(qlg x.atom x.atom hx hx).go fun n hn=>?_
 rw[vK.refl]
 simp(disch:=omega)[qwI]
 exact qh hH (by first|rfl|simp[])
def qdD(l:List qe):Prop:=l.length<=2^20/\∀c∈l,c.head.ok/\c.body.length<=2^20/\∀x∈c.body,x.atom.ok
theorem qeQ(l:List qe)(o1 o2:Own)(hl:qdD l):qf 13 [.sl (l.map uo) o1,.sl (l.map uo) o2] (.bool true):=by
 obtain⟨hll,hlo⟩:=hl
 refine qf.of c13 fun H hH=>⟨Nat.le_of_ble_eq_true rfl,?_⟩
 simp(disch:=omega)[b13]
 refine qA (σ:=NN) (fun q=>(.nd (.sl (l.map uo) o1) (.nd (.sl (l.map uo) o2) .nil (.nd (.int q.i) .nil .nil)) .nil)) (fun q=>⟨H.objs,q.n⟩) (fun q=>l.length - q.i)
  (fun q=>H.next<=q.n/\q.i<=l.length) ⟨0,H.next⟩ ⟨Nat.le_refl _,Nat.zero_le _⟩ (by simp[FT.Le,Wk]) ⟨HWk.refl _,fun h=>h⟩ ?_
 rintro⟨i,n⟩ ⟨hn,hi⟩ hok
 dsimp only at hn hi hok
 by_cases hlt:i<l.length
 case neg=>
  simp(disch:=omega)[hlt]
  exact qh hH (by first|rfl|simp[])
 obtain⟨hh,hbl,hb⟩:=hlo _ (z7 hlt)
 simp(disch:=omega)[hlt]
 refine(qlg l[i].head l[i].head hh hh).go fun n2 hn2=>?_
 rw[vK.refl]
 simp(disch:=omega)[hlt]
 refine qA (σ:=NN) (fun q=>(.nd (.sl (l.map uo) o1) (.nd (.sl (l.map uo) o2) (.nd .bot (.nd (.int q.i) .nil .nil) .nil) (.nd (.int i) .nil .nil)) .nil)) (fun q=>⟨H.objs,q.n⟩) (fun q=>l[i].body.length - q.i)
  (fun q=>H.next<=q.n/\q.i<=l[i].body.length) ⟨0,n2⟩ ⟨by dsimp only;omega,Nat.zero_le _⟩ (by simp[FT.Le,Wk]) ⟨HWk.refl _,fun h=>h⟩ ?_
 rintro⟨j,n3⟩ ⟨hn3,hj⟩ hok3
 dsimp only at hn3 hj hok3
 by_cases hjl:j<l[i].body.length
 case neg=>
  simp(disch:=omega)[hlt,hjl,qk (show i<2^62 by omega)]
  exact⟨⟨i+1,n3⟩,by dsimp only;omega,⟨by dsimp only;omega,by dsimp only;omega⟩,by simp[FT.Le,Wk],HWk.refl _,fun h=>h⟩
 simp(disch:=omega)[hlt,hjl]
 refine(qrK l[i].body[j] (hb _ (List.getElem_mem hjl))).go fun n4 hn4=>?_
 simp(disch:=omega)[qk (show j<2^62 by omega)]
 exact⟨⟨j+1,n4⟩,by dsimp only;omega,⟨by dsimp only;omega,by dsimp only;omega⟩,by simp[FT.Le,Wk],HWk.refl _,fun h=>h⟩
theorem qgc(l:List qg)(o1 o2:Own)(hl:l.length<=2^20)(hc:∀c∈l,qdD c.cls):qf 37 [.sl (l.map qm) o1,.sl (l.map qm) o2] (.bool true):=by
 refine qf.of c37 fun H hH=>⟨Nat.le_of_ble_eq_true rfl,?_⟩
 simp(disch:=omega)[b37]
 refine qA (σ:=NN) (fun q=>(.nd (.sl (l.map qm) o1) (.nd (.sl (l.map qm) o2) .nil (.nd (.int q.i) .nil .nil)) .nil)) (fun q=>⟨H.objs,q.n⟩) (fun q=>l.length - q.i)
  (fun q=>H.next<=q.n/\q.i<=l.length) ⟨0,H.next⟩ ⟨Nat.le_refl _,Nat.zero_le _⟩ (by simp[FT.Le,Wk]) ⟨HWk.refl _,fun h=>h⟩ ?_
 rintro⟨i,n⟩ ⟨hn,hi⟩ hok
 dsimp only at hn hi hok
 by_cases hlt:i<l.length
 case neg=>
  simp(disch:=omega)[hlt]
  exact qh hH (by first|rfl|simp[])
 simp(disch:=omega)[hlt]
 refine(qeQ l[i].cls .no .no (hc _ (z7 hlt))).go fun n2 hn2=>?_
 simp(disch:=omega)[hlt,qk (show i<2^62 by omega)]
 exact⟨⟨i+1,n2⟩,by dsimp only;omega,⟨by dsimp only;omega,by dsimp only;omega⟩,by simp[FT.Le,Wk],HWk.refl _,fun h=>h⟩
theorem qdS(l:List qg)(e:Int)(ow:Own):Wk (.agg [.sl (l.map qm) ow,.int e]) (.agg [.sl (l.map qm) .no,.int e]):=by
 refine .inr (.inl ?_)
 simp[LV.strip,stripL,qcz,List.map_map,Function.comp_def]
theorem qlk(l:List qg)(own:Own)(c:qg)(hI:CustIn l)(hcl:qat c.cls)(H:qa){kv kp:HP}
  (hk:∀n,H.next<=n->kv (.agg [.sl ((vX l c).map qm) .no,.int (vo l c)]) ⟨H.objs,n⟩):cP E0 F0 32 [.sl (l.map qm) own,qm c] H kv kp:=by
 refine qeB c32 fun hH=>⟨Nat.le_of_ble_eq_true rfl,?_⟩
 obtain⟨N0,hN0⟩:∃N0,H.next=N0:=⟨_,rfl⟩
 obtain⟨ob,nx⟩:=H
 dsimp only at hN0 hk
 subst hN0
 have fin:∀(v:LV)(ob':List (Nat×qc))(m:Nat),nx<=m->(∀i,i<nx->look i ob'=look i ob)->Wk v (.agg [.sl ((vX l c).map qm) .no,.int (vo l c)])->∃v',Wk v v'/\∃H'',HWk ⟨ob',m⟩ H''/\(qa.Ok ⟨ob',m⟩->H''.Ok)/\kv v' H'':=fun v ob' m hm hold hw=>⟨_,hw,⟨ob,m⟩,qaJ hH hold (Nat.le_refl _),fun _=>qn.mono hH hm,hk m hm⟩
 have hold0:∀(x y:qc)(i:Nat),i<nx->look i ((nx+1,x)::(nx,y)::ob)=look i ob:=fun x y i hi=>by rw[qd (by omega),qd (by omega)]
 simp(disch:=omega)[b32]
 refine(qeS l own hI).go fun n1 hn1=>?_
 by_cases hc:(zA l).1=0
 case neg=>
  have hE:vo l c=(zA l).1:=by unfold vo;rw[if_pos hc]
  have hCl:vX l c=[]:=by unfold vX;rw[hE,if_neg hc]
  rw[hE,hCl]at fin
  simp(disch:=omega)[hc]
  exact fin _ _ _ (by omega) (hold0 _ _) (qdS [] _ .full)
 obtain⟨hC,_,hl30⟩:=qck hc
 obtain⟨P,hP⟩:∃P,qba c l=P:=⟨_,rfl⟩
 have hPl:P<=l.length:=by rw[<-hP];exact qmQ c l
 have hid:=qoo (c:=c) hC.inc
 have hins:=qoe c l
 rw[hP]at hid hins
 simp(disch:=omega)[hc]
 refine qA (σ:=NN) (fun q=>(.nd (.sl (l.map qm) own) (.nd .bot (.nd (.ptr nx 0) (.nd (.int q.i) .nil .nil) .nil) .nil) (.nd .bot (.nd (.ptr (nx+1) 0) .nil .nil) .nil))) (fun q=>⟨(nx+1,.cells [Nl,.int 0])::(nx,.cells [.int c.id,.int c.fr,.int c.to,qy c.cls])::ob,q.n⟩) (fun q=>l.length - q.i)
  (fun q=>nx+1+1<=q.n/\q.i<=l.length/\q.i+qba c (l.drop q.i)=P) ⟨0,n1⟩ ⟨by dsimp only;omega,Nat.zero_le _,by simpa using hP⟩ (by simp[FT.Le,Wk]) ⟨HWk.refl _,fun h=>h⟩ ?_
 rintro⟨i,m0⟩ ⟨hm0,hi,hpi⟩ hok
 dsimp only at hm0 hi hpi hok
 have bad:qbg l c.id=true->vo l c=6/\vX l c=[]:=fun h=>by
  have hE:vo l c=6:=by unfold vo;rw[if_neg (by simpa using hc),h,if_pos rfl]
  exact⟨hE,by unfold vX;rw[hE,if_neg (by decide)]⟩
 have good:qbg l c.id=false->vo l c=(zA (qQ c l)).1:=fun h=>by unfold vo;rw[if_neg (by simpa using hc),h,if_neg (by simp)]
 have hI2:=hI.ins hcl hl30
 by_cases hlt:i<l.length
 case pos=>
  rw[List.drop_eq_getElem_cons hlt]at hpi
  unfold qba at hpi
  by_cases hx:l[i].id<c.id
  ·rw[if_pos hx]at hpi
   simp(disch:=omega)[hlt,hx,qk (show i<2^62 by omega)]
   exact⟨⟨i+1,m0⟩,by dsimp only;omega,⟨by dsimp only;omega,by dsimp only;omega,by dsimp only;omega⟩,by simp[FT.Le,Wk],HWk.refl _,fun h=>h⟩
  rw[if_neg hx,Nat.add_zero]at hpi
  subst hpi
  rw[List.getElem?_eq_getElem hlt]at hid
  simp only at hid
  by_cases he:l[i].id=c.id
  ·rw[decide_eq_true he]at hid
   obtain⟨hE,hCl⟩:=bad hid
   rw[hE,hCl]at fin
   simp(disch:=omega)[hlt,hx,he]
   exact fin _ _ _ (by omega) (hold0 _ _) (qdS [] _ .full)
  rw[decide_eq_false he]at hid
  have hE:=good hid
  have hi2:i<=l.length:=hi
  simp(disch:=omega)[hlt,hx,he,hi2]
  clear hok
  refine zd ?_
  simp(disch:=omega)
  obtain⟨o1,ob1,m1,e1,hr1,hm1⟩:=vA (sz:=4) (H:=⟨(nx+1,.cells [Nl,.int 0])::(nx,.cells (qS c))::ob,nx+1+1⟩) (es:=[]) (Y:=(l.map qm).take i) (own:=.full) (n:=m0) (by omega) rfl (yP (qcl l) i).1 (by simp;omega) (.inl ⟨rfl,rfl,by dsimp only;omega⟩)
  rw[show apL ⟨(nx+1,.cells [Nl,.int 0])::(nx,.cells [.int c.id,.int c.fr,.int c.to,qy c.cls])::ob,m0⟩ 4 (.sl [] .full) (.sl ((l.map qm).take i) _)=_ from e1 _]
  obtain⟨q1,q2⟩:=hr1.old
  dsimp only at q1 q2
  have hc1:look nx ob1=some (.cells (qS c)):=by rw[q2 nx (by omega),qd (by omega)];exact qp _ _ _
  simp(disch:=omega)[hc1]
  refine zd ?_
  simp(disch:=omega)
  obtain⟨o2,ob2,m2,e2,hr2,hm2⟩:=vA (sz:=4) (es:=[]++(l.map qm).take i) (Y:=[qm c]) (by omega) (by simpa using (yP (qcl l) i).1) rfl (by simp;omega) (by rw[List.length_append];exact hr1)
  rw[List.nil_append]at e2
  rw[show apL ⟨ob1,m1⟩ 4 (.sl ((l.map qm).take i) o1) (.sl [.agg [.int c.id,.int c.fr,.int c.to,qy c.cls]] _)=_ from e2 _]
  simp(disch:=omega)
  refine zd ?_
  simp(disch:=omega)
  obtain⟨o3,ob3,m3,e3,hr3,hm3⟩:=vA (sz:=4) (es:=([]++(l.map qm).take i)++[qm c]) (Y:=(l.map qm).drop i) (by omega) (by
   rw[List.all_append,List.nil_append,(yP (qcl l) i).1];rfl) (yP (qcl l) i).2 (by simp;omega) (by rw[List.length_append (bs:=[qm c])];exact hr2)
  rw[List.nil_append]at e3
  obtain⟨r1,r2⟩:=hr3.old
  dsimp only at r1 r2
  have hol3:∀j,j<nx->look j ob3=look j ob:=fun j hj=>by rw[r2 j (by omega),qd (by omega),qd (by omega)]
  have hcr:look (nx+1) ob3=some (.cells [Nl,.int 0]):=by rw[r2 (nx+1) (by omega)];exact qp _ _ _
  have hdr:List.take (l.length - i) (List.drop i (l.map qm))=List.drop i (l.map qm):=List.take_of_length_le (by simp)
  rw[hdr,e3]
  have hmm:List.take i (l.map qm)++[qm c]++List.drop i (l.map qm)=(qQ c l).map qm:=by rw[hins];simp
  rw[hmm]
  simp(disch:=omega)
  refine(qeS (qQ c l) o3 hI2).go fun n5 hn5=>?_
  have hlp:∀x,look (nx+1) (qu (nx+1) x ob3)=some x:=fun x=>vF hcr
  by_cases hc2:(zA (qQ c l)).1=0
  case neg=>
   have hCl:vX l c=[]:=by unfold vX;rw[hE,if_neg hc2]
   rw[hE,hCl]at fin
   simp(disch:=omega)[hc2,hcr,hlp]
   exact fin _ _ _ (by omega) (fun j hj=>by rw[vE (by omega)];exact hol3 j hj) (qdS [] _ .full)
  have hCl:vX l c=qQ c l:=by unfold vX;rw[hE,if_pos hc2]
  rw[hE,hCl,hc2]at fin
  simp(disch:=omega)[hc2,hcr,hlp]
  exact fin _ _ _ (by omega) (fun j hj=>by rw[vE (by omega)];exact hol3 j hj) (qdS _ _ o3)
 case neg=>
  have hie:i=l.length:=by omega
  rw[hie,List.drop_eq_nil_of_le (Nat.le_refl _)]at hpi
  have hPi:P=i:=by rw[<-hpi,hie];rfl
  rw[List.getElem?_eq_none (by omega)]at hid
  simp only at hid
  have hE:=good hid
  have hi2:i<=l.length:=hi
  simp(disch:=omega)[hlt,hi2]
  clear hok
  refine zd ?_
  simp(disch:=omega)
  obtain⟨o1,ob1,m1,e1,hr1,hm1⟩:=vA (sz:=4) (H:=⟨(nx+1,.cells [Nl,.int 0])::(nx,.cells (qS c))::ob,nx+1+1⟩) (es:=[]) (Y:=(l.map qm).take i) (own:=.full) (n:=m0) (by omega) rfl (yP (qcl l) i).1 (by simp;omega) (.inl ⟨rfl,rfl,by dsimp only;omega⟩)
  rw[show apL ⟨(nx+1,.cells [Nl,.int 0])::(nx,.cells [.int c.id,.int c.fr,.int c.to,qy c.cls])::ob,m0⟩ 4 (.sl [] .full) (.sl ((l.map qm).take i) _)=_ from e1 _]
  obtain⟨q1,q2⟩:=hr1.old
  dsimp only at q1 q2
  have hc1:look nx ob1=some (.cells (qS c)):=by rw[q2 nx (by omega),qd (by omega)];exact qp _ _ _
  simp(disch:=omega)[hc1]
  refine zd ?_
  simp(disch:=omega)
  obtain⟨o2,ob2,m2,e2,hr2,hm2⟩:=vA (sz:=4) (es:=[]++(l.map qm).take i) (Y:=[qm c]) (by omega) (by simpa using (yP (qcl l) i).1) rfl (by simp;omega) (by rw[List.length_append];exact hr1)
  rw[List.nil_append]at e2
  rw[show apL ⟨ob1,m1⟩ 4 (.sl ((l.map qm).take i) o1) (.sl [.agg [.int c.id,.int c.fr,.int c.to,qy c.cls]] _)=_ from e2 _]
  simp(disch:=omega)
  refine zd ?_
  simp(disch:=omega)
  obtain⟨o3,ob3,m3,e3,hr3,hm3⟩:=vA (sz:=4) (es:=([]++(l.map qm).take i)++[qm c]) (Y:=(l.map qm).drop i) (by omega) (by
   rw[List.all_append,List.nil_append,(yP (qcl l) i).1];rfl) (yP (qcl l) i).2 (by simp;omega) (by rw[List.length_append (bs:=[qm c])];exact hr2)
  rw[List.nil_append]at e3
  obtain⟨r1,r2⟩:=hr3.old
  dsimp only at r1 r2
  have hol3:∀j,j<nx->look j ob3=look j ob:=fun j hj=>by rw[r2 j (by omega),qd (by omega),qd (by omega)]
  have hcr:look (nx+1) ob3=some (.cells [Nl,.int 0]):=by rw[r2 (nx+1) (by omega)];exact qp _ _ _
  have hd0:List.drop i (l.map qm)=[]:=List.drop_eq_nil_of_le (by rw[List.length_map];omega)
  rw[hd0]at e3
  rw[e3]
  have hmm:List.take i (l.map qm)++[qm c]++[]=(qQ c l).map qm:=by rw[List.append_nil,hins,hPi,List.drop_eq_nil_of_le (show l.length<=i by omega)];simp
  rw[hmm]
  simp(disch:=omega)
  refine(qeS (qQ c l) o3 hI2).go fun n5 hn5=>?_
  have hlp:∀x,look (nx+1) (qu (nx+1) x ob3)=some x:=fun x=>vF hcr
  by_cases hc2:(zA (qQ c l)).1=0
  case neg=>
   have hCl:vX l c=[]:=by unfold vX;rw[hE,if_neg hc2]
   rw[hE,hCl]at fin
   simp(disch:=omega)[hc2,hcr,hlp]
   exact fin _ _ _ (by omega) (fun j hj=>by rw[vE (by omega)];exact hol3 j hj) (qdS [] _ .full)
  have hCl:vX l c=qQ c l:=by unfold vX;rw[hE,if_pos hc2]
  rw[hE,hCl,hc2]at fin
  simp(disch:=omega)[hc2,hcr,hlp]
  exact fin _ _ _ (by omega) (fun j hj=>by rw[vE (by omega)];exact hol3 j hj) (qdS _ _ o3)
def sh4(c:qg):Bool:=qbz 4 c.cls
def qde(l:List qg):Bool:=if 30<l.length then true else if l.all sh4 then decide (l.length<=6) else false
def BodC(l:List qg):Prop:=∀c∈l,c.cls.length<2^63/\∀k∈c.cls,k.body.length<2^63
theorem qrJ(l:List qg)(own:Own)(hl:l.length<2^63)(hb:BodC l):qf 28 [.sl (l.map qm) own] (.bool (qde l)):=by
 refine qf.of c28 fun H hH=>⟨Nat.le_of_ble_eq_true rfl,?_⟩
 by_cases h1:(30:Int)<(l.length:Int)
 ·simp(disch:=omega)[b28,h1]
  exact qh hH (by simp[qde,show 30<l.length by omega])
 have hl30:l.length<=30:=by omega
 simp(disch:=omega)[b28,h1]
 obtain⟨A,hA⟩:∃A,l.all sh4=A:=⟨_,rfl⟩
 have hB:qde l=if A then decide (l.length<=6) else false:=by unfold qde;rw[if_neg (by omega),hA]
 obtain⟨Vv,hVv⟩:∃Vv,(if A then decide (l.length<=6) else false)=Vv:=⟨_,rfl⟩
 rw[hB,hVv]
 refine qA (σ:=NN) (fun q=>(.nd (.sl (l.map qm) own) (.nd .bot (.nd (.int q.i) .nil .nil) .nil) (.nd (.bool false) .nil .nil))) (fun q=>⟨H.objs,q.n⟩) (fun q=>l.length - q.i)
  (fun q=>H.next<=q.n/\q.i<=l.length/\(l.drop q.i).all sh4=A) ⟨0,H.next⟩ ⟨Nat.le_refl _,Nat.zero_le _,hA⟩ (by simp[FT.Le,Wk]) ⟨HWk.refl _,fun h=>h⟩ ?_
 rintro⟨i,n⟩ ⟨hn,hi,he⟩ hok
 simp only at hn hi he
 by_cases hlt:i<l.length
 case neg=>
  obtain rfl:i=l.length:=by omega
  rw[List.drop_eq_nil_of_le (Nat.le_refl _),List.all_nil]at he
  simp(disch:=omega)
  refine qdn hH ?_ (by first|exact qq.refl' _|(repeat (first|exact qq.refl (by first|omega|(dsimp only;omega))|refine qq.cons' hH (by first|omega|(dsimp only;omega)) (by first|omega|(dsimp only;omega)) ?_)))
  rw[<-hVv,<-he]
  simp
  try omega
 rw[qbR sh4 hlt]at he
 have hsh:sh4 l[i]=qbz 4 l[i].cls:=rfl
 simp(disch:=omega)[hlt]
 refine(qkZ 4 (by omega) l[i].cls (hb _ (z7 hlt)).2).go fun n3 hn3=>?_
 rw[hsh]at he
 cases hs:qbz 4 l[i].cls
 ·rw[hs,Bool.false_and]at he
  simp(disch:=omega)
  exact qh hH (by simp[<-hVv,<-he])
 rw[hs,Bool.true_and]at he
 simp(disch:=omega)[qk (show i<2^62 by omega)]
 exact⟨⟨i+1,n3⟩,by dsimp only;omega,⟨by dsimp only;omega,by dsimp only;omega,he⟩,by simp[FT.Le,Wk],HWk.refl _,fun h=>h⟩
theorem qtq{l:List qg}(hl:l.length<2^63)(h:qde l=true):CustIn l/\(l.length<=6\/30<l.length)/\(l.length<=30->∀c∈l,c.cls.length<=40->∀k∈c.cls,qaO k=true):=by
 unfold qde at h
 by_cases h30:30<l.length
 ·exact⟨⟨hl,fun h=>by omega⟩,.inr h30,fun h=>by omega⟩
 rw[if_neg h30]at h
 by_cases ha:l.all sh4=true
 ·rw[if_pos ha]at h
  have hk:l.length<=30->∀c∈l,c.cls.length<=40->∀k∈c.cls,qaO k=true:=fun _ c hc h40 k hk=>by
   have:=List.all_eq_true.1 ha c hc
   unfold sh4 qbz at this
   rw[if_neg (by omega)]at this
   split at this
   ·rename_i hall
    exact List.all_eq_true.1 hall k hk
   ·cases this
  exact⟨⟨hl,fun h c hc=>⟨fun h40 k hkc=>qic (hk h c hc h40 k hkc)⟩⟩,.inl (of_decide_eq_true h),hk⟩
 ·rw[if_neg ha]at h
  cases h
end Go.Abs.Tz
