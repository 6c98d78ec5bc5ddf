/- Part of the proof that the law CustomKeepsYears holds. Conditions: none. -/
import Derived.Test.YtjbhehjoaalhiaaGreatDoorPartG
import Derived.Test.YtjbhehjoaalhiaaGreatDoorPartM
import Derived.Test.YtjbhehjoaalhiaaGreatDoorPartK
import Derived.Test.YtjbhehjoaalhiaaGreatDoorPartJ
import Derived.Test.YtjbhehjoaalhiaaGreatDoorPartI
import Derived.Test.YtjbhehjoaalhiaaGreatDoorPartH
import Derived.WalkKit
import Derived.OwnWalk
import Derived.Lib.SliceRun
import Derived.KernelRfl
import Derived.Test.YtjbhehjoaalhiaaGreatDoorRows
import Derived.ProofKit
import Derived.Deep.Slices
import Derived.Deep.Strs
import Derived.Lib.LaidTab
import Derived.LaidSub
set_option linter.unusedVariables false
set_option linter.unusedSimpArgs false
set_option linter.unusedSectionVars false
namespace Go.Abs.Tz
open Go Go.Abs Go.Proofs
set_option maxRecDepth 20000
set_option linter.unusedSimpArgs false
attribute [local simp ↓] gF gD uZ uY gd zX qW zk uX zU yq yr gG gI gJ gH jd jg jj je jk jl jh ji jf jb u9 jc ja yo ym yp yn gA gy gC gz gM gK gL ue zz jm qS jn gg yt yu gQ gT gS gN gO g8 jp jw jz jv jx jy j5 j3 jF jH uH uE uS uV uF uN uR uQ uP uO uL uA uB uC uD uT uJ uK uy uU uW uG uI uM uz jL jG jY j8 jI jT jX jW jV jU jR jD j0 jP jQ jA j7 j9 jJ jN jS jB gb j6 jC ga jO jK jM jE jZ jq ju jr gY g7 gW gZ g6 qm uo
attribute [local simp] faL fdL iaL ixL za q9 qN eqK eqL qL ze ut gV yk g9 yb yd yf yh yj ya ye yc yg zr LV.cells LV.whole qm uf zK jo stL zw zF zV qa.alloc ge gc gf gw gv gu gt gq gp gk gj gi gh qd ug
theorem qcf{n:Nat}(h:n+1<2^63):IntKind.wrap .i64 ((n:Int)+1)=((n+1:Nat):Int):=by
 rw[yX (by omega) (by omega)];omega
def qax(x:Lit):Bool:=x.atom.small&&(decide (x.a.s.size<=40)&&decide (x.b.s.size<=40))
def qaW:List Lit->Nat
 |[]=>0
 |x::r=>(if x.kind=1 then 1 else 0)+qaW r
def qak(c:qe):Bool:=c.body.all qax&&(c.head.small&&(decide (qaW c.body<=3)&&decide (c.body.length<=8)))
def qbk(mo:Nat)(l:List qe):Bool:=if 40<l.length then true else if l.all qak then decide (l.length<=mo) else false
theorem qoM:∀l:List Lit,qaW l<=l.length
 |[]=>Nat.le_refl _
 |x::r=>by
  have:=qoM r
  simp only[qaW,List.length_cons]
  split<;>omega
structure NNCq where
 i:Nat
 n:Nat
 c:Nat
theorem qkt(mo:Nat)(hmo:mo<=100)(l:List qe)(hb:∀c∈l,c.body.length<2^63):qg 15 [qF l,.int mo] (.bool (qbk mo l)):=by
 refine qg.of c15 fun H hH=>⟨Nat.le_of_ble_eq_true rfl,?_⟩
 by_cases h1:(40:Int)<(l.length:Int)
 ·simp(disch:=omega)[b15,h1]
  exact qq hH (by simp[qbk,show 40<l.length by omega])
 have hl40:l.length<=40:=by omega
 simp(disch:=omega)[b15,h1]
 obtain⟨A,hA⟩:∃A,l.all qak=A:=⟨_,rfl⟩
 have hB:qbk mo l=if A then decide (l.length<=mo) else false:=by unfold qbk;rw[if_neg (by omega),hA]
 obtain⟨Vv,hVv⟩:∃Vv,(if A then decide (l.length<=mo) else false)=Vv:=⟨_,rfl⟩
 rw[hB,hVv]
 refine qE (σ:=NN) (fun q=>(.nd (qF l) (.nd (.int mo) .nil (.nd (.int q.i) .nil .nil)) (.nd .bot (.nd (.bool false) .nil .nil) .nil))) (fun q=>⟨H.objs,q.n⟩) (fun q=>l.length - q.i)
  (fun q=>H.next<=q.n/\q.i<=l.length/\(l.drop q.i).all qak=A) ⟨0,H.next⟩ ⟨Nat.le_refl _,Nat.zero_le _,hA⟩ (by simp[FT.Le,Wk]) ⟨HWk.refl _,fun h=>h⟩ ?_
 rintro⟨i,n⟩ ⟨hn,hi,he⟩ hok
 simp only at hn hi he
 by_cases hlt:i<l.length
 case neg=>
  obtain rfl:i=l.length:=by omega
  rw[List.drop_eq_nil_of_le (Nat.le_refl _),List.all_nil]at he
  simp(disch:=omega)
  refine qcn hH ?_ (by first|exact qj.refl' _|(repeat (first|exact qj.refl (by first|omega|(dsimp only;omega))|refine qj.cons' hH (by first|omega|(dsimp only;omega)) (by first|omega|(dsimp only;omega)) ?_)))
  rw[<-hVv,<-he]
  simp
 rw[qbY qak hlt]at he
 have hbl:=hb _ (up hlt)
 obtain⟨D,hD⟩:∃D,l[i].body.all qax=D:=⟨_,rfl⟩
 obtain⟨M,hM⟩:∃M,qaW l[i].body=M:=⟨_,rfl⟩
 have hC:qak l[i]=(D&&(l[i].head.small&&(decide (M<=3)&&decide (l[i].body.length<=8)))):=by unfold qak;rw[hD,hM]
 rw[hC]at he
 have hML:M<=l[i].body.length:=by rw[<-hM];exact qoM _
 simp(disch:=omega)[hlt]
 refine qE (σ:=NNCq) (fun q=>(.nd (qF l) (.nd (.int mo) (.nd .bot (.nd (.int q.i) .nil .nil) .nil) (.nd (.int i) .nil .nil)) (.nd .bot (.nd (.bool false) .nil .nil) (.nd (.int q.c) .nil .nil)))) (fun q=>⟨H.objs,q.n⟩) (fun q=>l[i].body.length - q.i)
  (fun q=>H.next<=q.n/\q.i<=l[i].body.length/\q.c+qaW (l[i].body.drop q.i)=M/\(l[i].body.drop q.i).all qax=D) ⟨0,n,0⟩ ⟨hn,Nat.zero_le _,by simpa using hM,hD⟩ (by simp[FT.Le,Wk]) ⟨HWk.refl _,fun h=>h⟩ ?_
 rintro⟨j,n2,cn⟩ ⟨hn2,hj,hcn,he2⟩ hok2
 dsimp only at hn2 hj hcn he2
 by_cases hlt2:j<l[i].body.length
 case neg=>
  rw[List.drop_eq_nil_of_le (by omega)]at hcn he2
  simp only[qaW,List.all_nil,Nat.add_zero]at hcn he2
  subst hcn
  subst he2
  rw[Bool.true_and]at he
  simp(disch:=omega)[hlt,hlt2]
  refine(qfR l[i].head).go fun n3 hn3=>?_
  cases hs:l[i].head.small
  ·rw[hs,Bool.false_and,Bool.false_and]at he
   simp(disch:=omega)
   exact qq hH (by simp[<-hVv,<-he])
  rw[hs,Bool.true_and]at he
  by_cases h3:cn<=3
  case neg=>
   have h3':(3:Int)<(cn:Int):=by omega
   have h3n:3<cn:=by omega
   simp only[h3,decide_false,Bool.false_and]at he
   simp(disch:=omega)[h3',h3n]
   exact qq hH (by simp[<-hVv,<-he])
  have h3':¬(3:Int)<(cn:Int):=by omega
  have h3n:¬3<cn:=by omega
  by_cases h8:l[i].body.length<=8
  case neg=>
   have h8':(8:Int)<(l[i].body.length:Int):=by omega
   have h8n:8<l[i].body.length:=by omega
   simp only[h3,h8,decide_false,Bool.and_false,Bool.false_and]at he
   simp(disch:=omega)[h3',h3n,h8',h8n,hlt]
   exact qq hH (by simp[<-hVv,<-he])
  have h8':¬(8:Int)<(l[i].body.length:Int):=by omega
  have h8n:¬8<l[i].body.length:=by omega
  simp only[h3,h8,decide_true,Bool.and_true,Bool.true_and]at he
  simp(disch:=omega)[h3',h3n,h8',h8n,hlt,qw (show i<2^62 by omega)]
  exact⟨⟨i+1,n3⟩,by dsimp only;omega,⟨by dsimp only;omega,by dsimp only;omega,he⟩,by simp[FT.Le,Wk],HWk.refl _,fun h=>h⟩
 rw[qbY qax hlt2]at he2
 rw[List.drop_eq_getElem_cons hlt2]at hcn
 simp only[qaW]at hcn
 have hdone:qax l[i].body[j]=false->Vv=false:=by
  intro h
  rw[<-hVv]
  rw[h,Bool.false_and]at he2
  rw[<-he2,Bool.false_and,Bool.false_and]at he
  rw[<-he];rfl
 have hnext:qax l[i].body[j]=true->(l[i].body.drop (j+1)).all qax=D:=by
  intro h
  rw[h,Bool.true_and]at he2
  exact he2
 have hcnj:∃cn2:Nat,(if l[i].body[j].kind=1 then IntKind.wrap .i64 ((cn:Int)+1) else (cn:Int))=(cn2:Int)/\cn2+qaW (l[i].body.drop (j+1))=M:=by
  by_cases hk:l[i].body[j].kind=1
  ·rw[if_pos hk]at hcn ⊢
   exact⟨cn+1,qcf (by omega),by omega⟩
  ·rw[if_neg hk]at hcn ⊢
   exact⟨cn,rfl,by omega⟩
 obtain⟨cn2,hc1,hc2⟩:=hcnj
 have hback:∀(x:qc)(n':Nat),H.next<=n'->H.next<=n2->HWk ⟨(n2,x)::H.objs,n'⟩ ⟨H.objs,n'⟩/\(qa.Ok ⟨(n2,x)::H.objs,n'⟩->qa.Ok ⟨H.objs,n'⟩):=fun x n' h1 h2=>zO hH (qj.cons' hH h2 h1 (qj.refl (Nat.le_refl _)))
 by_cases hk:l[i].body[j].kind=1
 all_goals
  first|rw[if_pos hk]at hc1|rw[if_neg hk]at hc1
  simp(disch:=omega)[hlt,hlt2,hk]
  refine(qfR l[i].body[j].atom).go fun n3 hn3=>?_
  cases hs:l[i].body[j].atom.small
  ·have:=hdone (by unfold qax;rw[hs];rfl)
   simp(disch:=omega)
   exact qq hH (by simp[this])
  by_cases ha:(40:Int)<(l[i].body[j].a.s.size:Int)
  ·have:=hdone (by
    unfold qax
    rw[hs,show decide (l[i].body[j].a.s.size<=40)=false from decide_eq_false (by omega)];rfl)
   simp(disch:=omega)[ha]
   exact qq hH (by simp[this])
  by_cases hb2:(40:Int)<(l[i].body[j].b.s.size:Int)
  ·have:=hdone (by
    unfold qax
    rw[hs,show decide (l[i].body[j].b.s.size<=40)=false from decide_eq_false (by omega),Bool.and_false];rfl)
   simp(disch:=omega)[ha,hb2]
   exact qq hH (by simp[this])
  have:=hnext (by
   unfold qax
   rw[hs,show decide (l[i].body[j].a.s.size<=40)=true from decide_eq_true (by omega),show decide (l[i].body[j].b.s.size<=40)=true from decide_eq_true (by omega)];rfl)
  simp(disch:=omega)[ha,hb2,hc1,qcf (show j+1<2^63 by omega)]
  exact⟨⟨j+1,n3,cn2⟩,by dsimp only;omega,⟨by dsimp only;omega,by dsimp only;omega,hc2,this⟩,by simp[FT.Le,Wk,hc1],hback _ _ (by first|omega|(dsimp only at hn3 ⊢;omega)) (by omega)⟩
theorem qhD{c:qe}(h:qak c=true):qe.ok3 c:=by
 unfold qak at h
 simp only[Bool.and_eq_true,decide_eq_true_iff,List.all_eq_true]at h
 obtain⟨h1,h2,h3,h4⟩:=h
 have hb:∀x∈c.body,x.atom.ok/\x.a.s.size<=40/\x.b.s.size<=40:=fun x hx=>by
  have:=h1 x hx
  unfold qax at this
  simp only[Bool.and_eq_true,decide_eq_true_iff]at this
  exact⟨Atom.small_ok this.1,this.2.1,this.2.2⟩
 exact⟨⟨Atom.small_ok h2,by omega,fun x hx=>⟨(hb x hx).1,by have:=(hb x hx).2.1;unfold Term.ok;omega,by have:=(hb x hx).2.2;unfold Term.ok;omega⟩⟩,⟨Atom.small_ok h2,by omega,fun x hx=>(hb x hx).1⟩⟩
def qcj(l:List Atom):Bool:=if 100<l.length then true else if l.all Atom.small then decide (l.length<=12) else false
theorem qqJ(l:List Atom)(hl:l.length<2^63):qg 20 [.sl (l.map qh) .no] (.bool (qcj l)):=by
 refine qg.of c20 fun H hH=>⟨Nat.le_of_ble_eq_true rfl,?_⟩
 by_cases h1:(100:Int)<(l.length:Int)
 ·simp(disch:=omega)[b20,h1]
  exact qq hH (by simp[qcj,show 100<l.length by omega])
 have hl100:l.length<=100:=by omega
 simp(disch:=omega)[b20,h1]
 obtain⟨A,hA⟩:∃A,l.all Atom.small=A:=⟨_,rfl⟩
 have hB:qcj l=if A then decide (l.length<=12) else false:=by unfold qcj;rw[if_neg (by omega),hA]
 obtain⟨Vv,hVv⟩:∃Vv,(if A then decide (l.length<=12) else false)=Vv:=⟨_,rfl⟩
 rw[hB,hVv]
 refine qE (σ:=NN) (fun q=>(.nd (.sl (l.map qh) .no) (.nd .bot (.nd (.int q.i) .nil .nil) .nil) (.nd (.bool false) .nil .nil))) (fun q=>⟨H.objs,q.n⟩) (fun q=>l.length - q.i)
  (fun q=>H.next<=q.n/\q.i<=l.length/\(l.drop q.i).all Atom.small=A) ⟨0,H.next⟩ ⟨Nat.le_refl _,Nat.zero_le _,hA⟩ (by simp[FT.Le,Wk]) ⟨HWk.refl _,fun h=>h⟩ ?_
 rintro⟨i,n⟩ ⟨hn,hi,he⟩ hok
 simp only at hn hi he
 by_cases hlt:i<l.length
 case neg=>
  obtain rfl:i=l.length:=by omega
  rw[List.drop_eq_nil_of_le (Nat.le_refl _),List.all_nil]at he
  simp(disch:=omega)
  refine qcn hH ?_ (by first|exact qj.refl' _|(repeat (first|exact qj.refl (by first|omega|(dsimp only;omega))|refine qj.cons' hH (by first|omega|(dsimp only;omega)) (by first|omega|(dsimp only;omega)) ?_)))
  rw[<-hVv,<-he]
  simp
  try omega
 rw[qbY Atom.small hlt]at he
 simp(disch:=omega)[hlt]
 refine(qfR l[i]).go fun n3 hn3=>?_
 cases hs:l[i].small
 ·rw[hs,Bool.false_and]at he
  simp(disch:=omega)
  exact qq hH (by simp[<-hVv,<-he])
 rw[hs,Bool.true_and]at he
 simp(disch:=omega)[qw (show i<2^62 by omega)]
 exact⟨⟨i+1,n3⟩,by dsimp only;omega,⟨by dsimp only;omega,by dsimp only;omega,he⟩,by simp[FT.Le,Wk],HWk.refl _,fun h=>h⟩
def inB(B:List Atom)(a:Atom):Bool:=B.any fun b=>decide (cmpA a b=0)
def qfN(A B:List Atom):Bool:=A.all (inB B)
theorem quB{B:List Atom}{a:Atom}:inB B a=true↔a∈B:=by
 unfold inB
 rw[List.any_eq_true]
 constructor
 ·rintro⟨x,hx,h⟩
  rw[y9.zero.1 (of_decide_eq_true h)]
  exact hx
 ·intro h
  exact⟨a,h,by simp[y9.refl a]⟩
structure NNWi where
 i:Nat
 n:Nat
 is:Bool
theorem qo(A B:List Atom)(o1 o2:Own)(hA:A.length<2^63)(hB:B.length<2^63)(ha:∀a∈A,a.ok)(hbo:∀a∈B,a.ok):qg 39 [.sl (A.map qh) o1,.sl (B.map qh) o2] (.bool (qfN A B)):=by
 refine qg.of c39 fun H hH=>⟨Nat.le_of_ble_eq_true rfl,?_⟩
 simp(disch:=omega)[b39]
 obtain⟨V,hV⟩:∃V,qfN A B=V:=⟨_,rfl⟩
 rw[hV]
 refine qE (σ:=NN) (fun q=>(.nd (.sl (A.map qh) o1) (.nd (.sl (B.map qh) o2) .nil (.nd (.int q.i) .nil .nil)) (.nd .bot (.nd (.bool false) .nil .nil) .nil))) (fun q=>⟨H.objs,q.n⟩) (fun q=>A.length - q.i)
  (fun q=>H.next<=q.n/\q.i<=A.length/\(A.drop q.i).all (inB B)=V) ⟨0,H.next⟩ ⟨Nat.le_refl _,Nat.zero_le _,hV⟩ (by simp[FT.Le,Wk]) ⟨HWk.refl _,fun h=>h⟩ ?_
 rintro⟨i,n⟩ ⟨hn,hi,he⟩ hok
 simp only at hn hi he
 by_cases hlt:i<A.length
 case neg=>
  obtain rfl:i=A.length:=by omega
  rw[List.drop_eq_nil_of_le (Nat.le_refl _),List.all_nil]at he
  simp(disch:=omega)
  exact qq hH (by simp[<-he])
 rw[qbY (inB B) hlt]at he
 have hai:=ha _ (List.getElem_mem hlt)
 obtain⟨D,hD⟩:∃D,inB B A[i]=D:=⟨_,rfl⟩
 rw[hD]at he
 simp(disch:=omega)[hlt]
 refine qE (σ:=NNWi) (fun q=>(.nd (.sl (A.map qh) o1) (.nd (.sl (B.map qh) o2) (.nd .bot (.nd (.int q.i) .nil .nil) .nil) (.nd (.int i) .nil .nil)) (.nd .bot (.nd (.bool false) .nil .nil) (.nd (.bool q.is) .nil .nil)))) (fun q=>⟨H.objs,q.n⟩) (fun q=>B.length - q.i)
  (fun q=>H.next<=q.n/\q.i<=B.length/\(q.is||(B.drop q.i).any fun b=>decide (cmpA A[i] b=0))=D) ⟨0,n,false⟩ ⟨hn,Nat.zero_le _,by simpa [inB] using hD⟩ (by simp[FT.Le,Wk]) ⟨HWk.refl _,fun h=>h⟩ ?_
 rintro⟨j,n2,is⟩ ⟨hn2,hj,he2⟩ hok2
 dsimp only at hn2 hj he2
 by_cases hlt2:j<B.length
 case neg=>
  rw[List.drop_eq_nil_of_le (by omega),List.any_nil,Bool.or_false]at he2
  subst he2
  cases is
  ·rw[Bool.false_and]at he
   simp(disch:=omega)[hlt,hlt2]
   exact qq hH (by simp[<-he])
  ·rw[Bool.true_and]at he
   simp(disch:=omega)[hlt,hlt2,qcf (show i+1<2^63 by omega)]
   exact⟨⟨i+1,n2⟩,by dsimp only;omega,⟨by dsimp only;omega,by dsimp only;omega,he⟩,by simp[FT.Le,Wk],HWk.refl _,fun h=>h⟩
 rw[List.drop_eq_getElem_cons hlt2,List.any_cons]at he2
 have hbj:=hbo _ (List.getElem_mem hlt2)
 cases is
 ·simp(disch:=omega)[hlt,hlt2]
  refine(qkO A[i] B[j] hai hbj).go fun n3 hn3=>?_
  by_cases hz:cmpA A[i] B[j]=0
  ·simp(disch:=omega)[hz,qcf (show j+1<2^63 by omega)]
   exact⟨⟨j+1,n3,true⟩,by dsimp only;omega,⟨by dsimp only;omega,by dsimp only;omega,by simpa [hz] using he2⟩,by simp[FT.Le,Wk],HWk.refl _,fun h=>h⟩
  ·simp(disch:=omega)[hz,qcf (show j+1<2^63 by omega)]
   exact⟨⟨j+1,n3,false⟩,by dsimp only;omega,⟨by dsimp only;omega,by dsimp only;omega,by simpa [hz] using he2⟩,by simp[FT.Le,Wk],HWk.refl _,fun h=>h⟩
 ·simp(disch:=omega)[hlt,hlt2,qcf (show j+1<2^63 by omega)]
  exact⟨⟨j+1,n2,true⟩,by dsimp only;omega,⟨by dsimp only;omega,by dsimp only;omega,by simpa using he2⟩,by simp[FT.Le,Wk],HWk.refl _,fun h=>h⟩
theorem qwr{f:FuncId}{a a' b b':LV}{H H':qa}{kv kp:HP}(hw:Wk a a')(hw2:Wk b b')(hh:HWk H H')(hok:H.Ok->H'.Ok)(h:cP E0 F0 f [a',b'] H' kv kp):cP E0 F0 f [a,b] H kv kp:=fun hH=>
 .weakArgs (args':=[a',b']) rfl (fun i=>by
  match i with
  |0=>exact hw
  |1=>exact hw2
  |n+2=>exact .inl rfl) hh (h (hok hH))
theorem qrU(l:List qe)(ow:Own):Wk (.sl (l.map yU) ow) (qF l):=by
 refine .inr (.inl ?_)
 simp[LV.strip,stripL,qdC,List.map_map,Function.comp_def]
theorem qoS(l:List qe):((l.map yU).all fun e=>e.cells.length==3)=true:=by
 rw[List.all_eq_true]
 intro e he
 obtain⟨c,_,rfl⟩:=List.mem_map.1 he
 rfl
abbrev qU(c:qf):List LV:=[.int c.id,.int c.fr,.int c.to,qF c.cls]
abbrev qA(c:qf):LV:=.agg (qU c)
theorem vA.mono{H:qa}{sz len:Nat}{own:Own}{ob:List (Nat×qc)}{n m:Nat}(h:vA H sz len own ob n)(hm:n<=m):vA H sz len own ob m:=by
 rcases h with⟨h1,h2,h3⟩|⟨t,h1,h2,h3,h4⟩
 ·exact .inl ⟨h1,h2,by omega⟩
 ·exact .inr ⟨t,h1,h2,by omega,h4⟩
theorem qhK{H:qa}(hH:H.Ok){sz:Nat}{es Y:List LV}{own:Own}{ob:List (Nat×qc)}{n m k:Nat}{cs:qc}(hsz:0<sz/\sz<=2^10)(hes:(es.all fun e=>e.cells.length==sz)=true)(hY:(Y.all fun e=>e.cells.length==sz)=true)
  (hl:es.length+Y.length<=2^30) (h:vA H sz es.length own ob n) (hm:n<=m) (hk:m<k):
  ∃own' ob' ob2 n',(∀ow,apL ⟨(m,cs)::ob,k⟩ sz (.sl es own) (.sl Y ow)=some (.sl (es++Y) own',⟨ob',n'⟩))/\vA H sz (es.length+Y.length) own' ob2 n'/\k<=n'/\HWk ⟨ob',n'⟩ ⟨ob2,n'⟩/\(qa.Ok ⟨ob',n'⟩->qa.Ok ⟨ob2,n'⟩):=by
 rcases h with⟨rfl,rfl,h⟩|⟨t,rfl,h1,h2,rfl⟩
 ·have hD:qt H.objs m:=qt.mono hH (by omega)
  refine⟨.tok k,(k,.tok (es.length+Y.length) sz)::(m,cs)::H.objs,(k,.tok (es.length+Y.length) sz)::H.objs,k+1,fun ow=>?_,.inr ⟨k,rfl,by omega,Nat.lt_succ_self _,rfl⟩,Nat.le_succ _,qbu hD fun _ _ h=>h,fun _=>⟨Nat.lt_succ_self _,hD.mono (by omega)⟩⟩
  unfold apL
  simp only
  rw[hes,hY]
  simp only[Bool.and_self,if_true]
  rw[if_pos ⟨hl,hsz.2,rfl⟩]
  rfl
 ·have hD:qt ((t,qc.tok (es.length+Y.length) sz)::H.objs) m:=⟨by omega,qt.mono hH h1⟩
  refine⟨.tok t,(m,cs)::(t,.tok (es.length+Y.length) sz)::H.objs,(t,.tok (es.length+Y.length) sz)::H.objs,k,fun ow=>?_,.inr ⟨t,rfl,h1,by omega,rfl⟩,Nat.le_refl _,vl hD (Nat.le_refl _),fun _=>hD.mono (by dsimp only;omega)⟩
  have hlk:look t ((m,cs)::(t,.tok es.length sz)::H.objs)=some (.tok es.length sz):=by rw[qd (by omega)];exact qm _ _ _
  have hcan:qaG ⟨(m,cs)::(t,.tok es.length sz)::H.objs,k⟩ sz (.tok t) es.length=true:=by
   have:sz≠0:=by omega
   simp[qaG,hlk,this]
  unfold apL
  simp only
  rw[hes,hY]
  simp only[Bool.and_self,if_true]
  rw[if_pos ⟨hl,hsz.2,hcan⟩]
  have hp:qx t (.tok (es.length+Y.length) sz) ((m,cs)::(t,.tok es.length sz)::H.objs)=(m,cs)::(t,.tok (es.length+Y.length) sz)::H.objs:=by
   rw[ug (by omega),zK]
  simp only[qa.put,hp]
theorem vA.keep{H:qa}(hH:H.Ok){sz len:Nat}{own:Own}{ob:List (Nat×qc)}{n m:Nat}(h:vA H sz len own ob n):HWk ⟨ob,m⟩ ⟨H.objs,m⟩:=by
 refine⟨Nat.le_refl _,fun i x hx=>?_⟩
 have:=hH.look hx
 show look i ob=some x
 rw[h.old.2 i this]
 exact hx
theorem quA(y w:Int)(c:qf):inF y w c=((decide (c.fr<=y)&&decide (y<=c.to))&&decide (c.id≠w)):=by
 unfold inF
 rw[Bool.and_assoc]
structure NNcF where
 i:Nat
 n:Nat
 es:List qe
 own:Own
 ob:List (Nat×qc)
theorem quW{l:List qf}{i:Nat}(h:i<l.length)(y w:Int):ql (l.drop i) y w=(if inF y w l[i] then l[i].cls else [])++ql (l.drop (i+1)) y w:=by
 rw[List.drop_eq_getElem_cons h]
 rfl
theorem qdB(l:List qf)(own:Own)(y w:Int)(hl:l.length<=2^20)(hF:(ql l y w).length<=2^20):qg 69 [.sl (l.map qA) own,.int y,.int w] (qF (ql l y w)):=by
 intro H kv kp hk
 refine qjq c69 fun hH=>⟨Nat.le_of_ble_eq_true rfl,?_⟩
 simp(disch:=omega)[b69]
 obtain⟨L,hL⟩:∃L,ql l y w=L:=⟨_,rfl⟩
 rw[hL]at hF hk
 refine qE (σ:=NNcF) (fun q=>(.nd .bot (.nd (.int y) (.nd .bot (.nd (.sl (q.es.map yU) q.own) .nil .nil) (.nd (.int l.length) .nil .nil)) .nil) (.nd (.int w) (.nd .bot .nil (.nd (.int q.i) .nil .nil)) (.nd .bot (.nd (.sl (l.map qA) own) .nil .nil) .nil)))) (fun q=>⟨q.ob,q.n⟩) (fun q=>l.length - q.i)
  (fun q=>vA H 3 q.es.length q.own q.ob q.n/\H.next<=q.n/\q.i<=l.length/\q.es++ql (l.drop q.i) y w=L) ⟨0,H.next,[],.full,H.objs⟩ ⟨.inl ⟨rfl,rfl,Nat.le_refl _⟩,Nat.le_refl _,Nat.zero_le _,hL⟩ (by simp[FT.Le,Wk]) ⟨HWk.refl _,fun h=>h⟩ ?_
 rintro⟨i,n,es,ow,ob⟩ ⟨hr,hn,hi,he⟩ hok
 dsimp only at hr hn hi he hok
 by_cases hlt:i<l.length
 case neg=>
  rw[List.drop_eq_nil_of_le (by omega)]at he
  have he2:es=L:=by simpa [ql] using he
  subst he2
  simp(disch:=omega)[hlt]
  exact⟨qF es,qrU es ow,⟨H.objs,n⟩,hr.keep hH,fun _=>qt.mono hH hn,hk n hn⟩
 rw[quW hlt]at he
 have hel:es.length<=2^20:=by
  have:=congrArg List.length he
  rw[List.length_append]at this
  omega
 simp(disch:=omega)[hlt]
 refine(qey y l[i].fr l[i].to).go fun n2 hn2=>?_
 obtain⟨B,hB⟩:∃B,(decide (l[i].fr<=y)&&decide (y<=l[i].to))=B:=⟨_,rfl⟩
 have hin:=quA y w l[i]
 rw[hB]at hin ⊢
 cases B
 ·rw[Bool.false_and]at hin
  rw[hin,if_neg (by simp),List.nil_append]at he
  simp(disch:=omega)[qw (show i<2^62 by omega)]
  exact⟨⟨i+1,n2,es,ow,ob⟩,by dsimp only;omega,⟨hr.mono (by dsimp only;omega),by dsimp only;omega,by dsimp only;omega,he⟩,by simp[FT.Le,Wk],vl hok (Nat.le_refl _),fun _=>qt.mono hok (by dsimp only;omega)⟩
 rw[Bool.true_and]at hin
 by_cases hid:l[i].id=w
 ·rw[hid]at hin
  have hin:inF y w l[i]=false:=by simpa using hin
  rw[hin,if_neg (by simp),List.nil_append]at he
  simp(disch:=omega)[hid,qw (show i<2^62 by omega)]
  exact⟨⟨i+1,n2,es,ow,ob⟩,by dsimp only;omega,⟨hr.mono (by dsimp only;omega),by dsimp only;omega,by dsimp only;omega,he⟩,by simp[FT.Le,Wk],vl hok (Nat.le_refl _),fun _=>qt.mono hok (by dsimp only;omega)⟩
 have hin:inF y w l[i]=true:=by simpa [hid] using hin
 rw[hin,if_pos rfl,<-List.append_assoc]at he
 simp(disch:=omega)[hid]
 refine qbS ?_
 simp(disch:=omega)
 obtain⟨Y,hY⟩:∃Y,l[i].cls=Y:=⟨_,rfl⟩
 rw[hY]at he ⊢
 have hYl:es.length+Y.length<=2^20:=by
  have:=congrArg List.length he
  rw[List.length_append,List.length_append]at this
  omega
 obtain⟨own2,ob2,ob3,n3,e1,hr3,hn3,hw3,ho3⟩:=qhK (m:=n) (k:=n2) (cs:=.cells [.int l[i].id,.int l[i].fr,.int l[i].to,qF Y]) hH (sz:=3) (es:=es.map yU) (Y:=Y.map yU) (by omega) (qoS es) (qoS Y) (by rw[List.length_map,List.length_map];omega) (by rw[List.length_map];exact hr) (Nat.le_refl _) (by omega)
 rw[List.length_map,List.length_map]at hr3
 rw[e1]
 simp(disch:=omega)[qw (show i<2^62 by omega)]
 exact⟨⟨i+1,n3,es++Y,own2,ob3⟩,by dsimp only;omega,⟨by rw[List.length_append];exact hr3,by dsimp only;omega,by dsimp only;omega,he⟩,by simp[FT.Le,Wk],hw3,ho3⟩
end Go.Abs.Tz
set_option maxRecDepth 100000
namespace Go.Abs.Tz
open Go Go.Abs Go.Proofs Go.Shelf Go.RowKit Go.Lib Go.Sort
theorem qoK:∀(l:List Int)(z:Int),ua (l++[z])=if l.getLast? = some z then ua l else ua l++[z]
 |[],z=>by simp[ua]
 |[x],z=>by
  simp only[List.cons_append,List.nil_append,ua,List.getLast?_singleton,Option.some.injEq]
  by_cases h:x=z<;>simp[h]
 |x::y::r,z=>by
  have ih:=qoK (y::r) z
  rw[List.cons_append]at ih
  simp only[List.cons_append,List.getLast?_cons_cons]
  unfold ua
  by_cases h:x=y
  ·rw[if_pos h,if_pos h]
   exact ih
  ·rw[if_neg h,if_neg h]
   rw[ih]
   split<;>simp
theorem qwb(zs:List Int):Lib.compact zs=ua zs:=by
 have key:∀m,m<=zs.length->compactUpTo zs.toArray m=ua (zs.take m):=by
  intro m
  induction m with
  |zero=>intro _;rfl
  |succ m ih=>
   intro hm
   have hlt:m<zs.length:=by omega
   have e1:zs.take (m+1)=zs.take m++[zs[m]]:=by rw[List.take_add_one,List.getElem?_eq_getElem hlt];rfl
   have e2:zs.toArray[m]! = zs[m]:=by rw[getElem!_pos zs.toArray m (by simpa using hlt)];simp
   rw[compactUpTo_succ,ih (by omega),e1,qoK,e2]
   cases m with
   |zero=>simp[keeps,ua]
   |succ k=>
    have e3:(zs.take (k+1)).getLast? = some zs[k]:=by
     rw[List.getLast?_eq_getElem?,List.length_take,Nat.min_eq_left (by omega)]
     rw[List.getElem?_take,if_pos (by omega),Nat.add_sub_cancel,List.getElem?_eq_getElem (by omega)]
    have e4:zs.toArray[k]! = zs[k]:=by rw[getElem!_pos zs.toArray k (by simp;omega)];simp
    rw[e3]
    unfold keeps
    rw[e2,Nat.add_sub_cancel,e4]
    by_cases h:zs[k]=zs[k+1]
    ·simp[h]
    ·have h':¬zs[k+1]=zs[k]:=fun e=>h e.symm
     simp[h,h']
 have:=key zs.length (Nat.le_refl _)
 rw[List.take_length]at this
 exact this
theorem qoL:∀l:List Int,(ua l).length<=l.length
 |[]=>Nat.le_refl _
 |[x]=>Nat.le_refl _
 |x::y::r=>by
  have ih:=qoL (y::r)
  unfold ua
  split
  ·simp only[List.length_cons]at ih ⊢;omega
  ·simp only[List.length_cons]at ih ⊢;omega
abbrev yP(A:List Int):qc:=.arr 1 (A.map LV.int)
section
variable{G:qb}{w:World}{H:qa}{o:Nat}{A:List Int}
theorem qnw(hI:Inv G w H)(hlo:look o H.objs=some (yP A)):Holds (Value.int .i64) w (G.loc o) 0 A.toArray:=by
 obtain⟨hob,vs,el,fz,c1,c2,c3,⟨d1,d2,d3⟩,c4,c5,c6⟩:=hI.objs o _ hlo
 intro j hj
 have hj':j<A.length:=by simpa using hj
 refine⟨?_,by rw[Nat.zero_add];exact c5 _⟩
 obtain⟨hv,_⟩:=c6 j (.int A[j]) (by rw[List.getElem?_map,List.getElem?_eq_getElem hj'];rfl)
 have hv:=hv.sc_inv
 have hjv:j<vs.size:=by
  have:(A.map LV.int).length=A.length:=List.length_map _
  omega
 unfold World.cell?
 rw[c1,Nat.zero_add]
 simp only[Array.getD_eq_getD_getElem?,Array.getElem?_eq_getElem hjv,Option.getD_some]at hv
 simp only[Array.getElem?_eq_getElem hjv,hv]
 rw[getElem!_pos A.toArray j hj]
 simp
theorem qkm(hI:Inv G w H)(hlo:look o H.objs=some (yP A)){B:List Int}(hB:B.length=A.length)(n:Nat)(os:Array Obj):
  Ext G w G (grow (putRow (Value.int .i64) (Sort.ahead w n) (G.loc o) 0 B.toArray) os)/\Inv G (grow (putRow (Value.int .i64) (Sort.ahead w n) (G.loc o) 0 B.toArray) os) (H.put o (yP B)):=by
 obtain⟨hob,vs,el,fz,c1,c2,c3,⟨d1,d2,d3⟩,c4,c5,c6⟩:=hI.objs o _ hlo
 have hlt:G.loc o<w.heap.size:=(Array.getElem?_eq_some_iff.1 c1).1
 have hml:∀C:List Int,(C.map LV.int).length=C.length:=fun C=>List.length_map _
 have hw1:(grow (putRow (Value.int .i64) (Sort.ahead w n) (G.loc o) 0 B.toArray) os).heap=(w.heap.modify (G.loc o) (onCells (putCells (Value.int .i64) 0 B.toArray)))++os:=rfl
 have hw2:∀k,k<w.heap.size->(grow (putRow (Value.int .i64) (Sort.ahead w n) (G.loc o) 0 B.toArray) os).heap[k]? = (w.heap.modify (G.loc o) (onCells (putCells (Value.int .i64) 0 B.toArray)))[k]?:=fun k hk=>by
  rw[hw1,Array.getElem?_append_left (by simpa using hk)]
 refine Inv.arr_turn (cs':=B.map LV.int) (vs':=putCells (Value.int .i64) 0 B.toArray vs) hI hlo c1 rfl rfl rfl (by rw[hw1];simp) (fun k hk hne=>by
   rw[hw2 k hk,Array.getElem?_modify,if_neg (fun e=>hne e.symm)]) (by
   rw[hw2 _ hlt,Array.getElem?_modify,if_pos rfl,c1];rfl) (by simp[putCells]) (by rw[hml,hml,hB]) (fun i c hc=>?_)
 have hi:i<B.length:=by
  have:=(List.getElem?_eq_some_iff.1 hc).1
  rw[hml]at this;exact this
 rw[List.getElem?_map,List.getElem?_eq_getElem hi]at hc
 cases hc
 have hi3:i<vs.size:=by have:=hml A;omega
 have e:(putCells (Value.int .i64) 0 B.toArray vs).getD i undef=.int .i64 B[i]:=by
  unfold putCells
  rw[Array.getD_eq_getD_getElem?,Array.getElem?_mapIdx,Array.getElem?_eq_getElem hi3]
  simp only[Option.map_some,Option.getD_some,Nat.zero_le,true_and,Nat.zero_add,Nat.sub_zero,List.size_toArray,hi,if_true]
  rw[getElem!_pos B.toArray i (by simpa using hi)]
  simp
 rw[e]
 exact⟨.sc _,rfl⟩
theorem quL(w:World):grow w #[]=w:=by
 cases w
 simp[grow]
end
theorem qqF(A:List Int)(o:Nat)(ob:List (Nat×qc))(nx:Nat)(hlo:look o ob=some (yP A))(hA:A.length<2^40){kv kp:HP}
  (hk:∀B:List Int,B.Perm A->(B.Pairwise fun x y=>x<=y)->kv (.tup []) ⟨qx o (yP B) ob,nx⟩):
  cP E0 F0 146 [.asl o 0 A.length] ⟨ob,nx⟩ kv kp:=by
 intro hH
 refine .prim (show qV Tryz.prog E0 _ _ _ _ from ⟨qjg _ c146,fun G w us hI hE ha=>?_⟩)
 obtain⟨u0,rfl,h0⟩:=qcF ha
 cases h0 with
 |@asl _ _ _ cap ho hlc hcap=>
 rw[Nat.zero_mul]
 have c1:=hI.objs o _ hlo
 obtain⟨_,vs,el,fz,c1,_⟩:=c1
 have hlt:G.loc o<w.heap.size:=(Array.getElem?_eq_some_iff.1 c1).1
 refine Calls.mono (Tryz.slices_Sort_int (G.loc o) 0 cap A w (qnw hI hlo) hlt (by omega)) ?_
 rintro e w' ⟨rfl,n,os,rfl⟩
 have hp:=List.mergeSort_perm A fun x y=>decide (x<=y)
 have hs:(A.mergeSort fun x y=>decide (x<=y)).Pairwise fun x y=>x<=y:=by
  have:=List.pairwise_mergeSort (le:=fun x y:Int=>decide (x<=y)) (fun a b c h1 h2=>by simp at h1 h2 ⊢;omega) (fun a b=>by simp;omega) A
  exact this.imp fun h=>of_decide_eq_true h
 have hq:=qkm hI hlo (B:=A.mergeSort fun x y=>decide (x<=y)) hp.length_eq n os
 exact⟨.tup [],_,G,.inl ⟨_,_,rfl,qt.put hH,hk _ hp hs⟩,.tup rfl (fun _ _ h=>by simp at h),hq.2,hq.1⟩
theorem qrs(A:List Int)(o:Nat)(ob:List (Nat×qc))(nx:Nat)(hlo:look o ob=some (yP A))(hA:A.length<2^40){kv kp:HP}
  (hk:∀rest:List Int,kv (.asl o 0 (ua A).length) ⟨qx o (yP (ua A++rest)) ob,nx⟩):
  cP E0 F0 147 [.asl o 0 A.length] ⟨ob,nx⟩ kv kp:=by
 intro hH
 refine .prim (show qV Tryz.prog E0 _ _ _ _ from ⟨qjg _ c147,fun G w us hI hE ha=>?_⟩)
 obtain⟨u0,rfl,h0⟩:=qcF ha
 cases h0 with
 |@asl _ _ _ cap ho hlc hcap=>
 rw[Nat.zero_mul]
 have c1:=hI.objs o _ hlo
 obtain⟨_,vs,el,fz,c1,_⟩:=c1
 refine Calls.mono (Tryz.slices_Compact_int (G.loc o) 0 cap A w (qnw hI hlo) (by omega) hlc) ?_
 rintro e w' ⟨rfl,q,rfl⟩
 rw[qwb]
 have hcl:=qoL A
 have hq:=qkm hI hlo (B:=ua A++List.replicate (A.length - (ua A).length) 0) (by rw[List.length_append,List.length_replicate];omega) q #[]
 rw[quL]at hq
 refine⟨.asl o 0 (ua A).length,_,G,.inl ⟨_,_,rfl,qt.put hH,hk _⟩,?_,hq.2,hq.1⟩
 have:=VR.asl (G:=G) (w:=putRow (Value.int .i64) (Sort.ahead w q) (G.loc o) 0 (ua A++List.replicate (A.length - (ua A).length) 0).toArray) (o:=o) (off:=0) (len:=(ua A).length) (cap:=cap) ho (by omega) hcap
 rw[Nat.zero_mul]at this
 exact this
end Go.Abs.Tz
namespace Go.Abs.Tz
open Go Go.Abs Go.Proofs
theorem qmD{p:Int->Bool}{l k:List Int}{a:Int}(h:∀x∈l,p x=true->x<=a\/x∈k):qae p l a<=qae p k a:=by
 obtain⟨_,_,h3⟩:=qeV p l a
 obtain⟨k1,k2,_⟩:=qeV p k a
 rcases h3 with h3|⟨y,hy,hp,h3⟩
 ·omega
 ·rcases h y hy hp with h|h
  ·omega
  ·have:=k2 y h hp
   omega
theorem qmz{p:Int->Bool}{l k:List Int}{a:Int}(h:∀x∈l,p x=true->a<=x\/x∈k):wx p k a<=wx p l a:=by
 obtain⟨_,_,h3⟩:=qeR p l a
 obtain⟨k1,k2,_⟩:=qeR p k a
 rcases h3 with h3|⟨y,hy,hp,h3⟩
 ·omega
 ·rcases h y hy hp with h|h
  ·omega
  ·have:=k2 y h hp
   omega
def loR(l:List qf):List Int:=l.flatMap fun c=>[c.fr,c.to+1]
def hiR(l:List qf):List Int:=l.flatMap fun c=>[c.fr - 1,c.to]
theorem qgq{l:List qf}{x:Int}:x∈loR l↔∃c∈l,x=c.fr\/x=c.to+1:=by
 unfold loR
 simp[List.mem_flatMap]
theorem qgs{l:List qf}{x:Int}:x∈hiR l↔∃c∈l,x=c.fr - 1\/x=c.to:=by
 unfold hiR
 simp[List.mem_flatMap]
theorem qdM{l:List qf}{x:Int}:x∈yE 4000 (zy l)↔x=0\/∃c∈l,(x=c.fr/\c.fr<=4000)\/(x=c.to+1/\c.to+1<=4000):=by
 unfold yE
 rw[(qhU 4000 (zy l) [0] (by simp)).2 x,List.mem_singleton]
 refine or_congr Iff.rfl ⟨?_,?_⟩
 ·rintro⟨c,hc,h⟩
  obtain⟨d,hd,rfl⟩:=List.mem_map.1 hc
  exact⟨d,hd,h⟩
 ·rintro⟨c,hc,h⟩
  exact⟨_,List.mem_map.2 ⟨c,hc,rfl⟩,h⟩
theorem qbP{c:qf}:qaA c=true↔(1<=c.id/\c.id<=2^40)/\0<=c.fr/\c.fr<=c.to/\c.to<=4000:=by
 unfold qaA
 rw[Bool.and_eq_true,decide_eq_true_iff,decide_eq_true_iff]
theorem qlQ{l:List qf}(h:qaK l){y:Int}(hy:0<=y/\y<=4000):qcU (yE 4000 (zy l)) y=qae (fun x=>decide (x<=y)) (loR l) 0:=by
 unfold qcU
 refine Int.le_antisymm (qmD fun x hx hp=>?_) (qmD fun x hx hp=>?_)
 ·rcases qdM.1 hx with h0|⟨c,hc,h1⟩
  ·exact .inl (by omega)
  ·exact .inr (qgq.2 ⟨c,hc,h1.imp And.left And.left⟩)
 ·have hp:=of_decide_eq_true hp
  obtain⟨c,hc,h1⟩:=qgq.1 hx
  have hk:=qbP.1 (h.ok c hc).1
  refine .inr (qdM.2 (.inr ⟨c,hc,?_⟩))
  rcases h1 with h1|h1
  ·exact .inl ⟨h1,by omega⟩
  ·exact .inr ⟨h1,by omega⟩
theorem qlR{l:List qf}(h:qaK l){y:Int}(hy:0<=y/\y<=4000):qcV (yE 4000 (zy l)) y=wx (fun x=>decide (y<=x)) (hiR l) 4000:=by
 unfold qcV
 refine Int.le_antisymm (qmz fun x hx hp=>?_) (qmz fun x hx hp=>?_)
 ·have hp:=of_decide_eq_true hp
  obtain⟨c,hc,h1⟩:=qgs.1 hx
  have hk:=qbP.1 (h.ok c hc).1
  rcases h1 with h1|h1
  ·refine .inr (List.mem_map.2 ⟨c.fr,List.mem_filter.2 ⟨qdM.2 (.inr ⟨c,hc,.inl ⟨rfl,by omega⟩⟩),decide_eq_true (by omega)⟩,by omega⟩)
  ·by_cases h4:c.to+1<=4000
   ·refine .inr (List.mem_map.2 ⟨c.to+1,List.mem_filter.2 ⟨qdM.2 (.inr ⟨c,hc,.inr ⟨rfl,h4⟩⟩),decide_eq_true (by omega)⟩,by omega⟩)
   ·exact .inl (by omega)
 ·obtain⟨z,hz,rfl⟩:=List.mem_map.1 hx
  obtain⟨hz,hzy⟩:=List.mem_filter.1 hz
  have hzy:=of_decide_eq_true hzy
  rcases qdM.1 hz with h0|⟨c,hc,h1⟩
  ·omega
  ·refine .inr (qgs.2 ⟨c,hc,?_⟩)
   rcases h1 with⟨h1,_⟩|⟨h1,_⟩
   ·exact .inl (by omega)
   ·exact .inr (by omega)
end Go.Abs.Tz
namespace Go.Abs.Tz
open Go Go.Abs Go.Proofs
set_option maxRecDepth 20000
set_option linter.unusedSimpArgs false
attribute [local simp ↓] gF gD uZ uY gd zX qW zk uX zU yq yr gG gI gJ gH jd jg jj je jk jl jh ji jf jb u9 jc ja yo ym yp yn gA gy gC gz gM gK gL ue zz jm qS jn gg yt yu gQ gT gS gN gO g8 jp jw jz jv jx jy j5 j3 jF jH uH uE uS uV uF uN uR uQ uP uO uL uA uB uC uD uT uJ uK uy uU uW uG uI uM uz jL jG jY j8 jI jT jX jW jV jU jR jD j0 jP jQ jA j7 j9 jJ jN jS jB gb j6 jC ga jO jK jM jE jZ jq ju jr gY g7 gW gZ g6 qm uo
attribute [local simp] faL fdL iaL ixL za q9 qN eqK eqL qL ze ut gV yk g9 yb yd yf yh yj ya ye yc yg zr LV.cells LV.whole qm uf zK jo stL zw zF zV qa.alloc ge gc gf gw gv gu gt gq gp gk gj gi gh qd ug
theorem qrb:qg 214 [.sl [.int 0] .full,.int 0,.int 1] (.tup []):=by
 refine qg.of c214 fun H hH=>⟨Nat.le_of_ble_eq_true rfl,?_⟩
 simp(disch:=omega)[b214,yX]
 refine qbr ?_
 simp(disch:=omega)[qS]
 exact qq hH (by simp[])
theorem qqQ(lim:Int):qg 187 [.sl [.int 0] .full,.int 0,.int 1,.int lim] (.tup []):=by
 refine qg.of c187 fun H hH=>⟨Nat.le_of_ble_eq_true rfl,?_⟩
 simp(disch:=omega)[b187,yX]
 refine qbr ?_
 simp(disch:=omega)[yX]
 refine qrb.go fun n hn=>?_
 simp(disch:=omega)[qS]
 exact qq hH (by simp[])
theorem qqE:qg 146 [.sl [.int 0] .full] (.tup []):=by
 refine qg.of c146 fun H hH=>⟨Nat.le_of_ble_eq_true rfl,?_⟩
 have w0:IntKind.wrap .u64 1=1:=qjV (n:=1) (by omega)
 simp(disch:=omega)[b146,yX,w0]
 refine(qkI 1 (by omega) (by omega)).go fun n hn=>?_
 simp(disch:=omega)
 refine(qqQ _).go fun n hn=>?_
 simp(disch:=omega)[qS]
 exact qq hH (by simp[])
theorem qrr:qg 147 [.sl [.int 0] .full] (.sl [.int 0] .full):=by
 refine qg.of c147 fun H hH=>⟨Nat.le_of_ble_eq_true rfl,?_⟩
 simp(disch:=omega)[b147,yX]
 exact qq hH (by simp[])
theorem qpI{l:List (Nat×qc)}{m o:Nat}{A:List Int}(x:Int)(ow:Own)(hl:look o l=some (yP A))(hA:A.length<=2^20):
  wl ⟨l,m⟩ 1 (.asl o 0 A.length) (.sl [.int x] ow)=some (.asl m 0 (A.length+1),⟨(m,yP (A++[x]))::zB o l,m+1⟩):=by
 have h1:(A.map LV.int).length=A.length:=List.length_map _
 have h2:wK ⟨l,m⟩ 1 (.asl o 0 A.length)=some (A.map LV.int,⟨zB o l,m⟩,A.length):=by
  simp only[wK,hl]
  rw[if_pos ⟨trivial,by rw[h1];omega⟩,Nat.mul_one,<-h1,List.take_length]
  rfl
 have h3:qbn ⟨l,m⟩ 1 (.sl [.int x] ow)=some ([.int x],1):=rfl
 unfold wl
 rw[h2,h3]
 simp only
 rw[if_neg (by omega),if_pos ⟨by omega,by omega⟩]
 simp[qa.alloc]
def chV(M:Nat):Nat->List Int->LV
 |0,_=>.sl [.int 0] .full
 |_+1,A=>.asl M 0 A.length
def chH(M:Nat):Nat->List Int->List (Nat×qc)->List (Nat×qc)
 |0,_,ob=>ob
 |_+1,A,ob=>(M,yP A)::ob
theorem qwZ{i M n m:Nat}{A:List Int}{ob:List (Nat×qc)}{b:Nat}(hOb:qt ob b)(x:Int)(ow:Own)(c:qc)(h0:i=0->A=[0])(hM:0<i->b<=M/\M<n)(hA:A.length<=2^20):
  wl ⟨(n,c)::chH M i A ob,m⟩ 1 (chV M i A) (.sl [.int x] ow)=some (.asl m 0 (A.length+1),⟨(m,yP (A++[x]))::(n,c)::ob,m+1⟩):=by
 cases i with
 |zero=>
  rw[h0 rfl]
  rfl
 |succ i=>
  obtain⟨hM1,hM2⟩:=hM (Nat.succ_pos _)
  have:=qpI (l:=(n,c)::(M,yP A)::ob) (m:=m) (o:=M) x ow (by rw[qd (by omega)];exact qm _ _ _) hA
  have hdel:zB M ((n,c)::(M,yP A)::ob)=(n,c)::ob:=by
   have hb:zB M ob=ob:=qgU (H:=⟨ob,b⟩) hOb hM1
   simp only[zB]
   rw[if_neg (by omega),if_pos trivial,hb]
  rw[hdel]at this
  exact this
theorem qst(M:Int)(l:List (Int×Int))(c:Int×Int):wN M (l++[c])=wN M l++(c.1::if c.2<M then [c.2+1] else []):=by
 unfold wN
 rw[List.flatMap_append]
 simp
theorem qsu(M:Int)(l:List (Int×Int)):1<=(wN M l).length/\(wN M l).length<=1+2*l.length:=by
 induction l with
 |nil=>exact⟨Nat.le_refl _,Nat.le_refl _⟩
 |cons c l ih=>
  have e:(wN M (c::l)).length=(wN M l).length+(1+if c.2<M then 1 else 0):=by
   unfold wN
   rw[List.flatMap_cons,List.length_cons,List.length_cons,List.length_append,List.length_cons]
   split<;>simp<;>omega
  rw[e,List.length_cons]
  split<;>omega
def qcW(l:List qf):List Int:=wN 4000 (zy l)
theorem qsv{l:List qf}{i:Nat}(h:i<l.length):qcW (l.take (i+1))=qcW (l.take i)++(l[i].fr::if l[i].to<4000 then [l[i].to+1] else []):=by
 have e:l.take (i+1)=l.take i++[l[i]]:=by rw[List.take_add_one,List.getElem?_eq_getElem h];rfl
 unfold qcW zy
 rw[e,List.map_append]
 exact qst _ _ _
structure NNcC where
 i:Nat
 n:Nat
 M:Nat
theorem qrE(l:List qf)(own:Own)(hl:l.length<=2^18)(hok:∀c∈l,qaA c=true)(ob:List (Nat×qc))(n:Nat){kv kp:HP}
  (hk0:l=[]->∀n',n<=n'->kv (.sl [.int 0] .full) ⟨ob,n'⟩)
  (hk1:l≠[]->∀(M n':Nat)(rest:List Int),n<=M->M<n'->kv (.asl M 0 (yE 4000 (zy l)).length) ⟨(M,yP (yE 4000 (zy l)++rest))::ob,n'⟩):
  cP E0 F0 84 [.sl (l.map qA) own] ⟨ob,n⟩ kv kp:=by
 refine ub c84 fun hH=>⟨Nat.le_of_ble_eq_true rfl,?_⟩
 have hOb:qt ob n:=hH
 simp(disch:=omega)[b84]
 refine qE (σ:=NNcC) (fun q=>(.nd .bot (.nd .bot (.nd (chV q.M q.i (qcW (l.take q.i))) (.nd (.sl (l.map qA) own) .nil .nil) .nil) (.nd .bot (.nd (.int q.i) .nil .nil) .nil)) (.nd .bot (.nd .bot (.nd (.int l.length) .nil .nil) .nil) .nil))) (fun q=>⟨chH q.M q.i (qcW (l.take q.i)) ob,q.n⟩) (fun q=>l.length - q.i)
  (fun q=>n<=q.n/\q.i<=l.length/\(0<q.i->n<=q.M/\q.M<q.n)) ⟨0,n,0⟩ ⟨Nat.le_refl _,Nat.zero_le _,fun h=>absurd h (by simp)⟩ (by simp[FT.Le,Wk,chV]) ⟨HWk.refl _,fun h=>h⟩ ?_
 rintro⟨i,m,M⟩ ⟨hn,hi,hM⟩ hok1
 dsimp only at hn hi hM hok1
 have hAl:=qsu 4000 (zy (l.take i))
 have hsl:(zy (l.take i)).length<=2^18:=by unfold zy;rw[List.length_map,List.length_take];omega
 by_cases hlt:i<l.length
 case neg=>
  obtain rfl:i=l.length:=by omega
  rw[List.take_length]
  rw[List.take_length]at hAl hsl
  have hyr:=fun(s:List Int)=>qpQ 4000 (zy l) (fun c hc=>by
   obtain⟨d,hd,rfl⟩:=List.mem_map.1 hc
   have:=(qbP.1 (hok d hd)).2
   dsimp only
   omega) (s:=s)
  by_cases hl0:l.length=0
  ·have hle:l=[]:=List.eq_nil_of_length_eq_zero hl0
   rw[hl0]
   simp only[chV,chH]
   simp(disch:=omega)[hl0]
   refine qqE.go fun n1 hn1=>?_
   simp(disch:=omega)
   refine qrr.go fun n2 hn2=>?_
   simp(disch:=omega)
   exact keep (hk0 hle n2 (by omega))
  ·obtain⟨k,hk⟩:∃k,l.length=k+1:=⟨l.length - 1,by omega⟩
   obtain⟨hM1,hM2⟩:=hM (by omega)
   obtain⟨A,hA⟩:∃A,qcW l=A:=⟨_,rfl⟩
   have hA2:wN 4000 (zy l)=A:=hA
   rw[hA2]at hAl
   rw[hA]
   have e1:chV M l.length A=.asl M 0 A.length:=by rw[hk];rfl
   have e2:chH M l.length A ob=(M,yP A)::ob:=by rw[hk];rfl
   rw[e1,e2]
   simp(disch:=omega)
   refine qqF A M _ _ (qm _ _ _) (by omega) fun B hB hBs=>?_
   rw[zK]
   have hy:=hyr B (by rw[hA2];exact hB) hBs
   simp(disch:=omega)
   rw[<-hB.length_eq]
   refine qrs B M _ _ (qm _ _ _) (by have:=hB.length_eq;omega) fun rest=>?_
   rw[zK,hy]
   simp(disch:=omega)
   exact keep (hk1 (fun e=>hl0 (by rw[e];rfl)) M m rest hM1 hM2)
 obtain⟨hfr,hto⟩:=qbP.1 (hok _ (up hlt))
 have hsn:=qsv hlt
 obtain⟨A,hA⟩:∃A,qcW (l.take i)=A:=⟨_,rfl⟩
 have hA2:wN 4000 (zy (l.take i))=A:=hA
 rw[hA2]at hAl
 rw[hA]at hsn
 rw[hA]at hok1 ⊢
 have h0:i=0->A=[0]:=fun e=>by subst e;rw[<-hA];rfl
 have hAb:A.length<=2^19+1:=by omega
 simp(disch:=omega)[hlt]
 refine qcA ?_
 simp(disch:=omega)
 rw[qwZ hOb (x:=l[i].fr) (ow:=.full) (c:=.cells [.int l[i].id,.int l[i].fr,.int l[i].to,qF l[i].cls]) h0 hM (by omega)]
 by_cases h4:l[i].to<4000
 case neg=>
  rw[if_neg h4]at hsn
  simp(disch:=omega)[h4,qw (show i<2^62 by omega)]
  refine⟨⟨i+1,m+1+1,m+1⟩,by dsimp only;omega,⟨by dsimp only;omega,by dsimp only;omega,fun _=>⟨by dsimp only;omega,by dsimp only;omega⟩⟩,?_,?_⟩
  ·dsimp only
   rw[hsn]
   simp[FT.Le,Wk,chV]
  ·dsimp only
   rw[hsn]
   exact⟨qbu (hOb.mono hn) fun _ _ h=>h,fun _=>⟨Nat.lt_succ_self _,hOb.mono (by omega)⟩⟩
 rw[if_pos h4]at hsn
 have hw:IntKind.wrap .i64 (l[i].to+1)=l[i].to+1:=yX (by omega) (by omega)
 simp(disch:=omega)[h4]
 refine qcA ?_
 simp(disch:=omega)[hw]
 have hap:=qpI (l:=(m+1,yP (A++[l[i].fr]))::(m,.cells [.int l[i].id,.int l[i].fr,.int l[i].to,qF l[i].cls])::ob) (m:=m+1+1) (o:=m+1) (A:=A++[l[i].fr]) (l[i].to+1) .full (qm _ _ _) (by rw[List.length_append,List.length_singleton];omega)
 have hdel:zB (m+1) ((m+1,yP (A++[l[i].fr]))::(m,.cells [.int l[i].id,.int l[i].fr,.int l[i].to,qF l[i].cls])::ob)=(m,.cells [.int l[i].id,.int l[i].fr,.int l[i].to,qF l[i].cls])::ob:=by
  have hb:zB (m+1) ob=ob:=qgU (H:=⟨ob,n⟩) hOb (by dsimp only;omega)
  simp only[zB]
  rw[if_pos trivial,if_neg (by omega),hb]
 rw[hdel,List.length_append,List.length_singleton]at hap
 rw[hap]
 simp(disch:=omega)[qw (show i<2^62 by omega)]
 refine⟨⟨i+1,m+1+1+1,m+1+1⟩,by dsimp only;omega,⟨by dsimp only;omega,by dsimp only;omega,fun _=>⟨by dsimp only;omega,by dsimp only;omega⟩⟩,?_,?_⟩
 ·dsimp only
  rw[hsn]
  simp[FT.Le,Wk,chV]
 ·dsimp only
  rw[hsn]
  exact⟨qbu (hOb.mono hn) fun _ _ h=>h,fun _=>⟨Nat.lt_succ_self _,hOb.mono (by omega)⟩⟩
theorem qoW:∀(C rest:List Int),wg 1 C.length ((C++rest).map LV.int)=C.map LV.int
 |[],_=>rfl
 |x::C,rest=>by
  have ih:=qoW C rest
  show qdL [.int x]::wg 1 C.length ((C++rest).map LV.int)=_
  rw[ih]
  rfl
theorem frzI{H:qa}{C rest:List Int}{o:Nat}(hl:look o H.objs=some (yP (C++rest))):qah H [o] o 0 C.length=.sl (C.map LV.int) .no:=by
 unfold qah
 have h1:((C++rest).map LV.int).length=C.length+rest.length:=by simp
 simp only[List.contains_cons,BEq.rfl,Bool.true_or,if_true,hl]
 rw[if_pos (by rw[h1];omega)]
 rw[Nat.zero_mul,List.drop_zero,qoW]
theorem qkG(l:List qf)(own:Own)(hl:l.length<=2^18)(hok:∀c∈l,qaA c=true)(ob:List (Nat×qc))(n:Nat){kv kp:HP}
  (hk:∀(ow:Own)(n':Nat),n<=n'->kv (.sl (ui (yE 4000 (zy l))) ow) ⟨ob,n'⟩):
  cP E0 F0 84 [.sl (l.map qA) own] ⟨ob,n⟩ kv kp:=by
 intro hH
 obtain⟨C,hC⟩:∃C,yE 4000 (zy l)=C:=⟨_,rfl⟩
 have h1:=qrE (kv:=fun v H'=>(l=[]/\v=.sl [.int 0] .full/\∃n',n<=n'/\H'=⟨ob,n'⟩)\/∃(M n':Nat)(rest:List Int),n<=M/\M<n'/\v=.asl M 0 C.length/\H'=⟨(M,yP (C++rest))::ob,n'⟩) (kp:=fun _ _=>False)
  l own hl hok ob n (fun he n' hn=>.inl ⟨he,rfl,n',hn,rfl⟩) (fun _ M n' rest hM hn=>.inr ⟨M,n',rest,hM,hn,by rw[hC],by rw[hC]⟩) hH
 rw[hC]at hk
 refine .frz (fun v _=>match v with|.asl o _ _=>[o]|_=>[]) h1 (fun v H' hT=>?_) (fun v H' hT=>?_)
 ·rcases hT with⟨u,H2,he,hok,hT⟩|⟨u,H2,he,hok,hf⟩
  ·cases he
   rcases hT with⟨rfl,rfl,n',hn,rfl⟩|⟨M,n',rest,hM,hn,rfl,rfl⟩
   ·have hC0:C=[0]:=by rw[<-hC];rfl
    subst hC0
    exact⟨⟨ob,n'⟩,⟨Nat.le_refl _,fun i x hx=>(qcs (L:=[]) rfl).trans hx⟩,.inl ⟨_,_,rfl,qt.mono hH hn,hk .full n' hn⟩⟩
   ·refine⟨⟨ob,n'⟩,⟨Nat.le_refl _,fun i x hx=>?_⟩,.inl ⟨_,_,rfl,qt.mono hH (by dsimp only;omega),?_⟩⟩
    ·have:=hH.look hx
     dsimp only at this
     have e1:look i (vx [M] ((M,yP (C++rest))::ob))=look i ((M,yP (C++rest))::ob):=qcs (by simp;omega)
     show look i (vx [M] ((M,yP (C++rest))::ob))=some x
     rw[e1,qd (by omega)]
     exact hx
    ·have:=hk .no n' (by omega)
     have e:qah ⟨(M,yP (C++rest))::ob,n'⟩ [M] M 0 C.length=.sl (C.map LV.int) .no:=frzI (qm _ _ _)
     simpa [zL,e] using this
  ·cases he
 ·rcases hT with⟨u,H2,he,hok,hT⟩|⟨u,H2,he,hok,hf⟩
  ·cases he
  ·exact hf.elim
def wA{α:Type}(p:α->Bool):List α->Nat->Int
 |[],_=>-1
 |t::r,i=>if p t then (i:Int) else wA p r (i+1)
theorem qiK{α:Type}(p:α->Bool):∀(l:List α)(i:Nat),decide (0<=wA p l i)=l.any p
 |[],i=>rfl
 |t::r,i=>by
  simp only[wA,List.any_cons]
  by_cases h:p t=true
  ·simp[h]
  ·simp only[h,if_false,Bool.false_eq_true]
   rw[qiK p r (i+1)];simp
def qhe{α:Type}(g:FuncId)(el:α->LV)(m:Nat)(ob:List (Nat×qc))(n:Nat)(p:α->Bool)(l:List α):Prop:=
 ∀x∈l,∀(n':Nat)(kv kp:HP),n<=n'->(∀n'',n'<=n''->kv (.bool (p x)) ⟨ob,n''⟩)->cP E0 F0 g [el x,.ptr m 0] ⟨ob,n'⟩ kv kp
theorem qrf(l:List qf)(hl:l.length<=2^20)(own:Own)(g:FuncId)(p:qf->Bool)(m:Nat)(ob:List (Nat×qc))(n:Nat)(hg:qhe g qA m ob n p l){kv kp:HP}(hk:∀n',n<=n'->kv (.int (wA p l 0)) ⟨ob,n'⟩):
  cP E0 F0 140 [.sl (l.map qA) own,.fn (.func g) [] [.ptr m 0]] ⟨ob,n⟩ kv kp:=by
 refine ub c140 fun hH=>⟨Nat.le_of_ble_eq_true rfl,?_⟩
 simp(disch:=omega)[b140]
 obtain⟨A,hA⟩:∃A,wA p l 0=A:=⟨_,rfl⟩
 rw[hA]at hk
 refine qE (σ:=NN) (fun q=>(.nd (.sl (l.map qA) own) (.nd (.fn (.func g) [] [.ptr m 0]) (.nd .bot (.nd (.int l.length) .nil .nil) .nil) .nil) (.nd .bot (.nd .bot (.nd (.int q.i) .nil .nil) .nil) (.nd (.sl (l.map qA) own) .nil .nil)))) (fun q=>⟨ob,q.n⟩) (fun q=>l.length - q.i)
  (fun q=>n<=q.n/\q.i<=l.length/\wA p (l.drop q.i) q.i=A) ⟨0,n⟩ ⟨Nat.le_refl _,Nat.zero_le _,hA⟩ (by simp[FT.Le,Wk]) ⟨HWk.refl _,fun h=>h⟩ ?_
 rintro⟨q,k⟩ ⟨hn,hq,he⟩ hok
 dsimp only at hn hq he hok
 by_cases hlt:q<l.length
 ·rw[List.drop_eq_getElem_cons hlt]at he
  simp(disch:=omega)[hlt]
  refine hg l[q] (List.getElem_mem hlt) k _ _ hn fun n1 h1=>?_
  cases ht:p l[q]
  ·simp[wA,ht]at he
   simp(disch:=omega)[qw (show q<2^62 by omega)]
   exact⟨⟨q+1,n1⟩,by dsimp only;omega,⟨by dsimp only;omega,by dsimp only;omega,he⟩,by simp[FT.Le,Wk],HWk.refl _,fun h=>h⟩
  ·simp[wA,ht]at he
   simp(disch:=omega)
   exact keep (by rw[<-he]at hk;exact hk n1 (by omega))
 ·obtain rfl:q=l.length:=by omega
  rw[List.drop_eq_nil_of_le (Nat.le_refl _)]at he
  simp(disch:=omega)
  simp[wA]at he
  exact keep (by rw[<-he]at hk;exact hk k hn)
theorem qhu(l:List qf)(hl:l.length<=2^20)(own:Own)(g:FuncId)(p:qf->Bool)(m:Nat)(ob:List (Nat×qc))(n:Nat)(hg:qhe g qA m ob n p l){kv kp:HP}(hk:∀n',n<=n'->kv (.bool (l.any p)) ⟨ob,n'⟩):
  cP E0 F0 77 [.sl (l.map qA) own,.fn (.func g) [] [.ptr m 0]] ⟨ob,n⟩ kv kp:=by
 refine ub c77 fun hH=>⟨Nat.le_of_ble_eq_true rfl,?_⟩
 simp(disch:=omega)[b77]
 refine qrf l hl own g p m ob n hg fun n1 hn1=>?_
 simp(disch:=omega)
 exact keep (by rw[qiK];exact hk n1 hn1)
theorem t_cc1(x c:qf)(m:Nat)(ob:List (Nat×qc))(n:Nat)(hl:look m ob=some (.cells (qU c))){kv kp:HP}(hk:∀n',n<=n'->kv (.bool (decide (c.id<=x.id))) ⟨ob,n'⟩):
  cP E0 F0 83 [qA x,.ptr m 0] ⟨ob,n⟩ kv kp:=by
 refine ub c83 fun hH=>⟨Nat.le_of_ble_eq_true rfl,?_⟩
 have hm:m<n:=hH.look hl
 simp(disch:=omega)[b83,hl]
 exact⟨⟨ob,n+1⟩,vl hH (Nat.le_succ _),fun _=>qt.mono hH (Nat.le_succ _),hk _ (Nat.le_succ _)⟩
theorem qrQ(x c:qf)(m:Nat)(ob:List (Nat×qc))(n:Nat)(hl:look m ob=some (.cells (qU c))){kv kp:HP}(hk:∀n',n<=n'->kv (.bool (decide (x.id=c.id))) ⟨ob,n'⟩):
  cP E0 F0 90 [qA x,.ptr m 0] ⟨ob,n⟩ kv kp:=by
 refine ub c90 fun hH=>⟨Nat.le_of_ble_eq_true rfl,?_⟩
 have hm:m<n:=hH.look hl
 simp(disch:=omega)[b90,hl]
 exact⟨⟨ob,n+1⟩,vl hH (Nat.le_succ _),fun _=>qt.mono hH (Nat.le_succ _),hk _ (Nat.le_succ _)⟩
theorem qrm(x:qf)(id:Int)(m:Nat)(ob:List (Nat×qc))(n:Nat)(hl:look m ob=some (.cells [.int id])){kv kp:HP}(hk:∀n',n<=n'->kv (.bool (decide (x.id=id))) ⟨ob,n'⟩):
  cP E0 F0 78 [qA x,.ptr m 0] ⟨ob,n⟩ kv kp:=by
 refine ub c78 fun hH=>⟨Nat.le_of_ble_eq_true rfl,?_⟩
 have hm:m<n:=hH.look hl
 simp(disch:=omega)[b78,hl]
 exact⟨⟨ob,n+1⟩,vl hH (Nat.le_succ _),fun _=>qt.mono hH (Nat.le_succ _),hk _ (Nat.le_succ _)⟩
theorem quU{l:List qf}(h:∀c∈l,c.cls.length<=40)(y w:Int):(ql l y w).length<=l.length*40:=by
 refine qnU _ 40 l fun c hc=>?_
 split
 ·exact h c hc
 ·simp
theorem qaK.le{l:List qf}(h:qaK l)(h30:l.length<=30)(y w:Int):(ql l y w).length<=1200:=by
 have:=quU (fun c hc=>(qfv (h.ok c hc).2).1) y w
 omega
theorem qno(y:Int):∀l:List Int,(qbt y l).length<=l.length+1
 |[]=>Nat.le_refl _
 |x::r=>by
  have ih:=qno y r
  unfold qbt
  split
  ·simp only[List.length_cons];omega
  ·split<;>simp
theorem qlP(M:Int)(l:List (Int×Int)):(yE M l).length<=1+2*l.length:=by
 have key:∀(l:List (Int×Int))(o:List Int),(l.foldl (fun o c=>vc M (vc M o c.1) (c.2+1)) o).length<=o.length+2*l.length:=by
  intro l
  induction l with
  |nil=>intro o;exact Nat.le_refl _
  |cons c l ih=>
   intro o
   have h1:∀(o:List Int)(y:Int),(vc M o y).length<=o.length+1:=fun o y=>by
    unfold vc
    split
    ·exact qno _ _
    ·omega
   have:=ih (vc M (vc M o c.1) (c.2+1))
   have h2:=h1 o c.1
   have h3:=h1 (vc M o c.1) (c.2+1)
   rw[List.foldl_cons,List.length_cons]
   omega
 have:=key l [0]
 unfold yE
 simpa using this
theorem qfT(l:List qf)(own:Own)(hl:l.length<2^63)(hS:l.length<=30->∀c∈l,qbb c.cls):qg 29 [.sl (l.map qA) own] (.tup [.int (uu l).1,.int (uu l).2]):=by
 refine qg.of c29 fun H hH=>⟨Nat.le_of_ble_eq_true rfl,?_⟩
 obtain⟨E,hE⟩:∃E,uu l=E:=⟨_,rfl⟩
 rw[hE]
 unfold uu at hE
 by_cases h30:30<l.length
 ·rw[if_pos h30]at hE
  have h30':(30:Int)<(l.length:Int):=by omega
  simp(disch:=omega)[b29,h30']
  exact qq hH (by simp[<-hE])
 rw[if_neg h30]at hE
 have h30':¬(30:Int)<(l.length:Int):=by omega
 simp(disch:=omega)[b29,h30']
 obtain⟨A,hA⟩:∃A,qaU [] l 0=A:=⟨_,rfl⟩
 rw[hA]at hE
 have hSm:=hS (by omega)
 have ret:∀(e:Int)(i:Nat),(e,(i:Int))=A->e≠0->E=(e,(i:Int)):=fun e i h h0=>by rw[<-h,if_pos h0]at hE;exact hE.symm
 refine qE (σ:=NN) (fun q=>(.nd (.sl (l.map qA) own) (.nd .bot .nil (.nd .bot (.nd .bot (.nd (.int l.length) .nil .nil) .nil) .nil)) (.nd .bot (.nd .bot (.nd .bot (.nd (.sl (l.map qA) own) .nil .nil) .nil) .nil) (.nd .bot (.nd .bot (.nd (.int q.i) .nil .nil) .nil) .nil)))) (fun q=>⟨H.objs,q.n⟩) (fun q=>l.length - q.i)
  (fun q=>H.next<=q.n/\q.i<=l.length/\qaU (l.take q.i) (l.drop q.i) q.i=A) ⟨0,H.next⟩ ⟨Nat.le_refl _,Nat.zero_le _,hA⟩ (by simp[FT.Le,Wk]) ⟨HWk.refl _,fun h=>h⟩ ?_
 rintro⟨i,n⟩ ⟨hn,hi,he⟩ hok
 dsimp only at hn hi he hok
 by_cases hlt:i<l.length
 case pos=>
  rw[List.drop_eq_getElem_cons hlt]at he
  unfold qaU at he
  simp(disch:=omega)[hlt]
  refine(qey l[i].id 1 1099511627776).go fun n2 hn2=>?_
  obtain⟨B,hB⟩:∃B,(decide (1<=l[i].id)&&decide (l[i].id<=1099511627776))=B:=⟨_,rfl⟩
  rw[hB]
  cases B
  ·have hio:qaA l[i]=false:=by
    cases hx:qaA l[i] with
    |false=>rfl
    |true=>
     have:=(qbP.1 hx).1
     rw[decide_eq_true this.1,decide_eq_true (by omega)]at hB
     cases hB
   rw[if_pos hio]at he
   have hEE:=ret 1 i he (by decide)
   simp(disch:=omega)
   exact qq hH (by simp[hEE])
  have hB2:1<=l[i].id/\l[i].id<=2^40:=by
   rw[Bool.and_eq_true,decide_eq_true_iff,decide_eq_true_iff]at hB
   omega
  have hbad:¬(0<=l[i].fr/\l[i].fr<=l[i].to/\l[i].to<=4000)->E=(1,(i:Int)):=fun h=>by
   have hio:qaA l[i]=false:=by
    cases hx:qaA l[i] with
    |false=>rfl
    |true=>exact absurd (qbP.1 hx).2 h
   rw[if_pos hio]at he
   exact ret 1 i he (by decide)
  by_cases h1:l[i].fr<0
  ·have hEE:=hbad (by omega)
   simp(disch:=omega)[h1]
   exact qq hH (by simp[hEE])
  by_cases h2:l[i].to<l[i].fr
  ·have hEE:=hbad (by omega)
   simp(disch:=omega)[h1,h2]
   exact qq hH (by simp[hEE])
  by_cases h3:4000<l[i].to
  ·have hEE:=hbad (by omega)
   simp(disch:=omega)[h1,h2,h3]
   exact qq hH (by simp[hEE])
  have hio:¬qaA l[i]=false:=by rw[qbP.2 ⟨hB2,by omega⟩];simp
  rw[if_neg hio]at he
  have hil:i<=l.length:=by omega
  simp(disch:=omega)[h1,h2,h3,hil]
  rw[<-List.map_take]
  refine qhu (l.take i) (by rw[List.length_take];omega) _ 83 (fun x=>decide (l[i].id<=x.id)) n _ _ (fun x _ n' kv kp hn' hk=>t_cc1 x l[i] n _ n' (qm _ _ _) hk) fun n3 hn3=>?_
  obtain⟨B2,hB2⟩:∃B2,((l.take i).any fun x=>decide (l[i].id<=x.id))=B2:=⟨_,rfl⟩
  rw[hB2]at he ⊢
  cases B2
  case true=>
   rw[if_pos rfl]at he
   have hEE:=ret 6 i he (by decide)
   simp(disch:=omega)
   exact qq hH (by simp[hEE])
  rw[if_neg (by simp)]at he
  simp(disch:=omega)
  refine(qkP l[i].cls (hSm _ (up hlt)).ok3).go fun n4 hn4=>?_
  by_cases hc:(qQ l[i].cls).1=0
  case neg=>
   rw[if_pos hc]at he
   have hEE:=ret _ i he hc
   simp(disch:=omega)[hc]
   exact qq hH (by simp[hEE])
  rw[if_neg (by simpa using hc)]at he
  simp(disch:=omega)[hc,qw (show i<2^62 by omega)]
  have htk:l.take (i+1)=l.take i++[l[i]]:=by rw[List.take_add_one,List.getElem?_eq_getElem hlt];rfl
  exact⟨⟨i+1,n4⟩,by dsimp only;omega,⟨by dsimp only;omega,by dsimp only;omega,by dsimp only;rw[htk];exact he⟩,by simp[FT.Le,Wk],vl hok (Nat.le_refl _),fun _=>qt.mono hok (by dsimp only;omega)⟩
 obtain rfl:i=l.length:=by omega
 rw[List.drop_eq_nil_of_le (Nat.le_refl _)]at he
 have hA0:A.1=0:=by rw[<-he];rfl
 have hC:qaK l:=qiX (by rw[hA];exact hA0)
 rw[if_neg (by rw[hA0];simp)]at hE
 simp(disch:=omega)
 refine qkG l own (by omega) (fun c hc=>(hC.ok c hc).1) _ _ fun ow n2 hn2=>?_
 have hyl:=qlP 4000 (zy l)
 have hsl:(zy l).length=l.length:=by unfold zy;rw[List.length_map]
 obtain⟨ys,hys⟩:∃ys,yE 4000 (zy l)=ys:=⟨_,rfl⟩
 rw[hys]at hyl hE ⊢
 obtain⟨Y,hY⟩:∃Y,qdy l ys=Y:=⟨_,rfl⟩
 rw[hY]at hE
 simp(disch:=omega)
 refine qE (σ:=NN) (fun q=>(.nd (.sl (l.map qA) own) (.nd .bot (.nd .bot .nil (.nd .bot (.nd .bot (.nd .bot (.nd (.int q.i) .nil .nil) .nil) .nil) .nil)) (.nd .bot (.nd .bot (.nd .bot (.nd .bot (.nd (.sl (ui ys) ow) .nil .nil) .nil) .nil) .nil) .nil)) (.nd .bot .nil (.nd .bot (.nd .bot (.nd .bot (.nd .bot (.nd (.int ys.length) .nil .nil) .nil) .nil) .nil) .nil)))) (fun q=>⟨H.objs,q.n⟩) (fun q=>ys.length - q.i)
  (fun q=>H.next<=q.n/\q.i<=ys.length/\qdy l (ys.drop q.i)=Y) ⟨0,n2⟩ ⟨by dsimp only;omega,Nat.zero_le _,hY⟩ (by simp[FT.Le,Wk]) ⟨HWk.refl _,fun h=>h⟩ ?_
 rintro⟨j,m⟩ ⟨hm,hj,he2⟩ hok2
 dsimp only at hm hj he2 hok2
 by_cases hjl:j<ys.length
 case neg=>
  rw[List.drop_eq_nil_of_le (by omega)]at he2
  have hY0:Y=0:=he2.symm
  simp(disch:=omega)[hjl]
  exact qq hH (by simp[<-hE,hY0])
 rw[List.drop_eq_getElem_cons hjl]at he2
 unfold qdy at he2
 have hfl:=hC.le (by omega) ys[j] 0
 simp(disch:=omega)[hjl]
 refine(qdB l own ys[j] 0 (by omega) (by omega)).go fun n4 hn4=>?_
 obtain⟨F,hF⟩:∃F,ql l ys[j] 0=F:=⟨_,rfl⟩
 have hck:=quV hC (y:=ys[j]) (w:=0)
 rw[hF]at he2 hfl hck ⊢
 by_cases h40:40<F.length
 ·rw[if_pos h40]at he2
  have h40':(40:Int)<(F.length:Int):=by omega
  simp(disch:=omega)[h40']
  exact qq hH (by simp[<-hE,<-he2])
 rw[if_neg h40]at he2
 have h40':¬(40:Int)<(F.length:Int):=by omega
 have hck0:=hck (by omega)
 have hg:=qiP hck0
 obtain⟨fuel,R,hR,hRS⟩:=qmS F hck0
 simp(disch:=omega)[h40']
 refine qkx F (by omega) (fun c hcm=>by have:=hg.body c hcm;omega) (by have:=hg.initLen;omega) fuel R hR _ (fun hRn n5 hn5=>?_) (fun mm hRm n5 hn5=>?_)
 ·dsimp only at hn5
  have hS:wt F=none:=by
   rcases hRS with⟨_,h⟩|⟨m',_,h,_⟩
   ·exact h
   ·rw[hRn]at h;cases h
  rw[hS]at he2
  have hYY:Y=81:=he2.symm
  simp(disch:=omega)
  exact qq hH (by simp[<-hE,hYY])
 ·dsimp only at hn5
  have hS:(wt F).isNone=false:=by
   rcases hRS with⟨h,_⟩|⟨_,q,_,h,_⟩
   ·rw[hRm]at h;cases h
   ·rw[h];rfl
  rw[hS,if_neg (by simp)]at he2
  simp(disch:=omega)[qw (show j<2^62 by omega)]
  exact⟨⟨j+1,n5⟩,by dsimp only;omega,⟨by dsimp only;omega,by dsimp only;omega,he2⟩,by simp[FT.Le,Wk],vl (qt.mono hH (by omega)) (Nat.le_refl _),fun _=>qt.mono hH (by dsimp only;omega)⟩
theorem qux(l:List Int):((l.map LV.int).all fun e=>e.cells.length==1)=true:=by
 rw[List.all_eq_true]
 intro e he
 obtain⟨c,_,rfl⟩:=List.mem_map.1 he
 rfl
structure NNcY where
 i:Nat
 n:Nat
 out:List Int
structure CustIn(l:List qf):Prop where
 len:l.length<2^63
 sm:l.length<=30->∀c∈l,qbb c.cls
theorem qeB(l:List qf)(own:Own)(y:Int)(hI:CustIn l):qg 66 [.sl (l.map qA) own,.int y] (.int (zo l y)):=by
 refine qg.of c66 fun H hH=>⟨Nat.le_of_ble_eq_true rfl,?_⟩
 obtain⟨E,hE⟩:∃E,zo l y=E:=⟨_,rfl⟩
 rw[hE]
 unfold zo at hE
 simp(disch:=omega)[b66]
 refine(qfT l own hI.len hI.sm).go fun n1 hn1=>?_
 by_cases hc:(uu l).1=0
 case neg=>
  rw[if_pos hc]at hE
  simp(disch:=omega)[hc]
  exact qq hH (by simp[hE])
 rw[if_neg (by simpa using hc)]at hE
 simp(disch:=omega)[hc]
 refine(qey y 0 4000).go fun n2 hn2=>?_
 by_cases hy:0<=y/\y<=4000
 ·rw[if_pos hy]at hE
  simp(disch:=omega)[hy.1,hy.2]
  exact qq hH (by simp[<-hE])
 ·rw[if_neg hy]at hE
  have hyf:(decide (0<=y)&&decide (y<=4000))=false:=by
   rw[<-Bool.decide_and]
   exact decide_eq_false hy
  rw[hyf]
  simp(disch:=omega)
  exact qq hH (by simp[<-hE])
theorem qbX{l:List qf}{y:Int}(h:zo l y=0)(x w:Int):l.length<=30/\(ql l x w).length<=1200:=by
 unfold zo at h
 by_cases h1:(uu l).1≠0
 ·rw[if_pos h1]at h;exact absurd h h1
 have h1:(uu l).1=0:=by simpa using h1
 unfold uu at h1
 by_cases h2:30<l.length
 ·rw[if_pos h2]at h1;cases h1
 rw[if_neg h2]at h1
 by_cases h3:(qaU [] l 0).1≠0
 ·rw[if_pos h3]at h1;exact absurd h1 h3
 exact⟨by omega,(qiX (by simpa using h3)).le (by omega) x w⟩
theorem qhv(l:List qf)(own:Own)(y:Int)(hI:CustIn l)(h:zo l y≠0):qg 33 [.sl (l.map qA) own,.int y] (.tup [Nl,.int (zo l y)]):=by
 refine qg.of c33 fun H hH=>⟨Nat.le_of_ble_eq_true rfl,?_⟩
 simp(disch:=omega)[b33]
 refine(qeB l own y hI).go fun n1 hn1=>?_
 simp(disch:=omega)[h]
 exact qq hH (by first|rfl|simp[])
theorem qbB(l:List qf)(own:Own)(y:Int)(hI:CustIn l)(h:zo l y=0):qg 33 [.sl (l.map qA) own,.int y] (.tup [qF (ql l y 0),.int 0]):=by
 refine qg.of c33 fun H hH=>⟨Nat.le_of_ble_eq_true rfl,?_⟩
 obtain⟨h30,hf⟩:=qbX h y 0
 simp(disch:=omega)[b33]
 refine(qeB l own y hI).go fun n1 hn1=>?_
 rw[h]
 simp(disch:=omega)
 refine(qdB l own y 0 (by omega) (by omega)).go fun n2 hn2=>?_
 simp(disch:=omega)
 exact qq hH (by first|rfl|simp[])
end Go.Abs.Tz
namespace Go.Abs.Tz
open Go Go.Abs Go.Proofs
theorem qsq{l:List qf}(h:qaK l){y:Int}(hy:0<=y/\y<=4000):qcU (yE 4000 (zy l)) y<=y/\y<=qcV (yE 4000 (zy l)) y:=by
 rw[qlQ h hy,qlR h hy]
 constructor
 ·obtain⟨_,_,h3⟩:=qeV (fun x=>decide (x<=y)) (loR l) 0
  rcases h3 with h3|⟨x,_,hp,h3⟩
  ·omega
  ·have:=of_decide_eq_true hp
   omega
 ·obtain⟨_,_,h3⟩:=qeR (fun x=>decide (y<=x)) (hiR l) 4000
  rcases h3 with h3|⟨x,_,hp,h3⟩
  ·omega
  ·have:=of_decide_eq_true hp
   omega
theorem quS{l:List qf}(h:qaK l){y z:Int}(hy:0<=y/\y<=4000)(hz:qcU (yE 4000 (zy l)) y<=z/\z<=qcV (yE 4000 (zy l)) y)(w:Int):ql l z w=ql l y w:=by
 rw[qlQ h hy,qlR h hy]at hz
 obtain⟨_,a2,_⟩:=qeV (fun x=>decide (x<=y)) (loR l) 0
 obtain⟨_,b2,_⟩:=qeR (fun x=>decide (y<=x)) (hiR l) 4000
 have key:∀c∈l,inF z w c=inF y w c:=fun c hc=>by
  have e1:decide (c.fr<=z)=decide (c.fr<=y):=by
   refine decide_eq_decide.2 ⟨fun h1=>?_,fun h1=>?_⟩
   ·by_cases hh:c.fr<=y
    ·exact hh
    ·have:=b2 (c.fr - 1) (qgs.2 ⟨c,hc,.inl rfl⟩) (decide_eq_true (by omega))
     omega
   ·have:=a2 c.fr (qgq.2 ⟨c,hc,.inl rfl⟩) (decide_eq_true h1)
    omega
  have e2:decide (z<=c.to)=decide (y<=c.to):=by
   refine decide_eq_decide.2 ⟨fun h1=>?_,fun h1=>?_⟩
   ·by_cases hh:y<=c.to
    ·exact hh
    ·have:=a2 (c.to+1) (qgq.2 ⟨c,hc,.inr rfl⟩) (decide_eq_true (by omega))
     omega
   ·have:=b2 c.to (qgs.2 ⟨c,hc,.inr rfl⟩) (decide_eq_true h1)
    omega
  unfold inF
  rw[e1,e2]
 unfold ql
 have:∀k:List qf,(∀c∈k,c∈l)->(k.flatMap fun c=>if inF z w c then c.cls else [])=k.flatMap fun c=>if inF y w c then c.cls else []:=by
  intro k
  induction k with
  |nil=>intro _;rfl
  |cons c k ih=>
   intro hk
   rw[List.flatMap_cons,List.flatMap_cons,key c (hk c List.mem_cons_self),ih fun d hd=>hk d (List.mem_cons_of_mem _ hd)]
 exact this l fun c hc=>hc
theorem qnK{c:qf}{y w:Int}(hy:inF y w c=false):∀l:List qf,ql (qH c l) y w=ql l y w
 |[]=>by simp[qH,ql,hy]
 |x::r=>by
  have ih:=qnK hy r
  unfold qH
  by_cases h:x.id<c.id
  ·rw[if_pos h]
   unfold ql at ih ⊢
   rw[List.flatMap_cons,List.flatMap_cons,ih]
  ·rw[if_neg h]
   unfold ql
   rw[List.flatMap_cons,hy]
   rfl
theorem quT{l:List qf}{y i:Int}(h:∀c∈l,c.id=i->¬(c.fr<=y/\y<=c.to))(hi:∀c∈l,c.id≠0):ql l y i=ql l y 0:=by
 have key:∀c∈l,inF y i c=inF y 0 c:=fun c hc=>by
  unfold inF
  have h0:=hi c hc
  rw[decide_eq_true h0]
  by_cases he:c.id=i
  ·have:=h c hc he
   rw[decide_eq_false (by simpa using he:¬c.id≠i)]
   by_cases h1:c.fr<=y
   ·rw[decide_eq_false (by omega:¬y<=c.to)]
    simp
   ·rw[decide_eq_false h1]
    simp
  ·rw[decide_eq_true he]
 unfold ql
 have:∀k:List qf,(∀c∈k,c∈l)->(k.flatMap fun c=>if inF y i c then c.cls else [])=k.flatMap fun c=>if inF y 0 c then c.cls else []:=by
  intro k
  induction k with
  |nil=>intro _;rfl
  |cons c k ih=>
   intro hk
   rw[List.flatMap_cons,List.flatMap_cons,key c (hk c List.mem_cons_self),ih fun d hd=>hk d (List.mem_cons_of_mem _ hd)]
 exact this l fun c hc=>hc
def vf(A B:List Atom):List Atom:=A.filter fun x=>!qC B x
theorem qgG(A B:List Atom)(a:Atom):qC (vf A B) a=(qC A a&&!qC B a):=by
 rw[Bool.eq_iff_iff,qfh,Bool.and_eq_true,qfh]
 unfold vf
 rw[List.mem_filter]
theorem quG(A B:List Atom)(a:Atom):(qC (vf A B) a||qC (vf B A) a)=(qC A a != qC B a):=by
 rw[qgG,qgG]
 cases qC A a<;>cases qC B a<;>rfl
end Go.Abs.Tz
namespace Go.Abs.Tz
open Go Go.Abs Go.Proofs
set_option maxRecDepth 20000
set_option linter.unusedSimpArgs false
attribute [local simp ↓] gF gD uZ uY gd zX qW zk uX zU yq yr gG gI gJ gH jd jg jj je jk jl jh ji jf jb u9 jc ja yo ym yp yn gA gy gC gz gM gK gL ue zz jm qS jn gg yt yu gQ gT gS gN gO g8 jp jw jz jv jx jy j5 j3 jF jH uH uE uS uV uF uN uR uQ uP uO uL uA uB uC uD uT uJ uK uy uU uW uG uI uM uz jL jG jY j8 jI jT jX jW jV jU jR jD j0 jP jQ jA j7 j9 jJ jN jS jB gb j6 jC ga jO jK jM jE jZ jq ju jr gY g7 gW gZ g6 qm uo
attribute [local simp] faL fdL iaL ixL za q9 qN eqK eqL qL ze ut gV yk g9 yb yd yf yh yj ya ye yc yg zr LV.cells LV.whole qm uf zK jo stL zw zF zV qa.alloc ge gc gf gw gv gu gt gq gp gk gj gi gh qd ug
structure RIn(l:List qe)(base:List Atom):Prop where
 hl:qbb l
 h3:(qQ l).1=0->∀c∈l,(qT c.body).length<=3
 hb:base.length<2^63
 hok:base.length<=100->∀a∈base,a.ok
def z1(l:List qe)(base:List Atom)(a:Atom):Bool:=if yK l base≠0 then false else if zn a then qC (zZ l base) a else false
def v8(l:List qe)(base:List Atom)(a:Atom):Int:=if yK l base≠0 then yK l base else if zn a then 0 else 1
end Go.Abs.Tz
namespace Go.Abs.Tz
open Go Go.Abs Go.Proofs
def gE(base:List Atom):Int:=zW [] (some []) base
def ws(A:List qf)(y:Int)(base:List Atom)(a:Atom)(now:Bool):List qf->List Int->List Int×Int
 |[],out=>(out,0)
 |c::r,out=>if c.fr<=y/\y<=c.to then (if v8 (ql A y c.id) base a≠0 then ([],v8 (ql A y c.id) base a) else
   ws A y base a now r (if z1 (ql A y c.id) base a=now then out else out++[c.id])) else ws A y base a now r out
def zt(l:List qf)(base:List Atom)(y:Int)(a:Atom):List Int×Int:=
 if zo l y≠0 then ([],zo l y) else if gE base≠0 then ([],gE base) else if zn a=false then ([],1) else
 if v8 (ql l y 0) base a≠0 then ([],v8 (ql l y 0) base a) else ws l y base a (z1 (ql l y 0) base a) l []
def wC(l:List qf)(base:List Atom)(y i:Int):Int:=
 if zo l y≠0 then zo l y else if qcv l i=false then 5 else if gE base≠0 then gE base else
 if yK (ql l y 0) base≠0 then yK (ql l y 0) base else yK (ql l y i) base
def zM(l:List qf)(base:List Atom)(y i:Int):List Atom:=if wC l base y i≠0 then [] else vf (zZ (ql l y 0) base) (zZ (ql l y i) base)
def zN(l:List qf)(base:List Atom)(y i:Int):List Atom:=if wC l base y i≠0 then [] else vf (zZ (ql l y i) base) (zZ (ql l y 0) base)
theorem qhT{A:List qf}{y:Int}{base:List Atom}{a:Atom}{now:Bool}:∀(r:List qf)(out:List Int),(ws A y base a now r out).2=0 ->
  (∀c∈r,c.fr<=y/\y<=c.to->v8 (ql A y c.id) base a=0) /\
  ∀i,i∈(ws A y base a now r out).1↔i∈out\/∃c∈r,c.id=i/\(c.fr<=y/\y<=c.to)/\z1 (ql A y c.id) base a≠now
 |[],out,_=>⟨fun c hc=>(by cases hc),fun i=>(by simp[ws])⟩
 |c::r,out,h=>by
  unfold ws at h ⊢
  by_cases hf:c.fr<=y/\y<=c.to
  ·rw[if_pos hf]at h ⊢
   by_cases he:v8 (ql A y c.id) base a≠0
   ·rw[if_pos he]at h
    exact absurd h he
   rw[if_neg he]at h ⊢
   obtain⟨h1,h2⟩:=qhT r _ h
   refine⟨fun d hd hfd=>?_,fun i=>?_⟩
   ·rcases List.mem_cons.1 hd with rfl|hd
    ·omega
    ·exact h1 d hd hfd
   ·rw[h2 i]
    constructor
    ·rintro(hi|⟨d,hd,k⟩)
     ·by_cases hb:z1 (ql A y c.id) base a=now
      ·rw[if_pos hb]at hi;exact .inl hi
      ·rw[if_neg hb,List.mem_append,List.mem_singleton]at hi
       rcases hi with hi|hi
       ·exact .inl hi
       ·exact .inr ⟨c,List.mem_cons_self,hi.symm,hf,hb⟩
     ·exact .inr ⟨d,List.mem_cons_of_mem _ hd,k⟩
    ·rintro(hi|⟨d,hd,k1,k2,k3⟩)
     ·refine .inl ?_
      split
      ·exact hi
      ·exact List.mem_append_left _ hi
     ·rcases List.mem_cons.1 hd with rfl|hd
      ·refine .inl ?_
       rw[if_neg k3,List.mem_append,List.mem_singleton]
       exact .inr k1.symm
      ·exact .inr ⟨d,hd,k1,k2,k3⟩
  ·rw[if_neg hf]at h ⊢
   obtain⟨h1,h2⟩:=qhT r _ h
   refine⟨fun d hd hfd=>?_,fun i=>?_⟩
   ·rcases List.mem_cons.1 hd with rfl|hd
    ·exact absurd hfd hf
    ·exact h1 d hd hfd
   ·rw[h2 i]
    constructor
    ·rintro(hi|⟨d,hd,k⟩)
     ·exact .inl hi
     ·exact .inr ⟨d,List.mem_cons_of_mem _ hd,k⟩
    ·rintro(hi|⟨d,hd,k1,k2,k3⟩)
     ·exact .inl hi
     ·rcases List.mem_cons.1 hd with rfl|hd
      ·exact absurd k2 hf
      ·exact .inr ⟨d,hd,k1,k2,k3⟩
theorem qiL{l:List qf}(h:l.Pairwise fun a b=>a.id<b.id){c d:qf}(hc:c∈l)(hd:d∈l)(e:c.id=d.id):c=d:=by
 induction l with
 |nil=>cases hc
 |cons x r ih=>
  obtain⟨h1,h2⟩:=List.pairwise_cons.1 h
  rcases List.mem_cons.1 hc with rfl|hc
  ·rcases List.mem_cons.1 hd with rfl|hd
   ·rfl
   ·have:=h1 _ hd;omega
  ·rcases List.mem_cons.1 hd with rfl|hd
   ·have:=h1 _ (by assumption);omega
   ·exact ih h2 hc hd
theorem qbT{l:List qf}(h:(uu l).1=0):qaK l/\qdy l (yE 4000 (zy l))=0/\l.length<=30:=by
 unfold uu at h
 by_cases h1:30<l.length
 ·rw[if_pos h1]at h;cases h
 rw[if_neg h1]at h
 by_cases h2:(qaU [] l 0).1≠0
 ·rw[if_pos h2]at h;exact absurd h h2
 rw[if_neg h2]at h
 exact⟨qiX (by omega),h,by omega⟩
theorem qcD{l:List qf}{y:Int}(h:zo l y=0):(uu l).1=0/\0<=y/\y<=4000:=by
 unfold zo at h
 by_cases h1:(uu l).1≠0
 ·rw[if_pos h1]at h;exact absurd h h1
 rw[if_neg h1]at h
 by_cases h2:0<=y/\y<=4000
 ·exact⟨by omega,h2⟩
 ·rw[if_neg h2]at h;cases h
theorem qwS{l:List qf}{y:Int}(h:(uu l).1=0)(hy:0<=y/\y<=4000):zo l y=0:=by
 unfold zo
 rw[if_neg (by omega),if_pos hy]
theorem qac{l:List qf}{base:List Atom}{y:Int}{a:Atom}(h:(zt l base y a).2=0):
  zo l y=0/\gE base=0/\zn a=true/\v8 (ql l y 0) base a=0/\(ws l y base a (z1 (ql l y 0) base a) l []).2=0/\(zt l base y a).1=(ws l y base a (z1 (ql l y 0) base a) l []).1:=by
 unfold zt at h ⊢
 by_cases h1:zo l y≠0
 ·rw[if_pos h1]at h;exact absurd h h1
 rw[if_neg h1]at h ⊢
 by_cases h2:gE base≠0
 ·rw[if_pos h2]at h;exact absurd h h2
 rw[if_neg h2]at h ⊢
 by_cases h3:zn a=false
 ·rw[if_pos h3]at h;cases h
 rw[if_neg h3]at h ⊢
 by_cases h4:v8 (ql l y 0) base a≠0
 ·rw[if_pos h4]at h;exact absurd h h4
 rw[if_neg h4]at h ⊢
 exact⟨by omega,by omega,by simpa using h3,by omega,h,rfl⟩
theorem qgE{l:List qe}{base:List Atom}{a:Atom}(h:v8 l base a=0)(ha:zn a=true):yK l base=0/\z1 l base a=qC (zZ l base) a:=by
 unfold v8 at h
 by_cases h1:yK l base≠0
 ·rw[if_pos h1]at h;exact absurd h h1
 ·refine⟨by omega,?_⟩
  unfold z1
  rw[if_neg h1,if_pos ha]
theorem qaD{l:List qf}{base:List Atom}{y:Int}{a:Atom}(h:(zt l base y a).2=0){c:qf}(hc:c∈l):
  wC l base y c.id=0/\((qC (zM l base y c.id) a||qC (zN l base y c.id) a)=((zt l base y a).1.any fun z=>decide (z=c.id))) /\
  (qC (zM l base y c.id) a=true->z1 (ql l y 0) base a=true)/\(qC (zN l base y c.id) a=true->z1 (ql l y 0) base a=false):=by
 obtain⟨h1,h2,h3,h4,h5,h6⟩:=qac h
 obtain⟨hcu,hy⟩:=qcD h1
 obtain⟨hC,_,_⟩:=qbT hcu
 obtain⟨k1,k2⟩:=qhT l [] h5
 obtain⟨m1,m2⟩:=qgE h4 h3
 have hid:qcv l c.id=true:=List.any_eq_true.2 ⟨c,hc,decide_eq_true rfl⟩
 have hnz:∀d∈l,d.id≠0:=fun d hd=>by
  have:=(qbP.1 (hC.ok d hd).1).1
  omega
 have hout:¬(c.fr<=y/\y<=c.to)->ql l y c.id=ql l y 0:=fun hf=>quT (fun d hd e=>by rw[qiL hC.inc hd hc e];exact hf) hnz
 have m3:yK (ql l y c.id) base=0:=by
  by_cases hf:c.fr<=y/\y<=c.to
  ·exact(qgE (k1 c hc hf) h3).1
  ·rw[hout hf];exact m1
 have e0:wC l base y c.id=0:=by
  unfold wC
  rw[if_neg (by omega),hid,if_neg (by simp),if_neg (by omega),if_neg (by omega)]
  exact m3
 have eW:zM l base y c.id=vf (zZ (ql l y 0) base) (zZ (ql l y c.id) base):=by unfold zM;rw[if_neg (by omega)]
 have eO:zN l base y c.id=vf (zZ (ql l y c.id) base) (zZ (ql l y 0) base):=by unfold zN;rw[if_neg (by omega)]
 refine⟨e0,?_,fun k=>?_,fun k=>?_⟩
 ·rw[eW,eO,quG,Bool.eq_iff_iff,bne_iff_ne,h6,List.any_eq_true]
  constructor
  ·intro hne
   have hf:c.fr<=y/\y<=c.to:=Classical.byContradiction fun hf=>hne (by rw[hout hf])
   refine⟨c.id,(k2 c.id).2 (.inr ⟨c,hc,rfl,hf,?_⟩),decide_eq_true rfl⟩
   rw[m2,(qgE (k1 c hc hf) h3).2]
   exact fun e=>hne e.symm
  ·rintro⟨z,hz,hzc⟩
   have hzc:=of_decide_eq_true hzc
   subst hzc
   rcases (k2 c.id).1 hz with hz|⟨d,hd,e,hf,hb⟩
   ·cases hz
   ·have:d=c:=qiL hC.inc hd hc e
    subst this
    rw[m2,(qgE (k1 d hd hf) h3).2]at hb
    exact fun e=>hb e.symm
 ·rw[eW,qgG,Bool.and_eq_true]at k
  rw[m2];exact k.1
 ·rw[eO,qgG,Bool.and_eq_true]at k
  rw[m2]
  simpa using k.2
theorem qjK{l:List qf}{c:qf}{y:Int}(h:wY l c=0)(hy:0<=y/\y<=4000)(ho:¬(c.fr<=y/\y<=c.to)):zo (qby l c) y=0/\ql (qby l c) y 0=ql l y 0:=by
 have e:qby l c=qH c l:=by unfold qby;rw[if_pos h]
 rw[e]
 unfold wY at h
 by_cases h1:(uu l).1≠0
 ·rw[if_pos h1]at h;exact absurd h h1
 rw[if_neg h1]at h
 cases h2:qcv l c.id with
 |true=>rw[h2,if_pos rfl]at h;cases h
 |false=>
  rw[h2,if_neg (by simp)]at h
  refine⟨qwS h hy,qnK ?_ l⟩
  unfold inF
  by_cases h3:c.fr<=y
  ·rw[decide_eq_false (by omega:¬y<=c.to)];simp
  ·rw[decide_eq_false h3];simp
end Go.Abs.Tz
namespace Go.Abs.Tz
open Go Go.Abs Go.Proofs
set_option maxRecDepth 20000
set_option linter.unusedSimpArgs false
attribute [local simp ↓] gF gD uZ uY gd zX qW zk uX zU yq yr gG gI gJ gH jd jg jj je jk jl jh ji jf jb u9 jc ja yo ym yp yn gA gy gC gz gM gK gL ue zz jm qS jn gg yt yu gQ gT gS gN gO g8 jp jw jz jv jx jy j5 j3 jF jH uH uE uS uV uF uN uR uQ uP uO uL uA uB uC uD uT uJ uK uy uU uW uG uI uM uz jL jG jY j8 jI jT jX jW jV jU jR jD j0 jP jQ jA j7 j9 jJ jN jS jB gb j6 jC ga jO jK jM jE jZ jq ju jr gY g7 gW gZ g6 qm uo
attribute [local simp] faL fdL iaL ixL za q9 qN eqK eqL qL ze ut gV yk g9 yb yd yf yh yj ya ye yc yg zr LV.cells LV.whole qm uf zK jo stL zw zF zV qa.alloc ge gc gf gw gv gu gt gq gp gk gj gi gh qd ug
theorem qlN(n:Nat)(m:Option Nat)(q:Nat)(t:FT)(H:qa)(k:LV->Prop):yZ E0 [.c n m,.t q] t H k=zA t n fun a=>vP (za H m a) fun v=>zA t q fun b=>k (.tup [v,b]):=by
 have e1:v6 H t.get (.c n m)=za H m (t.get n):=rfl
 have e2:v6 H t.get (.t q)=some (t.get q):=rfl
 unfold yZ zA vP
 simp only[wM,List.mapM_cons,List.mapM_nil,e1,e2]
 cases za H m (t.get n) with
 |none=>simp
 |some v=>simp
def vH(l:List qf)(y:Int):Int×Int×Int:=if zo l y≠0 then (0,0,zo l y) else (qcU (yE 4000 (zy l)) y,qcV (yE 4000 (zy l)) y,0)
def hiY(ys:List Int)(y:Int):List Int:=(ys.filter fun x=>decide (y<x)).map fun x=>x - 1
theorem qtM(p:Int->Bool)(x:Int)(l:List Int)(a:Int):qae p (x::l) a=qae p l (if p x then (if a<x then x else a) else a):=rfl
theorem qtG(p:Int->Bool)(x:Int)(l:List Int)(a:Int):wx p (x::l) a=wx p l (if p x then (if x<a then x else a) else a):=rfl
theorem quC(x y:Int)(r:List Int)(a:Int):wx (fun x=>decide (y<=x)) (hiY (x::r) y) a=wx (fun x=>decide (y<=x)) (hiY r y) (if x<=y then a else if x - 1<a then x - 1 else a):=by
 unfold hiY
 by_cases h:x<=y
 ·rw[List.filter_cons,decide_eq_false (by omega:¬y<x),if_neg (by simp),if_pos h]
 ·rw[List.filter_cons,decide_eq_true (by omega:y<x),if_pos rfl,List.map_cons,qtG,decide_eq_true (by omega:y<=x - 1),if_pos rfl,if_neg h]
structure NNcR where
 i:Nat
 n:Nat
 lo:Int
 hi:Int
theorem qkM(l:List qf)(own:Own)(y:Int)(hI:CustIn l):qg 35 [.sl (l.map qA) own,.int y] (.tup [.agg [.int (vH l y).1,.int (vH l y).2.1],.int (vH l y).2.2]):=by
 refine qg.of c35 fun H hH=>⟨Nat.le_of_ble_eq_true rfl,?_⟩
 obtain⟨V,hV⟩:∃V,vH l y=V:=⟨_,rfl⟩
 rw[hV]
 unfold vH at hV
 simp(disch:=omega)[b35]
 refine(qeB l own y hI).go fun n1 hn1=>?_
 by_cases ha:zo l y=0
 case neg=>
  rw[if_pos ha]at hV
  have e1:V.1=0:=by rw[<-hV]
  have e2:V.2.1=0:=by rw[<-hV]
  have e3:V.2.2=zo l y:=by rw[<-hV]
  rw[e1,e2,e3]
  simp(disch:=omega)[ha,qlN]
  exact qq hH (by first|rfl|simp[])
 rw[if_neg (by simpa using ha)]at hV
 obtain⟨h30,_⟩:=qbX ha y 0
 obtain⟨hcu,hyb⟩:=qcD ha
 obtain⟨hC,_,_⟩:=qbT hcu
 rw[ha]
 simp(disch:=omega)
 refine qkG l own (by omega) (fun c hc=>(hC.ok c hc).1) _ _ fun ow n2 hn2=>?_
 have hyl:=qlP 4000 (zy l)
 have hsl:(zy l).length=l.length:=by unfold zy;rw[List.length_map]
 have hyb2:∀x∈yE 4000 (zy l),-10<=x/\x<=4001:=fun x hx=>by
  rcases qdM.1 hx with h|⟨c,hc,h⟩
  ·omega
  ·have:=(qbP.1 (hC.ok c hc).1).2
   omega
 obtain⟨ys,hys⟩:∃ys,yE 4000 (zy l)=ys:=⟨_,rfl⟩
 rw[hys]at hyl hV hyb2 ⊢
 obtain⟨LO,hLO⟩:∃x,qcU ys y=x:=⟨_,rfl⟩
 obtain⟨HI,hHI⟩:∃x,qcV ys y=x:=⟨_,rfl⟩
 rw[hLO,hHI]at hV
 simp(disch:=omega)
 refine qE (σ:=NNcR) (fun q=>(.nd .bot (.nd (.int y) (.nd .bot (.nd (.ptr n1 0) .nil .nil) (.nd .bot (.nd (.sl (ui ys) ow) .nil .nil) .nil)) (.nd .bot .nil (.nd .bot (.nd (.int q.i) .nil .nil) .nil))) (.nd .bot (.nd (.ptr H.next 0) .nil (.nd .bot (.nd (.int ys.length) .nil .nil) .nil)) .nil))) (fun q=>⟨(n1,.cells [.int q.lo,.int q.hi])::(H.next,.cells [.int 0,.int 0])::H.objs,q.n⟩) (fun q=>ys.length - q.i)
  (fun q=>n2<=q.n/\q.i<=ys.length/\qae (fun x=>decide (x<=y)) (ys.drop q.i) q.lo=LO/\wx (fun x=>decide (y<=x)) (hiY (ys.drop q.i) y) q.hi=HI) ⟨0,n2,0,4000⟩ ⟨Nat.le_refl _,Nat.zero_le _,hLO,hHI⟩ (by simp[FT.Le,Wk]) ⟨HWk.refl _,fun h=>h⟩ ?_
 rintro⟨i,n,lo,hi⟩ ⟨hn,hil,he1,he2⟩ hok
 dsimp only at hn hil he1 he2 hok
 by_cases hlt:i<ys.length
 case neg=>
  rw[List.drop_eq_nil_of_le (by omega)]at he1 he2
  have e1:lo=LO:=he1
  have e2:hi=HI:=he2
  subst e1 e2
  have e1:V.1=lo:=by rw[<-hV]
  have e2:V.2.1=hi:=by rw[<-hV]
  have e3:V.2.2=0:=by rw[<-hV]
  rw[e1,e2,e3]
  simp(disch:=omega)[hlt,qlN]
  exact qq hH (by first|rfl|simp[])
 rw[List.drop_eq_getElem_cons hlt]at he1 he2
 rw[qtM]at he1
 rw[quC]at he2
 have hyx:=hyb2 _ (List.getElem_mem hlt)
 by_cases hle:ys[i]<=y
 ·rw[decide_eq_true hle,if_pos rfl]at he1
  rw[if_pos hle]at he2
  simp(disch:=omega)[hlt,hle,qw (show i<2^62 by omega)]
  exact⟨⟨i+1,n,if lo<ys[i] then ys[i] else lo,hi⟩,by dsimp only;omega,⟨by dsimp only;omega,by dsimp only;omega,he1,he2⟩,by simp[FT.Le,Wk],HWk.refl _,fun h=>h⟩
 ·rw[decide_eq_false hle,if_neg (by simp)]at he1
  rw[if_neg hle]at he2
  have hw:IntKind.wrap .i64 (ys[i] - 1)=ys[i] - 1:=yX (by omega) (by omega)
  simp(disch:=omega)[hlt,hle,hw,qw (show i<2^62 by omega)]
  exact⟨⟨i+1,n,lo,if ys[i] - 1<hi then ys[i] - 1 else hi⟩,by dsimp only;omega,⟨by dsimp only;omega,by dsimp only;omega,he1,he2⟩,by simp[FT.Le,Wk],HWk.refl _,fun h=>h⟩
end Go.Abs.Tz
namespace Go.Abs
open Go
def FT.map(f:LV->LV):FT->FT
 |.nil=>.nil
 |.nd v l r=>.nd (f v) (FT.map f l) (FT.map f r)
theorem FT.map_get(f:LV->LV)(hf:f .bot=.bot):∀(t:FT)(k:Nat),(t.map f).get k=f (t.get k)
 |.nil,k=>by rw[FT.map,FT.get_nil,hf]
 |.nd v l r,k=>by
  rw[FT.map,FT.get_node,FT.get_node]
  split
  ·rfl
  ·split
   ·exact FT.map_get f hf l _
   ·exact FT.map_get f hf r _
theorem qnc{E:Env}{F:Fns}{c:qk}{t:FT}{H H':qa}{k:XP}(L:List Nat)(hc:∀l,c≠.drw l)(hh:HWk (H.dels L) H')(hok:H.Ok->H'.Ok)(h:lP E F c (t.map (zL H L)) H' k):lP E F c t H k:=by
 intro hH
 refine .frzC L hc ?_
 have h1:=h (hok hH)
 have e:(fun j=>zL H L (t.get j))=(t.map (zL H L)).get:=by
  funext j
  rw[FT.map_get _ (by simp[zL])]
 rw[e]
 exact .weak hc (fun _=>.inl rfl) hh h1
end Go.Abs
namespace Go.Abs.Tz
open Go Go.Abs Go.Proofs
set_option maxRecDepth 20000
set_option linter.unusedSimpArgs false
attribute [local simp ↓] gF gD uZ uY gd zX qW zk uX zU yq yr gG gI gJ gH jd jg jj je jk jl jh ji jf jb u9 jc ja yo ym yp yn gA gy gC gz gM gK gL ue zz jm qS jn gg yt yu gQ gT gS gN gO g8 jp jw jz jv jx jy j5 j3 jF jH uH uE uS uV uF uN uR uQ uP uO uL uA uB uC uD uT uJ uK uy uU uW uG uI uM uz jL jG jY j8 jI jT jX jW jV jU jR jD j0 jP jQ jA j7 j9 jJ jN jS jB gb j6 jC ga jO jK jM jE jZ jq ju jr gY g7 gW gZ g6 qm uo
attribute [local simp] faL fdL iaL ixL za q9 qN eqK eqL qL ze ut gV yk g9 yb yd yf yh yj ya ye yc yg zr LV.cells LV.whole qm uf zK jo stL zw zF zV qa.alloc ge gc gf gw gv gu gt gq gp gk gj gi gh qd ug
def cmpC(x y:qf):Int:=cmpI x.id y.id
def ltC(x y:qf):Bool:=decide (cmpC x y<0)
theorem qcr(x y:qf):ltC x y=true↔x.id<y.id:=by
 unfold ltC cmpC cmpI
 rw[decide_eq_true_iff]
 split
 ·simp_all
 ·split<;>simp_all
theorem qrv(x y:qf):qg 93 [qA x,qA y] (.int (cmpC x y)):=by
 refine qg.of c93 fun H hH=>⟨Nat.le_of_ble_eq_true rfl,?_⟩
 simp(disch:=omega)[b93]
 refine(qfS _ _).go fun n hn=>?_
 simp(disch:=omega)
 exact qq hH (by first|rfl|simp[])
theorem qec(x:qf):(qU x).length=4:=rfl
abbrev zi(A:List qf):qc:=.arr 4 (A.flatMap qU)
structure NNcA where
 i:Nat
 a:List qf
theorem qna{A:List qf}{j o:Nat}{l:List (Nat×qc)}{m:Nat}(hl:look o l=some (zi A))(hj:j<A.length):za ⟨l,m⟩ (some 4) (.ptr o (j*4))=some (qA A[j]):=by
 have h1:j*4+4<=(A.flatMap qU).length:=by rw[qdT qec];omega
 simp only[za,hl,q9,h1,if_true]
 rw[qvc qec hj]
theorem qkX{A:List qf}{j o:Nat}{l:List (Nat×qc)}{m:Nat}(hl:look o l=some (zi A))(hj:j<A.length)(x:qf):stL ⟨l,m⟩ 4 (.ptr o (j*4)) (qA x)=some ⟨qx o (zi (A.set j x)) l,m⟩:=by
 have h1:j*4+4<=(A.flatMap qU).length:=by rw[qdT qec];omega
 have h2:(A.flatMap qU).take (j*4)++qU x++(A.flatMap qU).drop (j*4+4)=(A.set j x).flatMap qU:=qvb qec hj x
 have hc:(qA x).cells.length=4/\(qA x).whole/\j*4+4<=(A.flatMap qU).length:=⟨rfl,rfl,h1⟩
 unfold stL
 simp only[hl]
 rw[if_pos hc]
 show some (qa.put ⟨l,m⟩ o (.arr 4 ((A.flatMap qU).take (j*4)++qU x++(A.flatMap qU).drop (j*4+4))))=_
 rw[h2]
 rfl
theorem qiM{A:List qf}{j o n:Nat}{l:List (Nat×qc)}{m:Nat}(hl:look o l=some (zi A))(hj:j<n):iaL ⟨l,m⟩ 4 (.asl o 0 n) (.sc (.int .i64 (j:Int)))=some (.ptr o (j*4)):=by
 simp[iaL,uo,hl,hj]
theorem qqZ(A:List qf)(o:Nat)(ob:List (Nat×qc))(nx:Nat)(hlo:look o ob=some (zi A))(hA:A.length<2^40){kv kp:HP}
  (hk:kv (.tup []) ⟨qx o (zi (qag ltC (A.length - 1) 1 A)) ob,nx⟩):
  cP E0 F0 190 [.asl o 0 A.length,.int 0,.int A.length,.fn (.func 93) [] []] ⟨ob,nx⟩ kv kp:=by
 refine ub c190 fun hH=>⟨Nat.le_of_ble_eq_true rfl,?_⟩
 simp(disch:=omega)[b190,yX]
 obtain⟨R,hR⟩:∃R,qag ltC (A.length - 1) 1 A=R:=⟨_,rfl⟩
 rw[hR]at hk
 refine qE (σ:=NNcA) (fun q=>(.nd (.asl o 0 A.length) (.nd (.int 0) (.nd (.fn (.func 93) [] []) .nil .nil) .nil) (.nd (.int A.length) (.nd .bot (.nd (.int q.i) .nil .nil) .nil) .nil)))
  (fun q=>⟨qx o (zi q.a) ob,nx⟩) (fun q=>A.length - q.i)
  (fun q=>q.a.length=A.length/\qag ltC (A.length - q.i) q.i q.a=R) ⟨1,A⟩ ⟨rfl,hR⟩ (by simp[FT.Le,Wk]) ?_ ?_
 ·dsimp only;rw[qeH hlo];exact⟨HWk.refl _,fun h=>h⟩
 rintro⟨i,B⟩ ⟨hl,he⟩ hok
 dsimp only at hl he
 have hlB:∀B:List qf,look o (qx o (zi B) ob)=some (zi B):=fun B=>vL hlo
 by_cases hlt:i<A.length
 case neg=>
  rw[show A.length - i=0 by omega]at he
  simp only[qag]at he
  subst he
  simp(disch:=omega)[hlt,qS]
  exact keep hk
 simp(disch:=omega)[hlt]
 obtain⟨W,hW⟩:∃W,vX ltC B i=W:=⟨_,rfl⟩
 have hWl:W.length=A.length:=by rw[<-hW,qle,hl]
 rw[show A.length - i=(A.length - (i+1))+1 by omega]at he
 simp only[qag,hW]at he
 refine qE (σ:=NNcA) (fun q=>(.nd (.asl o 0 A.length) (.nd (.int 0) (.nd (.fn (.func 93) [] []) .nil .nil) (.nd .bot (.nd (.int q.i) .nil .nil) .nil)) (.nd (.int A.length) (.nd .bot (.nd (.int i) .nil .nil) .nil) .nil)))
  (fun q=>⟨qx o (zi q.a) ob,nx⟩) (fun q=>q.i)
  (fun q=>q.i<=i/\q.a.length=A.length/\vX ltC q.a q.i=W) ⟨i,B⟩ ⟨Nat.le_refl _,hl,hW⟩ (by simp[FT.Le,Wk]) ⟨HWk.refl _,fun h=>h⟩ ?_
 rintro⟨j,C⟩ ⟨hj,hCl,hC⟩ hok2
 dsimp only at hj hCl hC
 by_cases hj0:j=0
 ·subst hj0
  simp only[vX]at hC
  subst hC
  simp(disch:=omega)[qw (show i<2^62 by omega)]
  exact⟨⟨i+1,C⟩,by dsimp only;omega,⟨hWl,he⟩,by simp[FT.Le,Wk],HWk.refl _,fun h=>h⟩
 obtain⟨k,hjk⟩:∃k,j=k+1:=⟨j - 1,by omega⟩
 have hk1:j<C.length:=by omega
 have hk0:k<C.length:=by omega
 have hi1:=qiM (n:=A.length) (m:=nx) (hlB C) (show j<A.length by omega)
 have hi0:=qiM (n:=A.length) (m:=nx) (hlB C) (show k<A.length by omega)
 have hl1:=qna (m:=nx) (hlB C) hk1
 have hl0:=qna (m:=nx) (hlB C) hk0
 have hpos:0<j:=by omega
 obtain⟨x,hx⟩:∃x,C[j]=x:=⟨_,rfl⟩
 obtain⟨y,hy⟩:∃y,C[k]=y:=⟨_,rfl⟩
 rw[hx]at hl1
 rw[hy]at hl0
 have hC':(if ltC x y=true then vX ltC ((C.set j y).set k x) k else C)=W:=by
  subst hjk
  simp only[vX,List.getElem?_eq_getElem hk1,List.getElem?_eq_getElem hk0,hx,hy]at hC
  exact hC
 simp(disch:=omega)[-iaL,-za,hi1,hi0,hl1,hl0,hpos,qjW hjk (show k<2^62 by omega)]
 refine(qrv x y).x (.sc _) ?_
 by_cases hlt2:cmpC x y<0
 case neg=>
  have hf:ltC x y=false:=by simp[ltC,hlt2]
  rw[hf]at hC'
  simp at hC'
  subst hC'
  simp(disch:=omega)[hlt2,qw (show i<2^62 by omega)]
  exact⟨⟨i+1,C⟩,by dsimp only;omega,⟨hWl,he⟩,by simp[FT.Le,Wk],HWk.refl _,fun h=>h⟩
 have hf:ltC x y=true:=by simp[ltC,hlt2]
 rw[hf]at hC'
 simp at hC'
 have hs1:=qkX (m:=nx) (hlB C) hk1 y
 have hs0:=qkX (m:=nx) (j:=k) (hlB (C.set j y)) (by rw[List.length_set];exact hk0) x
 have hi2:=qiM (n:=A.length) (m:=nx) (hlB (C.set j y)) (show k<A.length by omega)
 rw[qbp]at hs1 hs0
 simp(disch:=omega)[-iaL,-za,-stL,hi1,hi0,hl1,hl0,hi2,hs1,hs0,hlt2,qjW hjk (show k<2^62 by omega)]
 exact⟨⟨k,(C.set j y).set k x⟩,by dsimp only;omega,⟨by dsimp only;omega,by simp[hCl],hC'⟩,by simp[FT.Le,Wk],HWk.refl _,fun h=>h⟩
theorem qqC(A:List qf)(o:Nat)(ob:List (Nat×qc))(nx:Nat)(hlo:look o ob=some (zi A))(hA:A.length<=19){kv kp:HP}
  (hk:kv (.tup []) ⟨qx o (zi (qag ltC (A.length - 1) 1 A)) ob,nx⟩):
  cP E0 F0 151 [.asl o 0 A.length,.int A.length,.fn (.func 93) [] []] ⟨ob,nx⟩ kv kp:=by
 refine ub c151 fun hH=>⟨Nat.le_of_ble_eq_true rfl,?_⟩
 simp(disch:=omega)[b151,yX]
 refine qbr ?_
 have h20:¬(20:Int)<=(A.length:Int):=by omega
 have h20':¬(20:Int)<(A.length:Int):=by omega
 simp(disch:=omega)[h20]
 refine qqZ A o ob nx hlo (by omega) ?_
 simp(disch:=omega)
 refine qbr ?_
 simp(disch:=omega)[h20',qS]
 exact keep hk
theorem qkr(A:List qf)(o:Nat)(ob:List (Nat×qc))(nx:Nat)(hlo:look o ob=some (zi A))(hA:A.length<=19){kv kp:HP}
  (hk:kv (.tup []) ⟨qx o (zi (qag ltC (A.length - 1) 1 A)) ob,nx⟩):
  cP E0 F0 92 [.asl o 0 A.length,.fn (.func 93) [] []] ⟨ob,nx⟩ kv kp:=by
 refine ub c92 fun hH=>⟨Nat.le_of_ble_eq_true rfl,?_⟩
 simp(disch:=omega)[b92]
 refine qqC A o ob nx hlo hA ?_
 simp(disch:=omega)[qS]
 exact keep hk
theorem qdd(c:qf):∀l:List qf,(qH c l).Perm (l++[c])
 |[]=>.refl _
 |x::r=>by
  have ih:=qdd c r
  unfold qH
  split
  ·exact ih.cons x
  ·exact(List.perm_append_comm (l₁:=[c]) (l₂:=x::r))
theorem qnp{c:qf}:∀{l:List qf},l.Pairwise (fun a b=>a.id<b.id)->(∀x∈l,x.id≠c.id)->(qH c l).Pairwise fun a b=>a.id<b.id
 |[],_,_=>by simp[qH]
 |x::r,h,hne=>by
  obtain⟨h1,h2⟩:=List.pairwise_cons.1 h
  have ih:=qnp h2 fun y hy=>hne y (List.mem_cons_of_mem _ hy)
  unfold qH
  by_cases hx:x.id<c.id
  ·rw[if_pos hx]
   refine List.pairwise_cons.2 ⟨fun y hy=>?_,ih⟩
   have:=(qdd c r).mem_iff.1 hy
   rcases List.mem_append.1 this with hy|hy
   ·exact h1 y hy
   ·rw[List.mem_singleton]at hy;rw[hy];exact hx
  ·rw[if_neg hx]
   have hxc:=hne x List.mem_cons_self
   refine List.pairwise_cons.2 ⟨fun y hy=>?_,h⟩
   rcases List.mem_cons.1 hy with rfl|hy
   ·omega
   ·have:=h1 y hy;omega
theorem qla{l:List qf}{c:qf}(h:l.Pairwise fun a b=>a.id<b.id)(hne:∀x∈l,x.id≠c.id):qag ltC ((l++[c]).length - 1) 1 (l++[c])=qH c l:=by
 have hp:=qng ltC ((l++[c]).length - 1) 1 (l++[c])
 have hlen:(qag ltC ((l++[c]).length - 1) 1 (l++[c])).length=(l++[c]).length:=hp.length_eq
 have hup:=qnf ltC (fun a b h=>by
  cases hb:ltC b a with
  |false=>rfl
  |true=>
   have h1:=(qcr _ _).1 h
   have h2:=(qcr _ _).1 hb
   omega) ((l++[c]).length - 1) 1 (l++[c]) (fun i x y hi _ _=>by omega) (by simp;omega)
 have e:1+((l++[c]).length - 1)=(qag ltC ((l++[c]).length - 1) 1 (l++[c])).length:=by rw[hlen];simp;omega
 rw[e]at hup
 have hpw:=qkj ltC (fun a b d h1 h2=>by
  cases hb:ltC d a with
  |false=>rfl
  |true=>
   have h3:=(qcr _ _).1 hb
   have h1':¬b.id<a.id:=fun e=>by rw[(qcr _ _).2 e]at h1;cases h1
   have h2':¬d.id<b.id:=fun e=>by rw[(qcr _ _).2 e]at h2;cases h2
   omega) _ hup
 have hinc:=qnp h hne
 refine qie (le:=fun x y=>ltC y x=false) (hp.trans (qdd c l).symm) hpw (hinc.imp fun{a b} hab=>?_) fun a ha b hb h1 h2=>?_
 ·cases hb:ltC b a with
  |false=>rfl
  |true=>have:=(qcr _ _).1 hb;omega
 ·have ha':=(hp.trans (qdd c l).symm).mem_iff.1 ha
  have hb':=(hp.trans (qdd c l).symm).mem_iff.1 hb
  have h1':¬b.id<a.id:=fun e=>by rw[(qcr _ _).2 e]at h1;cases h1
  have h2':¬a.id<b.id:=fun e=>by rw[(qcr _ _).2 e]at h2;cases h2
  exact qiL hinc ha' hb' (by omega)
theorem qwk(l:List qf):(l.map qA).flatMap LV.cells=l.flatMap qU:=by
 rw[List.flatMap_map]
 rfl
theorem qvY(l:List qf):((l.map qA).all fun e=>e.cells.length==4)=true:=by
 rw[List.all_eq_true]
 intro e he
 obtain⟨c,_,rfl⟩:=List.mem_map.1 he
 rfl
theorem qpH{l:List qf}(ob:List (Nat×qc))(m:Nat)(ow:Own)(hne:l≠[])(hl:l.length<=2^20):
  wl ⟨ob,m⟩ 4 (.sl [] .full) (.sl (l.map qA) ow)=some (.asl m 0 l.length,⟨(m,zi l)::ob,m+1⟩):=by
 have h2:wK ⟨ob,m⟩ 4 (.sl [] .full)=some ([],⟨ob,m⟩,0):=rfl
 have h3:qbn ⟨ob,m⟩ 4 (.sl (l.map qA) ow)=some (l.flatMap qU,l.length):=by
  unfold qbn
  simp only
  rw[qvY,if_pos rfl,qwk,List.length_map]
 have h0:l.length≠0:=fun e=>hne (List.eq_nil_of_length_eq_zero e)
 unfold wl
 rw[h2,h3]
 simp only
 rw[if_neg h0,if_pos ⟨by omega,by omega⟩]
 simp[qa.alloc]
theorem qxa{l:List (Nat×qc)}{m o:Nat}{A:List qf}(x:qf)(ow:Own)(hl:look o l=some (zi A))(hA:A.length<=2^20):
  wl ⟨l,m⟩ 4 (.asl o 0 A.length) (.sl [qA x] ow)=some (.asl m 0 (A.length+1),⟨(m,zi (A++[x]))::zB o l,m+1⟩):=by
 have h1:(A.flatMap qU).length=A.length*4:=qdT qec A
 have h2:wK ⟨l,m⟩ 4 (.asl o 0 A.length)=some (A.flatMap qU,⟨zB o l,m⟩,A.length):=by
  simp only[wK,hl]
  rw[if_pos ⟨trivial,by rw[h1];exact Nat.le_refl _⟩,<-h1,List.take_length]
  rfl
 have h3:qbn ⟨l,m⟩ 4 (.sl [qA x] ow)=some (qU x,1):=rfl
 unfold wl
 rw[h2,h3]
 simp only
 rw[if_neg (by omega),if_pos ⟨by omega,by omega⟩]
 simp[qa.alloc,List.flatMap_append,LV.cells]
theorem qrz(l:List qf)(own:Own)(hne:l≠[])(hl:l.length<=2^20)(ob:List (Nat×qc))(n:Nat){kv kp:HP}(hk:kv (.asl n 0 l.length) ⟨(n,zi l)::ob,n+1⟩):
  cP E0 F0 91 [.sl (l.map qA) own] ⟨ob,n⟩ kv kp:=by
 refine ub c91 fun hH=>⟨Nat.le_of_ble_eq_true rfl,?_⟩
 obtain⟨c,r,rfl⟩:∃c r,l=c::r:=by
  cases l with
  |nil=>exact absurd rfl hne
  |cons c r=>exact⟨c,r,rfl⟩
 have hap:=qpH ob n own hne hl
 have hm:List.map qA (c::r)=qA c::List.map qA r:=rfl
 rw[hm]at hap ⊢
 simp(disch:=omega)[b91]
 refine qcA ?_
 simp(disch:=omega)
 rw[show wl ⟨ob,n⟩ 4 (.sl [] .full) (.sl (.agg [.int c.id,.int c.fr,.int c.to,qF c.cls]::List.map qA r) own)=_ from hap]
 simp(disch:=omega)
 exact keep (by simpa using hk)
end Go.Abs.Tz
namespace Go.Proofs
open Go Go.RowKit Go.Lib
set_option maxHeartbeats 2000000
set_option maxRecDepth 100000
theorem Tz.cloneC_nil(w:World):Calls Tryz.prog 91 #[.slice none 0 0] w fun e w'=>e=.returned (.slice none 0 0)/\w'=w:=by
 have q:∀(w:World)(a:Option Addr)(n c n' c':Nat),(binOp .eql 47 (.slice a n c) (.slice none n' c')).run Tryz.prog w=.ok (.bool a.isNone) w:=fun w a n c n' c'=>Lib.run_eql_slice_nil w _ _ a n c n' c' Tryz.underlying47
 go_enter Tryz.func91,Tryz.ntmps91
 go_wp2
 go_ret
 exact⟨rfl,rfl⟩
theorem Tz.cloneC_zero(a:Addr)(c:Nat)(w:World):Calls Tryz.prog 91 #[.slice (some a) 0 c] w fun e w'=>∃g,e=.returned (.slice (some ⟨g,0,none⟩) 0 0)/\w.grownBy w' none:=by
 have q:∀(w:World)(a:Option Addr)(n c n' c':Nat),(binOp .eql 47 (.slice a n c) (.slice none n' c')).run Tryz.prog w=.ok (.bool a.isNone) w:=fun w a n c n' c'=>Lib.run_eql_slice_nil w _ _ a n c n' c' Tryz.underlying47
 obtain⟨i0,hi,hz1⟩:=Option.map_eq_some_iff.1 (show (Tryz.prog.info? 66).map (·.size)=some 4 by kernel_rfl)
 go_enter Tryz.func91,Tryz.ntmps91
 go_wp2_with (at_builtin;refine wpList_append_fits _ rfl _ _ 47 rfl w.heap.size 66 i0 4 Tryz.underlying47 hi hz1 w.heap.size 0 0 [] rfl (World.ownsRow_made w #[] 0 (Nat.le_refl _) (Nat.zero_le _) rfl) a 0 c [] rfl rfl (by intro j u hj;simp at hj) (by intro u hu;cases hu) (by omega) ?_)
 intro w1 hown hgrow
 go_wp2
 go_ret
 refine⟨w.heap.size,rfl,?_⟩
 obtain⟨h1,h2,h3,h4,h5⟩:=hgrow
 have e:(w.alloc (.cells #[] 66)).heap=w.heap.push (.cells #[] 66):=rfl
 rw[e,Array.size_push]at h4
 refine⟨h1,h2,h3,by omega,fun k hk _=>?_⟩
 have h6:=h5 k (by rw[e,Array.size_push];omega) (by intro he;have:=Option.some.inj he;omega)
 rw[h6,e,Array.getElem?_push_lt hk]
 exact(Array.getElem?_eq_getElem hk).symm
end Go.Proofs
namespace Go.Abs.Tz
open Go Go.Abs Go.Proofs
set_option maxRecDepth 20000
set_option linter.unusedSimpArgs false
attribute [local simp ↓] gF gD uZ uY gd zX qW zk uX zU yq yr gG gI gJ gH jd jg jj je jk jl jh ji jf jb u9 jc ja yo ym yp yn gA gy gC gz gM gK gL ue zz jm qS jn gg yt yu gQ gT gS gN gO g8 jp jw jz jv jx jy j5 j3 jF jH uH uE uS uV uF uN uR uQ uP uO uL uA uB uC uD uT uJ uK uy uU uW uG uI uM uz jL jG jY j8 jI jT jX jW jV jU jR jD j0 jP jQ jA j7 j9 jJ jN jS jB gb j6 jC ga jO jK jM jE jZ jq ju jr gY g7 gW gZ g6 qm uo
attribute [local simp] faL fdL iaL ixL za q9 qN eqK eqL qL ze ut gV yk g9 yb yd yf yh yj ya ye yc yg zr LV.cells LV.whole qm uf zK jo stL zw zF zV qa.alloc ge gc gf gw gv gu gt gq gp gk gj gi gh qd ug
theorem qrA(own:Own)(ob:List (Nat×qc))(n:Nat){kv kp:HP}(hk:kv Nl ⟨ob,n⟩):cP E0 F0 91 [.sl [] own] ⟨ob,n⟩ kv kp:=by
 intro hH
 refine .prim (qpi (v:=Nl) (enters_of (by kernel_rfl)) (.inl ⟨_,_,rfl,hH,hk⟩) fun G w us hI ha=>?_)
 obtain⟨u,rfl,hu⟩:=qcF ha
 obtain⟨base,cap,rfl,_,_,_⟩:=hu.sl_inv
 cases base with
 |none=>
  have hcap:cap=0:=by
   cases hu with
   |sln _=>rfl
  subst hcap
  refine(Tz.cloneC_nil w).mono ?_
  rintro e w' ⟨rfl,rfl⟩
  exact⟨_,rfl,.sln rfl,qdR _⟩
 |some a=>
  refine(Tz.cloneC_zero a cap w).mono ?_
  rintro e w' ⟨g,rfl,hg⟩
  refine⟨_,rfl,?_,hg⟩
  exact VR.sl (G:=G) (w:=w') (es:=[]) (own:=.full) (b:=g) (off:=0) (sz:=4) (cap:=0) (xs:=fun _ _=>undef) (Nat.le_refl _) (fun i e h=>by simp at h) (fun i e j c h=>by simp at h) (fun i e j c h=>by simp at h) rfl
def ad0:qk:=match b31.body with
 |.seq a _=>a
 |_=>.bad
def ad1:qk:=match b31.body with
 |.seq _ (.seq a _)=>a
 |_=>.bad
def ad2:qk:=match b31.body with
 |.seq _ (.seq _ (.seq a _))=>a
 |_=>.bad
def ad3:qk:=match b31.body with
 |.seq _ (.seq _ (.seq _ (.seq a _)))=>a
 |_=>.bad
def ad4:qk:=match b31.body with
 |.seq _ (.seq _ (.seq _ (.seq _ (.seq a _))))=>a
 |_=>.bad
def ad5:qk:=match b31.body with
 |.seq _ (.seq _ (.seq _ (.seq _ (.seq _ a))))=>a
 |_=>.bad
theorem qwz:b31.body=.seq ad0 (.seq ad1 (.seq ad2 (.seq ad3 (.seq ad4 ad5)))):=rfl
theorem qoX:∀A:List qf,wg 4 A.length (A.flatMap qU)=A.map qA
 |[]=>rfl
 |x::A=>by
  have ih:=qoX A
  rw[List.length_cons,List.flatMap_cons]
  show qdL ((qU x++A.flatMap qU).take 4)::wg 4 A.length ((qU x++A.flatMap qU).drop 4)=_
  rw[show (qU x++A.flatMap qU).take 4=qU x from List.take_left (l₁:=qU x),show (qU x++A.flatMap qU).drop 4=A.flatMap qU from List.drop_left (l₁:=qU x),ih]
  rfl
theorem frzC{H:qa}{A:List qf}{o:Nat}(hl:look o H.objs=some (zi A)):qah H [o] o 0 A.length=.sl (A.map qA) .no:=by
 unfold qah
 have h1:(A.flatMap qU).length=A.length*4:=qdT qec A
 simp only[List.contains_cons,BEq.rfl,Bool.true_or,if_true,hl]
 rw[if_pos (by rw[h1];omega)]
 rw[Nat.zero_mul,List.drop_zero,qoX]
theorem qiI(c:qf)(l:List qf):(qH c l).length=l.length+1:=by
 have:=(qdd c l).length_eq
 simpa using this
theorem CustIn.ins{l:List qf}{c:qf}(hI:CustIn l)(hc:qbb c.cls)(hl:l.length<=30):CustIn (qH c l):=
 ⟨by rw[qiI];omega,fun _ x hx=>by
  rcases List.mem_append.1 ((qdd c l).mem_iff.1 hx) with h|h
  ·exact hI.sm hl x h
  ·rw[List.mem_singleton]at h;rw[h];exact hc⟩
theorem qhw(l:List qf)(own:Own)(c:qf)(hI:CustIn l)(hcl:qbb c.cls)(h18:l.length<=18\/30<l.length)(ob:List (Nat×qc))(n:Nat){kv kp:HP}
  (hk0:wY l c≠0->∀n',n<=n'->kv (.tup [Nl,.int (wY l c)]) ⟨ob,n'⟩)
  (hk1:wY l c=0->∀(ow:Own)(n':Nat),n<=n'->kv (.tup [.sl ((qH c l).map qA) ow,.int 0]) ⟨ob,n'⟩):
  cP E0 F0 31 [.sl (l.map qA) own,qA c] ⟨ob,n⟩ kv kp:=by
 refine qdn c31 (Nat.le_of_ble_eq_true rfl) fun hH=>?_
 have hOb:qt ob n:=hH
 rw[qwz]
 simp(disch:=omega)
 refine yA (zD ?_)
 simp(disch:=omega)[ad0,b31]
 refine yA (zD ?_)
 simp(disch:=omega)[ad1,b31]
 refine(qfT l own hI.len hI.sm).go fun n1 hn1=>?_
 have fin:∀(v:LV)(m:Nat)(x:qc),n<=m->(∀n',n<=n'->kv v ⟨ob,n'⟩)->∃H'',HWk ⟨(n,x)::ob,m⟩ H''/\(qa.Ok ⟨(n,x)::ob,m⟩->H''.Ok)/\kv v H'':=fun v m x hm hk=>⟨⟨ob,m⟩,vl hOb (Nat.le_refl _),fun _=>hOb.mono hm,hk m hm⟩
 by_cases hc:(uu l).1=0
 case neg=>
  have hE:wY l c=(uu l).1:=by unfold wY;rw[if_pos hc]
  rw[hE]at hk0
  simp(disch:=omega)[hc]
  exact fin _ _ _ (by omega) (hk0 hc)
 obtain⟨hC,_,hl30⟩:=qbT hc
 have hl18:l.length<=18:=by omega
 simp(disch:=omega)[hc]
 refine yA (zD ?_)
 simp(disch:=omega)[ad2,b31]
 refine qhu l (by omega) own 90 (fun x=>decide (x.id=c.id)) n _ _ (fun x _ n' kv kp hn' hk=>qrQ x c n _ n' (qm _ _ _) hk) fun n2 hn2=>?_
 obtain⟨B,hB⟩:∃B,qcv l c.id=B:=⟨_,rfl⟩
 have hB':(l.any fun x=>decide (x.id=c.id))=B:=hB
 rw[hB']
 cases B
 case true=>
  have hE:wY l c=6:=by unfold wY;rw[if_neg (by simpa using hc),hB,if_pos rfl]
  rw[hE]at hk0
  simp(disch:=omega)
  exact fin _ _ _ (by omega) (hk0 (by decide))
 have hE:wY l c=(uu (qH c l)).1:=by unfold wY;rw[if_neg (by simpa using hc),hB,if_neg (by simp)]
 have hne:∀x∈l,x.id≠c.id:=fun x hx he=>by
  have:qcv l c.id=true:=List.any_eq_true.2 ⟨x,hx,decide_eq_true he⟩
  rw[hB]at this
  cases this
 simp(disch:=omega)
 refine yA (zD ?_)
 simp(disch:=omega)[ad3,b31]
 by_cases hl0:l=[]
 ·have hn0:List.map qA l=[]:=by rw[hl0];rfl
  rw[hn0]
  refine qrA own _ _ ?_
  simp(disch:=omega)
  refine qcA ?_
  simp(disch:=omega)
  have hap:=qpH (l:=[c]) ((n,.cells (qU c))::ob) n2 .full (by simp) (by simp)
  rw[show wl ⟨(n,.cells [.int c.id,.int c.fr,.int c.to,qF c.cls])::ob,n2⟩ 4 (.sl [] .full) (.sl [.agg [.int c.id,.int c.fr,.int c.to,qF c.cls]] .full)=_ from hap]
  simp(disch:=omega)
  have hlc:[c]=l++[c]:=by rw[hl0];rfl
  have hLEN:(l++[c]).length=1:=by rw[hl0];rfl
  rw[hlc]
  obtain⟨M,hM⟩:∃M,n2=M:=⟨_,rfl⟩
  obtain⟨q,hq⟩:∃q,n2+1=q:=⟨_,rfl⟩
  have hMq:M<q:=by omega
  rw[hq,hM]
  refine yA (zD ?_)
  simp(disch:=omega)[ad4,b31]
  have hs:=@qkr (l++[c]) M ((M,zi (l++[c]))::(n,.cells (qU c))::ob) q (qm _ _ _) (by rw[List.length_append,List.length_singleton];omega)
  simp only[qla hC.inc hne,zK]at hs
  simp only[hLEN]at hs
  refine hs ?_
  simp(disch:=omega)
  refine wc (t':=(.nd .bot .nil (.nd .bot (.nd .bot (.nd (.asl M 0 (l++[c]).length) .nil .nil) .nil) .nil))) (H':=⟨(M,zi (qH c l))::ob,q⟩) (fun l h=>by cases h) (by simp only[hLEN];simp[FT.Le,Wk]) (qbu (hOb.mono (show n<=n from Nat.le_refl _)) fun _ _ h=>h) (fun _=>⟨hMq,hOb.mono (by omega)⟩) ?_
  have hfz:qah ⟨(M,zi (qH c l))::ob,q⟩ [M] M 0 (l++[c]).length=.sl ((qH c l).map qA) .no:=by
   have:=frzC (H:=⟨(M,zi (qH c l))::ob,q⟩) (A:=qH c l) (o:=M) (qm _ _ _)
   rw[qiI]at this
   rw[List.length_append,List.length_singleton]
   exact this
  refine qnc (H':=⟨ob,q⟩) [M] (fun l h=>by cases h) ⟨Nat.le_refl _,fun i x hx=>?_⟩ (fun _=>hOb.mono (by dsimp only;omega)) ?_
  ·have:=hOb.look hx
   have e1:look i (vx [M] ((M,zi (qH c l))::ob))=look i ((M,zi (qH c l))::ob):=qcs (by simp;omega)
   show look i (vx [M] ((M,zi (qH c l))::ob))=some x
   rw[e1,qd (by omega)]
   exact hx
  have ht:FT.map (zL ⟨(M,zi (qH c l))::ob,q⟩ [M]) ((.nd .bot .nil (.nd .bot (.nd .bot (.nd (.asl M 0 (l++[c]).length) .nil .nil) .nil) .nil)))=(.nd .bot .nil (.nd .bot (.nd .bot (.nd (.sl ((qH c l).map qA) .no) .nil .nil) .nil) .nil)):=by
   simp only[FT.map,zL,hfz]
  rw[ht]
  refine zD ?_
  have hI2:=hI.ins hcl hl30
  simp(disch:=omega)[ad5,b31]
  refine(qfT (qH c l) .no hI2.len hI2.sm).go fun n5 hn5=>?_
  by_cases hc2:(uu (qH c l)).1=0
  case neg=>
   rw[hE]at hk0
   simp(disch:=omega)[hc2]
   exact keep (hk0 hc2 n5 (by omega))
  simp(disch:=omega)[hc2]
  exact keep (hk1 (by rw[hE];exact hc2) .no n5 (by omega))
 ·refine qrz l own hl0 (by omega) _ _ ?_
  have k1:look n ((n2,zi l)::(n,.cells (qU c))::ob)=some (.cells (qU c)):=by rw[qd (by omega)];exact qm _ _ _
  simp(disch:=omega)[k1]
  refine qcA ?_
  simp(disch:=omega)
  have hap:=qxa (l:=(n2,zi l)::(n,.cells (qU c))::ob) (m:=n2+1) (o:=n2) (A:=l) c .full (qm _ _ _) (by omega)
  have hdel:zB n2 ((n2,zi l)::(n,.cells (qU c))::ob)=(n,.cells (qU c))::ob:=by
   have hb:zB n2 ob=ob:=qgU (H:=⟨ob,n⟩) hOb (by dsimp only;omega)
   simp only[zB]
   rw[if_pos trivial,if_neg (by omega),hb]
  rw[hdel]at hap
  rw[show wl ⟨(n2,zi l)::(n,.cells [.int c.id,.int c.fr,.int c.to,qF c.cls])::ob,n2+1⟩ 4 (.asl n2 0 l.length) (.sl [.agg [.int c.id,.int c.fr,.int c.to,qF c.cls]] .full)=_ from hap]
  simp(disch:=omega)
  have hLEN:(l++[c]).length=l.length+1:=by simp
  obtain⟨M,hM⟩:∃M,n2+1=M:=⟨_,rfl⟩
  obtain⟨q,hq⟩:∃q,M+1=q:=⟨_,rfl⟩
  have hMq:M<q:=by omega
  rw[hM,hq]
  refine yA (zD ?_)
  simp(disch:=omega)[ad4,b31]
  have hs:=@qkr (l++[c]) M ((M,zi (l++[c]))::(n,.cells (qU c))::ob) q (qm _ _ _) (by rw[List.length_append,List.length_singleton];omega)
  simp only[qla hC.inc hne,zK]at hs
  simp only[hLEN]at hs
  refine hs ?_
  simp(disch:=omega)
  refine wc (t':=(.nd .bot .nil (.nd .bot (.nd .bot (.nd (.asl M 0 (l++[c]).length) .nil .nil) .nil) .nil))) (H':=⟨(M,zi (qH c l))::ob,q⟩) (fun l h=>by cases h) (by simp only[hLEN];simp[FT.Le,Wk]) (qbu (hOb.mono (show n<=n from Nat.le_refl _)) fun _ _ h=>h) (fun _=>⟨hMq,hOb.mono (by omega)⟩) ?_
  have hfz:qah ⟨(M,zi (qH c l))::ob,q⟩ [M] M 0 (l++[c]).length=.sl ((qH c l).map qA) .no:=by
   have:=frzC (H:=⟨(M,zi (qH c l))::ob,q⟩) (A:=qH c l) (o:=M) (qm _ _ _)
   rw[qiI]at this
   rw[List.length_append,List.length_singleton]
   exact this
  refine qnc (H':=⟨ob,q⟩) [M] (fun l h=>by cases h) ⟨Nat.le_refl _,fun i x hx=>?_⟩ (fun _=>hOb.mono (by dsimp only;omega)) ?_
  ·have:=hOb.look hx
   have e1:look i (vx [M] ((M,zi (qH c l))::ob))=look i ((M,zi (qH c l))::ob):=qcs (by simp;omega)
   show look i (vx [M] ((M,zi (qH c l))::ob))=some x
   rw[e1,qd (by omega)]
   exact hx
  have ht:FT.map (zL ⟨(M,zi (qH c l))::ob,q⟩ [M]) ((.nd .bot .nil (.nd .bot (.nd .bot (.nd (.asl M 0 (l++[c]).length) .nil .nil) .nil) .nil)))=(.nd .bot .nil (.nd .bot (.nd .bot (.nd (.sl ((qH c l).map qA) .no) .nil .nil) .nil) .nil)):=by
   simp only[FT.map,zL,hfz]
  rw[ht]
  refine zD ?_
  have hI2:=hI.ins hcl hl30
  simp(disch:=omega)[ad5,b31]
  refine(qfT (qH c l) .no hI2.len hI2.sm).go fun n5 hn5=>?_
  by_cases hc2:(uu (qH c l)).1=0
  case neg=>
   rw[hE]at hk0
   simp(disch:=omega)[hc2]
   exact keep (hk0 hc2 n5 (by omega))
  simp(disch:=omega)[hc2]
  exact keep (hk1 (by rw[hE];exact hc2) .no n5 (by omega))
end Go.Abs.Tz
namespace Go.Abs.Tz
open Go Go.Abs Go.Proofs
set_option maxRecDepth 20000
set_option linter.unusedSimpArgs false
attribute [local simp ↓] gF gD uZ uY gd zX qW zk uX zU yq yr gG gI gJ gH jd jg jj je jk jl jh ji jf jb u9 jc ja yo ym yp yn gA gy gC gz gM gK gL ue zz jm qS jn gg yt yu gQ gT gS gN gO g8 jp jw jz jv jx jy j5 j3 jF jH uH uE uS uV uF uN uR uQ uP uO uL uA uB uC uD uT uJ uK uy uU uW uG uI uM uz jL jG jY j8 jI jT jX jW jV jU jR jD j0 jP jQ jA j7 j9 jJ jN jS jB gb j6 jC ga jO jK jM jE jZ jq ju jr gY g7 gW gZ g6 qm uo
attribute [local simp] faL fdL iaL ixL za q9 qN eqK eqL qL ze ut gV yk g9 yb yd yf yh yj ya ye yc yg zr LV.cells LV.whole qm uf zK jo stL zw zF zV qa.alloc ge gc gf gw gv gu gt gq gp gk gj gi gh qd ug
theorem qku(a:List Int)(o1 o2:Own)(ha:a.length<2^60):qg 26 [.sl (ui a) o1,.sl (ui a) o2] (.bool true):=by
 refine qg.of c26 fun H hH=>⟨Nat.le_of_ble_eq_true rfl,?_⟩
 simp(disch:=omega)[b26]
 refine qE (σ:=NN) (fun q=>(.nd (.sl (ui a) o1) (.nd (.sl (ui a) o2) .nil (.nd (.int q.i) .nil .nil)) .nil)) (fun q=>⟨H.objs,q.n⟩) (fun q=>a.length - q.i)
  (fun q=>H.next<=q.n/\q.i<=a.length) ⟨0,H.next⟩ ⟨Nat.le_refl _,Nat.zero_le _⟩ (by simp[FT.Le,Wk]) ⟨HWk.refl _,fun h=>h⟩ ?_
 rintro⟨i,n⟩ ⟨hn,hi⟩ hok
 dsimp only at hn hi
 by_cases hlt:i<a.length
 ·simp(disch:=omega)[hlt,qw (show i<2^62 by omega)]
  exact⟨⟨i+1,n⟩,by dsimp only;omega,⟨by dsimp only;omega,by dsimp only;omega⟩,by simp[FT.Le,Wk],HWk.refl _,fun h=>h⟩
 ·simp(disch:=omega)[hlt]
  exact qq hH (by first|rfl|simp[])
theorem qvy(a:ByteArray):eqBA a a=true:=wB.2 rfl
theorem qqK(x:Lit)(hx:x.atom.ok):qg 58 [qfc x,qfc x] (.bool true):=by
 refine qg.of c58 fun H hH=>⟨Nat.le_of_ble_eq_true rfl,?_⟩
 simp(disch:=omega)[b58]
 refine(qkv x.atom x.atom hx hx).go fun n hn=>?_
 rw[y9.refl]
 simp(disch:=omega)[qvy]
 exact qq hH (by first|rfl|simp[])
def clOk(l:List qe):Prop:=l.length<=2^20/\∀c∈l,c.head.ok/\c.body.length<=2^20/\∀x∈c.body,x.atom.ok
theorem qcQ(l:List qe)(o1 o2:Own)(hl:clOk l):qg 13 [.sl (l.map yU) o1,.sl (l.map yU) o2] (.bool true):=by
 obtain⟨hll,hlo⟩:=hl
 refine qg.of c13 fun H hH=>⟨Nat.le_of_ble_eq_true rfl,?_⟩
 simp(disch:=omega)[b13]
 refine qE (σ:=NN) (fun q=>(.nd (.sl (l.map yU) o1) (.nd (.sl (l.map yU) o2) .nil (.nd (.int q.i) .nil .nil)) .nil)) (fun q=>⟨H.objs,q.n⟩) (fun q=>l.length - q.i)
  (fun q=>H.next<=q.n/\q.i<=l.length) ⟨0,H.next⟩ ⟨Nat.le_refl _,Nat.zero_le _⟩ (by simp[FT.Le,Wk]) ⟨HWk.refl _,fun h=>h⟩ ?_
 rintro⟨i,n⟩ ⟨hn,hi⟩ hok
 dsimp only at hn hi hok
 by_cases hlt:i<l.length
 case neg=>
  simp(disch:=omega)[hlt]
  exact qq hH (by first|rfl|simp[])
 obtain⟨hh,hbl,hb⟩:=hlo _ (up hlt)
 simp(disch:=omega)[hlt]
 refine(qkv l[i].head l[i].head hh hh).go fun n2 hn2=>?_
 rw[y9.refl]
 simp(disch:=omega)[hlt]
 refine qE (σ:=NN) (fun q=>(.nd (.sl (l.map yU) o1) (.nd (.sl (l.map yU) o2) (.nd .bot (.nd (.int q.i) .nil .nil) .nil) (.nd (.int i) .nil .nil)) .nil)) (fun q=>⟨H.objs,q.n⟩) (fun q=>l[i].body.length - q.i)
  (fun q=>H.next<=q.n/\q.i<=l[i].body.length) ⟨0,n2⟩ ⟨by dsimp only;omega,Nat.zero_le _⟩ (by simp[FT.Le,Wk]) ⟨HWk.refl _,fun h=>h⟩ ?_
 rintro⟨j,n3⟩ ⟨hn3,hj⟩ hok3
 dsimp only at hn3 hj hok3
 by_cases hjl:j<l[i].body.length
 case neg=>
  simp(disch:=omega)[hlt,hjl,qw (show i<2^62 by omega)]
  exact⟨⟨i+1,n3⟩,by dsimp only;omega,⟨by dsimp only;omega,by dsimp only;omega⟩,by simp[FT.Le,Wk],HWk.refl _,fun h=>h⟩
 simp(disch:=omega)[hlt,hjl]
 refine(qqK l[i].body[j] (hb _ (List.getElem_mem hjl))).go fun n4 hn4=>?_
 simp(disch:=omega)[qw (show j<2^62 by omega)]
 exact⟨⟨j+1,n4⟩,by dsimp only;omega,⟨by dsimp only;omega,by dsimp only;omega⟩,by simp[FT.Le,Wk],HWk.refl _,fun h=>h⟩
def sh4(c:qf):Bool:=qbk 4 c.cls
def qbj(l:List qf):Bool:=if 30<l.length then true else if l.all sh4 then decide (l.length<=6) else false
def qew(n:Nat)(c:qf):Bool:=decide (2<c.cls.length)&&decide (n<=30)
def qcz(l:List qf):Bool:=if l.any (qew l.length) then false else qbj l&&(decide (l.length<=5)||decide (30<l.length))
def qfJ(l:List qf):Prop:=∀c∈l,c.cls.length<2^63/\∀k∈c.cls,k.body.length<2^63
theorem qqI(l:List qf)(own:Own)(hl:l.length<2^63)(hb:qfJ l):qg 28 [.sl (l.map qA) own] (.bool (qbj l)):=by
 refine qg.of c28 fun H hH=>⟨Nat.le_of_ble_eq_true rfl,?_⟩
 by_cases h1:(30:Int)<(l.length:Int)
 ·simp(disch:=omega)[b28,h1]
  exact qq hH (by simp[qbj,show 30<l.length by omega])
 have hl30:l.length<=30:=by omega
 simp(disch:=omega)[b28,h1]
 obtain⟨A,hA⟩:∃A,l.all sh4=A:=⟨_,rfl⟩
 have hB:qbj l=if A then decide (l.length<=6) else false:=by unfold qbj;rw[if_neg (by omega),hA]
 obtain⟨Vv,hVv⟩:∃Vv,(if A then decide (l.length<=6) else false)=Vv:=⟨_,rfl⟩
 rw[hB,hVv]
 refine qE (σ:=NN) (fun q=>(.nd (.sl (l.map qA) own) (.nd .bot (.nd (.int q.i) .nil .nil) .nil) (.nd (.bool false) .nil .nil))) (fun q=>⟨H.objs,q.n⟩) (fun q=>l.length - q.i)
  (fun q=>H.next<=q.n/\q.i<=l.length/\(l.drop q.i).all sh4=A) ⟨0,H.next⟩ ⟨Nat.le_refl _,Nat.zero_le _,hA⟩ (by simp[FT.Le,Wk]) ⟨HWk.refl _,fun h=>h⟩ ?_
 rintro⟨i,n⟩ ⟨hn,hi,he⟩ hok
 simp only at hn hi he
 by_cases hlt:i<l.length
 case neg=>
  obtain rfl:i=l.length:=by omega
  rw[List.drop_eq_nil_of_le (Nat.le_refl _),List.all_nil]at he
  simp(disch:=omega)
  refine qcn hH ?_ (by first|exact qj.refl' _|(repeat (first|exact qj.refl (by first|omega|(dsimp only;omega))|refine qj.cons' hH (by first|omega|(dsimp only;omega)) (by first|omega|(dsimp only;omega)) ?_)))
  rw[<-hVv,<-he]
  simp
  try omega
 rw[qbY sh4 hlt]at he
 have hsh:sh4 l[i]=qbk 4 l[i].cls:=rfl
 simp(disch:=omega)[hlt]
 refine(qkt 4 (by omega) l[i].cls (hb _ (up hlt)).2).go fun n3 hn3=>?_
 rw[hsh]at he
 cases hs:qbk 4 l[i].cls
 ·rw[hs,Bool.false_and]at he
  simp(disch:=omega)
  exact qq hH (by simp[<-hVv,<-he])
 rw[hs,Bool.true_and]at he
 simp(disch:=omega)[qw (show i<2^62 by omega)]
 exact⟨⟨i+1,n3⟩,by dsimp only;omega,⟨by dsimp only;omega,by dsimp only;omega,he⟩,by simp[FT.Le,Wk],HWk.refl _,fun h=>h⟩
theorem t_few(l:List qf)(own:Own)(hl:l.length<2^63)(hb:qfJ l):qg 19 [.sl (l.map qA) own] (.bool (qcz l)):=by
 refine qg.of c19 fun H hH=>⟨Nat.le_of_ble_eq_true rfl,?_⟩
 simp(disch:=omega)[b19]
 obtain⟨A,hA⟩:∃A,l.any (qew l.length)=A:=⟨_,rfl⟩
 have hB:qcz l=if A then false else qbj l&&(decide (l.length<=5)||decide (30<l.length)):=by unfold qcz;rw[hA]
 obtain⟨Vv,hVv⟩:∃Vv,qcz l=Vv:=⟨_,rfl⟩
 rw[hVv]at hB ⊢
 obtain⟨L,hL⟩:∃L,l.length=L:=⟨_,rfl⟩
 rw[hL]at hA hB
 refine qE (σ:=NN) (fun q=>(.nd (.sl (l.map qA) own) (.nd .bot (.nd (.int q.i) .nil .nil) .nil) (.nd (.bool false) .nil .nil))) (fun q=>⟨H.objs,q.n⟩) (fun q=>L - q.i)
  (fun q=>H.next<=q.n/\q.i<=L/\(l.drop q.i).any (qew L)=A) ⟨0,H.next⟩ ⟨Nat.le_refl _,Nat.zero_le _,hA⟩ (by simp[FT.Le,Wk]) ⟨HWk.refl _,fun h=>h⟩ ?_
 rintro⟨i,n⟩ ⟨hn,hi,he⟩ hok
 simp only at hn hi he
 by_cases hlt:i<l.length
 case neg=>
  obtain rfl:i=l.length:=by omega
  rw[List.drop_eq_nil_of_le (Nat.le_refl _),List.any_nil]at he
  rw[<-he,if_neg (by simp)]at hB
  simp(disch:=omega)
  refine(qqI l own hl hb).go fun n3 hn3=>?_
  cases hs:qbj l
  ·rw[hs,Bool.false_and]at hB
   simp(disch:=omega)
   exact qq hH (by simp[hB])
  rw[hs,Bool.true_and]at hB
  by_cases h5:(l.length:Int)<=5
  ·rw[decide_eq_true (by omega),Bool.true_or]at hB
   simp(disch:=omega)[h5]
   exact qq hH (by simp[hB])
  rw[decide_eq_false (by omega),Bool.false_or]at hB
  by_cases h30:(30:Int)<(l.length:Int)
  ·rw[decide_eq_true (by omega)]at hB
   simp(disch:=omega)[h5,h30]
   exact qq hH (by simp[hB])
  rw[decide_eq_false (by omega)]at hB
  simp(disch:=omega)[h5,h30]
  exact qq hH (by simp[hB])
 rw[qxc (qew L) hlt]at he
 have hcl:=(hb _ (up hlt)).1
 have hwd:qew L l[i]=(decide (2<l[i].cls.length)&&decide (L<=30)):=rfl
 rw[hwd]at he
 by_cases h2:(2:Int)<(l[i].cls.length:Int)
 ·rw[decide_eq_true (by omega),Bool.true_and]at he
  by_cases h30:(l.length:Int)<=30
  ·rw[decide_eq_true (by omega),Bool.true_or]at he
   rw[<-he,if_pos rfl]at hB
   simp(disch:=omega)[hlt,h2,h30]
   exact qq hH (by simp[hB])
  rw[decide_eq_false (by omega),Bool.false_or]at he
  simp(disch:=omega)[hlt,h2,h30,qcf (show i+1<2^63 by omega)]
  exact⟨⟨i+1,n⟩,by dsimp only;omega,⟨by dsimp only;omega,by dsimp only;omega,he⟩,by simp[FT.Le,Wk],HWk.refl _,fun h=>h⟩
 rw[decide_eq_false (by omega),Bool.false_and,Bool.false_or]at he
 simp(disch:=omega)[hlt,h2,qcf (show i+1<2^63 by omega)]
 exact⟨⟨i+1,n⟩,by dsimp only;omega,⟨by dsimp only;omega,by dsimp only;omega,he⟩,by simp[FT.Le,Wk],HWk.refl _,fun h=>h⟩
theorem qlf{l:List qf}(hl:l.length<2^63)(h:qbj l=true):CustIn l/\(l.length<=6\/30<l.length)/\(l.length<=30->∀c∈l,c.cls.length<=40->∀k∈c.cls,qak k=true):=by
 unfold qbj at h
 by_cases h30:30<l.length
 ·exact⟨⟨hl,fun h=>by omega⟩,.inr h30,fun h=>by omega⟩
 rw[if_neg h30]at h
 by_cases ha:l.all sh4=true
 ·rw[if_pos ha]at h
  have hk:l.length<=30->∀c∈l,c.cls.length<=40->∀k∈c.cls,qak k=true:=fun _ c hc h40 k hk=>by
   have:=List.all_eq_true.1 ha c hc
   unfold sh4 qbk at this
   rw[if_neg (by omega)]at this
   split at this
   ·rename_i hall
    exact List.all_eq_true.1 hall k hk
   ·cases this
  exact⟨⟨hl,fun h c hc=>⟨fun h40 k hkc=>qhD (hk h c hc h40 k hkc)⟩⟩,.inl (of_decide_eq_true h),hk⟩
 ·rw[if_neg ha]at h
  cases h
end Go.Abs.Tz
namespace Go.Abs.Tz
set_option maxRecDepth 20000
open Go Go.Abs Go.Proofs Go.ChangeShapes Go.WideShapes Go.RowKit Go.Proofs.YtjbhehjoaalhiaaGreatDoor
noncomputable def gOf(W:World):qb:=⟨fun b=>if b<W.heap.size then some true else none,0,fun _=>0,fun _=>(0,0),fun _=>none,fun _ _=>.free,E0.rc⟩
theorem quO{W:World}{b x:Nat}{v:Value}(h:W.cell? (at_ b x)=some v):(gOf W).Cl b x:=by
 left
 have:b<W.heap.size:=by
  rcases Nat.lt_or_ge b W.heap.size with h'|h'
  ·exact h'
  ·unfold World.cell? at h
   rw[show (at_ b x).block=b from rfl,Array.getElem?_eq_none h']at h
   cases h
 simp[gOf,this]
theorem quM(W:World)(m:Nat):Inv (gOf W) W ⟨[],m⟩:=by
 refine⟨Nat.zero_le _,fun b hb=>?_,fun _ _ _=>rfl,fun _ _ _=>rfl,fun o x hx=>by simp[look]at hx⟩
 simp only[gOf]at hb
 split at hb
 ·assumption
 ·cases hb
abbrev qeK:String:=(Rows.customYearsAsSpecifiedRow.laid.map Prod.fst)[2]!
theorem qsJ{W:World}(h:laidMetH Tryz.prog Rows.customYearsAsSpecifiedRow.laid W):∃t fz,W.heap[(3:Nat)]? = some (.cells (Lib.pow10Tab.map fun z=>Value.int .u64 z).toArray t fz):=by
 have h1:=laidMetH.filter (fun x=>x.1==qeK) h
 have e:Rows.customYearsAsSpecifiedRow.laid.filter (fun x=>x.1==qeK)=[(qeK,Lib.tabData .u64 Lib.pow10Tab)]:=rfl
 rw[e]at h1
 change laidMet Tryz.prog [(qeK,Lib.tabData .u64 Lib.pow10Tab)] W at h1
 have h2:=Lib.tabIs_of_head (g:=3) (t:=324) (e:=268) (n:=20) (by kernel_rfl) (by kernel_rfl) (by kernel_rfl) (by kernel_rfl) (by kernel_rfl) (by kernel_rfl) h1
 unfold Lib.TabIs World.var? at h2
 rw[show Tryz.prog.globalNamed qeK=some 3 by kernel_rfl]at h2
 simp only[Option.bind_some]at h2
 split at h2
 ·rename_i cs t fz hh
  cases h2
  exact⟨t,fz,hh⟩
 ·cases h2
theorem quN(W:World)(h:laidMetH Tryz.prog Rows.customYearsAsSpecifiedRow.laid W):yJ E0 (gOf W) W:=by
 refine⟨fun g=>.bot _,rfl,fun p hp=>?_⟩
 obtain⟨t,fz,hh⟩:=qsJ h
 have hp':p=(3,(Lib.pow10Tab.map fun z=>Value.int .u64 z).toArray):=by simpa [E0,powT] using hp
 subst hp'
 have hlt:3<W.heap.size:=(Array.getElem?_eq_some_iff.1 hh).1
 exact⟨by simp[gOf,hlt],t,fz,hh⟩
theorem qxh{a:Addr}(h:a.spot=none)(x y:Nat):(a.add x).add y=at_ a.block (a.off+x+y):=by
 obtain⟨b,o,s⟩:=a
 simp only at h
 subst h
 unfold Addr.add
 by_cases hx:x=0<;>by_cases hy:y=0<;>simp[hx,hy,Nat.add_assoc]
theorem z9:Tryz.prog.cellsOf 9=1:=by kernel_rfl
theorem z3:Tryz.prog.cellsOf 3=1:=by kernel_rfl
theorem z23:Tryz.prog.cellsOf 23=1:=by kernel_rfl
theorem z30:Tryz.prog.cellsOf 30=1:=by kernel_rfl
theorem z106:Tryz.prog.cellsOf 106=1:=by kernel_rfl
theorem z32:Tryz.prog.cellsOf 32=2:=by kernel_rfl
theorem z97:Tryz.prog.cellsOf 97=3:=by kernel_rfl
theorem z126:Tryz.prog.cellsOf 126=9:=by kernel_rfl
theorem z108:Tryz.prog.cellsOf 108=3:=by kernel_rfl
def yB(W:World)(cl:List LV)(cs:List Value):Prop:=cs.length=cl.length/\∀(j:Nat)(c:LV),cl[j]? = some c->∃v,cs[j]? = some v/\VR (gOf W) W c v/\v.oneCell'=true
theorem yB.nil(W:World):yB W [] []:=⟨rfl,fun j c h=>by simp at h⟩
theorem yB.cons{W:World}{c:LV}{v:Value}{cl:List LV}{cs:List Value}(h:VR (gOf W) W c v)(h1:v.oneCell'=true)(hr:yB W cl cs):yB W (c::cl) (v::cs):=
 ⟨by simp[hr.1],fun j x hx=>by
  cases j with
  |zero=>simp at hx;subst hx;exact⟨v,rfl,h,h1⟩
  |succ j=>simp at hx;simpa using hr.2 j x hx⟩
theorem yB.append{W:World}{cl dl:List LV}{cs ds:List Value}(h:yB W cl cs)(k:yB W dl ds):yB W (cl++dl) (cs++ds):=by
 refine⟨by simp[h.1,k.1],fun j c hc=>?_⟩
 rcases Nat.lt_or_ge j cl.length with hj|hj
 ·rw[List.getElem?_append_left hj]at hc
  rw[List.getElem?_append_left (by rw[h.1];exact hj)]
  exact h.2 j c hc
 ·rw[List.getElem?_append_right hj]at hc
  rw[List.getElem?_append_right (by rw[h.1];exact hj),h.1]
  exact k.2 _ c hc
theorem yB.agg{W:World}{cl:List LV}{cs:List Value}(h:yB W cl cs):VR (gOf W) W (.agg cl) (.agg cs.toArray):=by
 refine .agg (by simp[h.1]) (fun i c hc=>?_) (fun i hi=>?_)
 ·obtain⟨v,h1,h2,_⟩:=h.2 i c hc
  have:cs.toArray.getD i undef=v:=by simp[Array.getD_eq_getD_getElem?,h1]
  rw[this];exact h2
 ·obtain⟨v,h1,_,h3⟩:=h.2 i _ (List.getElem?_eq_getElem hi)
  have:cs.toArray.getD i undef=v:=by simp[Array.getD_eq_getD_getElem?,h1]
  rw[this];exact h3
section
variable{H:Type}{enc:TypeId×Value->H}{W:World}{hd:Bool}
theorem fld{m:Nat}{cs:List Value}{f:Field}{t:TypeId}{off c:Nat}{r:Option (DataW H×List MemPlace)}(h:DataW.trod enc Tryz.prog W 0 (fun _=>true) hd m f.type ((cs.drop f.offset).take (Tryz.prog.cellsOf f.type))=r)
  (h1:f.type=t) (h2:f.offset=off) (h3:Tryz.prog.cellsOf t=c):DataW.trod enc Tryz.prog W 0 (fun _=>true) hd m t ((cs.drop off).take c)=r:=by
 subst h1;subst h2;subst h3;exact h
theorem qeN{α:Type}(ec:α->List LV){S E:TypeId}{k:Nat}(hu:Tryz.prog.underlying S=some (.slice E))(hk:Tryz.prog.cellsOf E=k)(hk0:0<k)
  (hec:∀a,(ec a).length=k) (a0:α)
  (hop:∀(n:Nat)(cs:List Value)(x:DataW H×List MemPlace),DataW.trod enc Tryz.prog W 0 (fun _=>true) hd n E cs=some x->∃a:α,yB W (ec a) cs)
  {n:Nat} {u:Value} {x:DataW H×List MemPlace} (h:DataW.trod enc Tryz.prog W 0 (fun _=>true) hd n S [u]=some x):
  ∃l:List α,l.length<2^63/\VR (gOf W) W (.sl (l.map fun a=>.agg (ec a)) .no) u/\u.oneCell'=true:=by
 rcases Deep.open_slice hu h with⟨e1,_⟩|⟨a,len,cap,m,n',D,Pl,e1,_,hlc,hmax,hm,_,hel⟩
 ·simp only[List.cons.injEq,and_true]at e1
  subst e1
  exact⟨[],by simp,.sln trivial,rfl⟩
 ·simp only[List.cons.injEq,and_true]at e1
  subst e1
  simp only[if_true]at hm
  have hm:=hm.symm
  subst hm
  have hmax2:cap<2^63:=by unfold maxLen at hmax;omega
  by_cases hc0:cap=0
  ·subst hc0
   obtain rfl:len=0:=by omega
   exact⟨[],by simp,.sle a,rfl⟩
  have hspot:a.spot=none:=by
   obtain⟨cs',q1,_⟩:=hel 0 (by omega)
   rw[hk]at q1
   obtain⟨_,q2,q3⟩:=World.cells?_some q1
   have:=q3 0 hk0
   rw[List.getElem?_eq_getElem (by omega)]at this
   have:=World.cell?_spot this
   simpa [Addr.add] using this
  have ht:∀i,∃t:α,i<len->∃cs,yB W (ec t) cs/\∀j,j<k->W.cell? (at_ a.block (a.off+i*k+j))=cs[j]?:=by
   intro i
   by_cases hi:i<len
   ·obtain⟨cs',q1,q2⟩:=hel i (by omega)
    rw[hk]at q1
    obtain⟨_,_,q3⟩:=World.cells?_some q1
    obtain⟨t,ht⟩:=hop _ _ _ q2
    refine⟨t,fun _=>⟨cs',ht,fun j hj=>?_⟩⟩
    rw[<-q3 j hj,qxh hspot]
   ·exact⟨a0,fun h=>absurd h hi⟩
  let T:Nat->α:=fun i=>Classical.choose (ht i)
  have hT:∀i,i<len->∃cs,yB W (ec (T i)) cs/\∀j,j<k->W.cell? (at_ a.block (a.off+i*k+j))=cs[j]?:=fun i=>Classical.choose_spec (ht i)
  have hX:∀i j,∃v:Value,i<len->∀c,(ec (T i))[j]? = some c->W.cell? (at_ a.block (a.off+i*k+j))=some v/\VR (gOf W) W c v/\v.oneCell'=true:=by
   intro i j
   by_cases hi:i<len
   ·obtain⟨cs,h1,h2⟩:=hT i hi
    by_cases hj:j<k
    ·obtain⟨v,h3,h4,h5⟩:=h1.2 j _ (List.getElem?_eq_getElem (by rw[hec];exact hj))
     refine⟨v,fun _ c hc=>?_⟩
     rw[List.getElem?_eq_getElem (by rw[hec];exact hj)]at hc
     cases hc
     exact⟨by rw[h2 j hj,h3],h4,h5⟩
    ·exact⟨undef,fun _ c hc=>by rw[List.getElem?_eq_none (by rw[hec];omega)]at hc;cases hc⟩
   ·exact⟨undef,fun h=>absurd h hi⟩
  let V:Nat->Nat->Value:=fun i j=>Classical.choose (hX i j)
  have hV:∀i j,i<len->∀c,(ec (T i))[j]? = some c->W.cell? (at_ a.block (a.off+i*k+j))=some (V i j)/\VR (gOf W) W c (V i j)/\(V i j).oneCell'=true:=fun i j=>Classical.choose_spec (hX i j)
  have ha:a=at_ a.block a.off:=by
   obtain⟨b,o,sp⟩:=a
   simp only at hspot
   subst hspot
   rfl
  have hget:∀(i:Nat)(e:LV),(((List.range len).map T).map fun a=>LV.agg (ec a))[i]? = some e->i<len/\e=.agg (ec (T i)):=by
   intro i e he
   rw[List.getElem?_map,List.getElem?_map]at he
   cases hr:(List.range len)[i]? with
   |none=>rw[hr]at he;cases he
   |some q=>
    rw[hr]at he
    obtain⟨hlt,rfl⟩:=List.getElem?_eq_some_iff.1 hr
    simp at hlt he
    exact⟨hlt,he.symm⟩
  refine⟨(List.range len).map T,by simp;omega,?_,rfl⟩
  have hlen:(((List.range len).map T).map fun a=>LV.agg (ec a)).length=len:=by simp
  have hR:=VR.sl (G:=gOf W) (w:=W) (es:=((List.range len).map T).map fun a=>LV.agg (ec a)) (own:=.no) (b:=a.block) (off:=a.off) (sz:=k) (cap:=cap) (xs:=V) (by rw[hlen];exact hlc)
   (fun i e he=>by obtain⟨_,rfl⟩:=hget i e he;exact hec _)
   (fun i e j c he hc=>by
    obtain⟨hi,rfl⟩:=hget i e he
    obtain⟨g1,_,g3⟩:=hV i j hi c hc
    exact⟨quO g1,g1,g3⟩)
   (fun i e j c he hc=>by
    obtain⟨hi,rfl⟩:=hget i e he
    exact(hV i j hi c hc).2.1) trivial
  rw[hlen,<-ha]at hR
  exact hR
theorem qdI{n:Nat}{u:Value}{x:DataW H×List MemPlace}(h:DataW.trod enc Tryz.prog W 0 (fun _=>true) hd n 3 [u]=some x):∃k:Int,u=.int .i64 k:=by
 obtain⟨k,e,_⟩:=DataW.trod_int Tryz.underlying3 h
 simp only[List.cons.injEq,and_true]at e
 exact⟨k,e⟩
theorem qmn{n:Nat}{u:Value}{x:DataW H×List MemPlace}(h:DataW.trod enc Tryz.prog W 0 (fun _=>true) hd n 9 [u]=some x):∃s:ByteArray,u=.string s:=by
 obtain⟨s,e,_⟩:=DataW.trod_string Tryz.underlying9 h
 simp only[List.cons.injEq,and_true]at e
 exact⟨s,e⟩
theorem qim{n:Nat}{cs:List Value}{x:DataW H×List MemPlace}(h:DataW.trod enc Tryz.prog W 0 (fun _=>true) hd n 97 cs=some x):∃t:Term,yB W (zF t) cs:=by
 obtain⟨xs,m,_,rfl,hl,hlen,hf⟩:=DataW.trod_struct Tryz.underlying97 h
 rw[z97]at hl
 match xs,hlen,cs,hl with
 |[y0,y1,y2],_,[u0,u1,u2],_=>
  have h0:=fld (t:=3) (off:=0) (c:=1) (hf 0 _ rfl) rfl rfl z3
  have h1:=fld (t:=3) (off:=1) (c:=1) (hf 1 _ rfl) rfl rfl z3
  have h2:=fld (t:=9) (off:=2) (c:=1) (hf 2 _ rfl) rfl rfl z9
  obtain⟨k,rfl⟩:=qdI (show DataW.trod enc Tryz.prog W 0 (fun _=>true) hd m 3 [u0]=some y0 from h0)
  obtain⟨l,rfl⟩:=qdI (show DataW.trod enc Tryz.prog W 0 (fun _=>true) hd m 3 [u1]=some y1 from h1)
  obtain⟨s,rfl⟩:=qmn (show DataW.trod enc Tryz.prog W 0 (fun _=>true) hd m 9 [u2]=some y2 from h2)
  exact⟨⟨k,l,s⟩,.cons (.sc _) rfl (.cons (.sc _) rfl (.cons (.sc _) rfl (.nil W)))⟩
theorem qgn{n:Nat}{cs:List Value}{x:DataW H×List MemPlace}(h:DataW.trod enc Tryz.prog W 0 (fun _=>true) hd n 32 cs=some x):∃a:Atom,yB W [.str a.pred,qz a.args] cs:=by
 obtain⟨xs,m,_,rfl,hl,hlen,hf⟩:=DataW.trod_struct Tryz.underlying32 h
 rw[z32]at hl
 match xs,hlen,cs,hl with
 |[y0,y1],_,[u0,u1],_=>
  have h0:=fld (t:=9) (off:=0) (c:=1) (hf 0 _ rfl) rfl rfl z9
  have h1:=fld (t:=30) (off:=1) (c:=1) (hf 1 _ rfl) rfl rfl z30
  obtain⟨s,rfl⟩:=qmn (show DataW.trod enc Tryz.prog W 0 (fun _=>true) hd m 9 [u0]=some y0 from h0)
  obtain⟨ts,_,hv,h1c⟩:=qeN zF Tryz.underlying30 z97 (by omega) (fun _=>rfl) ⟨0,0,⟨#[]⟩⟩ (fun n cs x h=>qim h) (show DataW.trod enc Tryz.prog W 0 (fun _=>true) hd m 30 [u1]=some y1 from h1)
  exact⟨⟨s,ts⟩,.cons (.sc _) rfl (.cons hv h1c (.nil W))⟩
theorem qsX{n:Nat}{cs:List Value}{x:DataW H×List MemPlace}(h:DataW.trod enc Tryz.prog W 0 (fun _=>true) hd n 126 cs=some x):∃l:Lit,yB W (wV l) cs:=by
 obtain⟨xs,m,_,rfl,hl,hlen,hf⟩:=DataW.trod_struct Tryz.underlying126 h
 rw[z126]at hl
 match xs,hlen,cs,hl with
 |[y0,y1,y2,y3],_,[u0,u1,u2,u3,u4,u5,u6,u7,u8],_=>
  have h0:=fld (t:=3) (off:=0) (c:=1) (hf 0 _ rfl) rfl rfl z3
  have h1:=fld (t:=32) (off:=1) (c:=2) (hf 1 _ rfl) rfl rfl z32
  have h2:=fld (t:=97) (off:=3) (c:=3) (hf 2 _ rfl) rfl rfl z97
  have h3:=fld (t:=97) (off:=6) (c:=3) (hf 3 _ rfl) rfl rfl z97
  obtain⟨k,rfl⟩:=qdI (show DataW.trod enc Tryz.prog W 0 (fun _=>true) hd m 3 [u0]=some y0 from h0)
  obtain⟨a,ha⟩:=qgn (show DataW.trod enc Tryz.prog W 0 (fun _=>true) hd m 32 [u1,u2]=some y1 from h1)
  obtain⟨s,hs⟩:=qim (show DataW.trod enc Tryz.prog W 0 (fun _=>true) hd m 97 [u3,u4,u5]=some y2 from h2)
  obtain⟨t,ht⟩:=qim (show DataW.trod enc Tryz.prog W 0 (fun _=>true) hd m 97 [u6,u7,u8]=some y3 from h3)
  exact⟨⟨k,a,s,t⟩,.cons (.sc _) rfl (ha.append (hs.append ht))⟩
theorem qsY{n:Nat}{cs:List Value}{x:DataW H×List MemPlace}(h:DataW.trod enc Tryz.prog W 0 (fun _=>true) hd n 108 cs=some x):∃c:{c:qe // c.body.length<2^63},yB W (vT c.1) cs:=by
 obtain⟨xs,m,_,rfl,hl,hlen,hf⟩:=DataW.trod_struct Tryz.underlying108 h
 rw[z108]at hl
 match xs,hlen,cs,hl with
 |[y0,y1],_,[u0,u1,u2],_=>
  have h0:=fld (t:=32) (off:=0) (c:=2) (hf 0 _ rfl) rfl rfl z32
  have h1:=fld (t:=106) (off:=2) (c:=1) (hf 1 _ rfl) rfl rfl z106
  obtain⟨a,ha⟩:=qgn (show DataW.trod enc Tryz.prog W 0 (fun _=>true) hd m 32 [u0,u1]=some y0 from h0)
  obtain⟨b,hb,hv,h1c⟩:=qeN wV Tryz.underlying106 z126 (by omega) (fun _=>rfl) ⟨0,⟨⟨#[]⟩,[]⟩,⟨0,0,⟨#[]⟩⟩,⟨0,0,⟨#[]⟩⟩⟩ (fun n cs x h=>qsX h) (show DataW.trod enc Tryz.prog W 0 (fun _=>true) hd m 106 [u2]=some y1 from h1)
  exact⟨⟨⟨a,b⟩,hb⟩,ha.append (.cons hv h1c (.nil W))⟩
theorem open_atomP{base:Nat}{v:Value}{d:DataW H}{p:List MemPlace}(h:DataW.Trod enc Tryz.prog W 0 (fun _=>true) hd 32 v d p)(hv:Value.okWide Tryz.prog W .any base 32 v):∃a:Atom,VR (gOf W) W (qh a) v:=by
 have hv':∃cs,v=.agg cs:=by
  unfold Value.okWide at hv
  rw[Tryz.underlying32]at hv
  obtain⟨cs,h,_⟩:=hv
  exact⟨cs,h⟩
 obtain⟨cs,rfl⟩:=hv'
 obtain⟨fuel,h⟩:=h
 obtain⟨a,ha⟩:=qgn (show DataW.trod enc Tryz.prog W 0 (fun _=>true) hd fuel 32 cs.toList=some _ from h)
 exact⟨a,by simpa using ha.agg⟩
theorem open_atoms{base:Nat}{v:Value}{d:DataW H}{p:List MemPlace}(h:DataW.Trod enc Tryz.prog W 0 (fun _=>true) hd 48 v d p)(hv:Value.okWide Tryz.prog W .any base 48 v):∃l:List Atom,l.length<2^63/\VR (gOf W) W (.sl (l.map qh) .no) v:=by
 have h1:v.cells=#[v]:=by
  unfold Value.okWide at hv
  rw[Tryz.underlying48]at hv
  simp only at hv
  unfold Cell.okWide at hv
  rw[Tryz.underlying48]at hv
  simp only at hv
  unfold Cell.ok at hv
  rw[Tryz.underlying48]at hv
  cases v<;>first|rfl|exact hv.elim
 obtain⟨fuel,h⟩:=h
 rw[h1]at h
 obtain⟨l,hl,hV,_⟩:=qeN (fun a:Atom=>[.str a.pred,qz a.args]) Tryz.underlying48 z32 (by omega) (fun _=>rfl) ⟨⟨#[]⟩,[]⟩ (fun n cs x h=>qgn h) (show DataW.trod enc Tryz.prog W 0 (fun _=>true) hd fuel 48 [v]=some _ from h)
 exact⟨l,hl,hV⟩
theorem open_intP{base:Nat}{v:Value}(hv:Value.okWide Tryz.prog W .any base 3 v):∃n:Int,v=.int .i64 n:=by
 unfold Value.okWide at hv
 rw[Tryz.underlying3]at hv
 simp only at hv
 unfold Cell.okWide at hv
 rw[Tryz.underlying3]at hv
 simp only at hv
 unfold Cell.ok at hv
 rw[Tryz.underlying3]at hv
 cases v<;>first|(obtain⟨rfl,_⟩:=hv;exact⟨_,rfl⟩)|exact hv.elim
theorem z66:Tryz.prog.cellsOf 66=4:=by kernel_rfl
abbrev Fits(c:qf):Prop:=c.cls.length<2^63/\∀k∈c.cls,k.body.length<2^63
theorem qmo{n:Nat}{cs:List Value}{x:DataW H×List MemPlace}(h:DataW.trod enc Tryz.prog W 0 (fun _=>true) hd n 66 cs=some x):∃c:{c:qf // Fits c},yB W (qU c.1) cs:=by
 obtain⟨xs,m,_,rfl,hl,hlen,hf⟩:=DataW.trod_struct Tryz.underlying66 h
 rw[z66]at hl
 match xs,hlen,cs,hl with
 |[y0,y1,y2,y3],_,[u0,u1,u2,u3],_=>
  have h0:=fld (t:=3) (off:=0) (c:=1) (hf 0 _ rfl) rfl rfl z3
  have h1:=fld (t:=3) (off:=1) (c:=1) (hf 1 _ rfl) rfl rfl z3
  have h2:=fld (t:=3) (off:=2) (c:=1) (hf 2 _ rfl) rfl rfl z3
  have h3:=fld (t:=23) (off:=3) (c:=1) (hf 3 _ rfl) rfl rfl z23
  obtain⟨i,rfl⟩:=qdI (show DataW.trod enc Tryz.prog W 0 (fun _=>true) hd m 3 [u0]=some y0 from h0)
  obtain⟨f,rfl⟩:=qdI (show DataW.trod enc Tryz.prog W 0 (fun _=>true) hd m 3 [u1]=some y1 from h1)
  obtain⟨t,rfl⟩:=qdI (show DataW.trod enc Tryz.prog W 0 (fun _=>true) hd m 3 [u2]=some y2 from h2)
  obtain⟨l,hlk,hV,h1c⟩:=qeN (fun c:{c:qe // c.body.length<2^63}=>vT c.1) Tryz.underlying23 z108 (by omega) (fun _=>rfl) ⟨⟨⟨⟨#[]⟩,[]⟩,[]⟩,by simp⟩ (fun n cs x h=>qsY h) (show DataW.trod enc Tryz.prog W 0 (fun _=>true) hd m 23 [u3]=some y3 from h3)
  have e:(l.map (·.1)).map yU=l.map fun c=>LV.agg (vT c.1):=by rw[List.map_map];rfl
  refine⟨⟨⟨i,f,t,l.map (·.1)⟩,by rw[List.length_map];exact hlk,fun c hc=>?_⟩,.cons (.sc _) rfl (.cons (.sc _) rfl (.cons (.sc _) rfl (.cons ?_ h1c (.nil W))))⟩
  ·obtain⟨q,_,rfl⟩:=List.mem_map.1 hc
   exact q.2
  ·show VR (gOf W) W (.sl ((l.map (·.1)).map yU) .no) u3
   rw[e]
   exact hV
theorem open_customs{base:Nat}{v:Value}{d:DataW H}{p:List MemPlace}(h:DataW.Trod enc Tryz.prog W 0 (fun _=>true) hd 47 v d p)(hv:Value.okWide Tryz.prog W .any base 47 v):∃l:List qf,l.length<2^63/\qfJ l/\VR (gOf W) W (.sl (l.map qA) .no) v:=by
 have h1:v.cells=#[v]:=by
  unfold Value.okWide at hv
  rw[Tryz.underlying47]at hv
  simp only at hv
  unfold Cell.okWide at hv
  rw[Tryz.underlying47]at hv
  simp only at hv
  unfold Cell.ok at hv
  rw[Tryz.underlying47]at hv
  cases v<;>first|rfl|exact hv.elim
 obtain⟨fuel,h⟩:=h
 rw[h1]at h
 obtain⟨l,hlk,hV,_⟩:=qeN (fun c:{c:qf // Fits c}=>qU c.1) Tryz.underlying47 z66 (by omega) (fun _=>rfl) ⟨⟨0,0,0,[]⟩,by simp,fun k hk=>by cases hk⟩ (fun n cs x h=>qmo h) (show DataW.trod enc Tryz.prog W 0 (fun _=>true) hd fuel 47 [v]=some _ from h)
 refine⟨l.map (·.1),by rw[List.length_map];exact hlk,fun c hc=>?_,?_⟩
 ·obtain⟨q,_,rfl⟩:=List.mem_map.1 hc
  exact q.2
 ·have e:(l.map (·.1)).map qA=l.map fun c=>LV.agg (qU c.1):=by rw[List.map_map];rfl
  rw[e]
  exact hV
theorem open_customP{base:Nat}{v:Value}{d:DataW H}{p:List MemPlace}(h:DataW.Trod enc Tryz.prog W 0 (fun _=>true) hd 66 v d p)(hv:Value.okWide Tryz.prog W .any base 66 v):∃c:qf,Fits c/\VR (gOf W) W (qA c) v:=by
 have hv':∃cs,v=.agg cs:=by
  unfold Value.okWide at hv
  rw[Tryz.underlying66]at hv
  obtain⟨cs,h,_⟩:=hv
  exact⟨cs,h⟩
 obtain⟨cs,rfl⟩:=hv'
 obtain⟨fuel,h⟩:=h
 obtain⟨a,ha⟩:=qmo (show DataW.trod enc Tryz.prog W 0 (fun _=>true) hd fuel 66 cs.toList=some _ from h)
 exact⟨a.1,a.2,by simpa using ha.agg⟩
end
end Go.Abs.Tz
namespace Go.Abs.Tz
open Go Go.Abs Go.Proofs
set_option maxRecDepth 20000
set_option linter.unusedSimpArgs false
attribute [local simp ↓] gF gD uZ uY gd zX qW zk uX zU yq yr gG gI gJ gH jd jg jj je jk jl jh ji jf jb u9 jc ja yo ym yp yn gA gy gC gz gM gK gL ue zz jm qS jn gg yt yu gQ gT gS gN gO g8 jp jw jz jv jx jy j5 j3 jF jH uH uE uS uV uF uN uR uQ uP uO uL uA uB uC uD uT uJ uK uy uU uW uG uI uM uz jL jG jY j8 jI jT jX jW jV jU jR jD j0 jP jQ jA j7 j9 jJ jN jS jB gb j6 jC ga jO jK jM jE jZ jq ju jr gY g7 gW gZ g6 qm uo
attribute [local simp] faL fdL iaL ixL za q9 qN eqK eqL qL ze ut gV yk g9 yb yd yf yh yj ya ye yc yg zr LV.cells LV.whole qm uf zK jo stL zw zF zV qa.alloc ge gc gf gw gv gu gt gq gp gk gj gi gh qd ug
theorem qjl:∀b:List Lit,(qT b).length=qaW b
 |[]=>rfl
 |x::r=>by
  have ih:=qjl r
  rw[qmc]
  unfold qaW
  by_cases h:x.kind=1
  ·rw[if_pos h,if_pos h,List.length_cons,ih];omega
  ·rw[if_neg h,if_neg h,ih];omega
section
variable{l:List qe}{fuel:Nat}{R:Option (List (PK×Int))}{base:List Atom}
theorem qkN(hI:qem l fuel R base)(hM:qfE l R base)(ownB:Own)(ob:List (Nat×qc))(n:Nat)(hni:qK ob){kv kp:HP}
  (hk:∀(ow:Own) n',n<=n'->kv (.tup [.sl ((zZ l base).map qh) ow,.int (yK l base)]) ⟨ob,n'⟩):
  cP E0 F0 79 [qF l,.sl (base.map qh) ownB] ⟨ob,n⟩ kv kp:=by
 refine qrR hI ownB ob n hni (fun h0 n' hn'=>?_) (fun h0 B ow n' hB hn'=>?_)
 ·have e:zZ l base=[]:=by unfold zZ;rw[<-hM.err,if_pos h0]
  rw[hM.err]
  have:=hk .full n' hn'
  rw[e]at this
  exact this
 ·have:=hk ow n' hn'
  rw[<-hM.row h0 B hB,<-hM.err,h0]at this
  exact this
theorem wJ(hI:qem l fuel R base)(hM:qfE l R base)(ownB:Own)(a:Atom)(ha:a.ok)(ob:List (Nat×qc))(n:Nat)(hni:qK ob){kv kp:HP}
  (hk:∀n',n<=n'->kv (.tup [.bool (z1 l base a),.int (v8 l base a)]) ⟨ob,n'⟩):
  cP E0 F0 38 [qF l,.sl (base.map qh) ownB,qh a] ⟨ob,n⟩ kv kp:=by
 unfold z1 v8 at hk
 rw[<-hM.err]at hk
 refine qrS hI ownB a ha ob n hni (fun h0 n' hn'=>?_) (fun h0 hb n' hn'=>?_) (fun h0 hb n' hn'=>?_)
 ·rw[if_pos h0,if_pos h0]at hk
  exact hk n' hn'
 ·rw[h0,hb]at hk
  exact hk n' hn'
 ·have hao:qR a=true:=by
   unfold zn at hb
   simp only[Bool.and_eq_true]at hb
   exact hb.1
  rw[h0,hb,<-hM.has h0 a hao]at hk
  exact hk n' hn'
end
theorem qkA(base:List Atom)(ownB:Own)(hb:base.length<2^63)(hok:base.length<=100->∀a∈base,a.ok)(ob:List (Nat×qc))(n:Nat)(hni:qK ob){kv kp:HP}(hk:∀n',n<=n'->kv (.int (gE base)) ⟨ob,n'⟩):
  cP E0 F0 67 [.sl (base.map qh) ownB] ⟨ob,n⟩ kv kp:=by
 refine ub c67 fun hH=>⟨Nat.le_of_ble_eq_true rfl,?_⟩
 simp(disch:=omega)[b67]
 refine qwr (a':=qF []) (b':=.sl (base.map qh) ownB) (H':=⟨ob,n⟩) (.inr (.inl rfl)) (.inl rfl) (HWk.refl _) (fun h=>h) ?_
 refine qkJ [] ⟨fun _ c hc=>by cases hc⟩ 1 (some []) (fun _=>rfl) base ownB hb hok ob n hni (fun e he h n' hn=>?_) (fun _ m hm h100 hall om fo am ob' n' own' hn hB=>?_)
 ·have hg:gE base=e:=by
   unfold gE zW
   rw[if_neg (by simp[qQ,wh]),if_neg (by simp)]
   rcases h with⟨h,_⟩|⟨_,h,_⟩|⟨_,_,h,rfl⟩|⟨_,_,h1,h2,rfl⟩
   ·exact absurd rfl h
   ·cases h
   ·rw[if_pos h]
   ·rw[if_neg (by omega),h2,if_neg (by simp)]
  rw[hg]at hk
  simp(disch:=omega)
  exact keep (hk n' hn)
 ·have hg:gE base=0:=by
   unfold gE zW
   rw[if_neg (by simp[qQ,wh]),if_neg (by simp),if_neg (by omega),hall,if_pos rfl]
  rw[hg]at hk
  simp(disch:=omega)
  exact⟨⟨ob,n'⟩,qde hH (fun i hi=>hB.old i hi) (Nat.le_refl _),fun _=>qt.mono hH hn,hk n' hn⟩
theorem qqS(x y:Atom)(hx:x.ok)(hy:y.ok)(m:Nat)(ob:List (Nat×qc))(n:Nat)(hl:look m ob=some (.cells [.str x.pred,qz x.args])){kv kp:HP}(hk:∀n',n<=n'->kv (.bool (decide (cmpA y x=0))) ⟨ob,n'⟩):
  cP E0 F0 142 [qh y,.ptr m 0] ⟨ob,n⟩ kv kp:=by
 refine ub c142 fun hH=>⟨Nat.le_of_ble_eq_true rfl,?_⟩
 have hm:m<n:=hH.look hl
 simp(disch:=omega)[b142,hl]
 refine(qkO x y hx hy).go fun n1 hn1=>?_
 have e:decide (cmpA y x=0)=decide (cmpA x y=0):=decide_eq_decide.2 (by rw[y9.zero,y9.zero];exact eq_comm)
 rw[e]at hk
 simp(disch:=omega)
 exact⟨⟨ob,n1⟩,vl hH (Nat.le_refl _),fun _=>qt.mono hH (show n<=n1 by omega),hk _ (by omega)⟩
theorem qrg(l:List Atom)(hl:l.length<=2^20)(own:Own)(g:FuncId)(p:Atom->Bool)(m:Nat)(ob:List (Nat×qc))(n:Nat)(hg:qhe g qh m ob n p l){kv kp:HP}(hk:∀n',n<=n'->kv (.int (wA p l 0)) ⟨ob,n'⟩):
  cP E0 F0 183 [.sl (l.map qh) own,.fn (.func g) [] [.ptr m 0]] ⟨ob,n⟩ kv kp:=by
 refine ub c183 fun hH=>⟨Nat.le_of_ble_eq_true rfl,?_⟩
 simp(disch:=omega)[b183]
 obtain⟨A,hA⟩:∃A,wA p l 0=A:=⟨_,rfl⟩
 rw[hA]at hk
 refine qE (σ:=NN) (fun q=>(.nd (.sl (l.map qh) own) (.nd (.fn (.func g) [] [.ptr m 0]) (.nd .bot (.nd (.int l.length) .nil .nil) .nil) .nil) (.nd .bot (.nd .bot (.nd (.int q.i) .nil .nil) .nil) (.nd (.sl (l.map qh) own) .nil .nil)))) (fun q=>⟨ob,q.n⟩) (fun q=>l.length - q.i)
  (fun q=>n<=q.n/\q.i<=l.length/\wA p (l.drop q.i) q.i=A) ⟨0,n⟩ ⟨Nat.le_refl _,Nat.zero_le _,hA⟩ (by simp[FT.Le,Wk]) ⟨HWk.refl _,fun h=>h⟩ ?_
 rintro⟨q,k⟩ ⟨hn,hq,he⟩ hok
 dsimp only at hn hq he hok
 by_cases hlt:q<l.length
 ·rw[List.drop_eq_getElem_cons hlt]at he
  simp(disch:=omega)[hlt]
  refine hg l[q] (List.getElem_mem hlt) k _ _ hn fun n1 h1=>?_
  cases ht:p l[q]
  ·simp[wA,ht]at he
   simp(disch:=omega)[qw (show q<2^62 by omega)]
   exact⟨⟨q+1,n1⟩,by dsimp only;omega,⟨by dsimp only;omega,by dsimp only;omega,he⟩,by simp[FT.Le,Wk],HWk.refl _,fun h=>h⟩
  ·simp[wA,ht]at he
   simp(disch:=omega)
   exact keep (by rw[<-he]at hk;exact hk n1 (by omega))
 ·obtain rfl:q=l.length:=by omega
  rw[List.drop_eq_nil_of_le (Nat.le_refl _)]at he
  simp(disch:=omega)
  simp[wA]at he
  exact keep (by rw[<-he]at hk;exact hk k hn)
theorem qrN(l:List Atom)(hl:l.length<=2^20)(own:Own)(g:FuncId)(p:Atom->Bool)(m:Nat)(ob:List (Nat×qc))(n:Nat)(hg:qhe g qh m ob n p l){kv kp:HP}(hk:∀n',n<=n'->kv (.bool (l.any p)) ⟨ob,n'⟩):
  cP E0 F0 141 [.sl (l.map qh) own,.fn (.func g) [] [.ptr m 0]] ⟨ob,n⟩ kv kp:=by
 refine ub c141 fun hH=>⟨Nat.le_of_ble_eq_true rfl,?_⟩
 simp(disch:=omega)[b141]
 refine qrg l hl own g p m ob n hg fun n1 hn1=>?_
 simp(disch:=omega)
 exact keep (by rw[qiK];exact hk n1 hn1)
structure NNcM where
 i:Nat
 n:Nat
 es:List Atom
 own:Own
 ob:List (Nat×qc)
theorem qtF{A:List Atom}{i:Nat}(h:i<A.length)(B:List Atom):vf (A.drop i) B=(if qC B A[i] then [] else [A[i]])++vf (A.drop (i+1)) B:=by
 rw[List.drop_eq_getElem_cons h]
 unfold vf
 rw[List.filter_cons]
 cases qC B A[i]<;>simp
theorem qkw(A B:List Atom)(o1 o2:Own)(hA:A.length<=2^18)(hB:B.length<=2^18)(hao:∀a∈A,a.ok)(hbo:∀a∈B,a.ok):qg 80 [.sl (A.map qh) o1,.sl (B.map qh) o2] (.sl ((vf A B).map qh) .no):=by
 intro H kv kp hk
 refine qjq c80 fun hH=>⟨Nat.le_of_ble_eq_true rfl,?_⟩
 simp(disch:=omega)[b80]
 obtain⟨L,hL⟩:∃L,vf A B=L:=⟨_,rfl⟩
 rw[hL]at hk
 refine qE (σ:=NNcM) (fun q=>(.nd .bot (.nd (.sl (B.map qh) o2) .nil (.nd (.sl (q.es.map qh) q.own) (.nd (.int A.length) .nil .nil) .nil)) (.nd .bot (.nd .bot (.nd (.sl (A.map qh) o1) .nil .nil) .nil) (.nd .bot (.nd (.int q.i) .nil .nil) .nil)))) (fun q=>⟨q.ob,q.n⟩) (fun q=>A.length - q.i)
  (fun q=>vA H 2 q.es.length q.own q.ob q.n/\H.next<=q.n/\q.i<=A.length/\q.es.length<=q.i/\q.es++vf (A.drop q.i) B=L) ⟨0,H.next,[],.full,H.objs⟩ ⟨.inl ⟨rfl,rfl,Nat.le_refl _⟩,Nat.le_refl _,Nat.zero_le _,Nat.le_refl _,hL⟩ (by simp[FT.Le,Wk]) ⟨HWk.refl _,fun h=>h⟩ ?_
 rintro⟨i,n,es,ow,ob⟩ ⟨hr,hn,hi,hes,he⟩ hok
 dsimp only at hr hn hi hes he hok
 by_cases hlt:i<A.length
 case neg=>
  rw[List.drop_eq_nil_of_le (by omega)]at he
  have he2:es=L:=by simpa [vf] using he
  subst he2
  simp(disch:=omega)[hlt]
  exact⟨.sl (es.map qh) .no,qrV es ow,⟨H.objs,n⟩,hr.keep hH,fun _=>qt.mono hH hn,hk n hn⟩
 rw[qtF hlt]at he
 have hai:=hao _ (List.getElem_mem hlt)
 simp(disch:=omega)[hlt]
 refine qrN B (by omega) o2 142 (fun y=>decide (cmpA y A[i]=0)) n _ _ (fun y hy n' kv kp hn' hk=>qqS A[i] y hai (hbo y hy) n _ n' (qm _ _ _) hk) fun n2 hn2=>?_
 obtain⟨V,hV⟩:∃V,qC B A[i]=V:=⟨_,rfl⟩
 have hV2:(B.any fun y=>decide (cmpA y A[i]=0))=V:=hV
 rw[hV]at he
 rw[hV2]
 cases V
 ·rw[if_neg (by simp),<-List.append_assoc]at he
  simp(disch:=omega)
  refine qbS ?_
  simp(disch:=omega)
  obtain⟨own2,ob2,ob3,n3,e1,hr3,hn3,hw3,ho3⟩:=qhK (m:=n) (k:=n2) (cs:=.cells [.str A[i].pred,qz A[i].args]) hH (sz:=2) (es:=es.map qh) (Y:=[qh A[i]]) (by omega) (qpy es) rfl (by rw[List.length_map,List.length_singleton];omega) (by rw[List.length_map];exact hr) (Nat.le_refl _) (by omega)
  rw[List.length_map,List.length_singleton]at hr3
  have e2:es.map qh++[qh A[i]]=(es++[A[i]]).map qh:=by simp
  rw[e2]at e1
  rw[show apL ⟨(n,.cells [.str A[i].pred,qz A[i].args])::ob,n2⟩ 2 (.sl (es.map qh) ow) (.sl [.agg [.str A[i].pred,qz A[i].args]] _)=_ from e1 _]
  simp(disch:=omega)[qw (show i<2^62 by omega)]
  exact⟨⟨i+1,n3,es++[A[i]],own2,ob3⟩,by dsimp only;omega,⟨by rw[List.length_append,List.length_singleton];exact hr3,by dsimp only;omega,by dsimp only;omega,by simp;omega,he⟩,by simp[FT.Le,Wk],hw3,ho3⟩
 ·rw[if_pos rfl,List.nil_append]at he
  simp(disch:=omega)[qw (show i<2^62 by omega)]
  exact⟨⟨i+1,n2,es,ow,ob⟩,by dsimp only;omega,⟨hr.mono (by dsimp only;omega),by dsimp only;omega,by dsimp only;omega,by dsimp only;omega,he⟩,by simp[FT.Le,Wk],vl hok (Nat.le_refl _),fun _=>qt.mono hok (by dsimp only;omega)⟩
end Go.Abs.Tz
