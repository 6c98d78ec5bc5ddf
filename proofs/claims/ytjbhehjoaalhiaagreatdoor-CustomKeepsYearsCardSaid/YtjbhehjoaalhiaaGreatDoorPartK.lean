/- Part of the proof that the law CustomKeepsYears holds. Conditions: none. -/
import Derived.Test.YtjbhehjoaalhiaaGreatDoorPartJ
import Derived.Test.YtjbhehjoaalhiaaGreatDoorPartH
set_option linter.unusedVariables false
set_option linter.unusedSimpArgs false
set_option linter.unusedSectionVars false
namespace Go.Abs.Tz
open Go Go.Abs Go.Proofs
set_option maxRecDepth 20000
set_option linter.unusedSimpArgs false
attribute [local simp ↓] gF gD uZ uY gd zX qW zk uX zU yq yr gG gI gJ gH jd jg jj je jk jl jh ji jf jb u9 jc ja yo ym yp yn gA gy gC gz gM gK gL ue zz jm qS jn gg yt yu gQ gT gS gN gO g8 jp jw jz jv jx jy j5 j3 jF jH uH uE uS uV uF uN uR uQ uP uO uL uA uB uC uD uT uJ uK uy uU uW uG uI uM uz jL jG jY j8 jI jT jX jW jV jU jR jD j0 jP jQ jA j7 j9 jJ jN jS jB gb j6 jC ga jO jK jM jE jZ jq ju jr gY g7 gW gZ g6 qm uo
attribute [local simp] faL fdL iaL ixL za q9 qN eqK eqL qL ze ut gV yk g9 yb yd yf yh yj ya ye yc yg zr LV.cells LV.whole qm uf zK jo stL zw zF zV qa.alloc ge gc gf gw gv gu gt gq gp gk gj gi gh qd ug
theorem cP_um{f:FuncId}{args:List LV}{H:qa}{o:Nat}{es:List (LV×LV)}{kv kp:HP}(hl:look o H.objs=some (.map es))(h:cP E0 F0 f args (H.put o (.um es)) kv kp):cP E0 F0 f args H kv kp:=by
 intro hH
 have hC:qV Tryz.prog E0 f args (H.put o (.um es)) (CSP kv kp):=qbi qdf qbR (h (qt.put hH))
 exact .prim ⟨hC.1,fun G w us hI hE ha=>hC.2 G w us (hI.toUm hl (.refl _)) hE ha⟩
structure NNIn where
 i:Nat
 n:Nat
 xs:List Atom
 own:Own
 ob:List (Nat×qc)
def qgz:qk:=match qdp.body with
 |.seq _ (.seq _ (.seq l _))=>l
 |_=>.bad
def qlM:qk:=match qdp.body with
 |.seq _ (.seq _ (.seq _ r))=>r
 |_=>.bad
abbrev vn(c:qe)(fv:LV)(fo n:Nat)(xs:List Atom)(own:Own)(ob:List (Nat×qc)):List (Nat×qc):=(n+1+1+1,.cells [.sl (xs.map qh) own])::(n+1+1,.cells [fv])::(n+1,.cells (vT c))::(n,.cells [.ptr fo 0])::ob
theorem qsK{b:List Lit}{i:Nat}(h:i<b.length):qT (b.take (i+1))=qT (b.take i)++(if b[i].kind=1 then [b[i].atom] else []):=by
 unfold qT
 rw[List.take_add_one,List.getElem?_eq_getElem h,List.filter_append,List.map_append]
 congr 1
 by_cases hk:b[i].kind=1
 ·simp[hk]
 ·simp[hk]
theorem vl{a n m:Nat}{y:qc}{r:List (Nat×qc)}(hr:qt r a)(h:n<=m):HWk ⟨(a,y)::r,m⟩ ⟨r,m⟩:=by
 refine⟨Nat.le_refl _,fun i z hz=>?_⟩
 have:=hr.look hz
 rw[qd (by omega)]
 exact hz
theorem qqO(c:qe)(hc:c.body.length<=2^20)(fv:LV)(fo n:Nat)(ob:List (Nat×qc))(hOb:qt ob n){KX:XP}
  (hk:∀ow ob1 m,vA ⟨vn c fv fo n (qT c.body) ow ob,n+1+1+1+1⟩ 2 (qT c.body).length ow ob1 m->KX .normal ((.nd .bot (.nd .bot (.nd (.ptr n 0) (.nd .bot (.nd (.sc (.bool false)) .nil .nil) .nil) .nil) (.nd (.ptr (n+1+1) 0) .nil (.nd (.int c.body.length) .nil .nil))) (.nd .bot (.nd (.ptr (n+1) 0) .nil (.nd (wi c.body) .nil .nil)) (.nd (.ptr (n+1+1+1) 0) .nil (.nd (.int c.body.length) .nil .nil))))) ⟨ob1,m⟩):
  lP E0 F0 qgz ((.nd .bot (.nd .bot (.nd (.ptr n 0) .nil .nil) (.nd (.ptr (n+1+1) 0) .nil .nil)) (.nd .bot (.nd (.ptr (n+1) 0) .nil .nil) (.nd (.ptr (n+1+1+1) 0) .nil .nil)))) ⟨vn c fv fo n [] .full ob,n+1+1+1+1⟩ KX:=by
 refine zD ?_
 simp(disch:=omega)[qgz,qdp]
 refine qE (σ:=NNIn) (fun q=>(.nd .bot (.nd .bot (.nd (.ptr n 0) .nil .nil) (.nd (.ptr (n+1+1) 0) .nil (.nd (.int c.body.length) .nil .nil))) (.nd .bot (.nd (.ptr (n+1) 0) .nil (.nd (wi c.body) .nil .nil)) (.nd (.ptr (n+1+1+1) 0) .nil (.nd (.int q.i) .nil .nil))))) (fun q=>⟨q.ob,q.n⟩) (fun q=>c.body.length - q.i)
  (fun q=>vA ⟨vn c fv fo n q.xs q.own ob,n+1+1+1+1⟩ 2 q.xs.length q.own q.ob q.n/\q.i<=c.body.length/\q.xs=qT (c.body.take q.i))
  ⟨0,n+1+1+1+1,[],.full,vn c fv fo n [] .full ob⟩ ⟨.inl ⟨rfl,rfl,Nat.le_refl _⟩,Nat.zero_le _,rfl⟩ (by simp[FT.Le,Wk]) ⟨HWk.refl _,fun h=>h⟩ ?_
 rintro⟨i,m,xs,own,ob1⟩ ⟨hr,hi,hxs⟩ hok
 dsimp only at hr hi hok hxs
 by_cases hlt:i<c.body.length
 case neg=>
  obtain rfl:i=c.body.length:=by omega
  rw[List.take_length]at hxs
  subst hxs
  simp(disch:=omega)
  exact hk _ _ _ hr
 have hB:∀(ys:List Atom)(ow:Own),qt (vn c fv fo n ys ow ob) (n+1+1+1+1):=fun ys ow=>⟨by omega,by omega,by omega,by omega,hOb⟩
 have hX:=qpy xs
 obtain⟨X,hXe⟩:∃X,xs.map qh=X:=⟨_,rfl⟩
 have hXl:X.length=xs.length:=by rw[<-hXe,List.length_map]
 have htk:=qsK hlt
 have hxl:xs.length<=i:=by
  rw[hxs]
  unfold qT
  rw[List.length_map]
  exact Nat.le_trans (List.length_filter_le _ _) (by rw[List.length_take];omega)
 by_cases hk1:c.body[i].kind=1
 case neg=>
  rw[if_neg hk1,List.append_nil]at htk
  rcases hr with⟨rfl,rfl,h3⟩|⟨t,rfl,g1,g2,rfl⟩
  ·dsimp only at h3
   simp(disch:=omega)[hlt,hk1,qw (show i<2^62 by omega)]
   exact⟨⟨i+1,m+1,xs,.full,vn c fv fo n xs .full ob⟩,by dsimp only;omega,⟨.inl ⟨rfl,rfl,by dsimp only;omega⟩,by dsimp only;omega,by dsimp only;rw[htk];exact hxs⟩,by simp[FT.Le,Wk],vl ((hB xs _).mono h3) (Nat.le_refl _),fun _=>(hB xs _).mono (by dsimp only;omega)⟩
  ·dsimp only at g1
   simp(disch:=omega)[hlt,hk1,qw (show i<2^62 by omega)]
   exact⟨⟨i+1,m+1,xs,.tok t,(t,.tok xs.length 2)::vn c fv fo n xs (.tok t) ob⟩,by dsimp only;omega,⟨.inr ⟨t,rfl,g1,by dsimp only;omega,rfl⟩,by dsimp only;omega,by dsimp only;rw[htk];exact hxs⟩,by simp[FT.Le,Wk],vl (show qt _ m from hok) (Nat.le_refl _),fun _=>(show qt _ m from hok).mono (by dsimp only;omega)⟩
 rw[if_pos hk1]at htk
 have hnew:(xs++[c.body[i].atom]).map qh=X++[qh c.body[i].atom]:=by rw[<-hXe];simp
 have hxl2:(xs++[c.body[i].atom]).length=xs.length+1:=by simp
 rw[hXe]at hX
 rcases hr with⟨rfl,rfl,h3⟩|⟨t,rfl,g1,g2,rfl⟩
 ·dsimp only at h3
  simp(disch:=omega)[hlt,hk1]
  refine qbS ?_
  simp(disch:=omega)[hXe]
  rw[qjH hX rfl (by rw[hXl];omega) (by omega)]
  simp(disch:=omega)[hXl,qw (show i<2^62 by omega)]
  refine⟨⟨i+1,m+1+1,xs++[c.body[i].atom],.tok (m+1),(m+1,.tok (xs.length+1) 2)::vn c fv fo n (xs++[c.body[i].atom]) (.tok (m+1)) ob⟩,by dsimp only;omega,⟨.inr ⟨m+1,rfl,by dsimp only;omega,Nat.lt_succ_self _,by dsimp only;rw[hxl2]⟩,by dsimp only;omega,by dsimp only;rw[htk,hxs]⟩,by simp[FT.Le,Wk],?_⟩
  dsimp only
  unfold vn
  rw[hnew]
  have hB2:=hB (xs++[c.body[i].atom]) (.tok (m+1))
  unfold vn at hB2
  rw[hnew]at hB2
  exact⟨qbu (hB2.mono h3) fun _ _ h=>h,fun _=>⟨Nat.lt_succ_self _,hB2.mono (by omega)⟩⟩
 ·dsimp only at g1
  simp(disch:=omega)[hlt,hk1]
  refine qbS ?_
  simp(disch:=omega)[hXe]
  rw[qjG hX rfl (by rw[hXl];omega) (by omega) (by omega) (by rw[qd (by omega),hXl];simp[look])]
  simp(disch:=omega)[hXl,qw (show i<2^62 by omega)]
  refine⟨⟨i+1,m+1,xs++[c.body[i].atom],.tok t,(t,.tok (xs.length+1) 2)::vn c fv fo n (xs++[c.body[i].atom]) (.tok t) ob⟩,by dsimp only;omega,⟨.inr ⟨t,rfl,g1,by dsimp only;omega,by dsimp only;rw[hxl2]⟩,by dsimp only;omega,by dsimp only;rw[htk,hxs]⟩,by simp[FT.Le,Wk],?_⟩
  dsimp only
  unfold vn
  rw[hnew]
  have hB2:=hB (xs++[c.body[i].atom]) (.tok t)
  unfold vn at hB2
  rw[hnew]at hB2
  have hOk3:qt ((t,qc.tok (xs.length+1) 2)::(n+1+1+1,qc.cells [.sl (X++[qh c.body[i].atom]) (.tok t)])::(n+1+1,.cells [fv])::(n+1,.cells (vT c))::(n,.cells [.ptr fo 0])::ob) m:=⟨g2,hB2.mono g1⟩
  exact⟨vl hOk3 (Nat.le_refl _),fun _=>hOk3.mono (by dsimp only;omega)⟩
theorem qwB:qdp.body=.seq (.ops [D 3 (.bx (T 0)),D 4 (.bx (T 1)),D 5 (.bx (T 2))]) (.seq (.ops [D 6 (.al [Nl])]) (.seq qgz qlM)):=rfl
section
variable{σ:Type}{D:qeq σ}
theorem qqY(c:qe)(hc:yv c)(F:List Stp)(fo am:Nat)(ownF:Own)(L:List (Nat×qc))(hDL:∀p∈D.Stat,p∈L)(hpl:∀p∈L,qco p.2=true)(hF:∀ob,vz L ob->ud ob fo am F ownF)
  (hFg:∀s∈F,zf s.atom) (hFl:F.length<=2^20) (ob:List (Nat×qc)) (n:Nat) (G:σ) (S:Nat->Prop) (hlim:D.lim G) (hst:vz L ob) (hat:D.At ob G S) (hsep:∀p∈L,¬S p.1) (hni:qK ob) {kv kp:HP}
  (hk:∀ob' n' S',n<=n'->D.At ob' (vu D.step c (vt F c (qT c.body) [] []) G) S'->(∀i,S' i->S i\/n<=i)->qK ob'->(∀i,i<n->¬S i->look i ob'=look i ob)->kv (.tup []) ⟨ob',n'⟩):
  cP E0 F0 153 [.ptr fo 0,yU c,.fn (.func D.fn) [] D.cap] ⟨ob,n⟩ kv kp:=by
 refine qdn c153 (Nat.le_of_ble_eq_true rfl) fun hH=>?_
 rw[qwB]
 simp(disch:=omega)
 refine yA (zD ?_)
 simp(disch:=omega)
 refine yA (zD ?_)
 simp(disch:=omega)
 refine yA ?_
 refine wc (t':=(.nd .bot (.nd .bot (.nd (.ptr n 0) .nil .nil) (.nd (.ptr (n+1+1) 0) .nil .nil)) (.nd .bot (.nd (.ptr (n+1) 0) .nil .nil) (.nd (.ptr (n+1+1+1) 0) .nil .nil)))) (fun l h=>by unfold qgz at h;simp[qdp]at h) (by simp[FT.Le,Wk]) (HWk.refl _) (fun h=>h) ?_
 obtain⟨cp1,cp2,cp3⟩:=qbV hc.ok
 refine qqO c (by omega) (.fn (.func D.fn) [] D.cap) fo n ob hH fun ow ob1 m hr=>?_
 obtain⟨hm,q3,q2,q1,q0,hold,hni1⟩:n+1+1+1+1<=m/\look (n+1+1+1) ob1=some (.cells [.sl ((qT c.body).map qh) ow])/\look (n+1+1) ob1=some (.cells [.fn (.func D.fn) [] D.cap])/\look (n+1) ob1=some (.cells (vT c))/\look n ob1=some (.cells [.ptr fo 0])/\(∀i,i<n->look i ob1=look i ob)/\qK ob1:=by
  have base:∀xs ow,look (n+1+1+1) (vn c (.fn (.func D.fn) [] D.cap) fo n xs ow ob)=some (.cells [.sl (xs.map qh) ow])/\look (n+1+1) (vn c (.fn (.func D.fn) [] D.cap) fo n xs ow ob)=some (.cells [.fn (.func D.fn) [] D.cap])/\look (n+1) (vn c (.fn (.func D.fn) [] D.cap) fo n xs ow ob)=some (.cells (vT c))/\look n (vn c (.fn (.func D.fn) [] D.cap) fo n xs ow ob)=some (.cells [.ptr fo 0])/\(∀i,i<n->look i (vn c (.fn (.func D.fn) [] D.cap) fo n xs ow ob)=look i ob)/\qK (vn c (.fn (.func D.fn) [] D.cap) fo n xs ow ob):=by
   intro xs ow
   refine⟨qm _ _ _,by rw[qd (by omega)];exact qm _ _ _,by rw[qd (by omega),qd (by omega)];exact qm _ _ _,by rw[qd (by omega),qd (by omega),qd (by omega)];exact qm _ _ _,fun i hi=>?_,(((hni.cons _ rfl).cons _ rfl).cons _ rfl).cons _ rfl⟩
   rw[qd (by omega),qd (by omega),qd (by omega),qd (by omega)]
  rcases hr with⟨rfl,rfl,h3⟩|⟨t,rfl,g1,g2,rfl⟩
  ·exact⟨h3,base _ _⟩
  ·dsimp only at g1
   obtain⟨a1,a2,a3,a4,a5,a6⟩:=base (qT c.body) (.tok t)
   exact⟨by omega,by rw[qd (by omega)];exact a1,by rw[qd (by omega)];exact a2,by rw[qd (by omega)];exact a3,by rw[qd (by omega)];exact a4,fun i hi=>by rw[qd (by omega)];exact a5 i hi,a6.cons _ rfl⟩
 refine zD ?_
 simp(disch:=omega)[qlM,qdp]
 refine cP_um (o:=m+1+1) (es:=[]) (qm _ _ _) ?_
 rw[uf]
 obtain⟨cl,hcle⟩:∃cl:LV,LV.fn (.func 192) [] [.ptr m 0,.ptr (n+1+1+1) 0,.ptr n 0,.ptr (m+1) 0,.ptr (n+1) 0,.ptr (n+1+1) 0]=cl:=⟨_,rfl⟩
 obtain⟨obE,hobE⟩:∃obE,(m+1+1,qc.um [])::(m+1,qc.cells [cl])::(m,qc.cells [Nl])::ob1=obE:=⟨_,rfl⟩
 rw[hcle,hobE]
 have hE:∀i,i<m->look i obE=look i ob1:=fun i hi=>by rw[<-hobE,qd (by omega),qd (by omega),qd (by omega)]
 have hlow:∀p∈L,p.1<n:=fun p hp=>hH.look (hst p hp)
 have hSlow:∀i,S i->i<n:=fun i hi=>by
  obtain⟨x,hx,_⟩:=D.at_look _ _ _ _ hat hi
  exact hH.look hx
 have hC:ChOk D ⟨c,F,fo,am,ownF,ow,m,n+1+1+1,n,m+1,n+1,n+1+1,(n+1+1+1,.cells [.sl ((qT c.body).map qh) ow])::(n,.cells [.ptr fo 0])::(m+1,.cells [cl])::(n+1,.cells (vT c))::(n+1+1,.cells [.fn (.func D.fn) [] D.cap])::L⟩:=by
  refine⟨hc,fun p hp=>?_,?_,fun ob h=>hF ob fun p hp=>h p ?_,hFg,hFl,?_,?_,?_,?_,?_,?_⟩
  ·simp only[List.mem_cons]
   exact .inr (.inr (.inr (.inr (.inr (hDL p hp)))))
  ·simp only[List.forall_mem_cons]
   exact⟨rfl,rfl,rfl,rfl,rfl,hpl⟩
  ·simp only[List.mem_cons]
   exact .inr (.inr (.inr (.inr (.inr hp))))
  ·simp only[List.forall_mem_cons]
   exact⟨by omega,by omega,by omega,by omega,by omega,fun p hp=>by have:=hlow p hp;omega⟩
  all_goals first|exact List.mem_cons_self|(rw[<-hcle];simp)|simp
 refine qkF hC (qT c.body) [] [] [] G rfl rfl .nil (fun p hp=>by cases hp) hlim obE (m+1+1+1) S Nl (m+1+1) ⟨?_,?_,?_,?_,fun h=>?_,.inl ⟨rfl,rfl⟩,?_⟩ (by rw[<-hobE];exact qm _ _ _) fun ob2 n2 S2 fv2 hn2 h2 hS2 _ hkept=>?_
 ·simp only[vz,List.forall_mem_cons]
  refine⟨by rw[hE _ (by omega)];exact q3,by rw[hE _ (by omega)];exact q0,by rw[<-hobE,qd (by omega)];exact qm _ _ _,by rw[hE _ (by omega)];exact q1,by rw[hE _ (by omega)];exact q2,fun p hp=>?_⟩
  have:=hlow p hp
  rw[hE _ (by omega),hold _ this]
  exact hst p hp
 ·exact D.at_keep _ _ _ _ hat fun i hi=>by
   have:=hSlow i hi
   rw[hE _ (by omega),hold _ this]
 ·simp only[List.forall_mem_cons]
  exact⟨fun h=>by have:=hSlow _ h;omega,fun h=>by have:=hSlow _ h;omega,fun h=>by have:=hSlow _ h;omega,fun h=>by have:=hSlow _ h;omega,fun h=>by have:=hSlow _ h;omega,hsep⟩
 ·rw[<-hobE]
  show look m _=_
  rw[qd (by omega),qd (by omega)]
  exact qm _ _ _
 ·have:=hSlow _ h
  dsimp only at this
  omega
 ·rw[<-hobE]
  exact((hni1.cons _ rfl).cons _ rfl).cons _ rfl
 ·simp(disch:=omega)[qS]
  refine⟨_,HWk.refl _,fun h=>h,hk ob2 n2 S2 (by omega) h2.at_ (fun i hi=>(hS2 i hi).imp id fun h=>by omega) h2.ni fun i hi hiS=>?_⟩
  rw[hkept i (by omega) hiS (by dsimp only;omega) (fun a o l he=>by cases he),hE _ (by omega),hold _ hi]
end
theorem qkv(a b:Atom)(ha:a.ok)(hb:b.ok):qg 14 [qh a,qh b] (.bool (decide (cmpA a b=0))):=by
 refine qg.of c14 fun H hH=>⟨Nat.le_of_ble_eq_true rfl,?_⟩
 simp(disch:=omega)[b14]
 refine(qqN a b ha hb).go fun n hn=>?_
 simp(disch:=omega)
 exact qq hH (by first|rfl|simp[])
def qC(l:List Atom)(a:Atom):Bool:=l.any fun x=>decide (cmpA x a=0)
def qdD(l:List Atom)(K:qv):List Lit->Bool
 |[]=>true
 |x::r=>if x.kind=1 then qdD l K r else if x.kind=2 then !qC l (zm K x.atom)&&qdD l K r else qbU K x&&qdD l K r
end Go.Abs.Tz
