/- Part of the proof that the law CustomStepsAsSpecified returns true for every input. Conditions: none. -/
import Derived.Test.YtghfbggphgpjgaaGreatDoorPartW
import Derived.Test.YtghfbggphgpjgaaGreatDoorPartV
namespace Go.Abs.Tz
open Go Go.Abs Go.Proofs
set_option maxRecDepth 20000
set_option linter.unusedSimpArgs false
attribute [local simp ↓] yC yB jT jS yf uO zu zG jR uB vl vm yD yF yG yE jY j6 j9 jZ ga gc j7 j8 j0 jW jU jX jV vj vh vk vi yy yw yz yx yK yI yJ jj z8 ge zw zU yi vn vo yN yP yO yL yM yZ gh gq gv gp gt gu g7 g6 gC gE jB jy jM jP jz jH jL jK jJ jI jF ju jv jw jx jN jD jE jq jO jQ jA jC jG jr gI gD gY ya gF gS gW gV gU gT gO gz g0 gM gN gw g9 yb gG gK gQ gx yd g8 gy yc gL gH gJ gA gZ gi gk gj yT yW yS yU yV qq uG
attribute [local simp] faL fdL iaL ixL qS zm ze eqK eqL qX zE uA yQ vg y5 y7 y9 vc ve vf y6 vb y8 vd zM LV.cells LV.whole qq uQ gg gf stL zN ui uI qa.alloc yg ye yh yu yt yr yq yp yo yn ym yk yj qe uD
theorem qrz{f:FuncId}{args:List LV}{H:qa}{o:Nat}{es:List (LV×LV)}{kv kp:HP}(hl:look o H.objs=some (.map es))(h:cP E0 F0 f args (H.put o (.um es)) kv kp):cP E0 F0 f args H kv kp:=by
 intro hH
 have hC:qZ Tryz.prog E0 f args (H.put o (.um es)) (CSP kv kp):=qag qbD qaK (h (qx.put hH))
 exact .prim ⟨hC.1,fun G w us hI hE ha=>hC.2 G w us (hI.toUm hl (.refl _)) hE ha⟩
structure NNIn where
 i:Nat
 n:Nat
 xs:List qd
 own:Own
 ob:List (Nat×qc)
def qhX:qr:=match b49.body with
 |.seq _ (.seq _ (.seq l _))=>l
 |_=>.bad
def qoj:qr:=match b49.body with
 |.seq _ (.seq _ (.seq _ r))=>r
 |_=>.bad
abbrev wb(c:qf)(fv:LV)(fo n:Nat)(xs:List qd)(own:Own)(ob:List (Nat×qc)):List (Nat×qc):=(n+1+1+1,.cells [.sl (xs.map qg) own])::(n+1+1,.cells [fv])::(n+1,.cells (yY c))::(n,.cells [.ptr fo 0])::ob
theorem qkk{b:List Lit}{i:Nat}(h:i<b.length):qJ (b.take (i+1))=qJ (b.take i)++(if b[i].kind=1 then [b[i].atom] else []):=by
 unfold qJ
 rw[List.take_add_one,List.getElem?_eq_getElem h,List.filter_append,List.map_append]
 congr 1
 by_cases hk:b[i].kind=1
 ·simp[hk]
 ·simp[hk]
theorem qbg{a n m:Nat}{y:qc}{r:List (Nat×qc)}(hr:qx r a)(h:n<=m):HWk ⟨(a,y)::r,m⟩ ⟨r,m⟩:=by
 refine⟨Nat.le_refl _,fun i z hz=>?_⟩
 have:=hr.look hz
 rw[qe (by omega)]
 exact hz
theorem qtH(c:qf)(hc:c.body.length<=2^20)(fv:LV)(fo n:Nat)(ob:List (Nat×qc))(hOb:qx ob n){KX:XP}
  (hk:∀ow ob1 m,vS ⟨wb c fv fo n (qJ c.body) ow ob,n+1+1+1+1⟩ 2 (qJ c.body).length ow ob1 m->KX .normal ((.nd .bot (.nd .bot (.nd (.ptr n 0) (.nd .bot (.nd (.sc (.bool false)) .nil .nil) .nil) .nil) (.nd (.ptr (n+1+1) 0) .nil (.nd (.int c.body.length) .nil .nil))) (.nd .bot (.nd (.ptr (n+1) 0) .nil (.nd (zA c.body) .nil .nil)) (.nd (.ptr (n+1+1+1) 0) .nil (.nd (.int c.body.length) .nil .nil))))) ⟨ob1,m⟩):
  lP E0 F0 qhX ((.nd .bot (.nd .bot (.nd (.ptr n 0) .nil .nil) (.nd (.ptr (n+1+1) 0) .nil .nil)) (.nd .bot (.nd (.ptr (n+1) 0) .nil .nil) (.nd (.ptr (n+1+1+1) 0) .nil .nil)))) ⟨wb c fv fo n [] .full ob,n+1+1+1+1⟩ KX:=by
 refine ur ?_
 simp(disch:=omega)[qhX,b49]
 refine qB (σ:=NNIn) (fun q=>(.nd .bot (.nd .bot (.nd (.ptr n 0) .nil .nil) (.nd (.ptr (n+1+1) 0) .nil (.nd (.int c.body.length) .nil .nil))) (.nd .bot (.nd (.ptr (n+1) 0) .nil (.nd (zA c.body) .nil .nil)) (.nd (.ptr (n+1+1+1) 0) .nil (.nd (.int q.i) .nil .nil))))) (fun q=>⟨q.ob,q.n⟩) (fun q=>c.body.length - q.i)
  (fun q=>vS ⟨wb c fv fo n q.xs q.own ob,n+1+1+1+1⟩ 2 q.xs.length q.own q.ob q.n/\q.i<=c.body.length/\q.xs=qJ (c.body.take q.i))
  ⟨0,n+1+1+1+1,[],.full,wb c fv fo n [] .full ob⟩ ⟨.inl ⟨rfl,rfl,Nat.le_refl _⟩,Nat.zero_le _,rfl⟩ (by simp[FT.Le,Wk]) ⟨HWk.refl _,fun h=>h⟩ ?_
 rintro⟨i,m,xs,own,ob1⟩ ⟨hr,hi,hxs⟩ hok
 dsimp only at hr hi hok hxs
 by_cases hlt:i<c.body.length
 case neg=>
  obtain rfl:i=c.body.length:=by omega
  rw[List.take_length]at hxs
  subst hxs
  simp(disch:=omega)
  exact hk _ _ _ hr
 have hB:∀(ys:List qd)(ow:Own),qx (wb c fv fo n ys ow ob) (n+1+1+1+1):=fun ys ow=>⟨by omega,by omega,by omega,by omega,hOb⟩
 have hX:=qaw xs
 obtain⟨X,hXe⟩:∃X,xs.map qg=X:=⟨_,rfl⟩
 have hXl:X.length=xs.length:=by rw[<-hXe,List.length_map]
 have htk:=qkk hlt
 have hxl:xs.length<=i:=by
  rw[hxs]
  unfold qJ
  rw[List.length_map]
  exact Nat.le_trans (List.length_filter_le _ _) (by rw[List.length_take];omega)
 by_cases hk1:c.body[i].kind=1
 case neg=>
  rw[if_neg hk1,List.append_nil]at htk
  rcases hr with⟨rfl,rfl,h3⟩|⟨t,rfl,g1,g2,rfl⟩
  ·dsimp only at h3
   simp(disch:=omega)[hlt,hk1,qk (show i<2^62 by omega)]
   exact⟨⟨i+1,m+1,xs,.full,wb c fv fo n xs .full ob⟩,by dsimp only;omega,⟨.inl ⟨rfl,rfl,by dsimp only;omega⟩,by dsimp only;omega,by dsimp only;rw[htk];exact hxs⟩,by simp[FT.Le,Wk],qbg ((hB xs _).mono h3) (Nat.le_refl _),fun _=>(hB xs _).mono (by dsimp only;omega)⟩
  ·dsimp only at g1
   simp(disch:=omega)[hlt,hk1,qk (show i<2^62 by omega)]
   exact⟨⟨i+1,m+1,xs,.tok t,(t,.tok xs.length 2)::wb c fv fo n xs (.tok t) ob⟩,by dsimp only;omega,⟨.inr ⟨t,rfl,g1,by dsimp only;omega,rfl⟩,by dsimp only;omega,by dsimp only;rw[htk];exact hxs⟩,by simp[FT.Le,Wk],qbg (show qx _ m from hok) (Nat.le_refl _),fun _=>(show qx _ m from hok).mono (by dsimp only;omega)⟩
 rw[if_pos hk1]at htk
 have hnew:(xs++[c.body[i].atom]).map qg=X++[qg c.body[i].atom]:=by rw[<-hXe];simp
 have hxl2:(xs++[c.body[i].atom]).length=xs.length+1:=by simp
 rw[hXe]at hX
 rcases hr with⟨rfl,rfl,h3⟩|⟨t,rfl,g1,g2,rfl⟩
 ·dsimp only at h3
  simp(disch:=omega)[hlt,hk1]
  refine zF ?_
  simp(disch:=omega)[hXe]
  rw[qiQ hX rfl (by rw[hXl];omega) (by omega)]
  simp(disch:=omega)[hXl,qk (show i<2^62 by omega)]
  refine⟨⟨i+1,m+1+1,xs++[c.body[i].atom],.tok (m+1),(m+1,.tok (xs.length+1) 2)::wb c fv fo n (xs++[c.body[i].atom]) (.tok (m+1)) ob⟩,by dsimp only;omega,⟨.inr ⟨m+1,rfl,by dsimp only;omega,Nat.lt_succ_self _,by dsimp only;rw[hxl2]⟩,by dsimp only;omega,by dsimp only;rw[htk,hxs]⟩,by simp[FT.Le,Wk],?_⟩
  dsimp only
  unfold wb
  rw[hnew]
  have hB2:=hB (xs++[c.body[i].atom]) (.tok (m+1))
  unfold wb at hB2
  rw[hnew]at hB2
  exact⟨qeM (hB2.mono h3) fun _ _ h=>h,fun _=>⟨Nat.lt_succ_self _,hB2.mono (by omega)⟩⟩
 ·dsimp only at g1
  simp(disch:=omega)[hlt,hk1]
  refine zF ?_
  simp(disch:=omega)[hXe]
  rw[qiP hX rfl (by rw[hXl];omega) (by omega) (by omega) (by rw[qe (by omega),hXl];simp[look])]
  simp(disch:=omega)[hXl,qk (show i<2^62 by omega)]
  refine⟨⟨i+1,m+1,xs++[c.body[i].atom],.tok t,(t,.tok (xs.length+1) 2)::wb c fv fo n (xs++[c.body[i].atom]) (.tok t) ob⟩,by dsimp only;omega,⟨.inr ⟨t,rfl,g1,by dsimp only;omega,by dsimp only;rw[hxl2]⟩,by dsimp only;omega,by dsimp only;rw[htk,hxs]⟩,by simp[FT.Le,Wk],?_⟩
  dsimp only
  unfold wb
  rw[hnew]
  have hB2:=hB (xs++[c.body[i].atom]) (.tok t)
  unfold wb at hB2
  rw[hnew]at hB2
  have hOk3:qx ((t,qc.tok (xs.length+1) 2)::(n+1+1+1,qc.cells [.sl (X++[qg c.body[i].atom]) (.tok t)])::(n+1+1,.cells [fv])::(n+1,.cells (yY c))::(n,.cells [.ptr fo 0])::ob) m:=⟨g2,hB2.mono g1⟩
  exact⟨qbg hOk3 (Nat.le_refl _),fun _=>hOk3.mono (by dsimp only;omega)⟩
theorem qzo:b49.body=.seq (.ops [D 3 (.bx (T 0)),D 4 (.bx (T 1)),D 5 (.bx (T 2))]) (.seq (.ops [D 6 (.al [Nl])]) (.seq qhX qoj)):=rfl
section
variable{σ:Type}{D:qek σ}
theorem qnb(c:qf)(hc:zq c)(F:List Stp)(fo am:Nat)(ownF:Own)(L:List (Nat×qc))(hDL:∀p∈D.Stat,p∈L)(hpl:∀p∈L,qcX p.2=true)(hF:∀ob,wc L ob->zR ob fo am F ownF)
  (hFg:∀s∈F,qD s.atom) (hFl:F.length<=2^20) (ob:List (Nat×qc)) (n:Nat) (G:σ) (S:Nat->Prop) (hlim:D.lim G) (hst:wc L ob) (hat:D.At ob G S) (hsep:∀p∈L,¬S p.1) (hni:qU ob) {kv kp:HP}
  (hk:∀ob' n' S',n<=n'->D.At ob' (jd D.step c (jb F c (qJ c.body) [] []) G) S'->(∀i,S' i->S i\/n<=i)->qU ob'->(∀i,i<n->¬S i->look i ob'=look i ob)->kv (.tup []) ⟨ob',n'⟩):
  cP E0 F0 49 [.ptr fo 0,wA c,.fn (.func D.fn) [] D.cap] ⟨ob,n⟩ kv kp:=by
 refine qfi c49 (Nat.le_of_ble_eq_true rfl) fun hH=>?_
 rw[qzo]
 simp(disch:=omega)
 refine vB (ur ?_)
 simp(disch:=omega)
 refine vB (ur ?_)
 simp(disch:=omega)
 refine vB ?_
 refine vA (t':=(.nd .bot (.nd .bot (.nd (.ptr n 0) .nil .nil) (.nd (.ptr (n+1+1) 0) .nil .nil)) (.nd .bot (.nd (.ptr (n+1) 0) .nil .nil) (.nd (.ptr (n+1+1+1) 0) .nil .nil)))) (fun l h=>by unfold qhX at h;simp[b49]at h) (by simp[FT.Le,Wk]) (HWk.refl _) (fun h=>h) ?_
 obtain⟨cp1,cp2,cp3⟩:=wl hc.ok
 refine qtH c (by omega) (.fn (.func D.fn) [] D.cap) fo n ob hH fun ow ob1 m hr=>?_
 obtain⟨hm,q3,q2,q1,q0,hold,hni1⟩:n+1+1+1+1<=m/\look (n+1+1+1) ob1=some (.cells [.sl ((qJ c.body).map qg) ow])/\look (n+1+1) ob1=some (.cells [.fn (.func D.fn) [] D.cap])/\look (n+1) ob1=some (.cells (yY c))/\look n ob1=some (.cells [.ptr fo 0])/\(∀i,i<n->look i ob1=look i ob)/\qU ob1:=by
  have base:∀xs ow,look (n+1+1+1) (wb c (.fn (.func D.fn) [] D.cap) fo n xs ow ob)=some (.cells [.sl (xs.map qg) ow])/\look (n+1+1) (wb c (.fn (.func D.fn) [] D.cap) fo n xs ow ob)=some (.cells [.fn (.func D.fn) [] D.cap])/\look (n+1) (wb c (.fn (.func D.fn) [] D.cap) fo n xs ow ob)=some (.cells (yY c))/\look n (wb c (.fn (.func D.fn) [] D.cap) fo n xs ow ob)=some (.cells [.ptr fo 0])/\(∀i,i<n->look i (wb c (.fn (.func D.fn) [] D.cap) fo n xs ow ob)=look i ob)/\qU (wb c (.fn (.func D.fn) [] D.cap) fo n xs ow ob):=by
   intro xs ow
   refine⟨qq _ _ _,by rw[qe (by omega)];exact qq _ _ _,by rw[qe (by omega),qe (by omega)];exact qq _ _ _,by rw[qe (by omega),qe (by omega),qe (by omega)];exact qq _ _ _,fun i hi=>?_,(((hni.cons _ rfl).cons _ rfl).cons _ rfl).cons _ rfl⟩
   rw[qe (by omega),qe (by omega),qe (by omega),qe (by omega)]
  rcases hr with⟨rfl,rfl,h3⟩|⟨t,rfl,g1,g2,rfl⟩
  ·exact⟨h3,base _ _⟩
  ·dsimp only at g1
   obtain⟨a1,a2,a3,a4,a5,a6⟩:=base (qJ c.body) (.tok t)
   exact⟨by omega,by rw[qe (by omega)];exact a1,by rw[qe (by omega)];exact a2,by rw[qe (by omega)];exact a3,by rw[qe (by omega)];exact a4,fun i hi=>by rw[qe (by omega)];exact a5 i hi,a6.cons _ rfl⟩
 refine ur ?_
 simp(disch:=omega)[qoj,b49]
 refine qrz (o:=m+1+1) (es:=[]) (qq _ _ _) ?_
 rw[uQ]
 obtain⟨cl,hcle⟩:∃cl:LV,LV.fn (.func 94) [] [.ptr m 0,.ptr (n+1+1+1) 0,.ptr n 0,.ptr (m+1) 0,.ptr (n+1) 0,.ptr (n+1+1) 0]=cl:=⟨_,rfl⟩
 obtain⟨obE,hobE⟩:∃obE,(m+1+1,qc.um [])::(m+1,qc.cells [cl])::(m,qc.cells [Nl])::ob1=obE:=⟨_,rfl⟩
 rw[hcle,hobE]
 have hE:∀i,i<m->look i obE=look i ob1:=fun i hi=>by rw[<-hobE,qe (by omega),qe (by omega),qe (by omega)]
 have hlow:∀p∈L,p.1<n:=fun p hp=>hH.look (hst p hp)
 have hSlow:∀i,S i->i<n:=fun i hi=>by
  obtain⟨x,hx,_⟩:=D.at_look _ _ _ _ hat hi
  exact hH.look hx
 have hC:ChOk D ⟨c,F,fo,am,ownF,ow,m,n+1+1+1,n,m+1,n+1,n+1+1,(n+1+1+1,.cells [.sl ((qJ c.body).map qg) ow])::(n,.cells [.ptr fo 0])::(m+1,.cells [cl])::(n+1,.cells (yY c))::(n+1+1,.cells [.fn (.func D.fn) [] D.cap])::L⟩:=by
  refine⟨hc,fun p hp=>?_,?_,fun ob h=>hF ob fun p hp=>h p ?_,hFg,hFl,?_,?_,?_,?_,?_,?_⟩
  ·simp only[List.mem_cons]
   exact .inr (.inr (.inr (.inr (.inr (hDL p hp)))))
  ·simp only[List.forall_mem_cons]
   exact⟨rfl,rfl,rfl,rfl,rfl,hpl⟩
  ·simp only[List.mem_cons]
   exact .inr (.inr (.inr (.inr (.inr hp))))
  ·simp only[List.forall_mem_cons]
   exact⟨by omega,by omega,by omega,by omega,by omega,fun p hp=>by have:=hlow p hp;omega⟩
  all_goals first|exact List.mem_cons_self|(rw[<-hcle];simp)|simp
 refine qnh hC (qJ c.body) [] [] [] G rfl rfl .nil (fun p hp=>by cases hp) hlim obE (m+1+1+1) S Nl (m+1+1) ⟨?_,?_,?_,?_,fun h=>?_,.inl ⟨rfl,rfl⟩,?_⟩ (by rw[<-hobE];exact qq _ _ _) fun ob2 n2 S2 fv2 hn2 h2 hS2 _ hkept=>?_
 ·simp only[wc,List.forall_mem_cons]
  refine⟨by rw[hE _ (by omega)];exact q3,by rw[hE _ (by omega)];exact q0,by rw[<-hobE,qe (by omega)];exact qq _ _ _,by rw[hE _ (by omega)];exact q1,by rw[hE _ (by omega)];exact q2,fun p hp=>?_⟩
  have:=hlow p hp
  rw[hE _ (by omega),hold _ this]
  exact hst p hp
 ·exact D.at_keep _ _ _ _ hat fun i hi=>by
   have:=hSlow i hi
   rw[hE _ (by omega),hold _ this]
 ·simp only[List.forall_mem_cons]
  exact⟨fun h=>by have:=hSlow _ h;omega,fun h=>by have:=hSlow _ h;omega,fun h=>by have:=hSlow _ h;omega,fun h=>by have:=hSlow _ h;omega,fun h=>by have:=hSlow _ h;omega,hsep⟩
 ·rw[<-hobE]
  show look m _=_
  rw[qe (by omega),qe (by omega)]
  exact qq _ _ _
 ·have:=hSlow _ h
  dsimp only at this
  omega
 ·rw[<-hobE]
  exact((hni1.cons _ rfl).cons _ rfl).cons _ rfl
 ·simp(disch:=omega)[zw]
  refine⟨_,HWk.refl _,fun h=>h,hk ob2 n2 S2 (by omega) h2.at_ (fun i hi=>(hS2 i hi).imp id fun h=>by omega) h2.ni fun i hi hiS=>?_⟩
  rw[hkept i (by omega) hiS (by dsimp only;omega) (fun a o l he=>by cases he),hE _ (by omega),hold _ hi]
end
theorem qji(a b:qd)(ha:a.ok)(hb:b.ok):qh 42 [qg a,qg b] (.bool (decide (zk a b=0))):=by
 refine qh.of c42 fun H hH=>⟨Nat.le_of_ble_eq_true rfl,?_⟩
 simp(disch:=omega)[b42]
 refine(qjj a b ha hb).go fun n hn=>?_
 simp(disch:=omega)
 exact qp hH (by first|rfl|simp[])
def yA(l:List qd)(a:qd):Bool:=l.any fun x=>decide (zk x a=0)
theorem qfC(l:List qd)(ow:Own)(a:qd)(hl:l.length<2^40)(hlo:∀x∈l,qd.ok x)(ha:a.ok):qh 81 [.sl (l.map qg) ow,qg a] (.bool (yA l a)):=by
 refine qh.of c81 fun H hH=>⟨Nat.le_of_ble_eq_true rfl,?_⟩
 simp(disch:=omega)[b81]
 obtain⟨A,hA⟩:∃A,yA l a=A:=⟨_,rfl⟩
 rw[hA]
 refine qB (σ:=NN) (fun q=>(.nd (.sl (l.map qg) ow) (.nd .bot (.nd (.ptr H.next 0) .nil .nil) (.nd (.int q.i) .nil .nil)) .nil)) (fun q=>⟨(H.next,.cells [.str a.pred,ql a.args])::H.objs,q.n⟩) (fun q=>l.length - q.i)
  (fun q=>H.next+1<=q.n/\q.i<=l.length/\(l.drop q.i).any (fun x=>decide (zk x a=0))=A) ⟨0,H.next+1⟩ ⟨by dsimp only;omega,Nat.zero_le _,hA⟩ (by simp[FT.Le,Wk]) ⟨HWk.refl _,fun h=>h⟩ ?_
 rintro⟨i,n⟩ ⟨hn,hi,he⟩ hok
 simp only at hn hi he
 by_cases hlt:i<l.length
 case neg=>
  obtain rfl:i=l.length:=by omega
  rw[List.drop_eq_nil_of_le (Nat.le_refl _),List.any_nil]at he
  simp(disch:=omega)
  exact qp hH (by first|rfl|simp[<-he])
 rw[qlM _ hlt]at he
 simp(disch:=omega)[hlt]
 refine(qji l[i] a (hlo _ (yv hlt)) ha).go fun n1 hn1=>?_
 by_cases hq:zk l[i] a=0
 ·have hq2:decide (zk l[i] a=0)=true:=by simp[hq]
  rw[hq2,Bool.true_or]at he
  simp(disch:=omega)[hq2]
  exact qp hH (by first|rfl|simp[<-he])
 ·have hq2:decide (zk l[i] a=0)=false:=by simp[hq]
  rw[hq2,Bool.false_or]at he
  simp(disch:=omega)[hq2,qk (show i<2^62 by omega)]
  exact⟨⟨i+1,n1⟩,by dsimp only;omega,⟨by dsimp only;omega,by dsimp only;omega,he⟩,by simp[FT.Le,Wk],HWk.refl _,fun h=>h⟩
theorem qtB(K:qm)(ow:Own)(hKl:K.length<=2^20)(x:Lit)(hb:uL K [x.a,x.b]):qh 119 [.sl (K.map wg) ow,qda x] (.bool (qaO K x)):=by
 refine qh.of c119 fun H hH=>⟨Nat.le_of_ble_eq_true rfl,?_⟩
 have p1:=qje K ow hKl x.a (hb _ (by simp))
 have p2:=qje K ow hKl x.b (hb _ (by simp))
 simp(disch:=omega)[b119]
 refine p1.go fun n hn=>?_
 simp(disch:=omega)
 refine p2.go fun n2 hn2=>?_
 obtain⟨P,hP⟩:∃P,zi K x.a=P:=⟨_,rfl⟩
 obtain⟨Q,hQ⟩:∃Q,zi K x.b=Q:=⟨_,rfl⟩
 have hcl:qaO K x=if x.kind=3 then eqT P Q else if x.kind=4 then !eqT P Q else if x.kind=5 then qal P&&qal Q&&decide (P.n<Q.n) else qal P&&qal Q&&decide (P.n<=Q.n):=by rw[<-hP,<-hQ];rfl
 rw[hP,hQ,hcl]
 simp(disch:=omega)
 rcases Classical.em (P.kind=1) with p1|p1<;>rcases Classical.em (Q.kind=1) with q1|q1<;>rcases Classical.em (x.kind=3) with k3|k3<;>rcases Classical.em (x.kind=4) with k4|k4<;>rcases Classical.em (x.kind=5) with k5|k5<;>(try (exfalso;omega))
 all_goals (simp(disch:=omega)[p1,q1,k3,k4,k5])
 all_goals (exact qp hH (by simp[k3,k4,k5,qal,eqT,p1,q1]))
def qaF(l:List qd)(K:qm):List Lit->Bool
 |[]=>true
 |x::r=>if x.kind=1 then qaF l K r else if x.kind=2 then !yA l (qN K x.atom)&&qaF l K r else qaO K x&&qaF l K r
theorem qmM(c:qf)(hc:zq c)(K:qm)(hK:uq K)(ow:Own)(hKl:K.length<=2^20)(hp:∀p∈qJ c.body,uL K p.args)(l:List qd)(owl:Own)(hl:l.length<2^40)(hlo:∀x∈l,qd.ok x)(H:qa){kv kp:HP}
  (hk:∀n,H.next<=n->kv (.bool (qaF l K c.body)) ⟨H.objs,n⟩):
  cP E0 F0 77 [wA c,.sl (K.map wg) ow,.sl (l.map qg) owl] H kv kp:=by
 refine zX c77 fun hH=>⟨Nat.le_of_ble_eq_true rfl,?_⟩
 obtain⟨b1,b2,b3⟩:=hc.bound hp
 obtain⟨g1,g2⟩:=hc.leaf hK hp
 obtain⟨cp1,cp2,cp3⟩:=wl hc.ok
 obtain⟨N,hN⟩:∃N,H.next=N:=⟨_,rfl⟩
 obtain⟨ob,nx⟩:=H
 dsimp only at hN hk
 subst hN
 obtain⟨A,hA⟩:∃A,qaF l K c.body=A:=⟨_,rfl⟩
 rw[hA]at hk
 simp(disch:=omega)[b77]
 refine qB (σ:=NN) (fun q=>(.nd .bot (.nd (.sl (K.map wg) ow) (.nd (.ptr nx 0) (.nd (.int q.i) .nil .nil) .nil) .nil) (.nd (.sl (l.map qg) owl) .nil .nil))) (fun q=>⟨(nx,.cells [.str c.head.pred,ql c.head.args,zA c.body])::ob,q.n⟩) (fun q=>c.body.length - q.i)
  (fun q=>nx+1<=q.n/\q.i<=c.body.length/\qaF l K (c.body.drop q.i)=A) ⟨0,nx+1⟩ ⟨by dsimp only;omega,Nat.zero_le _,hA⟩ (by simp[FT.Le,Wk]) ⟨HWk.refl _,fun h=>h⟩ ?_
 rintro⟨i,n⟩ ⟨hn,hi,he⟩ hok
 simp only at hn hi he
 have hOb:qx ((nx,qc.cells [.str c.head.pred,ql c.head.args,zA c.body])::ob) n:=hok
 have fin0:∀(m:Nat),n<=m->∃H'',HWk ⟨(nx,qc.cells [.str c.head.pred,ql c.head.args,zA c.body])::ob,m⟩ H''/\(qa.Ok ⟨(nx,qc.cells [.str c.head.pred,ql c.head.args,zA c.body])::ob,m⟩->H''.Ok)/\kv (.bool A) H'':=fun m hm=>⟨⟨ob,m⟩,qbg hH (Nat.le_refl _),fun _=>qx.mono hH (by dsimp only;omega),hk m (by omega)⟩
 have fin1:∀(m:Nat)(x:qc),n<=m->∃H'',HWk ⟨(n,x)::(nx,qc.cells [.str c.head.pred,ql c.head.args,zA c.body])::ob,m⟩ H''/\(qa.Ok ⟨(n,x)::(nx,qc.cells [.str c.head.pred,ql c.head.args,zA c.body])::ob,m⟩->H''.Ok)/\kv (.bool A) H'':=fun m x hm=>⟨⟨ob,m⟩,⟨Nat.le_refl _,fun j y hy=>by
   have:=hH.look hy
   dsimp only at this
   rw[qe (by omega),qe (by omega)];exact hy⟩,fun _=>qx.mono hH (by dsimp only;omega),hk m (by omega)⟩
 by_cases hlt:i<c.body.length
 case neg=>
  obtain rfl:i=c.body.length:=by omega
  rw[List.drop_eq_nil_of_le (Nat.le_refl _)]at he
  have hA2:A=true:=he.symm
  subst hA2
  simp(disch:=omega)
  exact fin0 n (Nat.le_refl _)
 rw[List.drop_eq_getElem_cons hlt]at he
 simp only[qaF]at he
 have hmem:=yv hlt
 by_cases k1:c.body[i].kind=1
 ·rw[if_pos k1]at he
  simp(disch:=omega)[hlt,k1,qk (show i<2^62 by omega)]
  exact⟨⟨i+1,n+1⟩,by dsimp only;omega,⟨by dsimp only;omega,by dsimp only;omega,he⟩,by simp[FT.Le,Wk],qbg hOb (Nat.le_refl _),fun _=>hOb.mono (by first|omega|(dsimp only;omega))⟩
 rw[if_neg k1]at he
 by_cases k2:c.body[i].kind=2
 ·rw[if_pos k2]at he
  have hal:=qgg (cp3 _ hmem)
  simp(disch:=omega)[hlt,k1,k2]
  refine qjg K ow hKl c.body[i].atom (by omega) (b2 _ hmem k2) _ fun n1 hn1=>?_
  dsimp only at hn1
  simp(disch:=omega)
  refine(qfC l owl _ hl hlo (jo (g1 _ hmem k2).1)).go fun n2 hn2=>?_
  cases hh:yA l (qN K c.body[i].atom)
  ·rw[hh]at he
   simp(disch:=omega)[qk (show i<2^62 by omega)]
   exact⟨⟨i+1,n2⟩,by dsimp only;omega,⟨by dsimp only;omega,by dsimp only;omega,by simpa using he⟩,by simp[FT.Le,Wk],qbg hOb (Nat.le_refl _),fun _=>hOb.mono (by first|omega|(dsimp only;omega))⟩
  ·rw[hh]at he
   have hA2:A=false:=by simpa using he.symm
   subst hA2
   simp(disch:=omega)
   exact fin1 n2 _ (by omega)
 rw[if_neg k2]at he
 simp(disch:=omega)[hlt,k1,k2]
 refine(qtB K ow hKl c.body[i] (b3 _ hmem k1 k2)).go fun n2 hn2=>?_
 cases hh:qaO K c.body[i]
 ·rw[hh]at he
  have hA2:A=false:=by simpa using he.symm
  subst hA2
  simp(disch:=omega)
  exact fin1 n2 _ (by omega)
 ·rw[hh]at he
  simp(disch:=omega)[qk (show i<2^62 by omega)]
  exact⟨⟨i+1,n2⟩,by dsimp only;omega,⟨by dsimp only;omega,by dsimp only;omega,by simpa using he⟩,by simp[FT.Le,Wk],qbg hOb (Nat.le_refl _),fun _=>hOb.mono (by first|omega|(dsimp only;omega))⟩
end Go.Abs.Tz
