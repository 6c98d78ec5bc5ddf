/- Part of the proof that the law CustomModelsAsSpecified returns true for every input. Conditions: none. -/
import Derived.Test.YtdcmabmjiiklhaaGreatDoorPartW
import Derived.Test.YtdcmabmjiiklhaaGreatDoorPartV
namespace Go.Abs.Tz
open Go Go.Abs Go.Proofs
set_option maxRecDepth 20000
set_option linter.unusedSimpArgs false
attribute [local simp ↓] getP_nil getP_node setP_nil setP_node oneP_eq vP_map vP_some vP_none vP_bind eP_some bP_true bP_false gP_yes gP_tf gP_ft gP_tup runP_skip runP_ops runP_drw runP_seq runP_cond runP_blk runP_loop runP_exit runP_ret seqK_n seqK_r seqK_e seqK_p blkK_n blkK_r blkK_e blkK_p loopK_n loopK_r loopK_e loopK_p finK_n finK_r finK_p resP_one resP_two resP_three resP_nil resP_c nxP_nil argsP_nil argsP_cons evP_t evP_c evP_g evsP_nil evsP_cons clP_fn pnP_i opsP_nil opsP_d opsP_x opsP_gt opsP_gf opP_cf opP_cl opP_pn opP_nx valP_mv valP_pk valP_eq valP_bn valP_nt valP_ld valP_fa valP_fd valP_ia valP_ix valP_ln valP_srn valP_srl valP_srh valP_srb valP_cv valP_mi valP_mf valP_xt valP_bs valP_bd valP_nc valP_mn valP_lk valP_ta opP_mv opP_pk opP_eq opP_bn opP_nt opP_ld opP_fa opP_fd opP_ia opP_ix opP_ln opP_sr opP_cv opP_mi opP_mf opP_xt opP_bs opP_bd opP_nc opP_mn opP_lk opP_ta opP_al opP_bx opP_st opP_ap opP_mk opP_nb opP_mu opP_rg opP_en pendP_nil pendP_d pendP_g drwP_nil drwP_d drwP_x drwP_gt drwP_gf look_self natOf_nat
attribute [local simp] faL fdL iaL ixL loadL partL lenL eqK eqL natOf eqB_s eqB_i eqB_b bn_add bn_sub bn_lss bn_leq bn_gtr bn_geq bn_adds bn_lsss bn_gtrs bn_leqs bn_geqs sliceL LV.cells LV.whole look_self put_self putO_self put_eq stL fillL termC dopP LHeap.alloc oneI oneS oneB nth0 nth1 nth2 nth3 nth4 nth5 nth6 nth7 nth8 nth9 look_ne putO_ne
theorem cP_um{f:FuncId}{args:List LV}{H:LHeap}{o:Nat}{es:List (LV×LV)}{kv kp:HP}(hl:look o H.objs=some (.map es))(h:cP E0 F0 f args (H.put o (.um es)) kv kp):cP E0 F0 f args H kv kp:=by
 intro hH
 have hC:CallOk Tryz.prog E0 f args (H.put o (.um es)) (CSP kv kp):=sound hmixT fnsT (h (Desc.put hH))
 exact .prim ⟨hC.1,fun G w us hI hE ha=>hC.2 G w us (hI.toUm hl (.refl _)) hE ha⟩
structure NNIn where
 i:Nat
 n:Nat
 xs:List Atom
 own:Own
 ob:List (Nat×LObj)
def loop57:BCode:=match b57.body with
 |.seq _ (.seq _ (.seq l _))=>l
 |_=>.bad
def rest57:BCode:=match b57.body with
 |.seq _ (.seq _ (.seq _ r))=>r
 |_=>.bad
abbrev cell57(c:Clause)(fv:LV)(fo n:Nat)(xs:List Atom)(own:Own)(ob:List (Nat×LObj)):List (Nat×LObj):=(n+1+1+1,.cells [.sl (xs.map atomL) own])::(n+1+1,.cells [fv])::(n+1,.cells (clauseC c))::(n,.cells [.ptr fo 0])::ob
theorem posL_take{b:List Lit}{i:Nat}(h:i<b.length):posL (b.take (i+1))=posL (b.take i)++(if b[i].kind=1 then [b[i].atom] else []):=by
 unfold posL
 rw[List.take_add_one,List.getElem?_eq_getElem h,List.filter_append,List.map_append]
 congr 1
 by_cases hk:b[i].kind=1
 ·simp[hk]
 ·simp[hk]
theorem hwk_skip{a n m:Nat}{y:LObj}{r:List (Nat×LObj)}(hr:Desc r a)(h:n<=m):HWk ⟨(a,y)::r,m⟩ ⟨r,m⟩:=by
 refine⟨Nat.le_refl _,fun i z hz=>?_⟩
 have:=hr.look hz
 rw[look_ne (by omega)]
 exact hz
theorem t_posLoop(c:Clause)(hc:c.body.length<=2^20)(fv:LV)(fo n:Nat)(ob:List (Nat×LObj))(hOb:Desc ob n){KX:XP}
  (hk:∀ow ob1 m,RowT ⟨cell57 c fv fo n (posL c.body) ow ob,n+1+1+1+1⟩ 2 (posL c.body).length ow ob1 m->KX .normal ((.nd .bot (.nd .bot (.nd (.ptr n 0) (.nd .bot (.nd (.sc (.bool false)) .nil .nil) .nil) .nil) (.nd (.ptr (n+1+1) 0) .nil (.nd (.int c.body.length) .nil .nil))) (.nd .bot (.nd (.ptr (n+1) 0) .nil (.nd (bodyL c.body) .nil .nil)) (.nd (.ptr (n+1+1+1) 0) .nil (.nd (.int c.body.length) .nil .nil))))) ⟨ob1,m⟩):
  lP E0 F0 loop57 ((.nd .bot (.nd .bot (.nd (.ptr n 0) .nil .nil) (.nd (.ptr (n+1+1) 0) .nil .nil)) (.nd .bot (.nd (.ptr (n+1) 0) .nil .nil) (.nd (.ptr (n+1+1+1) 0) .nil .nil)))) ⟨cell57 c fv fo n [] .full ob,n+1+1+1+1⟩ KX:=by
 refine lP_of_run ?_
 simp(disch:=omega)[loop57,b57]
 refine lP_enter (σ:=NNIn) (fun q=>(.nd .bot (.nd .bot (.nd (.ptr n 0) .nil .nil) (.nd (.ptr (n+1+1) 0) .nil (.nd (.int c.body.length) .nil .nil))) (.nd .bot (.nd (.ptr (n+1) 0) .nil (.nd (bodyL c.body) .nil .nil)) (.nd (.ptr (n+1+1+1) 0) .nil (.nd (.int q.i) .nil .nil))))) (fun q=>⟨q.ob,q.n⟩) (fun q=>c.body.length - q.i)
  (fun q=>RowT ⟨cell57 c fv fo n q.xs q.own ob,n+1+1+1+1⟩ 2 q.xs.length q.own q.ob q.n/\q.i<=c.body.length/\q.xs=posL (c.body.take q.i))
  ⟨0,n+1+1+1+1,[],.full,cell57 c fv fo n [] .full ob⟩ ⟨.inl ⟨rfl,rfl,Nat.le_refl _⟩,Nat.zero_le _,rfl⟩ (by simp[FT.Le,Wk]) ⟨HWk.refl _,fun h=>h⟩ ?_
 rintro⟨i,m,xs,own,ob1⟩ ⟨hr,hi,hxs⟩ hok
 dsimp only at hr hi hok hxs
 by_cases hlt:i<c.body.length
 case neg=>
  obtain rfl:i=c.body.length:=by omega
  rw[List.take_length]at hxs
  subst hxs
  simp(disch:=omega)
  exact hk _ _ _ hr
 have hB:∀(ys:List Atom)(ow:Own),Desc (cell57 c fv fo n ys ow ob) (n+1+1+1+1):=fun ys ow=>⟨by omega,by omega,by omega,by omega,hOb⟩
 have hX:=atoms_all xs
 obtain⟨X,hXe⟩:∃X,xs.map atomL=X:=⟨_,rfl⟩
 have hXl:X.length=xs.length:=by rw[<-hXe,List.length_map]
 have htk:=posL_take hlt
 have hxl:xs.length<=i:=by
  rw[hxs]
  unfold posL
  rw[List.length_map]
  exact Nat.le_trans (List.length_filter_le _ _) (by rw[List.length_take];omega)
 by_cases hk1:c.body[i].kind=1
 case neg=>
  rw[if_neg hk1,List.append_nil]at htk
  rcases hr with⟨rfl,rfl,h3⟩|⟨t,rfl,g1,g2,rfl⟩
  ·dsimp only at h3
   simp(disch:=omega)[hlt,hk1,wrap_nat (show i<2^62 by omega)]
   exact⟨⟨i+1,m+1,xs,.full,cell57 c fv fo n xs .full ob⟩,by dsimp only;omega,⟨.inl ⟨rfl,rfl,by dsimp only;omega⟩,by dsimp only;omega,by dsimp only;rw[htk];exact hxs⟩,by simp[FT.Le,Wk],hwk_skip ((hB xs _).mono h3) (Nat.le_refl _),fun _=>(hB xs _).mono (by dsimp only;omega)⟩
  ·dsimp only at g1
   simp(disch:=omega)[hlt,hk1,wrap_nat (show i<2^62 by omega)]
   exact⟨⟨i+1,m+1,xs,.tok t,(t,.tok xs.length 2)::cell57 c fv fo n xs (.tok t) ob⟩,by dsimp only;omega,⟨.inr ⟨t,rfl,g1,by dsimp only;omega,rfl⟩,by dsimp only;omega,by dsimp only;rw[htk];exact hxs⟩,by simp[FT.Le,Wk],hwk_skip (show Desc _ m from hok) (Nat.le_refl _),fun _=>(show Desc _ m from hok).mono (by dsimp only;omega)⟩
 rw[if_pos hk1]at htk
 have hnew:(xs++[c.body[i].atom]).map atomL=X++[atomL c.body[i].atom]:=by rw[<-hXe];simp
 have hxl2:(xs++[c.body[i].atom]).length=xs.length+1:=by simp
 rw[hXe]at hX
 rcases hr with⟨rfl,rfl,h3⟩|⟨t,rfl,g1,g2,rfl⟩
 ·dsimp only at h3
  simp(disch:=omega)[hlt,hk1]
  refine effP_ap ?_
  simp(disch:=omega)[hXe]
  rw[apL_new hX rfl (by rw[hXl];omega) (by omega)]
  simp(disch:=omega)[hXl,wrap_nat (show i<2^62 by omega)]
  refine⟨⟨i+1,m+1+1,xs++[c.body[i].atom],.tok (m+1),(m+1,.tok (xs.length+1) 2)::cell57 c fv fo n (xs++[c.body[i].atom]) (.tok (m+1)) ob⟩,by dsimp only;omega,⟨.inr ⟨m+1,rfl,by dsimp only;omega,Nat.lt_succ_self _,by dsimp only;rw[hxl2]⟩,by dsimp only;omega,by dsimp only;rw[htk,hxs]⟩,by simp[FT.Le,Wk],?_⟩
  dsimp only
  unfold cell57
  rw[hnew]
  have hB2:=hB (xs++[c.body[i].atom]) (.tok (m+1))
  unfold cell57 at hB2
  rw[hnew]at hB2
  exact⟨hwk_mid (hB2.mono h3) fun _ _ h=>h,fun _=>⟨Nat.lt_succ_self _,hB2.mono (by omega)⟩⟩
 ·dsimp only at g1
  simp(disch:=omega)[hlt,hk1]
  refine effP_ap ?_
  simp(disch:=omega)[hXe]
  rw[apL_tok hX rfl (by rw[hXl];omega) (by omega) (by omega) (by rw[look_ne (by omega),hXl];simp[look])]
  simp(disch:=omega)[hXl,wrap_nat (show i<2^62 by omega)]
  refine⟨⟨i+1,m+1,xs++[c.body[i].atom],.tok t,(t,.tok (xs.length+1) 2)::cell57 c fv fo n (xs++[c.body[i].atom]) (.tok t) ob⟩,by dsimp only;omega,⟨.inr ⟨t,rfl,g1,by dsimp only;omega,by dsimp only;rw[hxl2]⟩,by dsimp only;omega,by dsimp only;rw[htk,hxs]⟩,by simp[FT.Le,Wk],?_⟩
  dsimp only
  unfold cell57
  rw[hnew]
  have hB2:=hB (xs++[c.body[i].atom]) (.tok t)
  unfold cell57 at hB2
  rw[hnew]at hB2
  have hOk3:Desc ((t,LObj.tok (xs.length+1) 2)::(n+1+1+1,LObj.cells [.sl (X++[atomL c.body[i].atom]) (.tok t)])::(n+1+1,.cells [fv])::(n+1,.cells (clauseC c))::(n,.cells [.ptr fo 0])::ob) m:=⟨g2,hB2.mono g1⟩
  exact⟨hwk_skip hOk3 (Nat.le_refl _),fun _=>hOk3.mono (by dsimp only;omega)⟩
theorem body57:b57.body=.seq (.ops [D 3 (.bx (T 0)),D 4 (.bx (T 1)),D 5 (.bx (T 2))]) (.seq (.ops [D 6 (.al [Nl])]) (.seq loop57 rest57)):=rfl
section
variable{σ:Type}{D:Doer σ}
theorem t_instances(c:Clause)(hc:CGood c)(F:List Stp)(fo am:Nat)(ownF:Own)(L:List (Nat×LObj))(hDL:∀p∈D.Stat,p∈L)(hpl:∀p∈L,plainO p.2=true)(hF:∀ob,StatOk L ob->FactsAt ob fo am F ownF)
  (hFg:∀s∈F,atomG s.atom) (hFl:F.length<=2^20) (ob:List (Nat×LObj)) (n:Nat) (G:σ) (S:Nat->Prop) (hlim:D.lim G) (hst:StatOk L ob) (hat:D.At ob G S) (hsep:∀p∈L,¬S p.1) (hni:NoIt ob) {kv kp:HP}
  (hk:∀ob' n' S',n<=n'->D.At ob' (foldI D.step c (insts F c (posL c.body) [] []) G) S'->(∀i,S' i->S i\/n<=i)->NoIt ob'->(∀i,i<n->¬S i->look i ob'=look i ob)->kv (.tup []) ⟨ob',n'⟩):
  cP E0 F0 57 [.ptr fo 0,clauseL c,.fn (.func D.fn) [] D.cap] ⟨ob,n⟩ kv kp:=by
 refine cP_of_lP c57 (Nat.le_of_ble_eq_true rfl) fun hH=>?_
 rw[body57]
 simp(disch:=omega)
 refine lP_seq (lP_of_run ?_)
 simp(disch:=omega)
 refine lP_seq (lP_of_run ?_)
 simp(disch:=omega)
 refine lP_seq ?_
 refine lP_weak (t':=(.nd .bot (.nd .bot (.nd (.ptr n 0) .nil .nil) (.nd (.ptr (n+1+1) 0) .nil .nil)) (.nd .bot (.nd (.ptr (n+1) 0) .nil .nil) (.nd (.ptr (n+1+1+1) 0) .nil .nil)))) (fun l h=>by unfold loop57 at h;simp[b57]at h) (by simp[FT.Le,Wk]) (HWk.refl _) (fun h=>h) ?_
 obtain⟨cp1,cp2,cp3⟩:=clause_parts hc.ok
 refine t_posLoop c (by omega) (.fn (.func D.fn) [] D.cap) fo n ob hH fun ow ob1 m hr=>?_
 obtain⟨hm,q3,q2,q1,q0,hold,hni1⟩:n+1+1+1+1<=m/\look (n+1+1+1) ob1=some (.cells [.sl ((posL c.body).map atomL) ow])/\look (n+1+1) ob1=some (.cells [.fn (.func D.fn) [] D.cap])/\look (n+1) ob1=some (.cells (clauseC c))/\look n ob1=some (.cells [.ptr fo 0])/\(∀i,i<n->look i ob1=look i ob)/\NoIt ob1:=by
  have base:∀xs ow,look (n+1+1+1) (cell57 c (.fn (.func D.fn) [] D.cap) fo n xs ow ob)=some (.cells [.sl (xs.map atomL) ow])/\look (n+1+1) (cell57 c (.fn (.func D.fn) [] D.cap) fo n xs ow ob)=some (.cells [.fn (.func D.fn) [] D.cap])/\look (n+1) (cell57 c (.fn (.func D.fn) [] D.cap) fo n xs ow ob)=some (.cells (clauseC c))/\look n (cell57 c (.fn (.func D.fn) [] D.cap) fo n xs ow ob)=some (.cells [.ptr fo 0])/\(∀i,i<n->look i (cell57 c (.fn (.func D.fn) [] D.cap) fo n xs ow ob)=look i ob)/\NoIt (cell57 c (.fn (.func D.fn) [] D.cap) fo n xs ow ob):=by
   intro xs ow
   refine⟨look_self _ _ _,by rw[look_ne (by omega)];exact look_self _ _ _,by rw[look_ne (by omega),look_ne (by omega)];exact look_self _ _ _,by rw[look_ne (by omega),look_ne (by omega),look_ne (by omega)];exact look_self _ _ _,fun i hi=>?_,(((hni.cons _ rfl).cons _ rfl).cons _ rfl).cons _ rfl⟩
   rw[look_ne (by omega),look_ne (by omega),look_ne (by omega),look_ne (by omega)]
  rcases hr with⟨rfl,rfl,h3⟩|⟨t,rfl,g1,g2,rfl⟩
  ·exact⟨h3,base _ _⟩
  ·dsimp only at g1
   obtain⟨a1,a2,a3,a4,a5,a6⟩:=base (posL c.body) (.tok t)
   exact⟨by omega,by rw[look_ne (by omega)];exact a1,by rw[look_ne (by omega)];exact a2,by rw[look_ne (by omega)];exact a3,by rw[look_ne (by omega)];exact a4,fun i hi=>by rw[look_ne (by omega)];exact a5 i hi,a6.cons _ rfl⟩
 refine lP_of_run ?_
 simp(disch:=omega)[rest57,b57]
 refine cP_um (o:=m+1+1) (es:=[]) (look_self _ _ _) ?_
 rw[put_self]
 obtain⟨cl,hcle⟩:∃cl:LV,LV.fn (.func 94) [] [.ptr m 0,.ptr (n+1+1+1) 0,.ptr n 0,.ptr (m+1) 0,.ptr (n+1) 0,.ptr (n+1+1) 0]=cl:=⟨_,rfl⟩
 obtain⟨obE,hobE⟩:∃obE,(m+1+1,LObj.um [])::(m+1,LObj.cells [cl])::(m,LObj.cells [Nl])::ob1=obE:=⟨_,rfl⟩
 rw[hcle,hobE]
 have hE:∀i,i<m->look i obE=look i ob1:=fun i hi=>by rw[<-hobE,look_ne (by omega),look_ne (by omega),look_ne (by omega)]
 have hlow:∀p∈L,p.1<n:=fun p hp=>hH.look (hst p hp)
 have hSlow:∀i,S i->i<n:=fun i hi=>by
  obtain⟨x,hx,_⟩:=D.at_look _ _ _ _ hat hi
  exact hH.look hx
 have hC:ChOk D ⟨c,F,fo,am,ownF,ow,m,n+1+1+1,n,m+1,n+1,n+1+1,(n+1+1+1,.cells [.sl ((posL c.body).map atomL) ow])::(n,.cells [.ptr fo 0])::(m+1,.cells [cl])::(n+1,.cells (clauseC c))::(n+1+1,.cells [.fn (.func D.fn) [] D.cap])::L⟩:=by
  refine⟨hc,fun p hp=>?_,?_,fun ob h=>hF ob fun p hp=>h p ?_,hFg,hFl,?_,?_,?_,?_,?_,?_⟩
  ·simp only[List.mem_cons]
   exact .inr (.inr (.inr (.inr (.inr (hDL p hp)))))
  ·simp only[List.forall_mem_cons]
   exact⟨rfl,rfl,rfl,rfl,rfl,hpl⟩
  ·simp only[List.mem_cons]
   exact .inr (.inr (.inr (.inr (.inr hp))))
  ·simp only[List.forall_mem_cons]
   exact⟨by omega,by omega,by omega,by omega,by omega,fun p hp=>by have:=hlow p hp;omega⟩
  all_goals first|exact List.mem_cons_self|(rw[<-hcle];simp)|simp
 refine t_choose hC (posL c.body) [] [] [] G rfl rfl .nil (fun p hp=>by cases hp) hlim obE (m+1+1+1) S Nl (m+1+1) ⟨?_,?_,?_,?_,fun h=>?_,.inl ⟨rfl,rfl⟩,?_⟩ (by rw[<-hobE];exact look_self _ _ _) fun ob2 n2 S2 fv2 hn2 h2 hS2 _ hkept=>?_
 ·simp only[StatOk,List.forall_mem_cons]
  refine⟨by rw[hE _ (by omega)];exact q3,by rw[hE _ (by omega)];exact q0,by rw[<-hobE,look_ne (by omega)];exact look_self _ _ _,by rw[hE _ (by omega)];exact q1,by rw[hE _ (by omega)];exact q2,fun p hp=>?_⟩
  have:=hlow p hp
  rw[hE _ (by omega),hold _ this]
  exact hst p hp
 ·exact D.at_keep _ _ _ _ hat fun i hi=>by
   have:=hSlow i hi
   rw[hE _ (by omega),hold _ this]
 ·simp only[List.forall_mem_cons]
  exact⟨fun h=>by have:=hSlow _ h;omega,fun h=>by have:=hSlow _ h;omega,fun h=>by have:=hSlow _ h;omega,fun h=>by have:=hSlow _ h;omega,fun h=>by have:=hSlow _ h;omega,hsep⟩
 ·rw[<-hobE]
  show look m _=_
  rw[look_ne (by omega),look_ne (by omega)]
  exact look_self _ _ _
 ·have:=hSlow _ h
  dsimp only at this
  omega
 ·rw[<-hobE]
  exact((hni1.cons _ rfl).cons _ rfl).cons _ rfl
 ·simp(disch:=omega)[resP_nil]
  refine⟨_,HWk.refl _,fun h=>h,hk ob2 n2 S2 (by omega) h2.at_ (fun i hi=>(hS2 i hi).imp id fun h=>by omega) h2.ni fun i hi hiS=>?_⟩
  rw[hkept i (by omega) hiS (by dsimp only;omega) (fun a o l he=>by cases he),hE _ (by omega),hold _ hi]
end
theorem t_rSame(a b:Atom)(ha:a.ok)(hb:b.ok):PureT 39 [atomL a,atomL b] (.bool (decide (cmpA a b=0))):=by
 refine PureT.of c39 fun H hH=>⟨Nat.le_of_ble_eq_true rfl,?_⟩
 simp(disch:=omega)[b39]
 refine(t_rCompare a b ha hb).go fun n hn=>?_
 simp(disch:=omega)
 exact doneK hH (by first|rfl|simp[])
def hasA(l:List Atom)(a:Atom):Bool:=l.any fun x=>decide (cmpA x a=0)
theorem t_rhas(l:List Atom)(ow:Own)(a:Atom)(hl:l.length<2^40)(hlo:∀x∈l,Atom.ok x)(ha:a.ok):PureT 36 [.sl (l.map atomL) ow,atomL a] (.bool (hasA l a)):=by
 refine PureT.of c36 fun H hH=>⟨Nat.le_of_ble_eq_true rfl,?_⟩
 simp(disch:=omega)[b36]
 obtain⟨A,hA⟩:∃A,hasA l a=A:=⟨_,rfl⟩
 rw[hA]
 refine lP_enter (σ:=NN) (fun q=>(.nd (.sl (l.map atomL) ow) (.nd .bot (.nd (.ptr H.next 0) .nil .nil) (.nd (.int q.i) .nil .nil)) .nil)) (fun q=>⟨(H.next,.cells [.str a.pred,argsL a.args])::H.objs,q.n⟩) (fun q=>l.length - q.i)
  (fun q=>H.next+1<=q.n/\q.i<=l.length/\(l.drop q.i).any (fun x=>decide (cmpA x a=0))=A) ⟨0,H.next+1⟩ ⟨by dsimp only;omega,Nat.zero_le _,hA⟩ (by simp[FT.Le,Wk]) ⟨HWk.refl _,fun h=>h⟩ ?_
 rintro⟨i,n⟩ ⟨hn,hi,he⟩ hok
 simp only at hn hi he
 by_cases hlt:i<l.length
 case neg=>
  obtain rfl:i=l.length:=by omega
  rw[List.drop_eq_nil_of_le (Nat.le_refl _),List.any_nil]at he
  simp(disch:=omega)
  exact doneK hH (by first|rfl|simp[<-he])
 rw[any_drop _ hlt]at he
 simp(disch:=omega)[hlt]
 refine(t_rSame l[i] a (hlo _ (mem_at hlt)) ha).go fun n1 hn1=>?_
 by_cases hq:cmpA l[i] a=0
 ·have hq2:decide (cmpA l[i] a=0)=true:=by simp[hq]
  rw[hq2,Bool.true_or]at he
  simp(disch:=omega)[hq2]
  exact doneK hH (by first|rfl|simp[<-he])
 ·have hq2:decide (cmpA l[i] a=0)=false:=by simp[hq]
  rw[hq2,Bool.false_or]at he
  simp(disch:=omega)[hq2,wrap_nat (show i<2^62 by omega)]
  exact⟨⟨i+1,n1⟩,by dsimp only;omega,⟨by dsimp only;omega,by dsimp only;omega,he⟩,by simp[FT.Le,Wk],HWk.refl _,fun h=>h⟩
theorem t_rcompares(K:Bind)(ow:Own)(hKl:K.length<=2^20)(x:Lit)(hb:BoundIn K [x.a,x.b]):PureT 105 [.sl (K.map givenL) ow,litL x] (.bool (cmpLit K x)):=by
 refine PureT.of c105 fun H hH=>⟨Nat.le_of_ble_eq_true rfl,?_⟩
 have p1:=t_rplace K ow hKl x.a (hb _ (by simp))
 have p2:=t_rplace K ow hKl x.b (hb _ (by simp))
 simp(disch:=omega)[b105]
 refine p1.go fun n hn=>?_
 simp(disch:=omega)
 refine p2.go fun n2 hn2=>?_
 obtain⟨P,hP⟩:∃P,fillT K x.a=P:=⟨_,rfl⟩
 obtain⟨Q,hQ⟩:∃Q,fillT K x.b=Q:=⟨_,rfl⟩
 have hcl:cmpLit K x=if x.kind=3 then eqT P Q else if x.kind=4 then !eqT P Q else if x.kind=5 then numT P&&numT Q&&decide (P.n<Q.n) else numT P&&numT Q&&decide (P.n<=Q.n):=by rw[<-hP,<-hQ];rfl
 rw[hP,hQ,hcl]
 simp(disch:=omega)
 rcases Classical.em (P.kind=1) with p1|p1<;>rcases Classical.em (Q.kind=1) with q1|q1<;>rcases Classical.em (x.kind=3) with k3|k3<;>rcases Classical.em (x.kind=4) with k4|k4<;>rcases Classical.em (x.kind=5) with k5|k5<;>(try (exfalso;omega))
 all_goals (simp(disch:=omega)[p1,q1,k3,k4,k5])
 all_goals (exact doneK hH (by simp[k3,k4,k5,numT,eqT,p1,q1]))
def restR(l:List Atom)(K:Bind):List Lit->Bool
 |[]=>true
 |x::r=>if x.kind=1 then restR l K r else if x.kind=2 then !hasA l (fillA K x.atom)&&restR l K r else cmpLit K x&&restR l K r
theorem t_rrest(c:Clause)(hc:CGood c)(K:Bind)(hK:GoodB K)(ow:Own)(hKl:K.length<=2^20)(hp:∀p∈posL c.body,BoundIn K p.args)(l:List Atom)(owl:Own)(hl:l.length<2^40)(hlo:∀x∈l,Atom.ok x)(H:LHeap){kv kp:HP}
  (hk:∀n,H.next<=n->kv (.bool (restR l K c.body)) ⟨H.objs,n⟩):
  cP E0 F0 65 [clauseL c,.sl (K.map givenL) ow,.sl (l.map atomL) owl] H kv kp:=by
 refine cP_of_fn c65 fun hH=>⟨Nat.le_of_ble_eq_true rfl,?_⟩
 obtain⟨b1,b2,b3⟩:=hc.bound hp
 obtain⟨g1,g2⟩:=hc.leaf hK hp
 obtain⟨cp1,cp2,cp3⟩:=clause_parts hc.ok
 obtain⟨N,hN⟩:∃N,H.next=N:=⟨_,rfl⟩
 obtain⟨ob,nx⟩:=H
 dsimp only at hN hk
 subst hN
 obtain⟨A,hA⟩:∃A,restR l K c.body=A:=⟨_,rfl⟩
 rw[hA]at hk
 simp(disch:=omega)[b65]
 refine lP_enter (σ:=NN) (fun q=>(.nd .bot (.nd (.sl (K.map givenL) ow) (.nd (.ptr nx 0) (.nd (.int q.i) .nil .nil) .nil) .nil) (.nd (.sl (l.map atomL) owl) .nil .nil))) (fun q=>⟨(nx,.cells [.str c.head.pred,argsL c.head.args,bodyL c.body])::ob,q.n⟩) (fun q=>c.body.length - q.i)
  (fun q=>nx+1<=q.n/\q.i<=c.body.length/\restR l K (c.body.drop q.i)=A) ⟨0,nx+1⟩ ⟨by dsimp only;omega,Nat.zero_le _,hA⟩ (by simp[FT.Le,Wk]) ⟨HWk.refl _,fun h=>h⟩ ?_
 rintro⟨i,n⟩ ⟨hn,hi,he⟩ hok
 simp only at hn hi he
 have hOb:Desc ((nx,LObj.cells [.str c.head.pred,argsL c.head.args,bodyL c.body])::ob) n:=hok
 have fin0:∀(m:Nat),n<=m->∃H'',HWk ⟨(nx,LObj.cells [.str c.head.pred,argsL c.head.args,bodyL c.body])::ob,m⟩ H''/\(LHeap.Ok ⟨(nx,LObj.cells [.str c.head.pred,argsL c.head.args,bodyL c.body])::ob,m⟩->H''.Ok)/\kv (.bool A) H'':=fun m hm=>⟨⟨ob,m⟩,hwk_skip hH (Nat.le_refl _),fun _=>Desc.mono hH (by dsimp only;omega),hk m (by omega)⟩
 have fin1:∀(m:Nat)(x:LObj),n<=m->∃H'',HWk ⟨(n,x)::(nx,LObj.cells [.str c.head.pred,argsL c.head.args,bodyL c.body])::ob,m⟩ H''/\(LHeap.Ok ⟨(n,x)::(nx,LObj.cells [.str c.head.pred,argsL c.head.args,bodyL c.body])::ob,m⟩->H''.Ok)/\kv (.bool A) H'':=fun m x hm=>⟨⟨ob,m⟩,⟨Nat.le_refl _,fun j y hy=>by
   have:=hH.look hy
   dsimp only at this
   rw[look_ne (by omega),look_ne (by omega)];exact hy⟩,fun _=>Desc.mono hH (by dsimp only;omega),hk m (by omega)⟩
 by_cases hlt:i<c.body.length
 case neg=>
  obtain rfl:i=c.body.length:=by omega
  rw[List.drop_eq_nil_of_le (Nat.le_refl _)]at he
  have hA2:A=true:=he.symm
  subst hA2
  simp(disch:=omega)
  exact fin0 n (Nat.le_refl _)
 rw[List.drop_eq_getElem_cons hlt]at he
 simp only[restR]at he
 have hmem:=mem_at hlt
 by_cases k1:c.body[i].kind=1
 ·rw[if_pos k1]at he
  simp(disch:=omega)[hlt,k1,wrap_nat (show i<2^62 by omega)]
  exact⟨⟨i+1,n+1⟩,by dsimp only;omega,⟨by dsimp only;omega,by dsimp only;omega,he⟩,by simp[FT.Le,Wk],hwk_skip hOb (Nat.le_refl _),fun _=>hOb.mono (by first|omega|(dsimp only;omega))⟩
 rw[if_neg k1]at he
 by_cases k2:c.body[i].kind=2
 ·rw[if_pos k2]at he
  have hal:=lit_args (cp3 _ hmem)
  simp(disch:=omega)[hlt,k1,k2]
  refine t_rinst K ow hKl c.body[i].atom (by omega) (b2 _ hmem k2) _ fun n1 hn1=>?_
  dsimp only at hn1
  simp(disch:=omega)
  refine(t_rhas l owl _ hl hlo (atomOk_ok (g1 _ hmem k2).1)).go fun n2 hn2=>?_
  cases hh:hasA l (fillA K c.body[i].atom)
  ·rw[hh]at he
   simp(disch:=omega)[wrap_nat (show i<2^62 by omega)]
   exact⟨⟨i+1,n2⟩,by dsimp only;omega,⟨by dsimp only;omega,by dsimp only;omega,by simpa using he⟩,by simp[FT.Le,Wk],hwk_skip hOb (Nat.le_refl _),fun _=>hOb.mono (by first|omega|(dsimp only;omega))⟩
  ·rw[hh]at he
   have hA2:A=false:=by simpa using he.symm
   subst hA2
   simp(disch:=omega)
   exact fin1 n2 _ (by omega)
 rw[if_neg k2]at he
 simp(disch:=omega)[hlt,k1,k2]
 refine(t_rcompares K ow hKl c.body[i] (b3 _ hmem k1 k2)).go fun n2 hn2=>?_
 cases hh:cmpLit K c.body[i]
 ·rw[hh]at he
  have hA2:A=false:=by simpa using he.symm
  subst hA2
  simp(disch:=omega)
  exact fin1 n2 _ (by omega)
 ·rw[hh]at he
  simp(disch:=omega)[wrap_nat (show i<2^62 by omega)]
  exact⟨⟨i+1,n2⟩,by dsimp only;omega,⟨by dsimp only;omega,by dsimp only;omega,by simpa using he⟩,by simp[FT.Le,Wk],hwk_skip hOb (Nat.le_refl _),fun _=>hOb.mono (by first|omega|(dsimp only;omega))⟩
end Go.Abs.Tz
