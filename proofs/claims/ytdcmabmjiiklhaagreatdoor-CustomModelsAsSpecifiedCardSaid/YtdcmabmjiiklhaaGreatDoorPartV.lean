/- Part of the proof that the law CustomModelsAsSpecified returns true for every input. Conditions: none. -/
import Derived.Test.YtdcmabmjiiklhaaGreatDoorPartG
import Derived.Test.YtdcmabmjiiklhaaGreatDoorPartD
import Derived.Test.YtdcmabmjiiklhaaGreatDoorPartI
import Derived.Lib.ItoaNum
namespace Go.Abs.Tz
open Go Go.Abs Go.Proofs
set_option maxRecDepth 20000
set_option linter.unusedSimpArgs false
attribute [local simp ↓] getP_nil getP_node setP_nil setP_node oneP_eq vP_map vP_some vP_none vP_bind eP_some bP_true bP_false gP_yes gP_tf gP_ft gP_tup runP_skip runP_ops runP_drw runP_seq runP_cond runP_blk runP_loop runP_exit runP_ret seqK_n seqK_r seqK_e seqK_p blkK_n blkK_r blkK_e blkK_p loopK_n loopK_r loopK_e loopK_p finK_n finK_r finK_p resP_one resP_two resP_three resP_nil resP_c nxP_nil argsP_nil argsP_cons evP_t evP_c evP_g evsP_nil evsP_cons clP_fn pnP_i opsP_nil opsP_d opsP_x opsP_gt opsP_gf opP_cf opP_cl opP_pn opP_nx valP_mv valP_pk valP_eq valP_bn valP_nt valP_ld valP_fa valP_fd valP_ia valP_ix valP_ln valP_srn valP_srl valP_srh valP_srb valP_cv valP_mi valP_mf valP_xt valP_bs valP_bd valP_nc valP_mn valP_lk valP_ta opP_mv opP_pk opP_eq opP_bn opP_nt opP_ld opP_fa opP_fd opP_ia opP_ix opP_ln opP_sr opP_cv opP_mi opP_mf opP_xt opP_bs opP_bd opP_nc opP_mn opP_lk opP_ta opP_al opP_bx opP_st opP_ap opP_mk opP_nb opP_mu opP_rg opP_en pendP_nil pendP_d pendP_g drwP_nil drwP_d drwP_x drwP_gt drwP_gf look_self natOf_nat
attribute [local simp] faL fdL iaL ixL loadL partL lenL eqK eqL natOf eqB_s eqB_i eqB_b bn_add bn_sub bn_lss bn_leq bn_gtr bn_geq bn_adds bn_lsss bn_gtrs bn_leqs bn_geqs sliceL LV.cells LV.whole look_self put_self putO_self put_eq stL fillL termC dopP LHeap.alloc oneI oneS oneB nth0 nth1 nth2 nth3 nth4 nth5 nth6 nth7 nth8 nth9 look_ne putO_ne
def zeroT(t:Term):Bool:=decide (t.kind=0)&&(decide (t.n=0)&&eqBA t.s ⟨⟨[]⟩⟩)
def litOk(l:Lit):Bool:=
 if l.kind=1\/l.kind=2 then atomOk l.atom&&(zeroT l.a&&zeroT l.b)
 else if l.kind=3\/l.kind=4\/l.kind=5\/l.kind=6 then termOk l.a&&(termOk l.b&&(eqBA l.atom.pred ⟨⟨[]⟩⟩&&decide (l.atom.args.length=0)))
 else false
def Lit.ok2(l:Lit):Prop:=l.atom.ok/\l.a.ok/\l.b.ok
theorem t_formedLiteral(l:Lit)(hl:l.ok2):PureT 84 [litL l] (.bool (litOk l)):=by
 refine PureT.of c84 fun H hH=>⟨Nat.le_of_ble_eq_true rfl,?_⟩
 by_cases h12:l.kind=1\/l.kind=2
 ·have e1:(decide (l.a.kind=0)&&(decide (l.a.n=0)&&eqBA l.a.s ⟨⟨[]⟩⟩))=zeroT l.a:=rfl
  have e2:(decide (l.b.kind=0)&&(decide (l.b.n=0)&&eqBA l.b.s ⟨⟨[]⟩⟩))=zeroT l.b:=rfl
  rcases h12 with h1|h1
  all_goals
   simp[b84,h1]
   refine(t_formedAtom l.atom hl.1).go fun n hn=>?_
   cases ha:atomOk l.atom
   ·simp
    exact doneK hH (by simp[litOk,h1,ha])
   simp[e1]
   cases hz:zeroT l.a
   ·simp
    exact doneK hH (by simp[litOk,h1,ha,hz])
   simp[e2]
   exact doneK hH (by simp[litOk,h1,ha,hz])
 have h1:¬l.kind=1:=fun e=>h12 (.inl e)
 have h2:¬l.kind=2:=fun e=>h12 (.inr e)
 by_cases hk:l.kind=3\/l.kind=4\/l.kind=5\/l.kind=6
 ·rcases hk with h3|h3|h3|h3
  all_goals
   simp[b84,h3]
   refine(t_formedTerm l.a hl.2.1).go fun n hn=>?_
   cases ha:termOk l.a
   ·simp
    exact doneK hH (by simp[litOk,h3,ha])
   simp
   refine(t_formedTerm l.b hl.2.2).go fun n1 hn1=>?_
   cases hb:termOk l.b
   ·simp
    exact doneK hH (by simp[litOk,h3,ha,hb])
   simp
   cases hp:eqBA l.atom.pred ⟨⟨[]⟩⟩
   ·simp
    exact doneK hH (by simp[litOk,h3,ha,hb,hp])
   simp
   exact doneK hH (by simp[litOk,h3,ha,hb,hp])
 ·have h3:¬l.kind=3:=fun e=>hk (.inl e)
  have h4:¬l.kind=4:=fun e=>hk (.inr (.inl e))
  have h5:¬l.kind=5:=fun e=>hk (.inr (.inr (.inl e)))
  have h6:¬l.kind=6:=fun e=>hk (.inr (.inr (.inr e)))
  simp[b84,h1,h2,h3,h4,h5,h6]
  exact doneK hH (by simp[litOk,h1,h2,h3,h4,h5,h6])
def Clause.ok2(c:Clause):Prop:=c.head.ok/\c.body.length<2^40/\∀l∈c.body,Lit.ok2 l
def clauseOk(c:Clause):Bool:=atomOk c.head&&(decide (c.body.length<=5)&&c.body.all litOk)
theorem t_formed(c:Clause)(hc:c.ok2):PureT 43 [clauseL c] (.bool (clauseOk c)):=by
 refine PureT.of c43 fun H hH=>⟨Nat.le_of_ble_eq_true rfl,?_⟩
 simp[b43]
 refine(t_formedAtom c.head hc.1).go fun n hn=>?_
 cases h1:atomOk c.head
 ·simp
  exact doneK hH (by simp[clauseOk,h1])
 by_cases h2:(5:Int)<(c.body.length:Int)
 ·simp[h2]
  exact doneK hH (by simp[clauseOk,h1,show ¬c.body.length<=5 by omega])
 have h3:c.body.length<=5:=by omega
 simp[h2]
 obtain⟨A,hA⟩:∃A,c.body.all litOk=A:=⟨_,rfl⟩
 refine lP_enter (σ:=NN) (fun q=>(.nd (clauseL c) (.nd .bot .nil (.nd .bot (.nd .bot (.nd (.int c.body.length) .nil .nil) .nil) .nil)) (.nd (.bool false) (.nd .bot (.nd .bot (.nd (bodyL c.body) .nil .nil) .nil) .nil) (.nd .bot (.nd .bot (.nd (.int q.i) .nil .nil) .nil) .nil)))) (fun q=>⟨H.objs,q.n⟩) (fun q=>c.body.length - q.i)
  (fun q=>H.next<=q.n/\q.i<=c.body.length/\(c.body.drop q.i).all litOk=A) ⟨0,n⟩ ⟨by dsimp only;omega,Nat.zero_le _,hA⟩ (by simp[FT.Le,Wk]) (backK hH) ?_
 rintro⟨i,n⟩ ⟨hn,hi,he⟩ hok
 simp only at hn hi he
 by_cases hlt:i<c.body.length
 ·rw[all_drop litOk hlt]at he
  simp[hlt]
  refine(t_formedLiteral c.body[i] (hc.2.2 _ (mem_at hlt))).go fun n1 h1'=>?_
  cases ht:litOk c.body[i]
  ·rw[ht,Bool.false_and]at he
   simp
   exact doneK hH (by simp[clauseOk,h1,hA,<-he])
  ·rw[ht,Bool.true_and]at he
   simp[wrap_nat (show i<2^62 by omega)]
   exact⟨⟨i+1,n1⟩,by dsimp only;omega,⟨by dsimp only;omega,by dsimp only;omega,he⟩,by simp[FT.Le,Wk],backK hH⟩
 ·obtain rfl:i=c.body.length:=by omega
  rw[List.drop_eq_nil_of_le (Nat.le_refl _),List.all_nil]at he
  simp
  exact doneK hH (by simp[clauseOk,h1,h3,hA,<-he])
def checkF:List Clause->Nat->Int×Int
 |[],_=>(0,0)
 |c::r,i=>if clauseOk c=false then (7,(i:Int)) else if safeB c=false then (80,(i:Int)) else checkF r (i+1)
def checkB(l:List Clause):Int×Int:=if 40<l.length then (2,0) else checkF l 0
abbrev clausesL(l:List Clause):LV:=.sl (l.map clauseL) .no
def Clause.ok3(c:Clause):Prop:=c.ok2/\c.ok
theorem t_Check(l:List Clause)(hc:l.length<=40->∀c∈l,Clause.ok3 c):PureT 23 [clausesL l] (.tup [.int (checkB l).1,.int (checkB l).2]):=by
 refine PureT.of c23 fun H hH=>⟨Nat.le_of_ble_eq_true rfl,?_⟩
 by_cases h1:(40:Int)<(l.length:Int)
 ·simp[b23,h1]
  exact doneK hH (by simp[checkB,show 40<l.length by omega])
 have hc:=hc (by omega)
 simp[b23,h1]
 obtain⟨R,hR⟩:∃R,checkF l 0=R:=⟨_,rfl⟩
 have hB:checkB l=R:=by rw[<-hR];unfold checkB;rw[if_neg (by omega)]
 rw[hB]
 refine lP_enter (σ:=NN) (fun q=>(.nd .bot (.nd .bot (.nd (.int 0) .nil (.nd (.int q.i) .nil .nil)) (.nd .bot (.nd (clausesL l) .nil .nil) .nil)) (.nd (.int 0) .nil (.nd .bot (.nd (.int l.length) .nil .nil) .nil)))) (fun q=>⟨H.objs,q.n⟩) (fun q=>l.length - q.i)
  (fun q=>H.next<=q.n/\q.i<=l.length/\checkF (l.drop q.i) q.i=R) ⟨0,H.next⟩ ⟨Nat.le_refl _,Nat.zero_le _,hR⟩ (by simp[FT.Le,Wk]) ⟨HWk.refl _,fun h=>h⟩ ?_
 rintro⟨i,n⟩ ⟨hn,hi,he⟩ hok
 simp only at hn hi he
 by_cases hlt:i<l.length
 ·rw[List.drop_eq_getElem_cons hlt]at he
  simp[hlt]
  refine(t_formed l[i] (hc _ (mem_at hlt)).1).go fun n1 h1'=>?_
  cases hf:clauseOk l[i]
  ·simp only[checkF,hf,if_true]at he
   simp
   exact doneK hH (by simp[<-he])
  simp
  refine(t_safe l[i] (hc _ (mem_at hlt)).2).go fun n2 h2'=>?_
  cases hs:safeB l[i]
  ·simp[checkF,hf,hs]at he
   simp
   exact doneK hH (by simp[<-he])
  simp[checkF,hf,hs]at he
  simp[wrap_nat (show i<2^62 by omega)]
  exact⟨⟨i+1,n2⟩,by dsimp only;omega,⟨by dsimp only;omega,by dsimp only;omega,he⟩,by simp[FT.Le,Wk],backK hH⟩
 ·obtain rfl:i=l.length:=by omega
  rw[List.drop_eq_nil_of_le (Nat.le_refl _)]at he
  simp only[checkF]at he
  simp
  exact doneK hH (by simp[<-he])
theorem t_rwithin(a b c:Int):PureT 163 [.int a,.int b,.int c] (.bool (decide (b<=a)&&decide (a<=c))):=by
 refine PureT.of c163 fun H hH=>⟨Nat.le_of_ble_eq_true rfl,?_⟩
 by_cases h1:b<=a
 ·simp(disch:=omega)[b163,h1]
  exact doneK hH (by simp[h1])
 ·simp(disch:=omega)[b163,h1]
  exact doneK hH (by simp[h1])
theorem t_rformedLiteral(l:Lit)(hl:l.ok2):PureT 146 [litL l] (.bool (litOk l)):=by
 refine PureT.of c146 fun H hH=>⟨Nat.le_of_ble_eq_true rfl,?_⟩
 by_cases h12:l.kind=1\/l.kind=2
 ·have e1:(decide (l.a.kind=0)&&(decide (l.a.n=0)&&eqBA l.a.s ⟨⟨[]⟩⟩))=zeroT l.a:=rfl
  have e2:(decide (l.b.kind=0)&&(decide (l.b.n=0)&&eqBA l.b.s ⟨⟨[]⟩⟩))=zeroT l.b:=rfl
  rcases h12 with h1|h1
  all_goals
   simp(disch:=omega)[b146,h1]
   refine(t_rformedAtom l.atom hl.1).go fun n hn=>?_
   cases ha:atomOk l.atom
   ·simp(disch:=omega)
    exact doneK hH (by simp[litOk,h1,ha])
   simp(disch:=omega)[e1]
   cases hz:zeroT l.a
   ·simp(disch:=omega)
    exact doneK hH (by simp[litOk,h1,ha,hz])
   simp(disch:=omega)[e2]
   exact doneK hH (by simp[litOk,h1,ha,hz])
 have h1:¬l.kind=1:=fun e=>h12 (.inl e)
 have h2:¬l.kind=2:=fun e=>h12 (.inr e)
 simp(disch:=omega)[b146,h1,h2]
 refine(t_rwithin _ _ _).go fun n hn=>?_
 simp(disch:=omega)
 refine(t_rformedTerm l.a hl.2.1).go fun n1 hn1=>?_
 simp(disch:=omega)
 refine(t_rformedTerm l.b hl.2.2).go fun n2 hn2=>?_
 obtain⟨K,hK⟩:∃K,(decide (3<=l.kind)&&decide (l.kind<=6))=K:=⟨_,rfl⟩
 rw[hK]
 have hl0:litOk l=(K&&(termOk l.a&&(termOk l.b&&(eqBA l.atom.pred ⟨⟨[]⟩⟩&&decide (l.atom.args.length=0))))):=by
  unfold litOk
  rw[if_neg h12]
  by_cases hk:l.kind=3\/l.kind=4\/l.kind=5\/l.kind=6
  ·rw[if_pos hk,<-hK]
   have h3:3<=l.kind:=by omega
   have h6:l.kind<=6:=by omega
   simp[h3,h6]
  ·rw[if_neg hk]
   have:K=false:=by
    rw[<-hK,Bool.and_eq_false_iff,decide_eq_false_iff_not,decide_eq_false_iff_not]
    omega
   rw[this];rfl
 rw[hl0]
 cases K
 ·simp(disch:=omega)
  exact doneK hH (by simp[])
 cases ha:termOk l.a
 ·simp(disch:=omega)
  exact doneK hH (by simp[])
 cases hb:termOk l.b
 ·simp(disch:=omega)
  exact doneK hH (by simp[])
 cases hp:eqBA l.atom.pred ⟨⟨[]⟩⟩
 ·simp(disch:=omega)[hp]
  exact doneK hH (by first|rfl|simp[])
 simp(disch:=omega)[hp]
 exact doneK hH (by first|rfl|simp[])
theorem t_rformed(c:Clause)(hc:c.ok2):PureT 100 [clauseL c] (.bool (clauseOk c)):=by
 refine PureT.of c100 fun H hH=>⟨Nat.le_of_ble_eq_true rfl,?_⟩
 simp(disch:=omega)[b100]
 refine(t_rformedAtom c.head hc.1).go fun n hn=>?_
 cases h1:atomOk c.head
 ·simp(disch:=omega)
  exact doneK hH (by simp[clauseOk,h1])
 by_cases h2:(5:Int)<(c.body.length:Int)
 ·simp(disch:=omega)[h2]
  exact doneK hH (by simp[clauseOk,h1,show ¬c.body.length<=5 by omega])
 have h3:c.body.length<=5:=by omega
 simp(disch:=omega)[h2]
 obtain⟨A,hA⟩:∃A,c.body.all litOk=A:=⟨_,rfl⟩
 refine lP_enter (σ:=NN) (fun q=>(.nd .bot (.nd (.ptr H.next 0) .nil .nil) (.nd (.bool false) (.nd (.int q.i) .nil .nil) .nil))) (fun q=>⟨(H.next,.cells [.str c.head.pred,argsL c.head.args,bodyL c.body])::H.objs,q.n⟩) (fun q=>c.body.length - q.i)
  (fun q=>H.next+1<=q.n/\q.i<=c.body.length/\(c.body.drop q.i).all litOk=A) ⟨0,n⟩ ⟨by dsimp only;omega,Nat.zero_le _,hA⟩ (by simp[FT.Le,Wk]) ⟨HWk.refl _,fun h=>h⟩ ?_
 rintro⟨i,n⟩ ⟨hn,hi,he⟩ hok
 simp only at hn hi he
 by_cases hlt:i<c.body.length
 ·rw[all_drop litOk hlt]at he
  simp(disch:=omega)[hlt]
  refine(t_rformedLiteral c.body[i] (hc.2.2 _ (mem_at hlt))).go fun n1 h1'=>?_
  cases ht:litOk c.body[i]
  ·rw[ht,Bool.false_and]at he
   simp(disch:=omega)
   exact doneK hH (by simp[clauseOk,h1,hA,<-he])
  ·rw[ht,Bool.true_and]at he
   simp(disch:=omega)[wrap_nat (show i<2^62 by omega)]
   exact⟨⟨i+1,n1⟩,by dsimp only;omega,⟨by dsimp only;omega,by dsimp only;omega,he⟩,by simp[FT.Le,Wk],HWk.refl _,fun h=>h⟩
 ·obtain rfl:i=c.body.length:=by omega
  rw[List.drop_eq_nil_of_le (Nat.le_refl _),List.all_nil]at he
  simp(disch:=omega)
  exact doneK hH (by simp[clauseOk,h1,h3,hA,<-he])
def boundB(c:Clause)(t:Term):Bool:=if t.kind=3 then c.body.any (fun x=>decide (x.kind=1)&&x.atom.args.any fun u=>eqT u t) else true
theorem any_drop{α:Type}(p:α->Bool){l:List α}{i:Nat}(h:i<l.length):(l.drop i).any p=(p l[i]||(l.drop (i+1)).any p):=by
 rw[List.drop_eq_getElem_cons h,List.any_cons]
theorem t_rbound(c:Clause)(hc:c.ok)(t:Term):PureT 147 [clauseL c,termL t] (.bool (boundB c t)):=by
 refine PureT.of c147 fun H hH=>⟨Nat.le_of_ble_eq_true rfl,?_⟩
 by_cases h3:t.kind=3
 case neg=>
  simp(disch:=omega)[b147,h3]
  exact doneK hH (by simp[boundB,h3])
 simp(disch:=omega)[b147,h3]
 obtain⟨A,hA⟩:∃A,c.body.any (fun x=>decide (x.kind=1)&&x.atom.args.any fun u=>eqT u t)=A:=⟨_,rfl⟩
 have hB:boundB c t=A:=by rw[<-hA];simp[boundB,h3]
 rw[hB]
 have hHe:LHeap.Ok ⟨(H.next+1,.cells [.int t.kind,.int t.n,.str t.s])::(H.next,.cells [.str c.head.pred,argsL c.head.args,bodyL c.body])::H.objs,H.next+2⟩:=⟨Nat.lt_succ_self _,Nat.lt_succ_self _,hH⟩
 rw[<-h3]
 refine lP_enter (σ:=NN) (fun q=>(.nd .bot (.nd .bot (.nd (.ptr (H.next+1) 0) .nil .nil) (.nd (.int q.i) .nil .nil)) (.nd (.ptr H.next 0) .nil .nil))) (fun q=>⟨(H.next+1,.cells [.int t.kind,.int t.n,.str t.s])::(H.next,.cells [.str c.head.pred,argsL c.head.args,bodyL c.body])::H.objs,q.n⟩) (fun q=>c.body.length - q.i)
  (fun q=>H.next+2<=q.n/\q.i<=c.body.length/\(c.body.drop q.i).any (fun x=>decide (x.kind=1)&&x.atom.args.any fun u=>eqT u t)=A) ⟨0,H.next+2⟩ ⟨by dsimp only;omega,Nat.zero_le _,hA⟩ (by simp[FT.Le,Wk]) ⟨HWk.refl _,fun h=>h⟩ ?_
 rintro⟨i,n⟩ ⟨hn,hi,he⟩ hok
 simp only at hn hi he
 have hcl:=hc.2.1
 by_cases hlt:i<c.body.length
 case neg=>
  obtain rfl:i=c.body.length:=by omega
  rw[List.drop_eq_nil_of_le (Nat.le_refl _),List.any_nil]at he
  simp(disch:=omega)
  exact doneK hH (by simp[<-he])
 rw[any_drop _ hlt]at he
 by_cases hk:c.body[i].kind=1
 case neg=>
  have he2:decide (c.body[i].kind=1)=false:=by simp[hk]
  rw[he2,Bool.false_and,Bool.false_or]at he
  simp(disch:=omega)[hlt,hk,wrap_nat (show i<2^62 by omega)]
  exact⟨⟨i+1,n⟩,by dsimp only;omega,⟨by dsimp only;omega,by dsimp only;omega,he⟩,by simp[FT.Le,Wk],HWk.refl _,fun h=>h⟩
 have he2:decide (c.body[i].kind=1)=true:=by simp[hk]
 rw[he2,Bool.true_and]at he
 simp(disch:=omega)[hlt,hk]
 obtain⟨Q,hQ⟩:∃Q,c.body[i].atom.args.any (fun u=>eqT u t)=Q:=⟨_,rfl⟩
 rw[hQ]at he
 have hal:=(hc.2.2 _ (mem_at hlt)).2.1
 refine lP_enter (σ:=NN) (fun q=>(.nd .bot (.nd .bot (.nd (.ptr (H.next+1) 0) .nil .nil) (.nd (.int i) .nil .nil)) (.nd (.ptr H.next 0) .nil (.nd (.int q.i) .nil .nil)))) (fun q=>⟨(H.next+1,.cells [.int t.kind,.int t.n,.str t.s])::(H.next,.cells [.str c.head.pred,argsL c.head.args,bodyL c.body])::H.objs,q.n⟩) (fun q=>c.body[i].atom.args.length - q.i)
  (fun q=>H.next+2<=q.n/\q.i<=c.body[i].atom.args.length/\(c.body[i].atom.args.drop q.i).any (fun u=>eqT u t)=Q) ⟨0,n⟩ ⟨by dsimp only;omega,Nat.zero_le _,hQ⟩ (by simp[FT.Le,Wk]) ⟨HWk.refl _,fun h=>h⟩ ?_
 rintro⟨j,n2⟩ ⟨hn2,hj,he3⟩ hok2
 simp only at hn2 hj he3
 by_cases hlt2:j<c.body[i].atom.args.length
 case neg=>
  obtain rfl:j=c.body[i].atom.args.length:=by omega
  rw[List.drop_eq_nil_of_le (Nat.le_refl _),List.any_nil]at he3
  rw[<-he3,Bool.false_or]at he
  simp(disch:=omega)[hlt,wrap_nat (show i<2^62 by omega)]
  exact⟨⟨i+1,n2⟩,by dsimp only;omega,⟨by dsimp only;omega,by dsimp only;omega,he⟩,by simp[FT.Le,Wk],HWk.refl _,fun h=>h⟩
 rw[any_drop _ hlt2]at he3
 have e1:(decide (c.body[i].atom.args[j].kind=t.kind)&&(decide (c.body[i].atom.args[j].n=t.n)&&eqBA c.body[i].atom.args[j].s t.s))=eqT c.body[i].atom.args[j] t:=rfl
 simp(disch:=omega)[hlt,hlt2]
 rw[e1]
 cases hq:eqT c.body[i].atom.args[j] t
 ·rw[hq,Bool.false_or]at he3
  simp(disch:=omega)[wrap_nat (show j<2^62 by omega)]
  exact⟨⟨j+1,n2⟩,by dsimp only;omega,⟨by dsimp only;omega,by dsimp only;omega,he3⟩,by simp[FT.Le,Wk],HWk.refl _,fun h=>h⟩
 ·rw[hq,Bool.true_or]at he3
  rw[<-he3,Bool.true_or]at he
  simp(disch:=omega)
  exact doneK hH (by simp[<-he])
def litTs(x:Lit):List Term:=(if x.kind=2 then x.atom.args else [])++[x.a,x.b]
def safeTs(c:Clause):List Term:=c.head.args++c.body.flatMap litTs
def safeR(c:Clause):Bool:=(safeTs c).all (boundB c)
theorem terms_all(G:List Term):(G.map termL).all (fun e=>e.cells.length==3)=true:=by simp[LV.cells]
structure NNT where
 i:Nat
 n:Nat
 ts:List Term
theorem atom_args{a:Atom}(h:atomOk a=true):a.args.length<=3/\a.args.all termOk=true:=by
 unfold atomOk at h
 simp only[Bool.and_eq_true,decide_eq_true_eq]at h
 exact h.2
theorem clause_parts{c:Clause}(h:clauseOk c=true):atomOk c.head=true/\c.body.length<=5/\∀x∈c.body,litOk x=true:=by
 unfold clauseOk at h
 simp only[Bool.and_eq_true,decide_eq_true_eq,List.all_eq_true]at h
 exact⟨h.1,h.2.1,h.2.2⟩
theorem lit_args{x:Lit}(h:litOk x=true):x.atom.args.length<=3:=by
 unfold litOk at h
 split at h
 ·simp only[Bool.and_eq_true]at h;exact(atom_args h.1).1
 ·split at h
  ·simp only[Bool.and_eq_true,decide_eq_true_eq]at h;omega
  ·cases h
theorem litTs_len{x:Lit}(h:litOk x=true):(litTs x).length<=5:=by
 have:=lit_args h
 unfold litTs
 split<;>simp<;>omega
theorem flat_bd:∀{b:List Lit},(∀x∈b,litOk x=true)->(b.flatMap litTs).length<=5*b.length
 |[],_=>by simp
 |x::b,h=>by
  have h1:=litTs_len (h x List.mem_cons_self)
  have h2:=flat_bd fun y hy=>h y (List.mem_cons_of_mem _ hy)
  rw[List.flatMap_cons,List.length_append,List.length_cons]
  omega
theorem safeTs_len{c:Clause}(h:clauseOk c=true):(safeTs c).length<=28:=by
 obtain⟨h1,h2,h3⟩:=clause_parts h
 have h4:=(atom_args h1).1
 have h5:=flat_bd h3
 unfold safeTs
 rw[List.length_append]
 omega
theorem t_rsafe(c:Clause)(hc:c.ok)(hf:clauseOk c=true):PureT 101 [clauseL c] (.bool (safeR c)):=by
 refine PureT.of c101 fun H hH=>⟨Nat.le_of_ble_eq_true rfl,?_⟩
 obtain⟨hp1,hp2,hp3⟩:=clause_parts hf
 have hha:=(atom_args hp1).1
 simp(disch:=omega)[b101]
 refine effP_ap ?_
 have hcan0:c.head.args.length<=2^30:=by omega
 simp(disch:=omega)[apL,canApp,terms_all,hcan0]
 obtain⟨L,hL⟩:∃L,safeTs c=L:=⟨_,rfl⟩
 have hLl:=safeTs_len hf
 rw[hL]at hLl
 have hR:safeR c=L.all (boundB c):=by rw[<-hL];rfl
 rw[hR]
 refine lP_enter (σ:=NNT) (fun q=>(.nd .bot (.nd (.ptr H.next 0) (.nd (.sl (q.ts.map termL) (.tok (H.next+1))) .nil .nil) .nil) (.nd (.bool false) (.nd (.int q.i) .nil .nil) .nil)))
  (fun q=>⟨(H.next+1,.tok q.ts.length 3)::(H.next,.cells [.str c.head.pred,argsL c.head.args,bodyL c.body])::H.objs,q.n⟩) (fun q=>c.body.length - q.i)
  (fun q=>H.next+2<=q.n/\q.i<=c.body.length/\q.ts++(c.body.drop q.i).flatMap litTs=L) ⟨0,H.next+2,c.head.args⟩ ⟨Nat.le_refl _,Nat.zero_le _,by rw[<-hL];rfl⟩ (by simp[FT.Le,Wk]) ⟨HWk.refl _,fun h=>h⟩ ?_
 rintro⟨i,n,ts⟩ ⟨hn,hi,he⟩ hok
 dsimp only at hn hi he
 have htl:ts.length<=28:=by
  have:=congrArg List.length he
  rw[List.length_append]at this
  omega
 have hHe:∀m:Nat,LHeap.Ok ⟨(H.next+1,.tok m 3)::(H.next,.cells [.str c.head.pred,argsL c.head.args,bodyL c.body])::H.objs,H.next+2⟩:=fun _=>⟨Nat.lt_succ_self _,Nat.lt_succ_self _,hH⟩
 by_cases hlt:i<c.body.length
 case neg=>
  obtain rfl:i=c.body.length:=by omega
  rw[List.drop_eq_nil_of_le (Nat.le_refl _),List.flatMap_nil,List.append_nil]at he
  subst he
  simp(disch:=omega)
  obtain⟨A,hA⟩:∃A,ts.all (boundB c)=A:=⟨_,rfl⟩
  rw[hA]
  refine lP_enter (σ:=NN) (fun q=>(.nd .bot (.nd (.ptr H.next 0) (.nd (.sl (ts.map termL) (.tok (H.next+1))) .nil .nil) (.nd (.int q.i) .nil .nil)) (.nd (.bool false) .nil .nil)))
   (fun q=>⟨(H.next+1,.tok ts.length 3)::(H.next,.cells [.str c.head.pred,argsL c.head.args,bodyL c.body])::H.objs,q.n⟩) (fun q=>ts.length - q.i)
   (fun q=>H.next+2<=q.n/\q.i<=ts.length/\(ts.drop q.i).all (boundB c)=A) ⟨0,n⟩ ⟨by dsimp only;omega,Nat.zero_le _,hA⟩ (by simp[FT.Le,Wk]) ⟨HWk.refl _,fun h=>h⟩ ?_
  rintro⟨j,n2⟩ ⟨hn2,hj,he2⟩ hok2
  simp only at hn2 hj he2
  by_cases hlt2:j<ts.length
  case neg=>
   obtain rfl:j=ts.length:=by omega
   rw[List.drop_eq_nil_of_le (Nat.le_refl _),List.all_nil]at he2
   simp(disch:=omega)
   exact doneK hH (by simp[<-he2])
  rw[all_drop (boundB c) hlt2]at he2
  simp(disch:=omega)[hlt2]
  refine(t_rbound c hc ts[j]).go fun n3 hn3=>?_
  cases hb:boundB c ts[j]
  ·rw[hb,Bool.false_and]at he2
   simp(disch:=omega)
   exact doneK hH (by simp[<-he2])
  ·rw[hb,Bool.true_and]at he2
   simp(disch:=omega)[wrap_nat (show j<2^62 by omega)]
   exact⟨⟨j+1,n3⟩,by dsimp only;omega,⟨by dsimp only;omega,by dsimp only;omega,he2⟩,by simp[FT.Le,Wk],HWk.refl _,fun h=>h⟩
 rw[List.drop_eq_getElem_cons hlt,List.flatMap_cons,<-List.append_assoc]at he
 have hla:=lit_args (hp3 _ (mem_at hlt))
 by_cases hk2:c.body[i].kind=2
 ·have e2:litTs c.body[i]=c.body[i].atom.args++[c.body[i].a,c.body[i].b]:=by simp[litTs,hk2]
  rw[e2]at he
  simp(disch:=omega)[hlt,hk2]
  refine effP_ap ?_
  have hcan:ts.length+c.body[i].atom.args.length<=2^30:=by omega
  simp(disch:=omega)[apL,canApp,terms_all,hcan]
  refine effP_ap ?_
  have hcan2:ts.length+(c.body[i].atom.args.length+2)<=2^30:=by omega
  have hcan3:ts.length+c.body[i].atom.args.length+2<=2^30:=by omega
  simp(disch:=omega)[apL,canApp,terms_all,hcan2,hcan3,wrap_nat (show i<2^62 by omega),Nat.add_assoc]
  refine⟨⟨i+1,n,ts++(c.body[i].atom.args++[c.body[i].a,c.body[i].b])⟩,by dsimp only;omega,⟨by dsimp only;omega,by dsimp only;omega,he⟩,by simp[FT.Le,Wk],?_⟩
  simp only[List.length_append,List.length_cons,List.length_nil]
  simp[Nat.add_assoc,HWk.refl]
 ·have e2:litTs c.body[i]=[c.body[i].a,c.body[i].b]:=by simp[litTs,hk2]
  rw[e2]at he
  simp(disch:=omega)[hlt,hk2]
  refine effP_ap ?_
  have hcan:ts.length+2<=2^30:=by omega
  simp(disch:=omega)[apL,canApp,terms_all,hcan,wrap_nat (show i<2^62 by omega)]
  refine⟨⟨i+1,n,ts++[c.body[i].a,c.body[i].b]⟩,by dsimp only;omega,⟨by dsimp only;omega,by dsimp only;omega,he⟩,by simp[FT.Le,Wk],?_⟩
  simp only[List.length_append,List.length_cons,List.length_nil]
  simp[HWk.refl]
def rcheckF:List Clause->Nat->Int×Int
 |[],_=>(0,0)
 |c::r,i=>if clauseOk c=false then (7,(i:Int)) else if safeR c=false then (80,(i:Int)) else rcheckF r (i+1)
def rcheckB(l:List Clause):Int×Int:=if 40<l.length then (2,0) else rcheckF l 0
theorem t_rCheck(l:List Clause)(hc:l.length<=40->∀c∈l,Clause.ok3 c):PureT 62 [clausesL l] (.tup [.int (rcheckB l).1,.int (rcheckB l).2]):=by
 refine PureT.of c62 fun H hH=>⟨Nat.le_of_ble_eq_true rfl,?_⟩
 by_cases h1:(40:Int)<(l.length:Int)
 ·simp(disch:=omega)[b62,h1]
  exact doneK hH (by simp[rcheckB,show 40<l.length by omega])
 have hc:=hc (by omega)
 simp(disch:=omega)[b62,h1]
 obtain⟨R,hR⟩:∃R,rcheckF l 0=R:=⟨_,rfl⟩
 have hB:rcheckB l=R:=by rw[<-hR];unfold rcheckB;rw[if_neg (by omega)]
 rw[hB]
 refine lP_enter (σ:=NN) (fun q=>(.nd (clausesL l) (.nd .bot (.nd (.int 0) .nil .nil) .nil) (.nd (.int 0) (.nd (.int q.i) .nil .nil) .nil))) (fun q=>⟨H.objs,q.n⟩) (fun q=>l.length - q.i)
  (fun q=>H.next<=q.n/\q.i<=l.length/\rcheckF (l.drop q.i) q.i=R) ⟨0,H.next⟩ ⟨Nat.le_refl _,Nat.zero_le _,hR⟩ (by simp[FT.Le,Wk]) ⟨HWk.refl _,fun h=>h⟩ ?_
 rintro⟨i,n⟩ ⟨hn,hi,he⟩ hok
 simp only at hn hi he
 by_cases hlt:i<l.length
 ·rw[List.drop_eq_getElem_cons hlt]at he
  simp(disch:=omega)[hlt]
  refine(t_rformed l[i] (hc _ (mem_at hlt)).1).go fun n1 h1'=>?_
  cases hf:clauseOk l[i]
  ·simp only[rcheckF,hf,if_true]at he
   simp(disch:=omega)
   exact doneK hH (by simp[<-he])
  simp(disch:=omega)[hlt]
  refine(t_rsafe l[i] (hc _ (mem_at hlt)).2 hf).go fun n2 h2'=>?_
  cases hs:safeR l[i]
  ·simp[rcheckF,hf,hs]at he
   simp(disch:=omega)
   exact doneK hH (by simp[<-he])
  simp[rcheckF,hf,hs]at he
  simp(disch:=omega)[wrap_nat (show i<2^62 by omega)]
  exact⟨⟨i+1,n2⟩,by dsimp only;omega,⟨by dsimp only;omega,by dsimp only;omega,he⟩,by simp[FT.Le,Wk],backK hH⟩
 ·obtain rfl:i=l.length:=by omega
  rw[List.drop_eq_nil_of_le (Nat.le_refl _)]at he
  simp only[rcheckF]at he
  simp(disch:=omega)
  exact doneK hH (by simp[<-he])
end Go.Abs.Tz
namespace Go.Abs.Tz
open Go Go.Abs Go.Proofs
theorem eqT_of{a b:Term}(h:a=b):eqT a b=true:=by
 subst h
 simp[eqT,eqBA_iff]
theorem hasV_iff{v:ByteArray}{S:List ByteArray}:hasV v S=true↔v∈S:=by
 unfold hasV
 rw[List.any_eq_true]
 exact⟨fun⟨x,h1,h2⟩=>by rw[eqBA_iff.1 h2];exact h1,fun h=>⟨v,h,eqBA_iff.2 rfl⟩⟩
theorem mem_addK{v k:ByteArray}{S:List ByteArray}:v∈addK k S↔v∈S\/v=k:=by
 unfold addK
 split
 ·rename_i h
  have:=hasV_iff.1 h
  exact⟨.inl,fun h=>h.elim id fun e=>e▸this⟩
 ·rw[List.mem_append,List.mem_singleton]
def VarOf(ts:List Term)(v:ByteArray):Prop:=∃t∈ts,t.kind=3/\t.s=v
theorem mem_addVs{v:ByteArray}:∀{ts:List Term}{S:List ByteArray},v∈addVs ts S↔v∈S\/VarOf ts v
 |[],S=>by simp[addVs,VarOf]
 |t::ts,S=>by
  have ih:=mem_addVs (v:=v) (ts:=ts) (S:=addV t S)
  simp only[addVs]
  rw[ih]
  unfold addV VarOf
  by_cases hk:t.kind=3
  ·rw[if_pos hk,mem_addK]
   constructor
   ·rintro((h|h)|⟨u,h1,h2⟩)
    ·exact .inl h
    ·exact .inr ⟨t,List.mem_cons_self,hk,h.symm⟩
    ·exact .inr ⟨u,List.mem_cons_of_mem _ h1,h2⟩
   ·rintro(h|⟨u,h1,h2,h3⟩)
    ·exact .inl (.inl h)
    ·rcases List.mem_cons.1 h1 with rfl|h1
     ·exact .inl (.inr h3.symm)
     ·exact .inr ⟨u,h1,h2,h3⟩
  ·rw[if_neg hk]
   constructor
   ·rintro(h|⟨u,h1,h2⟩)
    ·exact .inl h
    ·exact .inr ⟨u,List.mem_cons_of_mem _ h1,h2⟩
   ·rintro(h|⟨u,h1,h2,h3⟩)
    ·exact .inl h
    ·rcases List.mem_cons.1 h1 with rfl|h1
     ·exact absurd h2 hk
     ·exact .inr ⟨u,h1,h2,h3⟩
theorem litsV_1{v:ByteArray}:∀{b:List Lit}{q:List ByteArray×List ByteArray},v∈(litsV b q).1↔v∈q.1\/∃x∈b,x.kind=1/\VarOf x.atom.args v
 |[],q=>by simp[litsV]
 |x::b,q=>by
  have ih:=litsV_1 (v:=v) (b:=b) (q:=litV x q)
  simp only[litsV]
  rw[ih]
  have e:v∈(litV x q).1↔v∈q.1\/(x.kind=1/\VarOf x.atom.args v):=by
   unfold litV
   by_cases h1:x.kind=1
   ·rw[if_pos h1];dsimp only;rw[mem_addVs]
    exact⟨fun h=>h.imp id fun h=>⟨h1,h⟩,fun h=>h.imp id fun h=>h.2⟩
   ·rw[if_neg h1]
    have:∀a b:List ByteArray×List ByteArray,(if x.kind=2 then (q.1,a.1) else (q.1,b.1)).1=q.1:=fun _ _=>by split<;>rfl
    split<;>exact⟨.inl,fun h=>h.elim id fun h=>absurd h.1 h1⟩
  rw[e]
  constructor
  ·rintro((h|h)|⟨y,h1,h2⟩)
   ·exact .inl h
   ·exact .inr ⟨x,List.mem_cons_self,h⟩
   ·exact .inr ⟨y,List.mem_cons_of_mem _ h1,h2⟩
  ·rintro(h|⟨y,h1,h2⟩)
   ·exact .inl (.inl h)
   ·rcases List.mem_cons.1 h1 with rfl|h1
    ·exact .inl (.inr h2)
    ·exact .inr ⟨y,h1,h2⟩
theorem litsV_2{v:ByteArray}:∀{b:List Lit}{q:List ByteArray×List ByteArray},v∈(litsV b q).2↔v∈q.2\/∃x∈b,¬x.kind=1/\VarOf (if x.kind=2 then x.atom.args else [x.a,x.b]) v
 |[],q=>by simp[litsV]
 |x::b,q=>by
  have ih:=litsV_2 (v:=v) (b:=b) (q:=litV x q)
  simp only[litsV]
  rw[ih]
  have e:v∈(litV x q).2↔v∈q.2\/(¬x.kind=1/\VarOf (if x.kind=2 then x.atom.args else [x.a,x.b]) v):=by
   unfold litV
   by_cases h1:x.kind=1
   ·rw[if_pos h1]
    exact⟨.inl,fun h=>h.elim id fun h=>absurd h1 h.1⟩
   ·rw[if_neg h1]
    by_cases h2:x.kind=2
    ·rw[if_pos h2,if_pos h2];dsimp only;rw[mem_addVs]
     exact⟨fun h=>h.imp id fun h=>⟨h1,h⟩,fun h=>h.imp id fun h=>h.2⟩
    ·rw[if_neg h2,if_neg h2];dsimp only;rw[mem_addVs]
     exact⟨fun h=>h.imp id fun h=>⟨h1,h⟩,fun h=>h.imp id fun h=>h.2⟩
  rw[e]
  constructor
  ·rintro((h|h)|⟨y,h1,h2⟩)
   ·exact .inl h
   ·exact .inr ⟨x,List.mem_cons_self,h⟩
   ·exact .inr ⟨y,List.mem_cons_of_mem _ h1,h2⟩
  ·rintro(h|⟨y,h1,h2⟩)
   ·exact .inl (.inl h)
   ·rcases List.mem_cons.1 h1 with rfl|h1
    ·exact .inl (.inr h2)
    ·exact .inr ⟨y,h1,h2⟩
theorem var_n{t:Term}(h:termOk t=true)(hk:t.kind=3):t.n=0:=by
 unfold termOk at h
 rw[if_neg (by omega),if_neg (by omega),if_pos hk]at h
 simp only[Bool.and_eq_true,decide_eq_true_eq]at h
 exact h.1
theorem zero_kind{t:Term}(h:zeroT t=true):t.kind=0:=by
 unfold zeroT at h
 simp only[Bool.and_eq_true,decide_eq_true_eq]at h
 exact h.1
theorem lit_terms{x:Lit}(h:litOk x=true):((x.kind=1\/x.kind=2)->x.atom.args.all termOk=true/\x.a.kind=0/\x.b.kind=0)/\(¬(x.kind=1\/x.kind=2)->termOk x.a=true/\termOk x.b=true):=by
 unfold litOk at h
 refine⟨fun hk=>?_,fun hk=>?_⟩
 ·rw[if_pos hk]at h
  simp only[Bool.and_eq_true]at h
  exact⟨(atom_args h.1).2,zero_kind h.2.1,zero_kind h.2.2⟩
 ·rw[if_neg hk]at h
  split at h
  ·simp only[Bool.and_eq_true]at h;exact⟨h.1,h.2.1⟩
  ·cases h
theorem safe_same{c:Clause}(h:clauseOk c=true):safeR c=safeB c:=by
 obtain⟨h1,h2,h3⟩:=clause_parts h
 have hb:∀(t:Term),t.kind=3->termOk t=true->(boundB c t=true↔∃x∈c.body,x.kind=1/\VarOf x.atom.args t.s):=by
  intro t hk ht
  unfold boundB
  rw[if_pos hk,List.any_eq_true]
  constructor
  ·rintro⟨x,hx,hy⟩
   simp only[Bool.and_eq_true,decide_eq_true_eq,List.any_eq_true]at hy
   obtain⟨hy1,u,hu,he⟩:=hy
   rw[eqT_iff he]at hu
   exact⟨x,hx,hy1,t,hu,hk,rfl⟩
  ·rintro⟨x,hx,hy,u,hu,hu3,hus⟩
   refine⟨x,hx,?_⟩
   simp only[Bool.and_eq_true,decide_eq_true_eq,List.any_eq_true]
   refine⟨hy,u,hu,eqT_of ?_⟩
   have hua:=List.all_eq_true.1 ((lit_terms (h3 x hx)).1 (.inl hy)).1 u hu
   obtain⟨k,n,s⟩:=u
   obtain⟨k',n',s'⟩:=t
   have e1:=var_n hua hu3
   have e2:=var_n ht hk
   simp only at hk hu3 hus e1 e2
   subst hk;subst hu3;subst hus;subst e1;subst e2
   rfl
 have hterms:∀t∈safeTs c,t.kind=3->termOk t=true:=by
  intro t ht hk
  rcases List.mem_append.1 ht with ht|ht
  ·exact List.all_eq_true.1 (atom_args h1).2 t ht
  ·obtain⟨x,hx,ht⟩:=List.mem_flatMap.1 ht
   obtain⟨g1,g2⟩:=lit_terms (h3 x hx)
   unfold litTs at ht
   by_cases h12:x.kind=1\/x.kind=2
   ·obtain⟨g3,g4,g5⟩:=g1 h12
    rcases List.mem_append.1 ht with ht|ht
    ·split at ht
     ·exact List.all_eq_true.1 g3 t ht
     ·cases ht
    ·simp only[List.mem_cons,List.not_mem_nil,or_false]at ht
     rcases ht with rfl|rfl<;>omega
   ·obtain⟨g3,g4⟩:=g2 h12
    rw[if_neg fun e=>h12 (.inr e)]at ht
    simp only[List.nil_append,List.mem_cons,List.not_mem_nil,or_false]at ht
    rcases ht with rfl|rfl
    ·exact g3
    ·exact g4
 have hask:∀v,v∈(litsV c.body ([],addVs c.head.args [])).2↔VarOf (safeTs c) v:=by
  intro v
  rw[litsV_2]
  dsimp only
  rw[mem_addVs]
  constructor
  ·rintro((h|⟨t,ht,hv⟩)|⟨x,hx,hk,t,ht,hv⟩)
   ·cases h
   ·exact⟨t,List.mem_append_left _ ht,hv⟩
   ·refine⟨t,List.mem_append_right _ (List.mem_flatMap.2 ⟨x,hx,?_⟩),hv⟩
    unfold litTs
    by_cases h2:x.kind=2
    ·rw[if_pos h2]at ht ⊢;exact List.mem_append_left _ ht
    ·rw[if_neg h2]at ht;exact List.mem_append_right _ ht
  ·rintro⟨t,ht,hv⟩
   rcases List.mem_append.1 ht with ht|ht
   ·exact .inl (.inr ⟨t,ht,hv⟩)
   ·obtain⟨x,hx,ht⟩:=List.mem_flatMap.1 ht
    obtain⟨g1,g2⟩:=lit_terms (h3 x hx)
    unfold litTs at ht
    by_cases h12:x.kind=1\/x.kind=2
    ·obtain⟨g3,g4,g5⟩:=g1 h12
     rcases List.mem_append.1 ht with ht|ht
     ·split at ht
      ·rename_i h2
       exact .inr ⟨x,hx,by omega,t,by rw[if_pos h2];exact ht,hv⟩
      ·cases ht
     ·simp only[List.mem_cons,List.not_mem_nil,or_false]at ht
      rcases ht with rfl|rfl<;>omega
    ·rw[if_neg fun e=>h12 (.inr e),List.nil_append]at ht
     exact .inr ⟨x,hx,fun e=>h12 (.inl e),t,by rw[if_neg fun e=>h12 (.inr e)];exact ht,hv⟩
 rw[Bool.eq_iff_iff]
 unfold safeR safeB
 rw[List.all_eq_true,List.all_eq_true]
 constructor
 ·intro hs v hv
  obtain⟨t,ht,hk,rfl⟩:=(hask v).1 hv
  rw[hasV_iff,litsV_1]
  exact .inr ((hb t hk (hterms t ht hk)).1 (hs t ht))
 ·intro hs t ht
  by_cases hk:t.kind=3
  ·rw[hb t hk (hterms t ht hk)]
   have:=hs t.s ((hask t.s).2 ⟨t,ht,hk,rfl⟩)
   rw[hasV_iff,litsV_1]at this
   exact this.resolve_left (by simp)
  ·unfold boundB;rw[if_neg hk]
theorem check_same(l:List Clause):rcheckB l=checkB l:=by
 have go:∀(l:List Clause)(i:Nat),rcheckF l i=checkF l i:=by
  intro l
  induction l with
  |nil=>intro i;rfl
  |cons c l ih=>
   intro i
   simp only[rcheckF,checkF,ih]
   by_cases hf:clauseOk c=false
   ·rw[if_pos hf,if_pos hf]
   ·rw[if_neg hf,if_neg hf,safe_same (by simpa using hf)]
 unfold rcheckB checkB
 rw[go]
end Go.Abs.Tz
namespace Go.Abs.Tz
section
variable{K:Type}[DecidableEq K]
abbrev Edge(K:Type):=K×K×Nat
def updL(f:K->Nat)(e:Edge K):K->Nat:=fun k=>if k=e.1 then max (f k) (f e.2.1+e.2.2) else f k
def passL(E:List (Edge K))(f:K->Nat):K->Nat:=E.foldl updL f
def SolL(E:List (Edge K))(g:K->Nat):Prop:=∀e∈E,g e.2.1+e.2.2<=g e.1
theorem updL_ge(f:K->Nat)(e:Edge K)(k:K):f k<=updL f e k:=by
 unfold updL;split<;>omega
theorem passL_ge:∀(E:List (Edge K))(f:K->Nat)(k:K),f k<=passL E f k
 |[],_,_=>Nat.le_refl _
 |e::E,f,k=>Nat.le_trans (updL_ge f e k) (passL_ge E (updL f e) k)
theorem passL_le:∀{E:List (Edge K)}{f g:K->Nat},SolL E g->(∀k,f k<=g k)->∀k,passL E f k<=g k
 |[],_,_,_,h,k=>h k
 |e::E,f,g,hs,h,k=>by
  refine passL_le (E:=E) (fun e' he=>hs e' (List.mem_cons_of_mem _ he)) (fun k=>?_) k
  have h1:=hs e List.mem_cons_self
  have h2:=h e.2.1
  have h3:=h k
  unfold updL
  split
  ·rename_i hk;subst hk;omega
  ·exact h3
theorem passL_edge:∀{E:List (Edge K)}{f:K->Nat}{e:Edge K},e∈E->f e.2.1+e.2.2<=passL E f e.1
 |a::E,f,e,h=>by
  rcases List.mem_cons.1 h with rfl|h
  ·refine Nat.le_trans ?_ (passL_ge E (updL f e) e.1)
   unfold updL;rw[if_pos rfl];omega
  ·have:=passL_edge (f:=updL f a) h
   have h2:=updL_ge f a e.2.1
   show _<=passL E (updL f a) e.1
   omega
theorem sol_of_fix{E:List (Edge K)}{f:K->Nat}(h:∀e∈E,passL E f e.1=f e.1):SolL E f:=fun e he=>by rw[<-h e he];exact passL_edge he
def sumL(V:List K)(f:K->Nat):Nat:=(V.map f).sum
omit [DecidableEq K] in
theorem sumL_le{V:List K}{f g:K->Nat}(h:∀k∈V,f k<=g k):sumL V f<=sumL V g:=by
 induction V with
 |nil=>exact Nat.le_refl _
 |cons a V ih=>
  have h1:=h a List.mem_cons_self
  have h2:=ih fun k hk=>h k (List.mem_cons_of_mem _ hk)
  simp only[sumL,List.map_cons,List.sum_cons]at h2 ⊢
  omega
omit [DecidableEq K] in
theorem sumL_lt{V:List K}{f g:K->Nat}(h:∀k∈V,f k<=g k){v:K}(hv:v∈V)(hlt:f v<g v):sumL V f<sumL V g:=by
 induction V with
 |nil=>cases hv
 |cons a V ih=>
  have h1:=h a List.mem_cons_self
  have h2:=sumL_le (V:=V) fun k hk=>h k (List.mem_cons_of_mem _ hk)
  simp only[sumL,List.map_cons,List.sum_cons]at h2 ⊢
  rcases List.mem_cons.1 hv with rfl|hv
  ·omega
  ·have h3:=ih (fun k hk=>h k (List.mem_cons_of_mem _ hk)) hv
   simp only[sumL]at h3
   omega
omit [DecidableEq K] in
theorem least_ex{E:List (Edge K)}(V:List K){g:K->Nat}(hg:SolL E g):∃F,SolL E F/\∀g',SolL E g'->sumL V F<=sumL V g':=by
 obtain⟨n,hn⟩:∃n,sumL V g=n:=⟨_,rfl⟩
 induction n using Nat.strongRecOn generalizing g with
 |_ n ih=>
  by_cases h:∃g',SolL E g'/\sumL V g'<n
  ·obtain⟨g',h1,h2⟩:=h
   exact ih _ h2 h1 rfl
  ·refine⟨g,hg,fun g' h1=>?_⟩
   rcases Nat.lt_or_ge (sumL V g') n with h2|h2
   ·exact absurd ⟨g',h1,h2⟩ h
   ·omega
theorem pass_gains{E:List (Edge K)}{V:List K}{F f:K->Nat}(hF:SolL E F)(hmin:∀g',SolL E g'->sumL V F<=sumL V g')(hV:∀e∈E,e.1∈V/\e.2.1∈V)(hf:∀k,f k<=F k)
  {v:K} (hv:v∈V) (hne:f v≠F v):∃u∈V,f u≠F u/\passL E f u=F u:=by
 have hall:∃e∈E,f e.1≠F e.1/\f e.2.1=F e.2.1/\F e.2.1+e.2.2=F e.1:=by
  apply Classical.byContradiction
  intro hno
  have hs:SolL E fun k=>if f k=F k then F k else F k - 1:=by
   intro e he
   have h1:=hF e he
   have h2:=hf e.1
   show (if f e.2.1=F e.2.1 then F e.2.1 else F e.2.1 - 1)+e.2.2<=if f e.1=F e.1 then F e.1 else F e.1 - 1
   by_cases ha:f e.1=F e.1
   ·rw[if_pos ha]
    split<;>omega
   ·rw[if_neg ha]
    by_cases hb:f e.2.1=F e.2.1
    ·rw[if_pos hb]
     have:F e.2.1+e.2.2≠F e.1:=fun hq=>hno ⟨e,he,ha,hb,hq⟩
     omega
    ·rw[if_neg hb]
     have:=hf e.2.1
     omega
  have h1:=hmin _ hs
  have h2:=sumL_lt (V:=V) (f:=fun k=>if f k=F k then F k else F k - 1) (g:=F) (fun k _=>by split<;>omega) hv (by
   have:=hf v
   rw[if_neg hne];omega)
  omega
 obtain⟨e,he,h1,h2,h3⟩:=hall
 refine⟨e.1,(hV e he).1,h1,?_⟩
 have h4:=passL_edge (f:=f) he
 have h5:=passL_le hF hf e.1
 omega
omit [DecidableEq K] in
theorem filter_lt{V:List K}{p q:K->Bool}(h:∀k∈V,q k=true->p k=true){u:K}(hu:u∈V)(hp:p u=true)(hq:q u=false):(V.filter q).length<(V.filter p).length:=by
 have hle:∀W:List K,(∀k∈W,q k=true->p k=true)->(W.filter q).length<=(W.filter p).length:=by
  intro W
  induction W with
  |nil=>intro _;exact Nat.le_refl _
  |cons a W ih=>
   intro hW
   have h1:=ih fun k hk=>hW k (List.mem_cons_of_mem _ hk)
   have h2:=hW a List.mem_cons_self
   simp only[List.filter_cons]
   cases hqa:q a<;>cases hpa:p a<;>simp_all
   omega
 induction V with
 |nil=>cases hu
 |cons a V ih=>
  have h2:=h a List.mem_cons_self
  have h3:=hle V fun k hk=>h k (List.mem_cons_of_mem _ hk)
  simp only[List.filter_cons]
  rcases List.mem_cons.1 hu with rfl|hu
  ·simp[hp,hq];omega
  ·have h1:=ih (fun k hk=>h k (List.mem_cons_of_mem _ hk)) hu
   cases hqa:q a<;>cases hpa:p a<;>simp_all
   omega
omit [DecidableEq K] in
theorem least_bound{E:List (Edge K)}{V:List K}{F:K->Nat}(hF:SolL E F)(hmin:∀g',SolL E g'->sumL V F<=sumL V g')(hV:∀e∈E,e.1∈V/\e.2.1∈V)(hw:∀e∈E,e.2.2<=1){v:K}(hv:v∈V):F v<V.length:=by
 have gap:∀m,(∃v∈V,F v=m+1)->∃v∈V,F v=m:=by
  rintro m ⟨v,hv,hm⟩
  apply Classical.byContradiction
  intro hno
  have hs:SolL E fun k=>if m<F k then F k - 1 else F k:=by
   intro e he
   have h1:=hF e he
   have hw1:=hw e he
   have hb:F e.2.1≠m:=fun hq=>hno ⟨_,(hV e he).2,hq⟩
   show (if m<F e.2.1 then F e.2.1 - 1 else F e.2.1)+e.2.2<=if m<F e.1 then F e.1 - 1 else F e.1
   split<;>split<;>omega
  have h1:=hmin _ hs
  have h2:=sumL_lt (V:=V) (f:=fun k=>if m<F k then F k - 1 else F k) (g:=F) (fun k _=>by split<;>omega) hv (by rw[if_pos (by omega)];omega)
  omega
 have down:∀j m,(∃v∈V,F v=m+j)->∃v∈V,F v=m:=by
  intro j
  induction j with
  |zero=>exact fun m h=>h
  |succ j ih=>exact fun m h=>ih m (gap (m+j) h)
 have all:∀m,m<=F v->m∈V.map F:=fun m hm=>by
  obtain⟨u,hu,he⟩:=down (F v - m) m ⟨v,hv,by omega⟩
  exact List.mem_map.2 ⟨u,hu,he⟩
 have cover:∀(n:Nat)(L:List Nat),(∀m,m<n->m∈L)->n<=L.length:=by
  intro n
  induction n with
  |zero=>exact fun _ _=>Nat.zero_le _
  |succ n ih=>
   intro L hL
   have hn:=hL n (Nat.lt_succ_self _)
   have h1:=ih (L.erase n) fun m hm=>(List.mem_erase_of_ne (by omega)).2 (hL m (by omega))
   have h2:=List.length_erase_of_mem hn
   have h3:=List.length_pos_of_mem hn
   omega
 have:=cover (F v+1) (V.map F) fun m hm=>all m (by omega)
 rw[List.length_map]at this
 omega
end
end Go.Abs.Tz
namespace Go.Abs.Tz
open Go Go.Abs Go.Proofs
abbrev PK:=ByteArray×Int
abbrev keyL(k:PK):LV:=.agg [.str k.1,.int k.2]
abbrev encP(m:List (PK×Int)):List (LV×LV):=m.map fun e=>(keyL e.1,LV.int e.2)
def eqPK(a b:PK):Bool:=eqBA a.1 b.1&&decide (a.2=b.2)
theorem eqPK_iff{a b:PK}:eqPK a b=true↔a=b:=by
 obtain⟨p,n⟩:=a
 obtain⟨q,m⟩:=b
 have h:eqBA p q=true↔p=q:=by
  constructor
  ·intro h
   unfold eqBA at h
   rw[ByteArray.toList_eq,ByteArray.toList_eq]at h
   have h1:=eq_of_beq h
   obtain⟨⟨x⟩⟩:=p
   obtain⟨⟨y⟩⟩:=q
   simp at h1
   rw[h1]
  ·rintro rfl;simp[eqBA]
 simp[eqPK,h]
theorem eqK_PK(a b:PK):eqK (.st [1,0]) (keyL a) (keyL b)=some (eqPK a b):=by
 simp[eqK,eqL,eqB_s,eqB_i,eqPK]
def pSet(k:PK)(v:Int):List (PK×Int)->List (PK×Int)
 |[]=>[(k,v)]
 |(j,u)::r=>if eqPK k j then (j,v)::r else (j,u)::pSet k v r
def pGet(k:PK):List (PK×Int)->Option Int
 |[]=>none
 |(j,u)::r=>if eqPK k j then some u else pGet k r
theorem setL_encP(k:PK)(v:Int):∀m:List (PK×Int),setL (.st [1,0]) (keyL k) (LV.int v) (encP m)=some (encP (pSet k v m))
 |[]=>rfl
 |(j,u)::r=>by
  have ih:=setL_encP k v r
  show (match eqK (.st [1,0]) (keyL k) (keyL j) with
   |some true=>some ((keyL j,LV.int v)::encP r)
   |some false=>(setL (.st [1,0]) (keyL k) (LV.int v) (encP r)).map ((keyL j,LV.int u)::·)
   |none=>none)=_
  rw[eqK_PK]
  cases h:eqPK k j
  ·simp only[ih,pSet,h];rfl
  ·simp only[pSet,h];rfl
theorem findL_encP(k:PK):∀m:List (PK×Int),findL (.st [1,0]) (keyL k) (encP m)=some ((pGet k m).map LV.int)
 |[]=>rfl
 |(j,u)::r=>by
  have ih:=findL_encP k r
  show (match eqK (.st [1,0]) (keyL k) (keyL j) with
   |some true=>some (some (LV.int u))
   |some false=>findL (.st [1,0]) (keyL k) (encP r)
   |none=>none)=_
  rw[eqK_PK]
  cases h:eqPK k j
  ·simp only[ih,pGet,h];rfl
  ·simp only[pGet,h];rfl
def pKeys(m:List (PK×Int)):List PK:=m.map (·.1)
def pVal(m:List (PK×Int))(k:PK):Int:=(pGet k m).getD 0
theorem pGet_set(k j:PK)(v:Int):∀m:List (PK×Int),pGet j (pSet k v m)=if j=k then some v else pGet j m
 |[]=>by
  simp only[pSet,pGet]
  by_cases h:j=k
  ·rw[if_pos (eqPK_iff.2 h),if_pos h]
  ·rw[if_neg (fun e=>h (eqPK_iff.1 e)),if_neg h]
 |(i,u)::r=>by
  have ih:=pGet_set k j v r
  simp only[pSet]
  by_cases hk:eqPK k i=true
  ·rw[if_pos hk]
   obtain rfl:=eqPK_iff.1 hk
   simp only[pGet]
   by_cases hj:j=k
   ·rw[if_pos (eqPK_iff.2 hj),if_pos hj]
   ·rw[if_neg (fun e=>hj (eqPK_iff.1 e)),if_neg hj,if_neg (fun e=>hj (eqPK_iff.1 e))]
  ·rw[if_neg hk]
   simp only[pGet]
   by_cases hj:eqPK j i=true
   ·rw[if_pos hj,if_pos hj]
    obtain rfl:=eqPK_iff.1 hj
    rw[if_neg (fun e=>hk (eqPK_iff.2 e.symm))]
   ·rw[if_neg hj,if_neg hj,ih]
theorem any_mem{k:PK}{l:List PK}:l.any (eqPK k)=true↔k∈l:=by
 rw[List.any_eq_true]
 constructor
 ·rintro⟨x,h1,h2⟩;rw[eqPK_iff.1 h2];exact h1
 ·intro h;exact⟨k,h,eqPK_iff.2 rfl⟩
theorem pKeys_set(k:PK)(v:Int):∀m:List (PK×Int),pKeys (pSet k v m)=if (pKeys m).any (eqPK k) then pKeys m else pKeys m++[k]
 |[]=>by simp[pSet,pKeys]
 |(i,u)::r=>by
  have ih:=pKeys_set k v r
  simp only[pSet]
  have e2:pKeys ((i,u)::r)=i::pKeys r:=rfl
  by_cases hk:eqPK k i=true
  ·rw[if_pos hk,e2,List.any_cons,hk,Bool.true_or,if_pos rfl]
   rfl
  ·rw[if_neg hk]
   have hf:eqPK k i=false:=by simpa using hk
   have e1:pKeys ((i,u)::pSet k v r)=i::pKeys (pSet k v r):=rfl
   rw[e1,e2,ih,List.any_cons,hf,Bool.false_or]
   split<;>rfl
end Go.Abs.Tz
namespace Go.Abs.Tz
open Go Go.Abs Go.Proofs
set_option maxRecDepth 20000
set_option linter.unusedSimpArgs false
attribute [local simp ↓] getP_nil getP_node setP_nil setP_node oneP_eq vP_map vP_some vP_none vP_bind eP_some bP_true bP_false gP_yes gP_tf gP_ft gP_tup runP_skip runP_ops runP_drw runP_seq runP_cond runP_blk runP_loop runP_exit runP_ret seqK_n seqK_r seqK_e seqK_p blkK_n blkK_r blkK_e blkK_p loopK_n loopK_r loopK_e loopK_p finK_n finK_r finK_p resP_one resP_two resP_three resP_nil resP_c nxP_nil argsP_nil argsP_cons evP_t evP_c evP_g evsP_nil evsP_cons clP_fn pnP_i opsP_nil opsP_d opsP_x opsP_gt opsP_gf opP_cf opP_cl opP_pn opP_nx valP_mv valP_pk valP_eq valP_bn valP_nt valP_ld valP_fa valP_fd valP_ia valP_ix valP_ln valP_srn valP_srl valP_srh valP_srb valP_cv valP_mi valP_mf valP_xt valP_bs valP_bd valP_nc valP_mn valP_lk valP_ta opP_mv opP_pk opP_eq opP_bn opP_nt opP_ld opP_fa opP_fd opP_ia opP_ix opP_ln opP_sr opP_cv opP_mi opP_mf opP_xt opP_bs opP_bd opP_nc opP_mn opP_lk opP_ta opP_al opP_bx opP_st opP_ap opP_mk opP_nb opP_mu opP_rg opP_en pendP_nil pendP_d pendP_g drwP_nil drwP_d drwP_x drwP_gt drwP_gf look_self natOf_nat
attribute [local simp] faL fdL iaL ixL loadL partL lenL eqK eqL natOf eqB_s eqB_i eqB_b bn_add bn_sub bn_lss bn_leq bn_gtr bn_geq bn_adds bn_lsss bn_gtrs bn_leqs bn_geqs sliceL LV.cells LV.whole look_self put_self putO_self put_eq stL fillL termC dopP LHeap.alloc oneI oneS oneB nth0 nth1 nth2 nth3 nth4 nth5 nth6 nth7 nth8 nth9 look_ne putO_ne
def ofA(a:Atom):PK:=(a.pred,a.args.length)
def initLit(m:List (PK×Int))(x:Lit):List (PK×Int):=if decide (x.kind=1)||decide (x.kind=2) then pSet (ofA x.atom) 0 m else m
def initCl(m:List (PK×Int))(c:Clause):List (PK×Int):=c.body.foldl initLit (pSet (ofA c.head) 0 m)
theorem muP{o:Nat}{m:List (PK×Int)}{ob:List (Nat×LObj)}{nx:Nat}(hl:look o ob=some (.map (encP m)))(k:PK)(v:Int):
  muL ⟨ob,nx⟩ (.st [1,0]) (.map o) (keyL k) (LV.int v)=some ⟨putO o (.map (encP (pSet k v m))) ob,nx⟩:=by
 have hs:eqK (.st [1,0]) (keyL k) (keyL k)=some true:=by rw[eqK_PK,eqPK_iff.2 rfl]
 have h2:=setL_encP k v m
 simp only[muL,hl]
 rw[hs,h2]
 rfl
structure NNP where
 i:Nat
 n:Nat
 m:List (PK×Int)
def i77:BCode:=match b87.body with
 |.seq _ (.seq _ (.seq x _))=>x
 |_=>.bad
theorem t_init(l:List Clause)(hl:l.length<2^40)(hb:∀c∈l,c.body.length<2^40)(o:Nat)(m0:List (PK×Int))(ob:List (Nat×LObj))(nx:Nat)(ho:look o ob=some (.map (encP m0))):
  lP E0 F0 i77 (.nd (clausesL l) (.nd .bot (.nd (.bool false) .nil .nil) .nil) (.nd (.sc (.map none)) (.nd (.map o) .nil .nil) .nil)) ⟨ob,nx⟩ (fun e t' H'=>e=.normal/\FT.Le (.nd (clausesL l) (.nd .bot (.nd (.bool false) .nil .nil) .nil) (.nd (.sc (.map none)) (.nd (.map o) .nil .nil) .nil)) t'/\∃n,nx<=n/\HWk H' ⟨putO o (.map (encP (l.foldl initCl m0))) ob,n⟩/\(H'.Ok->LHeap.Ok ⟨putO o (.map (encP (l.foldl initCl m0))) ob,n⟩)):=by
 refine lP_of_run ?_
 simp(disch:=omega)[i77,b87]
 obtain⟨R,hR⟩:∃R,l.foldl initCl m0=R:=⟨_,rfl⟩
 rw[hR]
 refine lP_enter (σ:=NNP) (fun q=>(.nd (clausesL l) (.nd .bot (.nd (.bool false) .nil (.nd .bot (.nd (.int q.i) .nil .nil) .nil)) (.nd .bot (.nd .bot (.nd (clausesL l) .nil .nil) .nil) .nil)) (.nd (.sc (.map none)) (.nd (.map o) .nil .nil) (.nd .bot (.nd .bot (.nd (.int l.length) .nil .nil) .nil) .nil)))) (fun q=>⟨putO o (.map (encP q.m)) ob,q.n⟩) (fun q=>l.length - q.i)
  (fun q=>nx<=q.n/\q.i<=l.length/\(l.drop q.i).foldl initCl q.m=R) ⟨0,nx,m0⟩ ⟨Nat.le_refl _,Nat.zero_le _,hR⟩ (by simp[FT.Le,Wk]) ?_ ?_
 ·dsimp only;rw[putO_same ho];exact⟨HWk.refl _,fun h=>h⟩
 rintro⟨i,n,m⟩ ⟨hn,hi,he⟩ hok
 dsimp only at hn hi he hok
 by_cases hlt:i<l.length
 case neg=>
  rw[List.drop_eq_nil_of_le (by omega)]at he
  simp only[List.foldl_nil]at he
  subst he
  simp(disch:=omega)[hlt]
  exact⟨by simp[FT.Le,Wk],n,hn,HWk.refl _,fun h=>h⟩
 rw[List.drop_eq_getElem_cons hlt,List.foldl_cons]at he
 have hon:o<n:=by
  have h2:LHeap.Ok ⟨putO o (.map (encP m)) ob,n⟩:=hok
  exact h2.look (look_putO ho)
 have hself:∀k:PK,eqK (.st [1,0]) (keyL k) (keyL k)=some true:=fun k=>by rw[eqK_PK,eqPK_iff.2 rfl]
 simp(disch:=omega)[hlt]
 refine(t_of l[i].head).go fun n1 h1=>?_
 simp(disch:=omega)
 have hmu:=muP (nx:=n1) (ob:=(n,.cells [.str l[i].head.pred,argsL l[i].head.args,bodyL l[i].body])::putO o (.map (encP m)) ob) (o:=o) (m:=m) (by rw[look_ne (by omega)];exact look_putO ho) (ofA l[i].head) 0
 rw[show muL ⟨(n,.cells [.str l[i].head.pred,argsL l[i].head.args,bodyL l[i].body])::putO o (.map (encP m)) ob,n1⟩ (.st [1,0]) (.map o) (.agg [.str l[i].head.pred,.int l[i].head.args.length]) (Z 0)=_ from hmu]
 simp(disch:=omega)[putO_putO]
 have hHe:∀m':List (PK×Int),LHeap.Ok ⟨putO o (.map (encP m')) ob,n⟩:=fun m'=>by
  have:=Desc.put (i:=o) (o:=.map (encP m')) (show Desc (putO o (.map (encP m)) ob) n from hok)
  rwa [putO_putO]at this
 obtain⟨W,hW⟩:∃W,initCl m l[i]=W:=⟨_,rfl⟩
 rw[hW]at he
 have hbl:=hb _ (mem_at hlt)
 refine lP_enter (σ:=NNP) (fun q=>(.nd (clausesL l) (.nd .bot (.nd (.bool false) .nil (.nd .bot (.nd (.int i) .nil .nil) .nil)) (.nd .bot (.nd .bot (.nd (clausesL l) .nil .nil) .nil) (.nd .bot .nil (.nd (.int l[i].body.length) .nil .nil)))) (.nd (.sc (.map none)) (.nd (.map o) .nil (.nd .bot .nil (.nd (bodyL l[i].body) .nil .nil))) (.nd .bot (.nd .bot (.nd (.int l.length) .nil .nil) .nil) (.nd .bot .nil (.nd (.int q.i) .nil .nil)))))) (fun q=>⟨putO o (.map (encP q.m)) ob,q.n⟩) (fun q=>l[i].body.length - q.i)
  (fun q=>n<=q.n/\q.i<=l[i].body.length/\(l[i].body.drop q.i).foldl initLit q.m=W) ⟨0,n1,pSet (ofA l[i].head) 0 m⟩ ⟨by dsimp only;omega,Nat.zero_le _,hW⟩ (by simp[FT.Le,Wk]) (back (hHe _) (by first|exact HExt.refl' _|(repeat (first|exact HExt.refl (by first|omega|(dsimp only;omega))|refine HExt.cons' (hHe _) (by first|omega|(dsimp only;omega)) (by first|omega|(dsimp only;omega)) ?_)))) ?_
 rintro⟨j,n2,m2⟩ ⟨hn2,hj,he2⟩ hok2
 dsimp only at hn2 hj he2 hok2
 by_cases hlt2:j<l[i].body.length
 case neg=>
  rw[List.drop_eq_nil_of_le (by omega)]at he2
  simp only[List.foldl_nil]at he2
  subst he2
  simp(disch:=omega)[hlt2,wrap_nat (show i<2^62 by omega)]
  exact⟨⟨i+1,n2,m2⟩,by dsimp only;omega,⟨by dsimp only;omega,by dsimp only;omega,he⟩,by simp[FT.Le,Wk],HWk.refl _,fun h=>h⟩
 rw[List.drop_eq_getElem_cons hlt2,List.foldl_cons]at he2
 have step:∀k:Int,l[i].body[j].kind=k->k=1\/k=2->(l[i].body.drop (j+1)).foldl initLit (pSet (ofA l[i].body[j].atom) 0 m2)=W:=by
  intro k hk h12
  rw[<-he2]
  congr 1
  unfold initLit
  rcases h12 with rfl|rfl<;>simp[hk]
 by_cases h12:l[i].body[j].kind=1\/l[i].body[j].kind=2
 ·rcases h12 with hk|hk
  all_goals
   simp(disch:=omega)[hlt2,hk]
   refine(t_of l[i].body[j].atom).go fun n3 h3=>?_
   simp(disch:=omega)
   have hmu:∀x:LObj,muL ⟨(n2,x)::putO o (.map (encP m2)) ob,n3⟩ (.st [1,0]) (.map o) (.agg [.str l[i].body[j].atom.pred,.int l[i].body[j].atom.args.length]) (Z 0)=some ⟨putO o (.map (encP (pSet (ofA l[i].body[j].atom) 0 m2))) ((n2,x)::putO o (.map (encP m2)) ob),n3⟩:=
    fun x=>muP (by rw[look_ne (by omega)];exact look_putO ho) (ofA l[i].body[j].atom) 0
   rw[hmu]
   simp(disch:=omega)[putO_putO,wrap_nat (show j<2^62 by omega)]
   exact⟨⟨j+1,n3,pSet (ofA l[i].body[j].atom) 0 m2⟩,by dsimp only;omega,⟨by dsimp only;omega,by dsimp only;omega,step _ hk (by omega)⟩,by simp[FT.Le,Wk],back (hHe _) (by first|exact HExt.refl' _|(repeat (first|exact HExt.refl (by first|omega|(dsimp only;omega))|refine HExt.cons' (hHe _) (by first|omega|(dsimp only;omega)) (by first|omega|(dsimp only;omega)) ?_)))⟩
 ·have h1':¬l[i].body[j].kind=1:=fun e=>h12 (.inl e)
  have h2':¬l[i].body[j].kind=2:=fun e=>h12 (.inr e)
  simp(disch:=omega)[hlt2,h1',h2',wrap_nat (show j<2^62 by omega)]
  refine⟨⟨j+1,n2+1,m2⟩,by dsimp only;omega,⟨by dsimp only;omega,by dsimp only;omega,?_⟩,by simp[FT.Le,Wk],back (hHe _) (by first|exact HExt.refl' _|(repeat (first|exact HExt.refl (by first|omega|(dsimp only;omega))|refine HExt.cons' (hHe _) (by first|omega|(dsimp only;omega)) (by first|omega|(dsimp only;omega)) ?_)))⟩
  rw[<-he2]
  simp[initLit,h1',h2']
theorem lkP{o:Nat}{m:List (PK×Int)}{ob:List (Nat×LObj)}{nx:Nat}(hl:look o ob=some (.map (encP m)))(k:PK):
  lkL ⟨ob,nx⟩ (.st [1,0]) false (Z 0) (.map o) (keyL k)=some (LV.int (pVal m k)):=by
 have hs:eqK (.st [1,0]) (keyL k) (keyL k)=some true:=by rw[eqK_PK,eqPK_iff.2 rfl]
 have h2:=findL_encP k m
 unfold lkL
 rw[hs]
 simp only[Option.isSome_some,if_true,hl]
 rw[h2]
 unfold pVal
 cases pGet k m<;>rfl
def lstL(m:List (PK×Int))(x:Lit):Int:=if x.kind=1 then pVal m (ofA x.atom) else if x.kind=2 then pVal m (ofA x.atom)+1 else -1
def litStep(h:PK)(s:List (PK×Int)×Bool)(x:Lit):List (PK×Int)×Bool:=if pVal s.1 h<lstL s.1 x then (pSet h (lstL s.1 x) s.1,true) else s
def clStep(s:List (PK×Int)×Bool)(c:Clause):List (PK×Int)×Bool:=c.body.foldl (litStep (ofA c.head)) s
def rndL:List Clause->List (PK×Int)×Bool->Option (List (PK×Int)×Bool)
 |[],s=>some s
 |c::r,s=>if ((clStep s c).1.length:Int)<pVal (clStep s c).1 (ofA c.head) then none else rndL r (clStep s c)
def levN(l:List Clause):Nat->List (PK×Int)->Option (Option (List (PK×Int)))
 |0,_=>none
 |n+1,m=>match rndL l (m,false) with
  |none=>some none
  |some (m',true)=>levN l n m'
  |some (m',false)=>some (some m')
def InP(m:List (PK×Int))(N:Int):Prop:=∀k,0<=pVal m k/\pVal m k<=N
theorem pVal_set(k j:PK)(v:Int)(m:List (PK×Int)):pVal (pSet k v m) j=if j=k then v else pVal m j:=by
 unfold pVal
 rw[pGet_set]
 split<;>rfl
theorem pKeys_in{k:PK}{v:Int}{m:List (PK×Int)}(h:k∈pKeys m):pKeys (pSet k v m)=pKeys m:=by
 rw[pKeys_set,if_pos (any_mem.2 h)]
theorem lstL_le{m:List (PK×Int)}{N:Int}(h:InP m N)(x:Lit):lstL m x<=N+1:=by
 have h1:=h (ofA x.atom)
 unfold lstL
 repeat' split
 all_goals omega
theorem litStep_keys{h:PK}{s:List (PK×Int)×Bool}{x:Lit}(hk:h∈pKeys s.1):pKeys (litStep h s x).1=pKeys s.1:=by
 unfold litStep
 split
 ·exact pKeys_in hk
 ·rfl
theorem litStep_in{h:PK}{s:List (PK×Int)×Bool}{x:Lit}{N:Int}(hk:InP s.1 N):InP (litStep h s x).1 (N+1):=by
 intro k
 have h1:=hk k
 have h2:=lstL_le hk x
 have h3:=hk h
 unfold litStep
 split
 ·dsimp only
  rw[pVal_set]
  split<;>omega
 ·omega
def InQ(h:PK)(m:List (PK×Int))(N M:Int):Prop:=∀k,0<=pVal m k/\(k≠h->pVal m k<=N)/\pVal m k<=M
theorem litStep_inQ{h:PK}{s:List (PK×Int)×Bool}{x:Lit}{N M:Int}(hk:InQ h s.1 N M):InQ h (litStep h s x).1 N (M+1):=by
 intro k
 have h1:=hk k
 have h3:=hk h
 have h2:lstL s.1 x<=M+1:=by
  have:=hk (ofA x.atom)
  unfold lstL
  repeat' split
  all_goals omega
 unfold litStep
 split
 ·dsimp only
  rw[pVal_set]
  split
  ·rename_i e;subst e;exact⟨by omega,fun h=>absurd rfl h,by omega⟩
  ·exact⟨h1.1,h1.2.1,by omega⟩
 ·exact⟨h1.1,h1.2.1,by omega⟩
structure NNQ where
 i:Nat
 n:Nat
 m:List (PK×Int)
 ch:Bool
structure NNW where
 f:Nat
 n:Nat
 m:List (PK×Int)
 ch:Bool
def w77:BCode:=match b87.body with
 |.seq _ (.seq _ (.seq _ (.seq x _)))=>x
 |_=>.bad
theorem pKeys_len(m:List (PK×Int)):(pKeys m).length=m.length:=List.length_map ..
def okR(o:Nat)(ob:List (Nat×LObj))(nx:Nat)(R:Option (List (PK×Int))):XP:=fun e t' H'=>∃(n:Nat)(m1:List (PK×Int)),nx<=n/\HWk H' ⟨putO o (.map (encP m1)) ob,n⟩/\(H'.Ok->LHeap.Ok ⟨putO o (.map (encP m1)) ob,n⟩) /\
 ((R=none/\e=.ret/\FT.Le (.nd .bot (.nd .bot (.nd (.bool false) .nil .nil) .nil) (.nd (.sc (.map none)) .nil .nil)) t')\/(R=some m1/\e=.normal/\FT.Le (.nd .bot .nil (.nd .bot (.nd (.map o) .nil .nil) .nil)) t'))
theorem t_while(l:List Clause)(hl:l.length<2^40)(hb:∀c∈l,c.body.length<2^40)(V:List PK)(hN:V.length<2^40)(hh:∀c∈l,ofA c.head∈V)(m0:List (PK×Int))(hk0:pKeys m0=V)(hi0:InP m0 V.length)(fuel:Nat)(R:Option (List (PK×Int)))(hR:levN l fuel m0=some R)
  (o:Nat) (x0:LObj) (ob:List (Nat×LObj)) (nx:Nat) (ho:look o ob=some x0):
  lP E0 F0 w77 (.nd (clausesL l) (.nd .bot (.nd (.bool false) .nil .nil) .nil) (.nd (.sc (.map none)) (.nd (.map o) .nil .nil) .nil)) ⟨putO o (.map (encP m0)) ob,nx⟩ (okR o ob nx R):=by
 refine lP_of_run ?_
 simp(disch:=omega)[w77,b87]
 refine lP_enter (σ:=NNW) (fun q=>(.nd (clausesL l) (.nd .bot (.nd (.bool false) .nil .nil) (.nd .bot (.nd (.bool q.ch) .nil .nil) .nil)) (.nd (.sc (.map none)) (.nd (.map o) .nil .nil) .nil))) (fun q=>⟨putO o (.map (encP q.m)) ob,q.n⟩) (fun q=>if q.ch then q.f+1 else 0)
  (fun q=>nx<=q.n/\pKeys q.m=V/\InP q.m V.length/\(q.ch=true->levN l q.f q.m=some R)/\(q.ch=false->R=some q.m)) ⟨fuel,nx,m0,true⟩ ⟨Nat.le_refl _,hk0,hi0,fun _=>hR,fun h=>(by cases h)⟩ (by simp[FT.Le,Wk]) ⟨HWk.refl _,fun h=>h⟩ ?_
 rintro⟨f,n,m,ch⟩ ⟨hn,hk,hin,h1,h2⟩ hok
 dsimp only at hn hk hin h1 h2 hok
 cases ch
 ·simp(disch:=omega)
  exact⟨n,m,hn,HWk.refl _,fun h=>h,.inr ⟨h2 rfl,rfl,by simp[FT.Le,Wk]⟩⟩
 have h1:=h1 rfl
 cases f with
 |zero=>cases h1
 |succ f=>
 simp only[levN]at h1
 obtain⟨Q,hQ⟩:∃Q,rndL l (m,false)=Q:=⟨_,rfl⟩
 rw[hQ]at h1
 simp(disch:=omega)
 refine lP_enter (σ:=NNQ) (fun q=>(.nd (clausesL l) (.nd .bot (.nd (.bool false) .nil (.nd .bot (.nd .bot .nil (.nd (.int q.i) .nil .nil)) .nil)) (.nd .bot (.nd (.bool q.ch) (.nd .bot .nil (.nd (clausesL l) .nil .nil)) .nil) .nil)) (.nd (.sc (.map none)) (.nd (.map o) .nil .nil) (.nd .bot (.nd .bot (.nd .bot .nil (.nd (.int l.length) .nil .nil)) .nil) .nil)))) (fun q=>⟨putO o (.map (encP q.m)) ob,q.n⟩) (fun q=>l.length - q.i)
  (fun q=>n<=q.n/\q.i<=l.length/\pKeys q.m=V/\InP q.m V.length/\rndL (l.drop q.i) (q.m,q.ch)=Q) ⟨0,n,m,false⟩ ⟨Nat.le_refl _,Nat.zero_le _,hk,hin,hQ⟩ (by simp[FT.Le,Wk]) ⟨HWk.refl _,fun h=>h⟩ ?_
 rintro⟨i,n2,m2,ch2⟩ ⟨hn2,hi,hk2,hin2,he⟩ hok2
 dsimp only at hn2 hi hk2 hin2 he hok2
 by_cases hlt:i<l.length
 case neg=>
  rw[List.drop_eq_nil_of_le (by omega)]at he
  simp only[rndL]at he
  subst he
  simp(disch:=omega)[hlt]
  cases ch2
  ·simp only[Option.some.injEq]at h1
   exact⟨⟨f,n2,m2,false⟩,by simp,⟨by dsimp only;omega,hk2,hin2,fun h=>(by cases h),fun _=>h1.symm⟩,by simp[FT.Le,Wk],HWk.refl _,fun h=>h⟩
  ·exact⟨⟨f,n2,m2,true⟩,by simp,⟨by dsimp only;omega,hk2,hin2,fun _=>h1,fun h=>(by cases h)⟩,by simp[FT.Le,Wk],HWk.refl _,fun h=>h⟩
 rw[List.drop_eq_getElem_cons hlt]at he
 simp only[rndL]at he
 have hon:o<n2:=by
  have h2:LHeap.Ok ⟨putO o (.map (encP m2)) ob,n2⟩:=hok2
  exact h2.look (look_putO ho)
 have hHe:∀m':List (PK×Int),LHeap.Ok ⟨putO o (.map (encP m')) ob,n2⟩:=fun m'=>by
  have:=Desc.put (i:=o) (o:=.map (encP m')) (show Desc (putO o (.map (encP m2)) ob) n2 from hok2)
  rwa [putO_putO]at this
 have hbl:=hb _ (mem_at hlt)
 have hhd:=hh _ (mem_at hlt)
 have hself:∀k:PK,eqK (.st [1,0]) (keyL k) (keyL k)=some true:=fun k=>by rw[eqK_PK,eqPK_iff.2 rfl]
 simp(disch:=omega)[hlt]
 refine(t_of l[i].head).x (bel_of _) ?_
 simp(disch:=omega)
 obtain⟨W,hW⟩:∃W,clStep (m2,ch2) l[i]=W:=⟨_,rfl⟩
 rw[hW]at he
 have hok3:∀m':List (PK×Int),LHeap.Ok ⟨(n2+1,.cells [.str l[i].head.pred,.int l[i].head.args.length])::(n2,.cells [.str l[i].head.pred,argsL l[i].head.args,bodyL l[i].body])::putO o (.map (encP m')) ob,n2+1+1⟩:=fun m'=>⟨Nat.lt_succ_self _,Nat.lt_succ_self _,hHe m'⟩
 refine lP_enter (σ:=NNQ) (fun q=>(.nd (clausesL l) (.nd .bot (.nd (.bool false) .nil (.nd .bot (.nd .bot .nil (.nd (.int i) .nil .nil)) (.nd .bot .nil (.nd (bodyL l[i].body) .nil .nil)))) (.nd .bot (.nd (.bool q.ch) (.nd .bot .nil (.nd (clausesL l) .nil .nil)) .nil) (.nd .bot .nil (.nd .bot .nil (.nd (.int q.i) .nil .nil))))) (.nd (.sc (.map none)) (.nd (.map o) .nil (.nd (.ptr (n2+1) 0) .nil (.nd .bot .nil (.nd (.int l[i].body.length) .nil .nil)))) (.nd .bot (.nd .bot (.nd .bot .nil (.nd (.int l.length) .nil .nil)) .nil) .nil))))
  (fun q=>⟨(n2+1,.cells [.str l[i].head.pred,.int l[i].head.args.length])::(n2,.cells [.str l[i].head.pred,argsL l[i].head.args,bodyL l[i].body])::putO o (.map (encP q.m)) ob,q.n⟩) (fun q=>l[i].body.length - q.i)
  (fun q=>n2+1+1<=q.n/\q.i<=l[i].body.length/\pKeys q.m=V/\InQ (ofA l[i].head) q.m V.length (V.length+q.i)/\(l[i].body.drop q.i).foldl (litStep (ofA l[i].head)) (q.m,q.ch)=W) ⟨0,n2+1+1,m2,ch2⟩
  ⟨Nat.le_refl _,Nat.zero_le _,hk2,fun k=>⟨(hin2 k).1,fun _=>(hin2 k).2,by have:=(hin2 k).2;dsimp only;omega⟩,hW⟩ (by simp[FT.Le,Wk]) ⟨HWk.refl _,fun h=>h⟩ ?_
 rintro⟨j,n3,m3,ch3⟩ ⟨hn3,hj,hk3,hin3,he3⟩ hok4
 dsimp only at hn3 hj hk3 hin3 he3 hok4
 have hlo:look o (putO o (.map (encP m3)) ob)=some (.map (encP m3)):=look_putO ho
 have hlk:∀(a:Atom)(n:Nat)(r:List (Nat×LObj)),look o r=some (.map (encP m3))->lkL ⟨r,n⟩ (.st [1,0]) false (Z 0) (.map o) (.agg [.str a.pred,.int a.args.length])=some (LV.int (pVal m3 (ofA a))):=
  fun a n r hr=>lkP hr (ofA a)
 have hln:m3.length=V.length:=by rw[<-hk3,pKeys_len]
 by_cases hlt2:j<l[i].body.length
 case neg=>
  rw[List.drop_eq_nil_of_le (by omega)]at he3
  simp only[List.foldl_nil]at he3
  subst he3
  dsimp only at he
  rw[hln]at he
  simp(disch:=omega)[hlt2]
  rw[hlk _ _ _ (by rw[look_ne (by omega),look_ne (by omega)];exact hlo)]
  simp(disch:=omega)[hlo,hln]
  by_cases hgt:(V.length:Int)<pVal m3 (ofA l[i].head)
  ·rw[if_pos hgt]at he
   subst he
   simp only[Option.some.injEq]at h1
   simp(disch:=omega)[hgt]
   have hbk:=back (hHe m3) (l:=(n2+1,.cells [.str l[i].head.pred,.int l[i].head.args.length])::(n2,.cells [.str l[i].head.pred,argsL l[i].head.args,bodyL l[i].body])::putO o (.map (encP m3)) ob) (n:=n3) (by first|exact HExt.refl' _|(repeat (first|exact HExt.refl (by first|omega|(dsimp only;omega))|refine HExt.cons' (hHe _) (by first|omega|(dsimp only;omega)) (by first|omega|(dsimp only;omega)) ?_)))
   exact⟨n3,m3,by omega,hbk.1,hbk.2,.inl ⟨h1.symm,rfl,by simp[FT.Le,Wk]⟩⟩
  ·rw[if_neg hgt]at he
   simp(disch:=omega)[hgt,wrap_nat (show i<2^62 by omega)]
   refine⟨⟨i+1,n3,m3,ch3⟩,by dsimp only;omega,⟨by dsimp only;omega,by dsimp only;omega,hk3,fun k=>⟨(hin3 k).1,?_⟩,he⟩,by simp[FT.Le,Wk],back (hHe m3) (by first|exact HExt.refl' _|(repeat (first|exact HExt.refl (by first|omega|(dsimp only;omega))|refine HExt.cons' (hHe _) (by first|omega|(dsimp only;omega)) (by first|omega|(dsimp only;omega)) ?_)))⟩
   by_cases hkh:k=ofA l[i].head
   ·rw[hkh];dsimp only;omega
   ·exact(hin3 k).2.1 hkh
 rw[List.drop_eq_getElem_cons hlt2,List.foldl_cons]at he3
 have hpv:∀k:PK,0<=pVal m3 k/\pVal m3 k<2^42:=fun k=>⟨(hin3 k).1,by have:=(hin3 k).2.2;omega⟩
 have hmu:∀(v:Int)(n:Nat)(r:List (Nat×LObj)),look o r=some (.map (encP m3))->muL ⟨r,n⟩ (.st [1,0]) (.map o) (.agg [.str l[i].head.pred,.int l[i].head.args.length]) (LV.int v)=some ⟨putO o (.map (encP (pSet (ofA l[i].head) v m3))) r,n⟩:=
  fun v n r hr=>muP hr (ofA l[i].head) v
 have hinS:=litStep_inQ (h:=ofA l[i].head) (s:=(m3,ch3)) (x:=l[i].body[j]) hin3
 have hkS:=litStep_keys (h:=ofA l[i].head) (s:=(m3,ch3)) (x:=l[i].body[j]) (by dsimp only;rw[hk3];exact hhd)
 dsimp only at hinS hkS
 rw[hk3]at hkS
 have hc:(V.length:Int)+(j:Int)+1=V.length+((j+1:Nat):Int):=by omega
 rw[hc]at hinS
 obtain⟨v,hv⟩:∃v,lstL m3 l[i].body[j]=v:=⟨_,rfl⟩
 have hst:litStep (ofA l[i].head) (m3,ch3) l[i].body[j]=if pVal m3 (ofA l[i].head)<v then (pSet (ofA l[i].head) v m3,true) else (m3,ch3):=by
  unfold litStep;dsimp only;rw[hv]
 have hokN:∀m':List (PK×Int),LHeap.Ok ⟨(n2+1,.cells [.str l[i].head.pred,.int l[i].head.args.length])::(n2,.cells [.str l[i].head.pred,argsL l[i].head.args,bodyL l[i].body])::putO o (.map (encP m')) ob,n3⟩:=fun m'=>⟨by show n2+1<n3;omega,Nat.lt_succ_self _,hHe m'⟩
 by_cases hk1:l[i].body[j].kind=1
 ·have hv':pVal m3 (ofA l[i].body[j].atom)=v:=by rw[<-hv];simp[lstL,hk1]
  simp(disch:=omega)[hlt2,hk1]
  refine(t_of l[i].body[j].atom).x (bel_of _) ?_
  simp(disch:=omega)
  rw[hlk _ _ _ (by rw[look_ne (by omega),look_ne (by omega),look_ne (by omega)];exact hlo)]
  simp(disch:=omega)
  rw[hv']
  rw[hlk _ _ _ (by repeat (first|exact hlo|rw[look_ne (by omega)]))]
  simp(disch:=omega)
  by_cases hlt3:pVal m3 (ofA l[i].head)<v
  ·rw[if_pos hlt3]at hst
   rw[hst]at hinS hkS he3
   simp(disch:=omega)[hlt3]
   rw[hmu _ _ _ (by repeat (first|exact hlo|rw[look_ne (by omega)]))]
   simp(disch:=omega)[putO_putO,wrap_nat (show j<2^62 by omega)]
   exact⟨⟨j+1,n3+1,pSet (ofA l[i].head) v m3,true⟩,by dsimp only;omega,⟨by dsimp only;omega,by dsimp only;omega,hkS,hinS,he3⟩,by simp[FT.Le,Wk],back (hokN _) (by first|exact HExt.refl' _|(repeat (first|exact HExt.refl (by first|omega|(dsimp only;omega))|refine HExt.cons' (hokN _) (by first|omega|(dsimp only;omega)) (by first|omega|(dsimp only;omega)) ?_)))⟩
  ·rw[if_neg hlt3]at hst
   rw[hst]at hinS hkS he3
   simp(disch:=omega)[hlt3,wrap_nat (show j<2^62 by omega)]
   exact⟨⟨j+1,n3+1,m3,ch3⟩,by dsimp only;omega,⟨by dsimp only;omega,by dsimp only;omega,hkS,hinS,he3⟩,by simp[FT.Le,Wk],back (hokN _) (by first|exact HExt.refl' _|(repeat (first|exact HExt.refl (by first|omega|(dsimp only;omega))|refine HExt.cons' (hokN _) (by first|omega|(dsimp only;omega)) (by first|omega|(dsimp only;omega)) ?_)))⟩
 by_cases hk2':l[i].body[j].kind=2
 ·have hv':pVal m3 (ofA l[i].body[j].atom)+1=v:=by rw[<-hv];simp[lstL,hk2']
  have hpo:=hpv (ofA l[i].body[j].atom)
  simp(disch:=omega)[hlt2,hk1,hk2']
  refine(t_of l[i].body[j].atom).x (bel_of _) ?_
  simp(disch:=omega)
  rw[hlk _ _ _ (by rw[look_ne (by omega),look_ne (by omega),look_ne (by omega)];exact hlo)]
  simp(disch:=omega)[hv',wrap_id]
  rw[hlk _ _ _ (by repeat (first|exact hlo|rw[look_ne (by omega)]))]
  simp(disch:=omega)
  by_cases hlt3:pVal m3 (ofA l[i].head)<v
  ·rw[if_pos hlt3]at hst
   rw[hst]at hinS hkS he3
   simp(disch:=omega)[hlt3]
   rw[hmu _ _ _ (by repeat (first|exact hlo|rw[look_ne (by omega)]))]
   simp(disch:=omega)[putO_putO,wrap_nat (show j<2^62 by omega)]
   exact⟨⟨j+1,n3+1,pSet (ofA l[i].head) v m3,true⟩,by dsimp only;omega,⟨by dsimp only;omega,by dsimp only;omega,hkS,hinS,he3⟩,by simp[FT.Le,Wk],back (hokN _) (by first|exact HExt.refl' _|(repeat (first|exact HExt.refl (by first|omega|(dsimp only;omega))|refine HExt.cons' (hokN _) (by first|omega|(dsimp only;omega)) (by first|omega|(dsimp only;omega)) ?_)))⟩
  ·rw[if_neg hlt3]at hst
   rw[hst]at hinS hkS he3
   simp(disch:=omega)[hlt3,wrap_nat (show j<2^62 by omega)]
   exact⟨⟨j+1,n3+1,m3,ch3⟩,by dsimp only;omega,⟨by dsimp only;omega,by dsimp only;omega,hkS,hinS,he3⟩,by simp[FT.Le,Wk],back (hokN _) (by first|exact HExt.refl' _|(repeat (first|exact HExt.refl (by first|omega|(dsimp only;omega))|refine HExt.cons' (hokN _) (by first|omega|(dsimp only;omega)) (by first|omega|(dsimp only;omega)) ?_)))⟩
 ·have hv':v=-1:=by rw[<-hv];simp[lstL,hk1,hk2']
  simp(disch:=omega)[hlt2,hk1,hk2',wrap_id]
  rw[hlk _ _ _ (by repeat (first|exact hlo|rw[look_ne (by omega)]))]
  have hlt3:¬pVal m3 (ofA l[i].head) < -1:=by have:=(hpv (ofA l[i].head)).1;omega
  rw[if_neg (by rw[hv'];exact hlt3)]at hst
  rw[hst]at hinS hkS he3
  simp(disch:=omega)[hlt3,wrap_nat (show j<2^62 by omega)]
  exact⟨⟨j+1,n3+1,m3,ch3⟩,by dsimp only;omega,⟨by dsimp only;omega,by dsimp only;omega,hkS,hinS,he3⟩,by simp[FT.Le,Wk],back (hokN _) (by first|exact HExt.refl' _|(repeat (first|exact HExt.refl (by first|omega|(dsimp only;omega))|refine HExt.cons' (hokN _) (by first|omega|(dsimp only;omega)) (by first|omega|(dsimp only;omega)) ?_)))⟩
end Go.Abs.Tz
namespace Go.Abs
open Go
section
variable{E:Env}{F:Fns}
theorem lP_mono{c:BCode}{t:FT}{H:LHeap}{k k':XP}(h:lP E F c t H k)(hk:∀e t' H',k e t' H'->k' e t' H'):lP E F c t H k':=
 fun hH=>.mono (h hH) fun r hr=>by
  obtain⟨e,t',H',h1,h2,h3⟩:=hr
  exact⟨e,t',H',h1,h2,hk _ _ _ h3⟩
theorem lP_seq{a b:BCode}{t:FT}{H:LHeap}{k:XP}(h:lP E F a t H (seqK (fun t' H'=>lP E F b t' H' k) k)):lP E F (.seq a b) t H k:=by
 intro hH
 refine .seq (h hH) (fun fr df H' hT=>?_) (fun e fr df H' hT hne=>?_)
 ·obtain⟨e,t',H'',he,hok,hk⟩:=hT
  cases he
  exact hk hok
 ·obtain⟨e',t',H'',he,hok,hk⟩:=hT
  cases he
  cases e with
  |normal=>exact absurd rfl hne
  |exit n=>exact⟨_,t',H',rfl,hok,hk⟩
  |ret=>exact⟨_,t',H',rfl,hok,hk⟩
  |pan v=>exact⟨_,t',H',rfl,hok,hk⟩
theorem lP_okH{c:BCode}{t:FT}{H:LHeap}{k:XP}(h:H.Ok->lP E F c t H k):lP E F c t H k:=fun hH=>h hH hH
theorem cP_of_lP{b:BFn}{f:FuncId}{args:List LV}{H:LHeap}{kv kp:HP}(hf:F.fn f b)(hn:args.length<=b.n)
  (h:H.Ok->argsP args 0 .nil fun t=>lP E F b.body t H (finK E b (fun v H'=>∃H'',HWk H' H''/\(H'.Ok->H''.Ok)/\kv v H'') kp)):cP E F f args H kv kp:=by
 intro hH
 obtain⟨t,h1,h2⟩:=argsP_spec (h hH)
 have ht:t.get=frOf args:=by
  funext j
  rw[h2 j]
  simp only[frOf]
  by_cases hj:j<args.length
  ·rw[if_pos (by omega)];simp
  ·rw[if_neg (by omega)]
   have:args[j]? = none:=List.getElem?_eq_none (by omega)
   simp[List.getD_eq_getElem?_getD,this,FT.get_nil]
 have hb:=h1 hH
 rw[ht]at hb
 refine .enter hf hn hb (fun fr df H' hT=>?_) (fun v fr df H' hT=>?_) (fun n fr df H' hT=>?_)
 ·have:∃(t':FT),fr=t'.get/\df=[]/\H'.Ok/\resP E b.res t' H' fun v=>∃H'',HWk H' H''/\(H'.Ok->H''.Ok)/\kv v H'':=by
   rcases hT with⟨e,t',H'',he,hok,hk⟩|⟨e,t',H'',he,hok,hk⟩<;>cases he
   ·exact⟨t',rfl,rfl,hok,hk⟩
   ·exact⟨t',rfl,rfl,hok,hk⟩
  obtain⟨t',rfl,rfl,hok,v,hv,H1,h3,h4,h5⟩:=this
  exact⟨rfl,v,v,H1,hv,.inl rfl,h3,.inl ⟨v,H1,rfl,h4 hok,h5⟩⟩
 ·obtain⟨e,t',H'',he,hok,hk⟩:=hT
  cases he
  exact⟨rfl,v,H',.inl rfl,⟨Nat.le_refl _,fun _ _ h=>h⟩,.inr ⟨v,H',rfl,hok,hk⟩⟩
 ·obtain⟨e,t',H'',he,hok,hk⟩:=hT
  cases he
  cases hk
end
end Go.Abs
namespace Go.Abs.Tz
open Go Go.Abs Go.Proofs
set_option maxRecDepth 20000
set_option linter.unusedSimpArgs false
attribute [local simp ↓] getP_nil getP_node setP_nil setP_node oneP_eq vP_map vP_some vP_none vP_bind eP_some bP_true bP_false gP_yes gP_tf gP_ft gP_tup runP_skip runP_ops runP_drw runP_seq runP_cond runP_blk runP_loop runP_exit runP_ret seqK_n seqK_r seqK_e seqK_p blkK_n blkK_r blkK_e blkK_p loopK_n loopK_r loopK_e loopK_p finK_n finK_r finK_p resP_one resP_two resP_three resP_nil resP_c nxP_nil argsP_nil argsP_cons evP_t evP_c evP_g evsP_nil evsP_cons clP_fn pnP_i opsP_nil opsP_d opsP_x opsP_gt opsP_gf opP_cf opP_cl opP_pn opP_nx valP_mv valP_pk valP_eq valP_bn valP_nt valP_ld valP_fa valP_fd valP_ia valP_ix valP_ln valP_srn valP_srl valP_srh valP_srb valP_cv valP_mi valP_mf valP_xt valP_bs valP_bd valP_nc valP_mn valP_lk valP_ta opP_mv opP_pk opP_eq opP_bn opP_nt opP_ld opP_fa opP_fd opP_ia opP_ix opP_ln opP_sr opP_cv opP_mi opP_mf opP_xt opP_bs opP_bd opP_nc opP_mn opP_lk opP_ta opP_al opP_bx opP_st opP_ap opP_mk opP_nb opP_mu opP_rg opP_en pendP_nil pendP_d pendP_g drwP_nil drwP_d drwP_x drwP_gt drwP_gf look_self natOf_nat
attribute [local simp] faL fdL iaL ixL loadL partL lenL eqK eqL natOf eqB_s eqB_i eqB_b bn_add bn_sub bn_lss bn_leq bn_gtr bn_geq bn_adds bn_lsss bn_gtrs bn_leqs bn_geqs sliceL LV.cells LV.whole look_self put_self putO_self put_eq stL fillL termC dopP LHeap.alloc oneI oneS oneB nth0 nth1 nth2 nth3 nth4 nth5 nth6 nth7 nth8 nth9 look_ne putO_ne
theorem mem_pSet{k j:PK}{v:Int}{m:List (PK×Int)}:j∈pKeys (pSet k v m)↔j=k\/j∈pKeys m:=by
 rw[pKeys_set]
 split
 ·rename_i h
  have:=any_mem.1 h
  constructor
  ·exact .inr
  ·rintro(rfl|h)
   ·exact this
   ·exact h
 ·rw[List.mem_append,List.mem_singleton]
  exact⟨fun h=>h.symm,fun h=>h.symm⟩
theorem nodup_pSet{k:PK}{v:Int}{m:List (PK×Int)}(h:(pKeys m).Nodup):(pKeys (pSet k v m)).Nodup:=by
 rw[pKeys_set]
 split
 ·exact h
 ·rename_i hn
  refine List.nodup_append.2 ⟨h,by simp,fun a ha b hb=>?_⟩
  rw[List.mem_singleton.1 hb]
  rintro rfl
  exact hn (any_mem.2 ha)
def predC(c:Clause):List PK:=ofA c.head::(c.body.filter fun x=>decide (x.kind=1)||decide (x.kind=2)).map fun x=>ofA x.atom
theorem initLit_fold(b:List Lit):∀m:List (PK×Int),(∀k,pVal m k=0)->(∀k,pVal (b.foldl initLit m) k=0)/\((pKeys m).Nodup->(pKeys (b.foldl initLit m)).Nodup) /\
  (∀k,k∈pKeys (b.foldl initLit m)↔k∈pKeys m\/k∈(b.filter fun x=>decide (x.kind=1)||decide (x.kind=2)).map fun x=>ofA x.atom)/\(b.foldl initLit m).length<=m.length+b.length:=by
 induction b with
 |nil=>intro m h;exact⟨h,id,fun k=>by simp,Nat.le_refl _⟩
 |cons x b ih=>
  intro m h
  rw[List.foldl_cons,List.filter_cons]
  have hx:∀k,pVal (initLit m x) k=0:=by
   intro k
   unfold initLit
   split
   ·rw[pVal_set];split
    ·rfl
    ·exact h k
   ·exact h k
  have hlen:(initLit m x).length<=m.length+1:=by
   unfold initLit
   split
   ·have:=congrArg List.length (pKeys_set (ofA x.atom) 0 m)
    rw[pKeys_len]at this
    rw[this]
    split
    ·rw[pKeys_len];omega
    ·simp[pKeys_len]
   ·omega
  obtain⟨a1,a2,a3,a4⟩:=ih (initLit m x) hx
  refine⟨a1,fun hn=>a2 ?_,fun k=>?_,by simp only[List.length_cons];omega⟩
  ·unfold initLit;split
   ·exact nodup_pSet hn
   ·exact hn
  ·rw[a3]
   unfold initLit
   split
   ·rename_i hc
    rw[mem_pSet]
    simp only[List.map_cons,List.mem_cons]
    constructor
    ·rintro((h|h)|h)
     ·exact .inr (.inl h)
     ·exact .inl h
     ·exact .inr (.inr h)
    ·rintro(h|h|h)
     ·exact .inl (.inr h)
     ·exact .inl (.inl h)
     ·exact .inr h
   ·rfl
theorem init_fold(l:List Clause):∀m:List (PK×Int),(∀k,pVal m k=0)->(∀k,pVal (l.foldl initCl m) k=0)/\((pKeys m).Nodup->(pKeys (l.foldl initCl m)).Nodup) /\
  (∀k,k∈pKeys (l.foldl initCl m)↔k∈pKeys m\/∃c∈l,k∈predC c)/\(l.foldl initCl m).length<=m.length+(l.map fun c=>c.body.length+1).sum:=by
 induction l with
 |nil=>intro m h;exact⟨h,id,fun k=>by simp,Nat.le_refl _⟩
 |cons c l ih=>
  intro m h
  rw[List.foldl_cons]
  have h0:∀k,pVal (pSet (ofA c.head) 0 m) k=0:=fun k=>by
   rw[pVal_set];split
   ·rfl
   ·exact h k
  have hlen0:(pSet (ofA c.head) 0 m).length<=m.length+1:=by
   have:=congrArg List.length (pKeys_set (ofA c.head) 0 m)
   rw[pKeys_len]at this
   rw[this]
   split
   ·rw[pKeys_len];omega
   ·simp[pKeys_len]
  obtain⟨b1,b2,b3,b4⟩:=initLit_fold c.body (pSet (ofA c.head) 0 m) h0
  obtain⟨a1,a2,a3,a4⟩:=ih (initCl m c) b1
  refine⟨a1,fun hn=>a2 (b2 (nodup_pSet hn)),fun k=>?_,?_⟩
  ·rw[a3]
   unfold initCl
   rw[b3,mem_pSet]
   have hp:k∈predC c↔k=ofA c.head\/k∈(c.body.filter fun x=>decide (x.kind=1)||decide (x.kind=2)).map fun x=>ofA x.atom:=by unfold predC;exact List.mem_cons
   constructor
   ·rintro(((h|h)|h)|⟨c',hc,h⟩)
    ·exact .inr ⟨c,List.mem_cons_self,hp.2 (.inl h)⟩
    ·exact .inl h
    ·exact .inr ⟨c,List.mem_cons_self,hp.2 (.inr h)⟩
    ·exact .inr ⟨c',List.mem_cons_of_mem _ hc,h⟩
   ·rintro(h|⟨c',hc,h⟩)
    ·exact .inl (.inl (.inr h))
    ·rcases List.mem_cons.1 hc with rfl|hc
     ·rcases hp.1 h with h|h
      ·exact .inl (.inl (.inl h))
      ·exact .inl (.inr h)
     ·exact .inr ⟨c',hc,h⟩
  ·simp only[List.map_cons,List.sum_cons]
   unfold initCl at a4 ⊢
   omega
def a77:BCode:=match b87.body with
 |.seq x _=>x
 |_=>.bad
def m77:BCode:=match b87.body with
 |.seq _ (.seq x _)=>x
 |_=>.bad
def r77:BCode:=match b87.body with
 |.seq _ (.seq _ (.seq _ (.seq _ x)))=>x
 |_=>.bad
theorem body77:b87.body=.seq a77 (.seq m77 (.seq i77 (.seq w77 r77))):=rfl
theorem le_sc{s t:FT}(h:FT.Le s t)(k:Nat){v:Value}(e:s.get k=.sc v):t.get k=.sc v:=by
 have:=h.fwk k
 rw[e]at this
 rcases this with h|h|h
 ·exact h.symm
 ·cases hx:t.get k<;>rw[hx]at h<;>simp[LV.strip]at h
  rw[h]
 ·cases h
theorem t_levels(l:List Clause)(hl:l.length<2^40)(hb:∀c∈l,c.body.length<2^40)(hm:(l.foldl initCl []).length<2^40)(fuel:Nat)(R:Option (List (PK×Int)))(hR:levN l fuel (l.foldl initCl [])=some R)(H:LHeap){kv kp:HP}
  (hk1:R=none->∀n,H.next<=n->kv (.tup [.sc (.map none),.bool false]) ⟨H.objs,n⟩) (hk2:∀m,R=some m->∀n,H.next<n->kv (.tup [.map H.next,.bool true]) ⟨(H.next,.map (encP m))::H.objs,n⟩):
  cP E0 F0 87 [clausesL l] H kv kp:=by
 refine cP_of_lP c87 (Nat.le_of_ble_eq_true rfl) fun hH=>?_
 rw[body77]
 obtain⟨i1,i2,i3,_⟩:=init_fold l [] fun k=>rfl
 obtain⟨I,hI⟩:∃I,l.foldl initCl []=I:=⟨_,rfl⟩
 simp(disch:=omega)
 refine lP_seq (lP_of_run ?_)
 simp(disch:=omega)[a77,b87]
 refine lP_seq (lP_of_run ?_)
 simp(disch:=omega)[m77,b87]
 have hH2:LHeap.Ok ⟨(H.next,.map [])::H.objs,H.next+1⟩:=⟨Nat.lt_succ_self _,hH⟩
 have ho:look H.next ((H.next,LObj.map [])::H.objs)=some (.map (encP [])):=by simp[look]
 refine lP_weak (t':=(.nd (clausesL l) (.nd .bot (.nd (.bool false) .nil .nil) .nil) (.nd (.sc (.map none)) (.nd (.map H.next) .nil .nil) .nil))) (fun l h=>by cases h) (by simp[FT.Le,Wk]) (HWk.refl _) (fun h=>h) ?_
 refine lP_seq (lP_mono (t_init l hl hb H.next [] _ (H.next+1) ho) ?_)
 rintro e t' H' ⟨rfl,hle,n,hn,hwk,hok⟩
 have hp:∀m:List (PK×Int),putO H.next (.map (encP m)) ((H.next,LObj.map [])::H.objs)=(H.next,.map (encP m))::H.objs:=fun m=>by simp[putO]
 rw[hI]at hwk hok hm hR
 rw[hI]at i1 i2 i3
 show lP E0 F0 (.seq w77 r77) t' H' _
 refine lP_weak (fun l h=>by cases h) hle hwk hok ?_
 refine lP_seq (lP_mono (t_while l hl hb (pKeys I) (by rw[pKeys_len];exact hm) (fun c hc=>(i3 _).2 (.inr ⟨c,hc,List.mem_cons_self⟩)) I rfl (fun k=>⟨by rw[i1 k];omega,by rw[i1 k];omega⟩) fuel R hR H.next _ _ n ho) ?_)
 rintro e t2 H2 ⟨n2,m1,hn2,hwk2,hok2,h3|h3⟩
 ·obtain⟨rfl,rfl,hle2⟩:=h3
  have g2:t2.get 2=.sc (.map none):=le_sc hle2 2 rfl
  have g3:t2.get 3=.bool false:=le_sc hle2 3 rfl
  rw[hp]at hwk2 hok2
  show resP E0 b87.res t2 H2 _
  rw[show b87.res=[.t 2,.t 3] from rfl,resP_two]
  unfold getP
  rw[g2,g3]
  refine⟨⟨H.objs,n2⟩,⟨hwk2.1,fun i x hx=>hwk2.2 i x ?_⟩,fun h=>(hok2 h).2.mono (by show H.next<=n2;omega),hk1 rfl n2 (by omega)⟩
  have:=hH.look hx
  simp only[look]
  rw[if_neg (by omega)]
  exact hx
 ·obtain⟨rfl,rfl,hle2⟩:=h3
  show lP E0 F0 r77 t2 H2 _
  refine lP_weak (fun l h=>by cases h) hle2 hwk2 hok2 ?_
  rw[hp]
  refine lP_of_run ?_
  simp(disch:=omega)[r77,b87,resP_two]
  exact keep (hk2 _ rfl _ (by omega))
end Go.Abs.Tz
namespace Go.Abs.Tz
open Go Go.Abs Go.Proofs
def edgeL(h:PK)(x:Lit):Option (Edge PK):=if x.kind=1 then some (h,ofA x.atom,0) else if x.kind=2 then some (h,ofA x.atom,1) else none
def edgesC(c:Clause):List (Edge PK):=c.body.filterMap (edgeL (ofA c.head))
def edgesOf(l:List Clause):List (Edge PK):=l.flatMap edgesC
def valN(m:List (PK×Int)):PK->Nat:=fun k=>(pVal m k).toNat
def NN0(m:List (PK×Int)):Prop:=∀k,0<=pVal m k
theorem litStep_spec{h:PK}{s:List (PK×Int)×Bool}{x:Lit}(h0:NN0 s.1):
  NN0 (litStep h s x).1/\valN (litStep h s x).1=(match edgeL h x with|none=>valN s.1|some e=>updL (valN s.1) e)/\(∀k,pVal s.1 k<=pVal (litStep h s x).1 k)/\(∀k,k≠h->pVal (litStep h s x).1 k=pVal s.1 k) /\
  ((litStep h s x).2=false->litStep h s x=s)/\((litStep h s x).2=true->s.2=true\/pVal s.1 h<pVal (litStep h s x).1 h):=by
 have hl:∀e,edgeL h x=some e->e.1=h/\lstL s.1 x=pVal s.1 e.2.1+e.2.2:=by
  intro e he
  unfold edgeL at he
  unfold lstL
  by_cases h1:x.kind=1
  ·rw[if_pos h1]at he;cases he;rw[if_pos h1];exact⟨rfl,by simp⟩
  ·rw[if_neg h1]at he
   rw[if_neg h1]
   by_cases h2:x.kind=2
   ·rw[if_pos h2]at he;cases he;rw[if_pos h2];exact⟨rfl,by simp⟩
   ·rw[if_neg h2]at he;cases he
 have hn:edgeL h x=none->lstL s.1 x=-1:=by
  intro he
  unfold edgeL at he
  unfold lstL
  by_cases h1:x.kind=1
  ·rw[if_pos h1]at he;cases he
  ·rw[if_neg h1]at he
   by_cases h2:x.kind=2
   ·rw[if_pos h2]at he;cases he
   ·rw[if_neg h1,if_neg h2]
 have hh:=h0 h
 by_cases hc:pVal s.1 h<lstL s.1 x
 ·have e0:litStep h s x=(pSet h (lstL s.1 x) s.1,true):=by unfold litStep;rw[if_pos hc]
  rw[e0]
  refine⟨fun k=>?_,?_,fun k=>?_,fun k hk=>?_,fun h=>(by cases h),fun _=>.inr ?_⟩
  ·dsimp only;rw[pVal_set];split
   ·omega
   ·exact h0 k
  ·cases he:edgeL h x with
   |none=>rw[hn he]at hc;omega
   |some e=>
    obtain⟨h1,h2⟩:=hl e he
    funext k
    unfold updL valN
    dsimp only
    rw[pVal_set,h1]
    by_cases hk:k=h
    ·rw[if_pos hk,if_pos hk,h2,hk]
     have:=h0 e.2.1
     rw[h2]at hc
     omega
    ·rw[if_neg hk,if_neg hk]
  ·dsimp only;rw[pVal_set];split
   ·rename_i hk;rw[hk];omega
   ·omega
  ·dsimp only;rw[pVal_set,if_neg hk]
  ·dsimp only;rw[pVal_set,if_pos rfl];exact hc
 ·have e0:litStep h s x=s:=by unfold litStep;rw[if_neg hc]
  rw[e0]
  refine⟨h0,?_,fun k=>by omega,fun _ _=>rfl,fun _=>rfl,fun h=>.inl h⟩
  cases he:edgeL h x with
  |none=>rfl
  |some e=>
   obtain⟨h1,h2⟩:=hl e he
   funext k
   unfold updL valN
   dsimp only
   rw[h1]
   by_cases hk:k=h
   ·rw[if_pos hk,hk]
    rw[h2]at hc
    have:=h0 e.2.1
    omega
   ·rw[if_neg hk]
structure StpL(Hd:PK->Prop)(s t:List (PK×Int)×Bool):Prop where
 nn:NN0 t.1
 le:∀k,pVal s.1 k<=pVal t.1 k
 oth:∀k,¬Hd k->pVal t.1 k=pVal s.1 k
 no:t.2=false->t=s
 yes:t.2=true->s.2=true\/∃k,Hd k/\pVal s.1 k<pVal t.1 k
theorem StpL.refl{Hd:PK->Prop}{s:List (PK×Int)×Bool}(h:NN0 s.1):StpL Hd s s:=⟨h,fun _=>Int.le_refl _,fun _ _=>rfl,fun _=>rfl,fun h=>.inl h⟩
theorem StpL.trans{Hd:PK->Prop}{s t u:List (PK×Int)×Bool}(h1:StpL Hd s t)(h2:StpL Hd t u):StpL Hd s u where
 nn:=h2.nn
 le k:=Int.le_trans (h1.le k) (h2.le k)
 oth k hk:=(h2.oth k hk).trans (h1.oth k hk)
 no h:=by
  have e:=h2.no h
  rw[e]at h ⊢
  exact h1.no h
 yes h:=by
  rcases h2.yes h with h|⟨k,hk,hlt⟩
  ·rcases h1.yes h with h|⟨k,hk,hlt⟩
   ·exact .inl h
   ·exact .inr ⟨k,hk,by have:=h2.le k;omega⟩
  ·exact .inr ⟨k,hk,by have:=h1.le k;omega⟩
theorem StpL.mono{Hd Hd':PK->Prop}{s t:List (PK×Int)×Bool}(h:StpL Hd s t)(hh:∀k,Hd k->Hd' k):StpL Hd' s t where
 nn:=h.nn
 le:=h.le
 oth k hk:=h.oth k fun e=>hk (hh k e)
 no:=h.no
 yes e:=(h.yes e).imp id fun⟨k,hk,hlt⟩=>⟨k,hh k hk,hlt⟩
theorem body_spec{h:PK}:∀(b:List Lit)(s:List (PK×Int)×Bool),NN0 s.1->StpL (fun k=>k=h) s (b.foldl (litStep h) s)/\valN (b.foldl (litStep h) s).1=passL (b.filterMap (edgeL h)) (valN s.1)/\(h∈pKeys s.1->pKeys (b.foldl (litStep h) s).1=pKeys s.1)
 |[],s,h0=>⟨.refl h0,rfl,fun _=>rfl⟩
 |x::b,s,h0=>by
  obtain⟨a1,a2,a3,a4,a5,a6⟩:=litStep_spec (h:=h) (x:=x) h0
  obtain⟨b1,b2,b3⟩:=body_spec b (litStep h s x) a1
  have h1:StpL (fun k=>k=h) s (litStep h s x):=⟨a1,a3,a4,a5,fun e=>(a6 e).imp id fun hlt=>⟨h,rfl,hlt⟩⟩
  rw[List.foldl_cons]
  refine⟨h1.trans b1,?_,fun hk=>?_⟩
  ·rw[b2,a2,List.filterMap_cons]
   cases edgeL h x<;>rfl
  ·have hk':=litStep_keys (x:=x) hk
   rw[b3 (by rw[hk'];exact hk),hk']
def headIn(l:List Clause)(k:PK):Prop:=∃c∈l,ofA c.head=k
theorem passL_append{K:Type}[DecidableEq K](A B:List (Edge K))(f:K->Nat):passL (A++B) f=passL B (passL A f):=List.foldl_append
theorem rnd_spec:∀(l:List Clause)(s:List (PK×Int)×Bool),NN0 s.1->StpL (headIn l) s (l.foldl clStep s)/\valN (l.foldl clStep s).1=passL (edgesOf l) (valN s.1)/\((∀c∈l,ofA c.head∈pKeys s.1)->pKeys (l.foldl clStep s).1=pKeys s.1)
 |[],s,h0=>⟨.refl h0,rfl,fun _=>rfl⟩
 |c::l,s,h0=>by
  obtain⟨a1,a2,a3⟩:=body_spec (h:=ofA c.head) c.body s h0
  obtain⟨b1,b2,b3⟩:=rnd_spec l (clStep s c) a1.nn
  rw[List.foldl_cons]
  refine⟨(a1.mono fun k hk=>⟨c,List.mem_cons_self,hk.symm⟩).trans (b1.mono fun k ⟨c',h1,h2⟩=>⟨c',List.mem_cons_of_mem _ h1,h2⟩),?_,fun hk=>?_⟩
  ·rw[b2]
   show passL (edgesOf l) (valN (clStep s c).1)=passL (edgesC c++edgesOf l) (valN s.1)
   rw[passL_append]
   show _=passL (edgesOf l) (passL (edgesC c) (valN s.1))
   unfold clStep
   rw[a2]
   rfl
  ·have hc:=a3 (hk c List.mem_cons_self)
   have hc':pKeys (clStep s c).1=pKeys s.1:=hc
   rw[b3 fun c' h'=>by rw[hc'];exact hk c' (List.mem_cons_of_mem _ h'),hc']
theorem rndL_some{N:Int}:∀(l:List Clause)(s t:List (PK×Int)×Bool),NN0 s.1->(∀c∈l,ofA c.head∈pKeys s.1)->((pKeys s.1).length:Int)=N->rndL l s=some t->t=l.foldl clStep s/\(InP s.1 N->InP t.1 N)
 |[],s,t,_,_,_,h=>by cases h;exact⟨rfl,id⟩
 |c::l,s,t,h0,hk,hN,h=>by
  obtain⟨a1,a2,a3⟩:=body_spec (h:=ofA c.head) c.body s h0
  have hc:=a3 (hk c List.mem_cons_self)
  have hc':pKeys (clStep s c).1=pKeys s.1:=hc
  simp only[rndL]at h
  split at h
  ·cases h
  ·rename_i hle
   obtain⟨b1,b2⟩:=rndL_some (N:=N) l (clStep s c) t a1.nn (fun c' h'=>by rw[hc'];exact hk c' (List.mem_cons_of_mem _ h')) (by rw[hc'];exact hN) h
   refine⟨b1,fun hin=>b2 fun k=>⟨a1.nn k,?_⟩⟩
   have hlen:((clStep s c).1.length:Int)=N:=by rw[<-hN,<-hc',pKeys_len]
   by_cases hkh:k=ofA c.head
   ·rw[hkh];omega
   ·have:pVal (clStep s c).1 k=pVal s.1 k:=a1.oth k hkh
    rw[this];exact(hin k).2
theorem rndL_none{F:PK->Nat}{N:Nat}:∀(l:List Clause)(s:List (PK×Int)×Bool),NN0 s.1->(∀c∈l,ofA c.head∈pKeys s.1)->(pKeys s.1).length=N->(∀k,valN s.1 k<=F k)->SolL (edgesOf l) F->(∀k∈pKeys s.1,F k<N)->rndL l s≠none
 |[],_,_,_,_,_,_,_=>by simp[rndL]
 |c::l,s,h0,hk,hN,hle,hs,hF=>by
  obtain⟨a1,a2,a3⟩:=body_spec (h:=ofA c.head) c.body s h0
  have hc:=a3 (hk c List.mem_cons_self)
  have hc':pKeys (clStep s c).1=pKeys s.1:=hc
  have hs1:SolL (edgesC c) F:=fun e he=>hs e (List.mem_append_left _ he)
  have hs2:SolL (edgesOf l) F:=fun e he=>hs e (List.mem_append_right _ he)
  have hle2:∀k,valN (clStep s c).1 k<=F k:=by
   intro k
   have:valN (clStep s c).1=passL (edgesC c) (valN s.1):=a2
   rw[this]
   exact passL_le hs1 hle k
  have hlen:(clStep s c).1.length=N:=by rw[<-hN,<-hc',pKeys_len]
  simp only[rndL]
  rw[if_neg]
  ·exact rndL_none (N:=N) l (clStep s c) a1.nn (fun c' h'=>by rw[hc'];exact hk c' (List.mem_cons_of_mem _ h')) (by rw[hc'];exact hN) hle2 hs2 (by rw[hc'];exact hF)
  ·have h1:=hle2 (ofA c.head)
   have h2:=hF _ (hk c List.mem_cons_self)
   have h3:=a1.nn (ofA c.head)
   unfold valN at h1
   have h3':0<=pVal (clStep s c).1 (ofA c.head):=h3
   omega
structure LeastL(l:List Clause)(V:List PK)(m:List (PK×Int)):Prop where
 keys:pKeys m=V
 nn:NN0 m
 sol:SolL (edgesOf l) (valN m)
 le:∀g,SolL (edgesOf l) g->∀k,valN m k<=g k
def EndL(l:List Clause)(V:List PK)(R:Option (List (PK×Int))):Prop:=match R with
 |none=>¬∃g,SolL (edgesOf l) g
 |some m=>LeastL l V m
theorem edge_in{l:List Clause}{V:List PK}(hV:∀c∈l,∀k∈predC c,k∈V):∀e∈edgesOf l,e.1∈V/\e.2.1∈V/\e.2.2<=1:=by
 intro e he
 obtain⟨c,hc,he⟩:=List.mem_flatMap.1 he
 obtain⟨x,hx,he⟩:=List.mem_filterMap.1 he
 have h1:ofA c.head∈V:=hV c hc _ List.mem_cons_self
 have h2:x.kind=1\/x.kind=2->ofA x.atom∈V:=fun hk=>hV c hc _ (List.mem_cons_of_mem _ (List.mem_map.2 ⟨x,List.mem_filter.2 ⟨hx,by simpa using hk⟩,rfl⟩))
 unfold edgeL at he
 split at he
 ·rename_i hk;cases he;exact⟨h1,h2 (.inl hk),by simp⟩
 ·split at he
  ·rename_i hk;cases he;exact⟨h1,h2 (.inr hk),by simp⟩
  ·cases he
theorem sumL_bd{V:List PK}{f:PK->Nat}{N:Nat}(h:∀k∈V,f k<=N):sumL V f<=V.length*N:=by
 induction V with
 |nil=>exact Nat.zero_le _
 |cons a V ih=>
  have h1:=h a List.mem_cons_self
  have h2:=ih fun k hk=>h k (List.mem_cons_of_mem _ hk)
  simp only[sumL,List.map_cons,List.sum_cons,List.length_cons,Nat.add_mul]at h2 ⊢
  omega
theorem no_change{l:List Clause}{m m':List (PK×Int)}(h0:NN0 m)(h:(m',false)=l.foldl clStep (m,false)):m'=m/\SolL (edgesOf l) (valN m):=by
 obtain⟨a1,a2,a3⟩:=rnd_spec l (m,false) h0
 have e:m'=m:=by
  have:=a1.no (by rw[<-h])
  rw[<-h]at this
  exact(Prod.mk.inj this).1
 refine⟨e,sol_of_fix fun e' _=>?_⟩
 rw[<-h,e]at a2
 have a2':valN m=passL (edgesOf l) (valN m):=a2
 rw[<-a2']
theorem change_up{l:List Clause}{V:List PK}{m m':List (PK×Int)}(hh:∀c∈l,ofA c.head∈V)(h0:NN0 m)(h:(m',true)=l.foldl clStep (m,false)):∃k∈V,valN m k<valN m' k/\∀k,valN m k<=valN m' k:=by
 obtain⟨a1,a2,a3⟩:=rnd_spec l (m,false) h0
 rw[<-h]at a1
 rcases a1.yes rfl with h|⟨k,⟨c,hc,hk⟩,hlt⟩
 ·cases h
 ·have hlt':pVal m k<pVal m' k:=hlt
  refine⟨k,hk▸hh c hc,?_,fun k=>?_⟩
  ·have:=h0 k
   unfold valN;omega
  ·have:pVal m k<=pVal m' k:=a1.le k
   unfold valN;omega
theorem cust_levels{l:List Clause}{V:List PK}(hV:∀c∈l,∀k∈predC c,k∈V):∀(d:Nat)(m:List (PK×Int)),pKeys m=V->InP m V.length->(∀g,SolL (edgesOf l) g->∀k,valN m k<=g k)->V.length*V.length<=sumL V (valN m)+d ->
  ∃R,levN l (d+1) m=some R/\EndL l V R:=by
 have hh:∀c∈l,ofA c.head∈V:=fun c hc=>hV c hc _ List.mem_cons_self
 have hE:=edge_in hV
 intro d
 induction d with
 |zero=>
  intro m hk hin hle hd
  have h0:NN0 m:=fun k=>(hin k).1
  cases hr:rndL l (m,false) with
  |none=>
   refine⟨none,by simp[levN,hr],?_⟩
   rintro⟨g,hg⟩
   obtain⟨F,hF,hmin⟩:=least_ex V hg
   exact rndL_none l (m,false) h0 (by rw[hk];exact hh) (by rw[hk]) (hle F hF) hF (fun k hk'=>least_bound hF hmin (fun e he=>⟨(hE e he).1,(hE e he).2.1⟩) (fun e he=>(hE e he).2.2) (by rw[hk]at hk';exact hk')) hr
  |some t=>
   obtain⟨m',b⟩:=t
   obtain⟨h1,h2⟩:=rndL_some (N:=V.length) l (m,false) _ h0 (by rw[hk];exact hh) (by rw[hk]) hr
   have hin':=h2 hin
   cases b with
   |false=>
    obtain⟨rfl,hs⟩:=no_change h0 h1
    exact⟨some m',by simp[levN,hr],hk,h0,hs,hle⟩
   |true=>
    obtain⟨k,hkV,hlt,hle'⟩:=change_up hh h0 h1
    have hs1:=sumL_lt (V:=V) (fun k _=>hle' k) hkV hlt
    have hs2:=sumL_bd (V:=V) (f:=valN m') (N:=V.length) fun k _=>by
     have:pVal m' k<=V.length:=(hin' k).2
     unfold valN;omega
    omega
 |succ d ih=>
  intro m hk hin hle hd
  have h0:NN0 m:=fun k=>(hin k).1
  cases hr:rndL l (m,false) with
  |none=>
   refine⟨none,by simp[levN,hr],?_⟩
   rintro⟨g,hg⟩
   obtain⟨F,hF,hmin⟩:=least_ex V hg
   exact rndL_none l (m,false) h0 (by rw[hk];exact hh) (by rw[hk]) (hle F hF) hF (fun k hk'=>least_bound hF hmin (fun e he=>⟨(hE e he).1,(hE e he).2.1⟩) (fun e he=>(hE e he).2.2) (by rw[hk]at hk';exact hk')) hr
  |some t=>
   obtain⟨m',b⟩:=t
   obtain⟨h1,h2⟩:=rndL_some (N:=V.length) l (m,false) _ h0 (by rw[hk];exact hh) (by rw[hk]) hr
   have hin':=h2 hin
   cases b with
   |false=>
    obtain⟨rfl,hs⟩:=no_change h0 h1
    exact⟨some m',by simp[levN,hr],hk,h0,hs,hle⟩
   |true=>
    obtain⟨k,hkV,hlt,hle'⟩:=change_up hh h0 h1
    have hs1:=sumL_lt (V:=V) (fun k _=>hle' k) hkV hlt
    obtain⟨a1,a2,a3⟩:=rnd_spec l (m,false) h0
    rw[<-h1]at a2 a3
    have hk':pKeys m'=V:=(a3 (by rw[hk];exact hh)).trans hk
    obtain⟨R,hR,hE'⟩:=ih m' hk' hin' (fun g hg k=>by
     have a2':valN m'=passL (edgesOf l) (valN m):=a2
     rw[a2']
     exact passL_le hg (hle g hg) k) (by omega)
    exact⟨R,by simp only[levN,hr];exact hR,hE'⟩
def refN(l:List Clause):Nat->List (PK×Int)->Option (List (PK×Int))
 |0,_=>none
 |n+1,m=>match l.foldl clStep (m,false) with
  |(m',false)=>some m'
  |(m',true)=>if m'.any (fun e=>decide ((m'.length:Int)<e.2)) then none else refN l n m'
theorem pVal_mem:∀{m:List (PK×Int)},(pKeys m).Nodup->∀e∈m,pVal m e.1=e.2
 |[],_,e,h=>by cases h
 |(j,u)::r,hn,e,h=>by
  obtain⟨h1,h2⟩:=List.nodup_cons.1 (show (j::pKeys r).Nodup from hn)
  unfold pVal pGet
  rcases List.mem_cons.1 h with rfl|h
  ·simp only;rw[if_pos (eqPK_iff.2 rfl)];rfl
  ·have:¬eqPK e.1 j=true:=fun he=>h1 (by rw[<-eqPK_iff.1 he];exact List.mem_map_of_mem h)
   rw[if_neg this]
   exact pVal_mem h2 e h
theorem ref_none{l:List Clause}{V:List PK}(hV:∀c∈l,∀k∈predC c,k∈V){F:PK->Nat}(hF:SolL (edgesOf l) F)(hmin:∀g',SolL (edgesOf l) g'->sumL V F<=sumL V g')(hN:V.Nodup):
  ∀(n:Nat)(m:List (PK×Int)),pKeys m=V->NN0 m->(∀k,valN m k<=F k)->(V.filter fun k=>decide (valN m k≠F k)).length<=n->refN l (n+1) m≠none:=by
 have hh:∀c∈l,ofA c.head∈V:=fun c hc=>hV c hc _ List.mem_cons_self
 have hE:=edge_in hV
 have hE':∀e∈edgesOf l,e.1∈V/\e.2.1∈V:=fun e he=>⟨(hE e he).1,(hE e he).2.1⟩
 intro n
 induction n with
 |zero=>
  intro m hk h0 hle hn
  obtain⟨⟨m',b⟩,hr⟩:∃t,l.foldl clStep (m,false)=t:=⟨_,rfl⟩
  simp only[refN,hr]
  cases b with
  |false=>simp
  |true=>
   exfalso
   obtain⟨k,hkV,hlt,_⟩:=change_up hh h0 hr.symm
   obtain⟨a1,a2,a3⟩:=rnd_spec l (m,false) h0
   rw[hr]at a2
   have a2':valN m'=passL (edgesOf l) (valN m):=a2
   have h1:=passL_le hF hle k
   rw[<-a2']at h1
   have:k∈V.filter fun k=>decide (valN m k≠F k):=List.mem_filter.2 ⟨hkV,by simp only[decide_eq_true_eq];omega⟩
   rw[List.length_eq_zero_iff.1 (Nat.le_zero.1 hn)]at this
   cases this
 |succ n ih=>
  intro m hk h0 hle hn
  obtain⟨⟨m',b⟩,hr⟩:∃t,l.foldl clStep (m,false)=t:=⟨_,rfl⟩
  rw[refN,hr]
  cases b with
  |false=>simp
  |true=>
   obtain⟨k,hkV,hlt,hle'⟩:=change_up hh h0 hr.symm
   obtain⟨a1,a2,a3⟩:=rnd_spec l (m,false) h0
   rw[hr]at a1 a2 a3
   have hk':pKeys m'=V:=(a3 (by rw[hk];exact hh)).trans hk
   have a2':valN m'=passL (edgesOf l) (valN m):=a2
   have hleF:∀k,valN m' k<=F k:=fun k=>by rw[a2'];exact passL_le hF hle k
   have hne:valN m k≠F k:=by have:=hleF k;omega
   obtain⟨u,hu,h1,h2⟩:=pass_gains hF hmin hE' hle hkV hne
   have hcnt:=filter_lt (V:=V) (p:=fun k=>decide (valN m k≠F k)) (q:=fun k=>decide (valN m' k≠F k)) (fun k _ hk=>by
    have h3:=hle' k
    have h4:=hleF k
    simp only[decide_eq_true_eq]at hk ⊢
    omega) hu (by simpa using h1) (by rw[a2'];simpa using h2)
   have hno:m'.any (fun e=>decide ((m'.length:Int)<e.2))=false:=by
    rw[List.any_eq_false]
    intro e he
    have hv:=pVal_mem (by rw[hk'];exact hN) e he
    have hkey:e.1∈V:=by rw[<-hk'];exact List.mem_map_of_mem he
    have hb:=least_bound hF hmin hE' (fun e he=>(hE e he).2.2) hkey
    have hf:=hleF e.1
    have hlen:m'.length=V.length:=by rw[<-hk',pKeys_len]
    unfold valN at hf
    rw[hv]at hf
    simp only[decide_eq_true_eq]
    omega
   dsimp only
   rw[hno]
   exact ih m' hk' a1.nn hleF (by omega)
theorem ref_some{l:List Clause}{V:List PK}(hh:∀c∈l,ofA c.head∈V):∀(n:Nat)(m R:List (PK×Int)),pKeys m=V->NN0 m->(∀g,SolL (edgesOf l) g->∀k,valN m k<=g k)->refN l n m=some R->LeastL l V R
 |0,_,_,_,_,_,h=>by cases h
 |n+1,m,R,hk,h0,hle,h=>by
  obtain⟨⟨m',b⟩,hr⟩:∃t,l.foldl clStep (m,false)=t:=⟨_,rfl⟩
  simp only[refN,hr]at h
  cases b with
  |false=>
   cases h
   obtain⟨rfl,hs⟩:=no_change h0 hr.symm
   exact⟨hk,h0,hs,hle⟩
  |true=>
   simp only at h
   split at h
   ·cases h
   ·obtain⟨a1,a2,a3⟩:=rnd_spec l (m,false) h0
    rw[hr]at a1 a2 a3
    have hk':pKeys m'=V:=(a3 (by rw[hk];exact hh)).trans hk
    have a2':valN m'=passL (edgesOf l) (valN m):=a2
    exact ref_some hh n m' R hk' a1.nn (fun g hg k=>by rw[a2'];exact passL_le hg (hle g hg) k) h
theorem ref_levels{l:List Clause}{V:List PK}(hV:∀c∈l,∀k∈predC c,k∈V)(hN:V.Nodup)(m:List (PK×Int))(hk:pKeys m=V)(h0:∀k,pVal m k=0)(n:Nat)(hn:V.length<=n):EndL l V (refN l (n+1) m):=by
 have hnn:NN0 m:=fun k=>by rw[h0 k];omega
 have hz:∀k,valN m k=0:=fun k=>by unfold valN;rw[h0 k];rfl
 cases hr:refN l (n+1) m with
 |none=>
  rintro⟨g,hg⟩
  obtain⟨F,hF,hmin⟩:=least_ex V hg
  exact ref_none hV hF hmin hN n m hk hnn (fun k=>by rw[hz k];omega) (Nat.le_trans (List.length_filter_le _ _) hn) hr
 |some R=>exact ref_some (fun c hc=>hV c hc _ List.mem_cons_self) _ m R hk hnn (fun g _ k=>by rw[hz k];omega) hr
theorem same_levels{l:List Clause}{V W:List PK}{R S:Option (List (PK×Int))}(h1:EndL l V R)(h2:EndL l W S):(R=none/\S=none)\/∃m q,R=some m/\S=some q/\LeastL l V m/\LeastL l W q/\∀k,pVal m k=pVal q k:=by
 cases R with
 |none=>
  cases S with
  |none=>exact .inl ⟨rfl,rfl⟩
  |some q=>exact absurd ⟨_,(show LeastL l W q from h2).sol⟩ h1
 |some m=>
  cases S with
  |none=>exact absurd ⟨_,(show LeastL l V m from h1).sol⟩ h2
  |some q=>
   have a:LeastL l V m:=h1
   have b:LeastL l W q:=h2
   refine .inr ⟨m,q,rfl,rfl,a,b,fun k=>?_⟩
   have c1:=a.le _ b.sol k
   have c2:=b.le _ a.sol k
   have c3:=a.nn k
   have c4:=b.nn k
   unfold valN at c1 c2
   omega
end Go.Abs.Tz
namespace Go.Abs.Tz
open Go Go.Abs Go.Proofs
set_option maxRecDepth 20000
set_option linter.unusedSimpArgs false
attribute [local simp ↓] getP_nil getP_node setP_nil setP_node oneP_eq vP_map vP_some vP_none vP_bind eP_some bP_true bP_false gP_yes gP_tf gP_ft gP_tup runP_skip runP_ops runP_drw runP_seq runP_cond runP_blk runP_loop runP_exit runP_ret seqK_n seqK_r seqK_e seqK_p blkK_n blkK_r blkK_e blkK_p loopK_n loopK_r loopK_e loopK_p finK_n finK_r finK_p resP_one resP_two resP_three resP_nil resP_c nxP_nil argsP_nil argsP_cons evP_t evP_c evP_g evsP_nil evsP_cons clP_fn pnP_i opsP_nil opsP_d opsP_x opsP_gt opsP_gf opP_cf opP_cl opP_pn opP_nx valP_mv valP_pk valP_eq valP_bn valP_nt valP_ld valP_fa valP_fd valP_ia valP_ix valP_ln valP_srn valP_srl valP_srh valP_srb valP_cv valP_mi valP_mf valP_xt valP_bs valP_bd valP_nc valP_mn valP_lk valP_ta opP_mv opP_pk opP_eq opP_bn opP_nt opP_ld opP_fa opP_fd opP_ia opP_ix opP_ln opP_sr opP_cv opP_mi opP_mf opP_xt opP_bs opP_bd opP_nc opP_mn opP_lk opP_ta opP_al opP_bx opP_st opP_ap opP_mk opP_nb opP_mu opP_rg opP_en pendP_nil pendP_d pendP_g drwP_nil drwP_d drwP_x drwP_gt drwP_gf look_self natOf_nat
attribute [local simp] faL fdL iaL ixL loadL partL lenL eqK eqL natOf eqB_s eqB_i eqB_b bn_add bn_sub bn_lss bn_leq bn_gtr bn_geq bn_adds bn_lsss bn_gtrs bn_leqs bn_geqs sliceL LV.cells LV.whole look_self put_self putO_self put_eq stL fillL termC dopP LHeap.alloc oneI oneS oneB nth0 nth1 nth2 nth3 nth4 nth5 nth6 nth7 nth8 nth9 look_ne putO_ne
def keyS(x:Strat):PK:=(x.pred,x.args)
def matchS(x:Strat)(k:PK):Bool:=eqBA x.pred k.1&&decide (x.args=k.2)
def findSt:List Strat->PK->Nat->Int
 |[],_,_=>-1
 |x::r,k,i=>if matchS x k then (i:Int) else findSt r k (i+1)
theorem t_rfind(A:List Strat)(own:Own)(a:Atom)(hA:A.length<2^40):PureT 29 [.sl (A.map stratL) own,atomL a] (.int (findSt A (ofA a) 0)):=by
 refine PureT.of c29 fun H hH=>⟨Nat.le_of_ble_eq_true rfl,?_⟩
 simp(disch:=omega)[b29]
 obtain⟨R,hR⟩:∃R,findSt A (ofA a) 0=R:=⟨_,rfl⟩
 rw[hR]
 refine lP_enter (σ:=NN) (fun q=>(.nd (.sl (A.map stratL) own) (.nd .bot (.nd (.ptr H.next 0) .nil .nil) (.nd (.int q.i) .nil .nil)) .nil)) (fun q=>⟨(H.next,.cells [.str a.pred,argsL a.args])::H.objs,q.n⟩) (fun q=>A.length - q.i)
  (fun q=>H.next+1<=q.n/\q.i<=A.length/\findSt (A.drop q.i) (ofA a) q.i=R) ⟨0,H.next+1⟩ ⟨Nat.le_refl _,Nat.zero_le _,hR⟩ (by simp[FT.Le,Wk]) ⟨HWk.refl _,fun h=>h⟩ ?_
 rintro⟨i,n⟩ ⟨hn,hi,he⟩ hok
 simp only at hn hi he
 by_cases hlt:i<A.length
 case neg=>
  obtain rfl:i=A.length:=by omega
  rw[List.drop_eq_nil_of_le (Nat.le_refl _)]at he
  simp only[findSt]at he
  simp(disch:=omega)
  exact doneK hH (by simp[<-he])
 rw[List.drop_eq_getElem_cons hlt]at he
 simp only[findSt]at he
 have em:matchS A[i] (ofA a)=(eqBA A[i].pred a.pred&&decide (A[i].args=a.args.length)):=rfl
 cases hp:eqBA A[i].pred a.pred
 ·simp[em,hp]at he
  simp(disch:=omega)[hlt,hp,wrap_nat (show i<2^62 by omega)]
  exact⟨⟨i+1,n⟩,by dsimp only;omega,⟨by dsimp only;omega,by dsimp only;omega,he⟩,by simp[FT.Le,Wk],HWk.refl _,fun h=>h⟩
 by_cases hq:A[i].args=a.args.length
 ·simp[em,hp,hq]at he
  simp(disch:=omega)[hlt,hp,hq]
  exact doneK hH (by simp[<-he])
 ·simp[em,hp,hq]at he
  simp(disch:=omega)[hlt,hp,hq,wrap_nat (show i<2^62 by omega)]
  exact⟨⟨i+1,n⟩,by dsimp only;omega,⟨by dsimp only;omega,by dsimp only;omega,he⟩,by simp[FT.Le,Wk],HWk.refl _,fun h=>h⟩
theorem flat_get(A:List Strat){j c:Nat}(hj:j<A.length)(hc:c<3):(A.flatMap stratC)[j*3+c]? = (stratC A[j])[c]?:=by
 have h:=flat_load stratC_len hj
 rw[<-h,List.getElem?_take,if_pos hc,List.getElem?_drop]
theorem ldA{A:List Strat}{o:Nat}{ob:List (Nat×LObj)}{n:Nat}(hl:look o ob=some (arrS A)){j c:Nat}(hj:j<A.length)(hc:c<3):loadL ⟨ob,n⟩ none (.ptr o (j*3+c))=(stratC A[j])[c]?:=by
 simp only[loadL,hl,partL]
 exact flat_get A hj hc
theorem iaA{A:List Strat}{o:Nat}{ob:List (Nat×LObj)}{n:Nat}(hl:look o ob=some (arrS A)){j m:Nat}(hj:j<m):iaL ⟨ob,n⟩ 3 (.asl o 0 m) (.int (j:Int))=some (.ptr o (j*3)):=by
 simp[iaL,natOf_nat,hl,hj]
theorem t_rfindA(A:List Strat)(o:Nat)(ob:List (Nat×LObj))(nx:Nat)(hlo:look o ob=some (arrS A))(a:Atom)(hA:A.length<2^40){kv kp:HP}
  (hk:∀n,nx<=n->kv (.int (findSt A (ofA a) 0)) ⟨ob,n⟩):cP E0 F0 29 [.asl o 0 A.length,atomL a] ⟨ob,nx⟩ kv kp:=by
 refine cP_of_fn c29 fun hH=>⟨Nat.le_of_ble_eq_true rfl,?_⟩
 simp(disch:=omega)[b29]
 obtain⟨R,hR⟩:∃R,findSt A (ofA a) 0=R:=⟨_,rfl⟩
 rw[hR]at hk
 have hon:o<nx:=by
  have h2:LHeap.Ok ⟨ob,nx⟩:=hH
  exact h2.look hlo
 have hlo2:look o ((nx,LObj.cells [.str a.pred,argsL a.args])::ob)=some (arrS A):=by rw[look_ne (by omega)];exact hlo
 refine lP_enter (σ:=NN) (fun q=>(.nd (.asl o 0 A.length) (.nd .bot (.nd (.ptr nx 0) .nil .nil) (.nd (.int q.i) .nil .nil)) .nil)) (fun q=>⟨(nx,.cells [.str a.pred,argsL a.args])::ob,q.n⟩) (fun q=>A.length - q.i)
  (fun q=>nx+1<=q.n/\q.i<=A.length/\findSt (A.drop q.i) (ofA a) q.i=R) ⟨0,nx+1⟩ ⟨Nat.le_refl _,Nat.zero_le _,hR⟩ (by simp[FT.Le,Wk]) ⟨HWk.refl _,fun h=>h⟩ ?_
 rintro⟨i,n⟩ ⟨hn,hi,he⟩ hok
 simp only at hn hi he
 have hfin:HWk ⟨(nx,LObj.cells [.str a.pred,argsL a.args])::ob,n⟩ ⟨ob,n⟩:=⟨Nat.le_refl _,fun j x hx=>by
  have h2:LHeap.Ok ⟨ob,nx⟩:=hH
  have:=h2.look hx
  simp only[look]
  rw[if_neg (by dsimp only at this;omega)]
  exact hx⟩
 have hfo:LHeap.Ok ⟨(nx,LObj.cells [.str a.pred,argsL a.args])::ob,n⟩->LHeap.Ok ⟨ob,n⟩:=fun h=>h.2.mono (by show nx<=n;omega)
 by_cases hlt:i<A.length
 case neg=>
  obtain rfl:i=A.length:=by omega
  rw[List.drop_eq_nil_of_le (Nat.le_refl _)]at he
  simp only[findSt]at he
  simp(disch:=omega)
  rw[<-he]at hk
  exact⟨_,hfin,hfo,hk n (by omega)⟩
 rw[List.drop_eq_getElem_cons hlt]at he
 simp only[findSt]at he
 have em:matchS A[i] (ofA a)=(eqBA A[i].pred a.pred&&decide (A[i].args=a.args.length)):=rfl
 have l0:loadL ⟨(nx,.cells [.str a.pred,argsL a.args])::ob,n⟩ none (.ptr o (i*3))=some (.str A[i].pred):=ldA (c:=0) hlo2 hlt (by omega)
 have l1:loadL ⟨(nx,.cells [.str a.pred,argsL a.args])::ob,n⟩ none (.ptr o (i*3+1))=some (.int A[i].args):=ldA (c:=1) hlo2 hlt (by omega)
 have l2:loadL ⟨(nx,.cells [.str a.pred,argsL a.args])::ob,n⟩ none (.ptr nx 0)=some (.str a.pred):=by simp[loadL,look_self,partL]
 have l3:loadL ⟨(nx,.cells [.str a.pred,argsL a.args])::ob,n⟩ none (.ptr nx 1)=some (argsL a.args):=by simp[loadL,look_self,partL]
 have ia:=iaA (n:=n) hlo2 hlt
 cases hp:eqBA A[i].pred a.pred
 ·simp[em,hp]at he
  simp(disch:=omega)[-iaL,-loadL,ia,l0,l1,l2,l3,hlt,hp,wrap_nat (show i<2^62 by omega)]
  exact⟨⟨i+1,n⟩,by dsimp only;omega,⟨by dsimp only;omega,by dsimp only;omega,he⟩,by simp[FT.Le,Wk],HWk.refl _,fun h=>h⟩
 by_cases hq:A[i].args=a.args.length
 ·simp[em,hp,hq]at he
  simp(disch:=omega)[-iaL,-loadL,ia,l0,l1,l2,l3,hlt,hp,hq]
  rw[<-he]at hk
  exact⟨_,hfin,hfo,hk n (by omega)⟩
 ·simp[em,hp,hq]at he
  simp(disch:=omega)[-iaL,-loadL,ia,l0,l1,l2,l3,hlt,hp,hq,wrap_nat (show i<2^62 by omega)]
  exact⟨⟨i+1,n⟩,by dsimp only;omega,⟨by dsimp only;omega,by dsimp only;omega,he⟩,by simp[FT.Le,Wk],HWk.refl _,fun h=>h⟩
def litAs(x:Lit):List Atom:=if x.kind<=2 then [x.atom] else []
def clAs(c:Clause):List Atom:=c.head::c.body.flatMap litAs
def allA(l:List Clause):List Atom:=l.flatMap clAs
theorem atoms_all(G:List Atom):(G.map atomL).all (fun e=>e.cells.length==2)=true:=by simp[LV.cells]
def RowT(H:LHeap)(sz len:Nat)(own:Own)(ob:List (Nat×LObj))(n:Nat):Prop:=(own=.full/\ob=H.objs/\H.next<=n)\/∃t,own=.tok t/\H.next<=t/\t<n/\ob=(t,.tok len sz)::H.objs
theorem row_ap{H:LHeap}{sz:Nat}{es:List LV}{own:Own}{ob:List (Nat×LObj)}{n:Nat}(hsz:0<sz/\sz<=2^10)(hes:(es.all fun e=>e.cells.length==sz)=true)(hl:es.length+1<=2^30)(h:RowT H sz es.length own ob n){x:LV}(hx:x.cells.length=sz)(ow:Own):
  ∃own' ob' n',apL ⟨ob,n⟩ sz (.sl es own) (.sl [x] ow)=some (.sl (es++[x]) own',⟨ob',n'⟩)/\RowT H sz (es.length+1) own' ob' n'/\n<=n':=by
 have hxs:([x].all fun e=>e.cells.length==sz)=true:=by
  show (x.cells.length==sz&&true)=true
  rw[hx];simp
 rcases h with⟨rfl,rfl,h⟩|⟨t,rfl,h1,h2,rfl⟩
 ·refine⟨.tok n,(n,.tok (es.length+1) sz)::H.objs,n+1,?_,.inr ⟨n,rfl,h,Nat.lt_succ_self _,rfl⟩,Nat.le_succ _⟩
  unfold apL
  simp only
  rw[hes,hxs]
  simp only[Bool.and_self,if_true]
  rw[if_pos ⟨hl,hsz.2,rfl⟩]
  rfl
 ·refine⟨.tok t,(t,.tok (es.length+1) sz)::H.objs,n,?_,.inr ⟨t,rfl,h1,h2,rfl⟩,Nat.le_refl _⟩
  have hcan:canApp ⟨(t,.tok es.length sz)::H.objs,n⟩ sz (.tok t) es.length=true:=by
   have:sz≠0:=by omega
   simp[canApp,look,this]
  unfold apL
  simp only
  rw[hes,hxs]
  simp only[Bool.and_self,if_true]
  rw[if_pos ⟨hl,hsz.2,hcan⟩]
  simp[LHeap.put,putO]
structure NNAs where
 i:Nat
 n:Nat
 aa:List Atom
 own:Own
 ob:List (Nat×LObj)
def l72a:BCode:=match b102.body with
 |.seq _ (.seq _ (.seq x _))=>x
 |_=>.bad
theorem t_all(l:List Clause)(hl:l.length<2^20)(hb:∀c∈l,c.body.length<2^20)(hA:(allA l).length<2^20)(H:LHeap):
  lP E0 F0 l72a (.nd (clausesL l) (.nd .bot (.nd (Nl) .nil .nil) .nil) .nil) H (fun e t' H'=>e=.normal/\∃own n,H.next<=n/\FT.Le (.nd .bot (.nd .bot (.nd (.sl ((allA l).map atomL) own) .nil .nil) .nil) .nil) t'/\HWk H' ⟨H.objs,n⟩/\(H'.Ok->LHeap.Ok ⟨H.objs,n⟩)):=by
 refine lP_okH fun hH=>lP_of_run ?_
 simp(disch:=omega)[l72a,b102]
 obtain⟨L,hL⟩:∃L,allA l=L:=⟨_,rfl⟩
 rw[hL]at hA ⊢
 refine lP_enter (σ:=NNAs) (fun q=>(.nd (clausesL l) (.nd .bot (.nd (.sl (q.aa.map atomL) q.own) .nil .nil) .nil) (.nd .bot (.nd (.int q.i) .nil .nil) .nil))) (fun q=>⟨q.ob,q.n⟩) (fun q=>l.length - q.i)
  (fun q=>RowT H 2 q.aa.length q.own q.ob q.n/\H.next<=q.n/\q.i<=l.length/\q.aa++allA (l.drop q.i)=L) ⟨0,H.next,[],.full,H.objs⟩ ⟨.inl ⟨rfl,rfl,Nat.le_refl _⟩,Nat.le_refl _,Nat.zero_le _,hL⟩ (by simp[FT.Le,Wk]) ⟨HWk.refl _,fun h=>h⟩ ?_
 rintro⟨i,n,aa,own,ob⟩ ⟨hr,hn,hi,he⟩ hok
 dsimp only at hr hn hi he hok
 have hal:aa.length<2^20:=by
  have:=congrArg List.length he
  rw[List.length_append]at this
  omega
 by_cases hlt:i<l.length
 case neg=>
  rw[List.drop_eq_nil_of_le (by omega)]at he
  have he2:aa=L:=by simpa [allA] using he
  subst he2
  simp(disch:=omega)[hlt]
  refine⟨own,n,hn,by simp[FT.Le,Wk],⟨Nat.le_refl _,fun j x hx=>?_⟩,fun _=>Desc.mono hH hn⟩
  rcases hr with⟨_,rfl,_⟩|⟨t,_,h1,h2,rfl⟩
  ·exact hx
  ·have:=hH.look hx
   simp only[look]
   rw[if_neg (by omega)]
   exact hx
 rw[List.drop_eq_getElem_cons hlt]at he
 have he1:aa++(clAs l[i]++allA (l.drop (i+1)))=L:=he
 have hbl:=hb _ (mem_at hlt)
 simp(disch:=omega)[hlt]
 refine effP_ap ?_
 obtain⟨own1,ob1,n1,e1,hr1,hn1⟩:=row_ap (H:=H) (sz:=2) (es:=aa.map atomL) (by omega) (atoms_all aa) (by rw[List.length_map];omega) (by rw[List.length_map];exact hr) (x:=atomL l[i].head) rfl .full
 rw[List.length_map]at hr1
 simp(disch:=omega)
 rw[show apL ⟨ob,n⟩ 2 (.sl (aa.map atomL) own) (.sl [.agg [.str l[i].head.pred,argsL l[i].head.args]] .full)=_ from e1]
 simp(disch:=omega)
 obtain⟨Q,hQ⟩:∃Q,aa++clAs l[i]=Q:=⟨_,rfl⟩
 rw[<-List.append_assoc,hQ]at he1
 have hQl:Q.length<2^20:=by
  have:=congrArg List.length he1
  rw[List.length_append]at this
  omega
 refine lP_enter (σ:=NNAs) (fun q=>(.nd (clausesL l) (.nd .bot (.nd (.sl (q.aa.map atomL) q.own) .nil .nil) (.nd (.int q.i) .nil .nil)) (.nd .bot (.nd (.int i) .nil .nil) .nil))) (fun q=>⟨q.ob,q.n⟩) (fun q=>l[i].body.length - q.i)
  (fun q=>RowT H 2 q.aa.length q.own q.ob q.n/\n<=q.n/\q.i<=l[i].body.length/\q.aa++(l[i].body.drop q.i).flatMap litAs=Q) ⟨0,n1,aa++[l[i].head],own1,ob1⟩
  ⟨by simp only[List.length_append,List.length_cons,List.length_nil];exact hr1,hn1,Nat.zero_le _,by rw[<-hQ];simp[clAs]⟩ (by simp[FT.Le,Wk]) ⟨HWk.refl _,fun h=>h⟩ ?_
 rintro⟨j,n2,aa2,own2,ob2⟩ ⟨hr2,hn2,hj,he2⟩ hok2
 dsimp only at hr2 hn2 hj he2 hok2
 have hal2:aa2.length<2^20:=by
  have:=congrArg List.length he2
  rw[List.length_append]at this
  omega
 by_cases hlt2:j<l[i].body.length
 case neg=>
  rw[List.drop_eq_nil_of_le (by omega)]at he2
  have he3:aa2=Q:=by simpa using he2
  subst he3
  simp(disch:=omega)[hlt,hlt2,wrap_nat (show i<2^62 by omega)]
  exact⟨⟨i+1,n2,aa2,own2,ob2⟩,by dsimp only;omega,⟨hr2,by dsimp only;omega,by dsimp only;omega,he1⟩,by simp[FT.Le,Wk],HWk.refl _,fun h=>h⟩
 rw[List.drop_eq_getElem_cons hlt2,List.flatMap_cons,<-List.append_assoc]at he2
 by_cases hk:l[i].body[j].kind<=2
 ·have e3:litAs l[i].body[j]=[l[i].body[j].atom]:=by simp[litAs,hk]
  rw[e3]at he2
  simp(disch:=omega)[hlt,hlt2,hk]
  refine effP_ap ?_
  obtain⟨own3,ob3,n3,e4,hr3,hn3⟩:=row_ap (H:=H) (sz:=2) (es:=aa2.map atomL) (by omega) (atoms_all aa2) (by rw[List.length_map];omega) (by rw[List.length_map];exact hr2) (x:=atomL l[i].body[j].atom) rfl .full
  rw[List.length_map]at hr3
  simp(disch:=omega)
  rw[show apL ⟨ob2,n2⟩ 2 (.sl (aa2.map atomL) own2) (.sl [.agg [.str l[i].body[j].atom.pred,argsL l[i].body[j].atom.args]] .full)=_ from e4]
  simp(disch:=omega)[wrap_nat (show j<2^62 by omega)]
  exact⟨⟨j+1,n3,aa2++[l[i].body[j].atom],own3,ob3⟩,by dsimp only;omega,⟨by simp only[List.length_append,List.length_cons,List.length_nil];exact hr3,by dsimp only;omega,by dsimp only;omega,he2⟩,by simp[FT.Le,Wk],HWk.refl _,fun h=>h⟩
 ·have e3:litAs l[i].body[j]=[]:=by simp[litAs,hk]
  rw[e3,List.append_nil]at he2
  simp(disch:=omega)[hlt,hlt2,hk,wrap_nat (show j<2^62 by omega)]
  exact⟨⟨j+1,n2,aa2,own2,ob2⟩,by dsimp only;omega,⟨hr2,by dsimp only;omega,by dsimp only;omega,he2⟩,by simp[FT.Le,Wk],HWk.refl _,fun h=>h⟩
end Go.Abs.Tz
namespace Go.Abs
open Go
section
variable{E:Env}{F:Fns}
theorem cP_of_fnW{b:BFn}{f:FuncId}{args:List LV}{H:LHeap}{kv kp:HP}(hf:F.fn f b)
  (h:H.Ok->fnP E F b args H (fun v H'=>∃v' H'',Wk v v'/\HWk H' H''/\(H'.Ok->H''.Ok)/\kv v' H'') kp):cP E F f args H kv kp:=by
 intro hH
 obtain⟨hn,h⟩:=h hH
 obtain⟨t,h1,h2⟩:=argsP_spec h
 have ht:t.get=frOf args:=by
  funext j
  rw[h2 j]
  simp only[frOf]
  by_cases hj:j<args.length
  ·rw[if_pos (by omega)];simp
  ·rw[if_neg (by omega)]
   have:args[j]? = none:=List.getElem?_eq_none (by omega)
   simp[List.getD_eq_getElem?_getD,this,FT.get_nil]
 have hb:=runP_ok b.body t H _ hH h1
 rw[ht]at hb
 refine .enter hf hn hb (fun fr df H' hT=>?_) (fun v fr df H' hT=>?_) (fun n fr df H' hT=>?_)
 ·have:∃(t':FT),fr=t'.get/\df=[]/\H'.Ok/\resP E b.res t' H' fun v=>∃v' H'',Wk v v'/\HWk H' H''/\(H'.Ok->H''.Ok)/\kv v' H'':=by
   rcases hT with⟨e,t',H'',he,hok,hk⟩|⟨e,t',H'',he,hok,hk⟩<;>cases he
   ·exact⟨t',rfl,rfl,hok,hk⟩
   ·exact⟨t',rfl,rfl,hok,hk⟩
  obtain⟨t',rfl,rfl,hok,v,hv,v',H1,hw,h3,h4,h5⟩:=this
  exact⟨rfl,v,v',H1,hv,hw,h3,.inl ⟨v',H1,rfl,h4 hok,h5⟩⟩
 ·obtain⟨e,t',H'',he,hok,hk⟩:=hT
  cases he
  exact⟨rfl,v,H',.inl rfl,⟨Nat.le_refl _,fun _ _ h=>h⟩,.inr ⟨v,H',rfl,hok,hk⟩⟩
 ·obtain⟨e,t',H'',he,hok,hk⟩:=hT
  cases he
  cases hk
end
end Go.Abs
namespace Go.Abs.Tz
open Go Go.Abs Go.Proofs
set_option maxRecDepth 20000
set_option linter.unusedSimpArgs false
attribute [local simp ↓] getP_nil getP_node setP_nil setP_node oneP_eq vP_map vP_some vP_none vP_bind eP_some bP_true bP_false gP_yes gP_tf gP_ft gP_tup runP_skip runP_ops runP_drw runP_seq runP_cond runP_blk runP_loop runP_exit runP_ret seqK_n seqK_r seqK_e seqK_p blkK_n blkK_r blkK_e blkK_p loopK_n loopK_r loopK_e loopK_p finK_n finK_r finK_p resP_one resP_two resP_three resP_nil resP_c nxP_nil argsP_nil argsP_cons evP_t evP_c evP_g evsP_nil evsP_cons clP_fn pnP_i opsP_nil opsP_d opsP_x opsP_gt opsP_gf opP_cf opP_cl opP_pn opP_nx valP_mv valP_pk valP_eq valP_bn valP_nt valP_ld valP_fa valP_fd valP_ia valP_ix valP_ln valP_srn valP_srl valP_srh valP_srb valP_cv valP_mi valP_mf valP_xt valP_bs valP_bd valP_nc valP_mn valP_lk valP_ta opP_mv opP_pk opP_eq opP_bn opP_nt opP_ld opP_fa opP_fd opP_ia opP_ix opP_ln opP_sr opP_cv opP_mi opP_mf opP_xt opP_bs opP_bd opP_nc opP_mn opP_lk opP_ta opP_al opP_bx opP_st opP_ap opP_mk opP_nb opP_mu opP_rg opP_en pendP_nil pendP_d pendP_g drwP_nil drwP_d drwP_x drwP_gt drwP_gf look_self natOf_nat
attribute [local simp] faL fdL iaL ixL loadL partL lenL eqK eqL natOf eqB_s eqB_i eqB_b bn_add bn_sub bn_lss bn_leq bn_gtr bn_geq bn_adds bn_lsss bn_gtrs bn_leqs bn_geqs sliceL LV.cells LV.whole look_self put_self putO_self put_eq stL fillL termC dopP LHeap.alloc oneI oneS oneB nth0 nth1 nth2 nth3 nth4 nth5 nth6 nth7 nth8 nth9 look_ne putO_ne
theorem findU_enc{k:ByteArray}:∀{K:Bind},(keysB K).Nodup->findU (.pl 1) (.str k) (encE K)=some ((findB k K).map termL)
 |[],_=>rfl
 |(j,v)::r,hn=>by
  obtain⟨h1,h2⟩:=List.nodup_cons.1 (show (j::keysB r).Nodup from hn)
  have ih:=findU_enc (k:=k) h2
  show (match eqK (.pl 1) (.str k) (.str j),findU (.pl 1) (.str k) (encE r) with
   |some true,some none=>some (some (termL v))
   |some false,some x=>some x
   |_,_=>none)=_
  rw[ih]
  by_cases he:k=j
  ·subst he
   have hnone:findB k r=none:=by
    cases hf:findB k r with
    |none=>rfl
    |some t=>exact absurd (List.mem_map.2 ⟨_,(findB_iff h2).1 hf,rfl⟩) h1
   simp[hnone,findB,eqBA_self]
  ·have:eqBA k j=false:=by
    cases h:eqBA k j with
    |false=>rfl
    |true=>exact absurd (eqBA_iff.1 h) he
   simp[findB,this]
theorem lkU{H:LHeap}{o:Nat}{K:Bind}(hl:look o H.objs=some (.um (encE K)))(hn:(keysB K).Nodup)(k:ByteArray)(z:LV):lkL H (.pl 1) false z (.map o) (.str k)=some (match findB k K with|some t=>termL t|none=>z):=by
 simp only[lkL,hl,findU_enc hn]
 cases findB k K<;>rfl
def zT:Term:=⟨0,0,⟨⟨[]⟩⟩⟩
def fillT(K:Bind)(t:Term):Term:=if t.kind=3 then (findB t.s K).getD zT else t
def fillA(K:Bind)(a:Atom):Atom:=⟨a.pred,a.args.map (fillT K)⟩
theorem t_fillM(t:Term)(K:Bind)(hn:(keysB K).Nodup)(o:Nat)(H:LHeap)(hl:look o H.objs=some (.um (encE K))){kv kp:HP}(hk:∀n,H.next<=n->kv (termL (fillT K t)) ⟨H.objs,n⟩):
  cP E0 F0 137 [termL t,.map o] H kv kp:=by
 refine cP_of_fn c137 fun hH=>⟨Nat.le_of_ble_eq_true rfl,?_⟩
 have ho:o<H.next:=hH.look hl
 have fin:∀(x y:LObj)(v:LV),v=termL (fillT K t)->∃H'',HWk ⟨(H.next+1,x)::(H.next,y)::H.objs,H.next+1+1⟩ H''/\(LHeap.Ok ⟨(H.next+1,x)::(H.next,y)::H.objs,H.next+1+1⟩->H''.Ok)/\kv v H'':=fun x y v hv=>by
  obtain⟨g1,g2⟩:=back hH (HExt.cons' hH (i:=H.next+1) (m:=H.next+1+1) (o:=x) (by omega) (by omega) (HExt.cons' hH (i:=H.next) (m:=H.next) (o:=y) (by omega) (by omega) (HExt.refl' _)))
  exact⟨_,g1,g2,by rw[hv];exact hk _ (by omega)⟩
 by_cases h3:t.kind=3
 ·simp(disch:=omega)[b137,h3]
  rw[lkU (by rw[look_ne (by omega),look_ne (by omega)];exact hl) hn]
  cases hf:findB t.s K with
  |none=>
   simp(disch:=omega)[hf]
   exact fin _ _ _ (by simp[fillT,h3,hf,zT])
  |some u=>
   simp(disch:=omega)[hf]
   exact fin _ _ _ (by simp[fillT,h3,hf])
 ·simp(disch:=omega)[b137,h3]
  exact fin _ _ _ (by simp[fillT,h3])
theorem apL_new{H:LHeap}{sz:Nat}{X:List LV}{x:LV}{ow:Own}(hX:(X.all fun e=>e.cells.length==sz)=true)(hx:x.cells.length=sz)(hc:X.length+1<=2^30)(hs:sz<=2^10):
  apL H sz (.sl X .full) (.sl [x] ow)=some (.sl (X++[x]) (.tok H.next),H.alloc (.tok (X.length+1) sz)):=by
 have hxs:([x].all fun e=>e.cells.length==sz)=true:=by
  show (x.cells.length==sz&&true)=true
  rw[hx];simp
 unfold apL
 simp only
 rw[hX,hxs]
 simp only[Bool.and_self,if_true]
 rw[if_pos ⟨hc,hs,rfl⟩]
 rfl
theorem apL_tok{H:LHeap}{sz t:Nat}{X:List LV}{x:LV}{ow:Own}(hX:(X.all fun e=>e.cells.length==sz)=true)(hx:x.cells.length=sz)(hc:X.length+1<=2^30)(hs:sz<=2^10)(h0:0<sz)(hl:look t H.objs=some (.tok X.length sz)):
  apL H sz (.sl X (.tok t)) (.sl [x] ow)=some (.sl (X++[x]) (.tok t),H.put t (.tok (X.length+1) sz)):=by
 have hxs:([x].all fun e=>e.cells.length==sz)=true:=by
  show (x.cells.length==sz&&true)=true
  rw[hx];simp
 have hcan:canApp H sz (.tok t) X.length=true:=by
  have:sz≠0:=by omega
  simp[canApp,hl,this]
 unfold apL
 simp only
 rw[hX,hxs]
 simp only[Bool.and_self,if_true]
 rw[if_pos ⟨hc,hs,hcan⟩]
 rfl
structure NNFl where
 i:Nat
 n:Nat
 xs:List Term
 own:Own
 ob:List (Nat×LObj)
abbrev fillsL(K:Term->Term)(l:List Term):List LV:=l.map fun t=>termL (K t)
theorem fills_all(K:Term->Term)(l:List Term):(fillsL K l).all (fun e=>e.cells.length==3)=true:=by
 rw[List.all_map,List.all_eq_true]
 intro x _
 rfl
theorem t_filledG(a:Atom)(hA:a.args.length<=2^20)(K:Term->Term)(mv:LV)(H:LHeap)(hf:∀t∈a.args,∀(l:List (Nat×LObj)) (n:Nat) (kv kp:HP),H.next<=n->(∀i,i<H.next->look i l=look i H.objs)->(∀n',n<=n'->kv (termL (K t)) ⟨l,n'⟩)->cP E0 F0 137 [termL t,mv] ⟨l,n⟩ kv kp)
  {kv kp:HP} (hk:∀n,H.next<=n->kv (atomL ⟨a.pred,a.args.map K⟩) ⟨H.objs,n⟩):cP E0 F0 93 [atomL a,mv] H kv kp:=by
 refine cP_of_fnW c93 fun hH=>⟨Nat.le_of_ble_eq_true rfl,?_⟩
 obtain⟨N,hN⟩:∃N,H.next=N:=⟨_,rfl⟩
 obtain⟨ob0,nx0⟩:=H
 dsimp only at hN hf hk
 subst hN
 simp(disch:=omega)[b93]
 refine lP_enter (σ:=NNFl) (fun q=>(.nd (atomL a) (.nd (mv) .nil (.nd (.ptr (nx0+1+1) 0) .nil (.nd (.int a.args.length) .nil .nil))) (.nd (.ptr nx0 0) (.nd (.ptr (nx0+1) 0) .nil (.nd (argsL a.args) .nil .nil)) (.nd .bot .nil (.nd (.int q.i) .nil .nil))))) (fun q=>⟨q.ob,q.n⟩) (fun q=>a.args.length - q.i)
  (fun q=>RowT ⟨(nx0+1+1,.cells [.str a.pred,.sl (fillsL K q.xs) q.own])::(nx0+1,.cells [S [],Nl])::(nx0,.cells [.str a.pred,argsL a.args])::ob0,nx0+1+1+1⟩ 3 q.i q.own q.ob q.n/\q.i<=a.args.length/\q.xs.length=q.i/\q.xs++a.args.drop q.i=a.args)
  ⟨0,nx0+1+1+1,[],.full,(nx0+1+1,.cells [.str a.pred,Nl])::(nx0+1,.cells [S [],Nl])::(nx0,.cells [.str a.pred,argsL a.args])::ob0⟩ ⟨.inl ⟨rfl,rfl,Nat.le_refl _⟩,Nat.zero_le _,rfl,by simp⟩ (by simp[FT.Le,Wk]) ⟨HWk.refl _,fun h=>h⟩ ?_
 rintro⟨i,n,xs,own,ob⟩ ⟨hr,hi,hxl,hxs⟩ hok
 dsimp only at hr hi hok hxl hxs
 have hfin:∀(ow:Own)(H':LHeap),HWk H' ⟨ob0,n⟩->xs=a.args->∃v',Wk (LV.agg [.str a.pred,.sl (fillsL K xs) ow]) v'/\∃H'',HWk H' H''/\(H'.Ok->H''.Ok)/\kv v' H'':=by
  intro ow H' hw hx
  have hn0:nx0<=n:=by
   rcases hr with⟨_,_,h3⟩|⟨t,_,g1,g2,_⟩
   ·dsimp only at h3;omega
   ·dsimp only at g1;omega
  refine⟨atomL ⟨a.pred,a.args.map K⟩,.inr (.inl ?_),⟨ob0,n⟩,hw,fun _=>Desc.mono hH hn0,hk n hn0⟩
  subst hx
  simp[LV.strip,stripL_map,List.map_map,Function.comp_def]
 by_cases hlt:i<a.args.length
 case neg=>
  have hall:xs=a.args:=by rw[List.drop_eq_nil_of_le (by omega),List.append_nil]at hxs;exact hxs
  rcases hr with⟨rfl,rfl,h3⟩|⟨t,rfl,g1,g2,rfl⟩
  ·dsimp only at h3
   simp(disch:=omega)[hlt]
   refine hfin _ _ ⟨Nat.le_refl _,fun i x hx=>?_⟩ hall
   have:i<nx0:=hH.look hx
   rw[look_ne (by omega),look_ne (by omega),look_ne (by omega)]
   exact hx
  ·dsimp only at g1
   simp(disch:=omega)[hlt]
   refine hfin _ _ ⟨Nat.le_refl _,fun i x hx=>?_⟩ hall
   have:i<nx0:=hH.look hx
   rw[look_ne (by omega),look_ne (by omega),look_ne (by omega),look_ne (by omega)]
   exact hx
 have hX:=fills_all K xs
 obtain⟨X,hXe⟩:∃X,fillsL K xs=X:=⟨_,rfl⟩
 have hXl:X.length=i:=by rw[<-hXe,List.length_map];exact hxl
 have hnew:fillsL K (xs++[a.args[i]])=X++[termL (K a.args[i])]:=by rw[<-hXe];simp[fillsL]
 have hxl2:(xs++[a.args[i]]).length=i+1:=by simp[hxl]
 have hxs2:(xs++[a.args[i]])++a.args.drop (i+1)=a.args:=by
  rw[List.append_assoc]
  show xs++(a.args[i]::a.args.drop (i+1))=a.args
  rw[<-List.drop_eq_getElem_cons hlt]
  exact hxs
 rw[hXe]at hX hr
 have hcan:i+1<=2^30:=by omega
 rcases hr with⟨rfl,rfl,h3⟩|⟨t,rfl,g1,g2,rfl⟩
 ·dsimp only at h3
  simp(disch:=omega)[hlt]
  refine hf a.args[i] (List.getElem_mem hlt) _ _ _ _ (by omega) (fun j hj=>by rw[look_ne (by omega),look_ne (by omega),look_ne (by omega),look_ne (by omega)]) fun n2 hn2=>?_
  simp(disch:=omega)
  refine effP_ap ?_
  simp(disch:=omega)
  rw[apL_new hX rfl (by rw[hXl];exact hcan) (by omega)]
  simp(disch:=omega)[hXl,wrap_nat (show i<2^62 by omega)]
  refine⟨⟨i+1,n2+1,xs++[a.args[i]],.tok n2,(n2,.tok (i+1) 3)::(nx0+1+1,.cells [.str a.pred,.sl (fillsL K (xs++[a.args[i]])) (.tok n2)])::(nx0+1,.cells [S [],Nl])::(nx0,.cells [.str a.pred,argsL a.args])::ob0⟩,by dsimp only;omega,⟨.inr ⟨n2,rfl,by dsimp only;omega,Nat.lt_succ_self _,rfl⟩,by dsimp only;omega,hxl2,hxs2⟩,by simp[FT.Le,Wk],?_⟩
  dsimp only
  rw[hnew]
  have hB:Desc ((nx0+1+1,LObj.cells [.str a.pred,.sl (X++[termL (K a.args[i])]) (.tok n2)])::(nx0+1,.cells [S [],Nl])::(nx0,.cells [.str a.pred,argsL a.args])::ob0) n:=⟨by omega,by omega,by omega,hH⟩
  exact⟨hwk_mid hB fun _ _ h=>h,fun _=>⟨Nat.lt_succ_self _,hB.mono (by omega)⟩⟩
 ·dsimp only at g1
  simp(disch:=omega)[hlt]
  refine hf a.args[i] (List.getElem_mem hlt) _ _ _ _ (by omega) (fun j hj=>by rw[look_ne (by omega),look_ne (by omega),look_ne (by omega),look_ne (by omega),look_ne (by omega)]) fun n2 hn2=>?_
  simp(disch:=omega)
  refine effP_ap ?_
  simp(disch:=omega)
  rw[apL_tok hX rfl (by rw[hXl];exact hcan) (by omega) (by omega) (by rw[look_ne (by omega),hXl];simp[look])]
  simp(disch:=omega)[hXl,wrap_nat (show i<2^62 by omega)]
  refine⟨⟨i+1,n2,xs++[a.args[i]],.tok t,(t,.tok (i+1) 3)::(nx0+1+1,.cells [.str a.pred,.sl (fillsL K (xs++[a.args[i]])) (.tok t)])::(nx0+1,.cells [S [],Nl])::(nx0,.cells [.str a.pred,argsL a.args])::ob0⟩,by dsimp only;omega,⟨.inr ⟨t,rfl,g1,by dsimp only;omega,rfl⟩,by dsimp only;omega,hxl2,hxs2⟩,by simp[FT.Le,Wk],?_⟩
  dsimp only
  rw[hnew]
  have hOk3:LHeap.Ok ⟨(t,.tok (i+1) 3)::(nx0+1+1,LObj.cells [.str a.pred,.sl (X++[termL (K a.args[i])]) (.tok t)])::(nx0+1,.cells [S [],Nl])::(nx0,.cells [.str a.pred,argsL a.args])::ob0,n⟩:=⟨g2,g1,by omega,by omega,hH⟩
  exact back hOk3 (HExt.cons hOk3 (Nat.le_refl _) (HExt.refl (Nat.le_refl _)) (by dsimp only;omega))
theorem t_filledM(a:Atom)(hA:a.args.length<=2^20)(K:Bind)(hn:(keysB K).Nodup)(o:Nat)(H:LHeap)(hl:look o H.objs=some (.um (encE K))){kv kp:HP}(hk:∀n,H.next<=n->kv (atomL (fillA K a)) ⟨H.objs,n⟩):
  cP E0 F0 93 [atomL a,.map o] H kv kp:=fun hH=>
 t_filledG a hA (fillT K) (.map o) H (fun t _ l n kv kp _ hs hk2=>t_fillM t K hn o ⟨l,n⟩ (by dsimp only;rw[hs o (hH.look hl)];exact hl) hk2) hk hH
theorem t_fillN(t:Term)(h3:t.kind≠3)(H:LHeap){kv kp:HP}(hk:∀n,H.next<=n->kv (termL t) ⟨H.objs,n⟩):cP E0 F0 137 [termL t,.sc (.map none)] H kv kp:=by
 refine cP_of_fn c137 fun hH=>⟨Nat.le_of_ble_eq_true rfl,?_⟩
 simp(disch:=omega)[b137,h3]
 obtain⟨g1,g2⟩:=back hH (HExt.cons' hH (i:=H.next+1) (m:=H.next+1+1) (o:=.cells [.int t.kind,.int t.n,.str t.s]) (by omega) (by omega) (HExt.cons' hH (i:=H.next) (m:=H.next) (o:=.cells [.int t.kind,.int t.n,.str t.s]) (by omega) (by omega) (HExt.refl' _)))
 exact⟨_,g1,g2,hk _ (by omega)⟩
theorem t_filledN(a:Atom)(hA:a.args.length<=2^20)(hg:∀t∈a.args,t.kind≠3)(H:LHeap){kv kp:HP}(hk:∀n,H.next<=n->kv (atomL a) ⟨H.objs,n⟩):cP E0 F0 93 [atomL a,.sc (.map none)] H kv kp:=
 t_filledG a hA id (.sc (.map none)) H (fun t ht l n kv kp _ _ hk2=>t_fillN t (hg t ht) ⟨l,n⟩ hk2) (by simpa using hk)
def numT(t:Term):Bool:=decide (t.kind=1)
def cmpLit(K:Bind)(x:Lit):Bool:=
 if x.kind=3 then eqT (fillT K x.a) (fillT K x.b)
 else if x.kind=4 then !eqT (fillT K x.a) (fillT K x.b)
 else if x.kind=5 then numT (fillT K x.a)&&numT (fillT K x.b)&&decide ((fillT K x.a).n<(fillT K x.b).n)
 else numT (fillT K x.a)&&numT (fillT K x.b)&&decide ((fillT K x.a).n<=(fillT K x.b).n)
theorem t_comparesM(x:Lit)(K:Bind)(hn:(keysB K).Nodup)(o:Nat)(H:LHeap)(hl:look o H.objs=some (.um (encE K))){kv kp:HP}(hk:∀n,H.next<=n->kv (.bool (cmpLit K x)) ⟨H.objs,n⟩):
  cP E0 F0 95 [litL x,.map o] H kv kp:=by
 refine cP_of_fn c95 fun hH=>⟨Nat.le_of_ble_eq_true rfl,?_⟩
 have ho:o<H.next:=hH.look hl
 obtain⟨ob0,nx0⟩:=H
 dsimp only at hl ho hk
 simp(disch:=omega)[b95]
 refine t_fillM x.a K hn o _ (by dsimp only;rw[look_ne (by omega)];exact hl) fun n2 hn2=>?_
 dsimp only at hn2
 simp(disch:=omega)
 refine t_fillM x.b K hn o _ (by dsimp only;rw[look_ne (by omega)];exact hl) fun n3 hn3=>?_
 dsimp only at hn3
 have hfin:∀(H':LHeap)(v:LV),HWk H' ⟨ob0,n3+1+1⟩->v=.bool (cmpLit K x)->∃H'',HWk H' H''/\(H'.Ok->H''.Ok)/\kv v H'':=fun H' v hw hv=>⟨⟨ob0,n3+1+1⟩,hw,fun _=>Desc.mono hH (by dsimp only;omega),by rw[hv];exact hk _ (by omega)⟩
 have hw:∀(c1 c2 c3:LObj),HWk ⟨(n3+1,c1)::(n3,c2)::(nx0,c3)::ob0,n3+1+1⟩ ⟨ob0,n3+1+1⟩:=fun c1 c2 c3=>⟨Nat.le_refl _,fun i y hy=>by
  have:i<nx0:=hH.look hy
  rw[look_ne (by omega),look_ne (by omega),look_ne (by omega)]
  exact hy⟩
 obtain⟨P,hP⟩:∃P,fillT K x.a=P:=⟨_,rfl⟩
 obtain⟨Q,hQ⟩:∃Q,fillT K x.b=Q:=⟨_,rfl⟩
 have hcl:cmpLit K x=if x.kind=3 then eqT P Q else if x.kind=4 then !eqT P Q else if x.kind=5 then numT P&&numT Q&&decide (P.n<Q.n) else numT P&&numT Q&&decide (P.n<=Q.n):=by rw[<-hP,<-hQ];rfl
 rw[hcl]at hfin
 rw[hP,hQ]
 simp(disch:=omega)
 rcases Classical.em (P.kind=1) with p1|p1<;>rcases Classical.em (Q.kind=1) with q1|q1<;>rcases Classical.em (x.kind=3) with k3|k3<;>rcases Classical.em (x.kind=4) with k4|k4<;>rcases Classical.em (x.kind=5) with k5|k5<;>(try (exfalso;omega))
 all_goals (simp(disch:=omega)[p1,q1,k3,k4,k5])
 all_goals (exact hfin _ _ (hw _ _ _) (by simp[k3,k4,k5,numT,eqT,p1,q1]))
end Go.Abs.Tz
namespace Go.Abs.Tz
open Go
def HeadNot(p:UInt8->Bool)(r:List UInt8):Prop:=∀c t,r=c::t->p c=false
theorem split_uniq{p:UInt8->Bool}:∀{xs ys r s:List UInt8},(∀x∈xs,p x=true)->(∀y∈ys,p y=true)->HeadNot p r->HeadNot p s->xs++r=ys++s->xs=ys/\r=s
 |[],[],_,_,_,_,_,_,h=>⟨rfl,h⟩
 |[],y::ys,r,s,_,hy,hr,_,h=>by
  have:=hr y (ys++s) h
  rw[hy y List.mem_cons_self]at this
  cases this
 |x::xs,[],r,s,hx,_,_,hs,h=>by
  have:=hs x (xs++r) h.symm
  rw[hx x List.mem_cons_self]at this
  cases this
 |x::xs,y::ys,r,s,hx,hy,hr,hs,h=>by
  simp only[List.cons_append,List.cons.injEq]at h
  obtain⟨h1,h2⟩:=split_uniq (fun z hz=>hx z (List.mem_cons_of_mem _ hz)) (fun z hz=>hy z (List.mem_cons_of_mem _ hz)) hr hs h.2
  exact⟨by rw[h.1,h1],h2⟩
theorem digit_toNat{d:Nat}(h:d<10):(UInt8.ofNat (48+d)).toNat=48+d:=by
 rw[UInt8.toNat_ofNat']
 omega
theorem decDigits_ne(u:Nat):Lib.decDigits u≠[]:=by
 rw[Lib.decDigits]
 split<;>simp
theorem dec_lo{u:Nat}(h:u<10):Lib.decDigits u=[UInt8.ofNat (48+u)]:=by rw[Lib.decDigits,dif_pos h]
theorem dec_hi{u:Nat}(h:¬u<10):Lib.decDigits u=Lib.decDigits (u / 10)++[UInt8.ofNat (48+u % 10)]:=by rw[Lib.decDigits,dif_neg h]
theorem decDigits_inj(u:Nat):∀v,Lib.decDigits u=Lib.decDigits v->u=v:=by
 induction u using Nat.strongRecOn with
 |_ u ih=>
  intro v h
  by_cases hu:u<10
  ·rw[dec_lo hu]at h
   by_cases hv:v<10
   ·rw[dec_lo hv]at h
    have:=congrArg UInt8.toNat (List.cons.inj h).1
    rw[digit_toNat hu,digit_toNat hv]at this
    omega
   ·rw[dec_hi hv]at h
    have hl:=congrArg List.length h
    rw[List.length_append]at hl
    have:=List.length_pos_iff.2 (decDigits_ne (v / 10))
    simp only[List.length_cons,List.length_nil]at hl
    omega
  ·rw[dec_hi hu]at h
   by_cases hv:v<10
   ·rw[dec_lo hv]at h
    have hl:=congrArg List.length h
    rw[List.length_append]at hl
    have:=List.length_pos_iff.2 (decDigits_ne (u / 10))
    simp only[List.length_cons,List.length_nil]at hl
    omega
   ·rw[dec_hi hv]at h
    obtain⟨h1,h2⟩:=List.append_inj' h rfl
    have e1:=ih (u / 10) (by omega) (v / 10) h1
    have:=congrArg UInt8.toNat (List.cons.inj h2).1
    rw[digit_toNat (Nat.mod_lt _ (by omega)),digit_toNat (Nat.mod_lt _ (by omega))]at this
    omega
theorem decDigits_mem(u:Nat):∀c∈Lib.decDigits u,48<=c.toNat/\c.toNat<=57:=by
 induction u using Nat.strongRecOn with
 |_ u ih=>
  intro c hc
  by_cases hu:u<10
  ·rw[dec_lo hu,List.mem_singleton]at hc
   subst hc
   rw[digit_toNat hu];omega
  ·rw[dec_hi hu,List.mem_append,List.mem_singleton]at hc
   rcases hc with hc|rfl
   ·exact ih (u / 10) (by omega) c hc
   ·rw[digit_toNat (Nat.mod_lt _ (by omega))]
    have:=Nat.mod_lt u (show 0<10 by omega)
    omega
theorem itoa_mem(n:Int):∀c∈Lib.itoa n,c=45\/(48<=c.toNat/\c.toNat<=57):=by
 intro c hc
 unfold Lib.itoa at hc
 split at hc
 ·rcases List.mem_cons.1 hc with h|h
  ·exact .inl h
  ·exact .inr (decDigits_mem _ c h)
 ·exact .inr (decDigits_mem _ c hc)
theorem itoa_ne(n:Int):Lib.itoa n≠[]:=by
 unfold Lib.itoa
 split
 ·simp
 ·exact decDigits_ne _
theorem itoa_inj{m n:Int}(h:Lib.itoa m=Lib.itoa n):m=n:=by
 have no:∀(u:Nat)(r:List UInt8),Lib.decDigits u≠45::r:=by
  intro u r e
  have:=decDigits_mem u 45 (by rw[e];exact List.mem_cons_self)
  have h45:(45:UInt8).toNat=45:=rfl
  omega
 unfold Lib.itoa at h
 by_cases hm:m<0
 ·rw[if_pos hm]at h
  by_cases hn:n<0
  ·rw[if_pos hn]at h
   have:=decDigits_inj _ _ (List.cons.inj h).2
   omega
  ·rw[if_neg hn]at h
   exact absurd h.symm (no _ _)
 ·rw[if_neg hm]at h
  by_cases hn:n<0
  ·rw[if_pos hn]at h
   exact absurd h (no _ _)
  ·rw[if_neg hn]at h
   have:=decDigits_inj _ _ h
   omega
end Go.Abs.Tz
namespace Go.Abs.Tz
open Go Go.Abs Go.Proofs
set_option maxRecDepth 20000
set_option linter.unusedSimpArgs false
attribute [local simp ↓] getP_nil getP_node setP_nil setP_node oneP_eq vP_map vP_some vP_none vP_bind eP_some bP_true bP_false gP_yes gP_tf gP_ft gP_tup runP_skip runP_ops runP_drw runP_seq runP_cond runP_blk runP_loop runP_exit runP_ret seqK_n seqK_r seqK_e seqK_p blkK_n blkK_r blkK_e blkK_p loopK_n loopK_r loopK_e loopK_p finK_n finK_r finK_p resP_one resP_two resP_three resP_nil resP_c nxP_nil argsP_nil argsP_cons evP_t evP_c evP_g evsP_nil evsP_cons clP_fn pnP_i opsP_nil opsP_d opsP_x opsP_gt opsP_gf opP_cf opP_cl opP_pn opP_nx valP_mv valP_pk valP_eq valP_bn valP_nt valP_ld valP_fa valP_fd valP_ia valP_ix valP_ln valP_srn valP_srl valP_srh valP_srb valP_cv valP_mi valP_mf valP_xt valP_bs valP_bd valP_nc valP_mn valP_lk valP_ta opP_mv opP_pk opP_eq opP_bn opP_nt opP_ld opP_fa opP_fd opP_ia opP_ix opP_ln opP_sr opP_cv opP_mi opP_mf opP_xt opP_bs opP_bd opP_nc opP_mn opP_lk opP_ta opP_al opP_bx opP_st opP_ap opP_mk opP_nb opP_mu opP_rg opP_en pendP_nil pendP_d pendP_g drwP_nil drwP_d drwP_x drwP_gt drwP_gf look_self natOf_nat
attribute [local simp] faL fdL iaL ixL loadL partL lenL eqK eqL natOf eqB_s eqB_i eqB_b bn_add bn_sub bn_lss bn_leq bn_gtr bn_geq bn_adds bn_lsss bn_gtrs bn_leqs bn_geqs sliceL LV.cells LV.whole look_self put_self putO_self put_eq stL fillL termC dopP LHeap.alloc oneI oneS oneB nth0 nth1 nth2 nth3 nth4 nth5 nth6 nth7 nth8 nth9 look_ne putO_ne
theorem ba_app(a b:List UInt8):((⟨⟨a⟩⟩:ByteArray)++(⟨⟨b⟩⟩:ByteArray))=⟨⟨a++b⟩⟩:=by
 apply ByteArray.ext
 simp
theorem ba_size(a:List UInt8):(⟨⟨a⟩⟩:ByteArray).size=a.length:=rfl
theorem digits_le:∀(k u:Nat),u<10^(k+1)->(Lib.decDigits u).length<=k+1
 |0,u,h=>by
  have h':u<10:=by simpa using h
  rw[Lib.decDigits,dif_pos h'];simp
 |k+1,u,h=>by
  by_cases h':u<10
  ·rw[Lib.decDigits,dif_pos h'];simp
  ·have:=digits_le k (u / 10) (by rw[Nat.pow_succ]at h;omega)
   rw[Lib.decDigits,dif_neg h',List.length_append]
   simp only[List.length_cons,List.length_nil]
   omega
theorem digits_13{u:Nat}(h:u<=2^40):(Lib.decDigits u).length<=13:=digits_le 12 u (by omega)
def termX(t:Term):ByteArray:=if t.kind=1 then ⟨⟨Lib.itoa t.n⟩⟩ else t.s
theorem t_showTerm(t:Term)(h:t.kind=1->-(2^40)<=t.n/\t.n<=2^40):PureT 73 [termL t] (.str (termX t)):=by
 refine PureT.of c73 fun H hH=>⟨Nat.le_of_ble_eq_true rfl,?_⟩
 by_cases h1:t.kind=1
 ·have:=h h1
  simp(disch:=omega)[b73,h1]
  refine(t_itoaG t.n (by omega) (by omega)).go fun n hn=>?_
  simp(disch:=omega)
  exact doneK hH (by simp[termX,h1])
 ·simp(disch:=omega)[b73,h1]
  exact doneK hH (by simp[termX,h1])
def argsX:List Term->Bool->List UInt8
 |[],first=>if first then [] else [41]
 |t::r,first=>(if first then [40] else [44,32])++(termX t).data.toList++argsX r false
def atomX(a:Atom):ByteArray:=⟨⟨a.pred.data.toList++argsX a.args true⟩⟩
theorem ba_len(a:ByteArray):a.data.toList.length=a.size:=rfl
theorem word_size{lo hi:Int}{s:ByteArray}(h:wordOk lo hi s=true):s.size<=24:=by
 unfold wordOk at h
 simp only[Bool.and_eq_true,decide_eq_true_eq]at h
 omega
theorem term_size{t:Term}(h:termOk t=true):(termX t).size<=24/\(t.kind=1->-(2^40)<=t.n/\t.n<=2^40):=by
 unfold termOk at h
 unfold termX
 by_cases h1:t.kind=1
 ·rw[if_pos h1]at h ⊢
  simp only[Bool.and_eq_true,decide_eq_true_eq]at h
  refine⟨?_,fun _=>by omega⟩
  show (Lib.itoa t.n).length<=24
  unfold Lib.itoa
  split
  ·have:=digits_13 (u:=t.n.natAbs) (by omega)
   rw[List.length_cons];omega
  ·have:=digits_13 (u:=t.n.toNat) (by omega)
   omega
 ·rw[if_neg h1]at h ⊢
  refine⟨?_,fun h=>absurd h h1⟩
  split at h
  ·simp only[Bool.and_eq_true]at h;exact word_size h.2
  ·split at h
   ·simp only[Bool.and_eq_true]at h;exact word_size h.2
   ·cases h
theorem argsX_len:∀{l:List Term}{b:Bool},l.all termOk=true->(argsX l b).length<=26*l.length+1
 |[],b,_=>by unfold argsX;split<;>simp
 |t::r,b,h=>by
  simp only[List.all_cons,Bool.and_eq_true]at h
  have h1:=(term_size h.1).1
  have h2:=argsX_len (b:=false) h.2
  have h3:(termX t).data.toList.length<=24:=h1
  simp only[argsX,List.length_append,List.length_cons]
  split<;>simp only[List.length_cons,List.length_nil]<;>omega
theorem atom_parts{a:Atom}(h:atomOk a=true):a.pred.size<=24/\a.args.length<=3/\a.args.all termOk=true:=by
 unfold atomOk at h
 simp only[Bool.and_eq_true,decide_eq_true_eq]at h
 exact⟨word_size h.1,h.2⟩
theorem atomX_len{a:Atom}(h:atomOk a=true):(atomX a).size<=110:=by
 obtain⟨h1,h2,h3⟩:=atom_parts h
 have:=argsX_len (b:=true) h3
 show (a.pred.data.toList++argsX a.args true).length<=110
 rw[List.length_append,ba_len]
 omega
structure NNX where
 i:Nat
 n:Nat
 s:List UInt8
theorem join_cons(sep:List UInt8):∀(x:List UInt8)(r:List (List UInt8)),Lib.join (x::r) sep=x++(r.map (sep++·)).flatten
 |x,[]=>by simp[Lib.join,List.intercalate,List.intersperse]
 |x,y::r=>by
  have ih:=join_cons sep y r
  unfold Lib.join at ih ⊢
  unfold List.intercalate at ih ⊢
  rw[show List.intersperse sep (x::y::r)=x::sep::List.intersperse sep (y::r) from rfl]
  rw[List.flatten_cons,List.flatten_cons,ih]
  simp
theorem argsX_false:∀l:List Term,argsX l false=((l.map fun t=>(termX t).data.toList).map ([44,32]++·)).flatten++[41]
 |[]=>rfl
 |t::r=>by
  have ih:=argsX_false r
  rw[argsX,ih]
  simp
theorem argsX_true{l:List Term}(h:l≠[]):argsX l true=[40]++Lib.join (l.map fun t=>(termX t).data.toList) [44,32]++[41]:=by
 cases l with
 |nil=>exact absurd rfl h
 |cons t r=>
  rw[List.map_cons,join_cons,argsX,argsX_false]
  simp
structure NNY where
 i:Nat
 n:Nat
 xs:List ByteArray
 own:Own
 ob:List (Nat×LObj)
abbrev strsL(xs:List ByteArray):List LV:=xs.map fun x=>.str x
theorem strs_all(xs:List ByteArray):(strsL xs).all (fun e=>e.cells.length==1)=true:=by
 rw[List.all_map,List.all_eq_true]
 intro x _
 rfl
theorem t_show(a:Atom)(h:atomOk a=true):PureT 33 [atomL a] (.str (atomX a)):=by
 obtain⟨h1,h2,h3⟩:=atom_parts h
 have hX:(atomX a).size<=110:=atomX_len h
 refine PureT.of c33 fun H hH=>⟨Nat.le_of_ble_eq_true rfl,?_⟩
 by_cases h0:a.args.length=0
 ·have h0':(a.args.length:Int)=0:=by omega
  have hn:a.args=[]:=List.length_eq_zero_iff.1 h0
  have hX2:atomX a=a.pred:=by
   unfold atomX
   rw[hn]
   simp[argsX]
  simp(disch:=omega)[b33,h0,h0']
  exact doneK hH (by simp[hX2])
 have h0':¬(a.args.length:Int)=0:=by omega
 simp(disch:=omega)[b33,h0,h0']
 have hbase:LHeap.Ok ⟨(H.next,.cells [.str a.pred,argsL a.args])::H.objs,H.next+1⟩:=⟨Nat.lt_succ_self _,hH⟩
 obtain⟨L,hL⟩:∃L,a.args.map termX=L:=⟨_,rfl⟩
 have hLl:L.length<=3:=by rw[<-hL,List.length_map];exact h2
 refine lP_enter (σ:=NNY) (fun q=>(.nd .bot (.nd (.ptr H.next 0) (.nd (.sl (strsL q.xs) q.own) (.nd .bot (.nd (.int q.i) .nil .nil) .nil) .nil) (.nd .bot .nil (.nd (argsL a.args) .nil .nil))) (.nd .bot .nil (.nd .bot .nil (.nd (.int a.args.length) .nil .nil))))) (fun q=>⟨q.ob,q.n⟩) (fun q=>a.args.length - q.i)
  (fun q=>RowT ⟨(H.next,.cells [.str a.pred,argsL a.args])::H.objs,H.next+1⟩ 1 q.xs.length q.own q.ob q.n/\H.next<q.n/\q.i<=a.args.length/\q.xs++(a.args.drop q.i).map termX=L) ⟨0,H.next+1,[],.full,(H.next,.cells [.str a.pred,argsL a.args])::H.objs⟩
  ⟨.inl ⟨rfl,rfl,Nat.le_refl _⟩,Nat.lt_succ_self _,Nat.zero_le _,by simpa using hL⟩ (by simp[FT.Le,Wk]) ⟨HWk.refl _,fun h=>h⟩ ?_
 rintro⟨i,n,xs,own,ob⟩ ⟨hr,hn,hi,he⟩ hok
 dsimp only at hr hn hi he hok
 have hxl:xs.length<=3:=by
  have:=congrArg List.length he
  rw[List.length_append]at this
  omega
 have hob:ob=(H.next,.cells [.str a.pred,argsL a.args])::H.objs\/∃t,H.next<t/\ob=(t,.tok xs.length 1)::(H.next,.cells [.str a.pred,argsL a.args])::H.objs:=by
  rcases hr with⟨_,rfl,_⟩|⟨t,_,g1,g2,rfl⟩
  ·exact .inl rfl
  ·exact .inr ⟨t,g1,rfl⟩
 have hlk:look H.next ob=some (.cells [.str a.pred,argsL a.args]):=by
  rcases hob with rfl|⟨t,g1,rfl⟩
  ·simp[look]
  ·rw[look_ne (by omega)];simp[look]
 have hfg:HWk ⟨ob,n⟩ ⟨H.objs,n⟩:=⟨Nat.le_refl _,fun j x hx=>by
  have:=hH.look hx
  rcases hob with rfl|⟨t,g1,rfl⟩
  ·simp only[look];rw[if_neg (by omega)];exact hx
  ·simp only[look];rw[if_neg (by omega),if_neg (by omega)];exact hx⟩
 by_cases hlt:i<a.args.length
 case neg=>
  rw[List.drop_eq_nil_of_le (by omega),List.map_nil,List.append_nil]at he
  subst he
  have hdata:xs.map (·.data.toList)=a.args.map fun t=>(termX t).data.toList:=by rw[<-hL,List.map_map];rfl
  have hne:a.args≠[]:=fun e=>h0 (by rw[e];rfl)
  obtain⟨J,hJ⟩:∃J,Lib.join (xs.map (·.data.toList)) [44,32]=J:=⟨_,rfl⟩
  have hAX:atomX a=⟨⟨a.pred.data.toList++[40]++J++[41]⟩⟩:=by
   unfold atomX
   rw[argsX_true hne,<-hdata,hJ]
   simp
  obtain⟨P8,hP8⟩:∃P8,a.pred.data.toList=P8:=⟨_,rfl⟩
  have hpr:a.pred=⟨⟨P8⟩⟩:=by rw[<-hP8]
  have hPl:P8.length<=24:=by rw[<-hP8];exact h1
  rw[hP8]at hAX
  have hJl:J.length<=110:=by
   rw[hAX]at hX
   have:(P8++[40]++J++[41]).length<=110:=hX
   simp only[List.length_append]at this
   omega
  have hb1:P8.length+1<=2^40:=by omega
  have hb2:P8.length+1+J.length<=2^40:=by omega
  have hb3:P8.length+(1+J.length)<=2^40:=by omega
  have hb4:P8.length+1+J.length+1<=2^40:=by omega
  have hb5:P8.length+(1+(J.length+1))<=2^40:=by omega
  have hb6:P8.length+(J.length+1)+1<=2^40:=by omega
  have hb7:P8.length+(J.length+1)<=2^40:=by omega
  have hb8:P8.length+(J.length+1+1)<=2^40:=by omega
  rw[hpr]at hlk
  have lk1:loadL ⟨ob,n⟩ none (.ptr H.next 0)=some (.str ⟨⟨P8⟩⟩):=by simp[loadL,hlk,partL]
  simp(disch:=omega)[hlt,hlk,ba_app,ba_size,hb1]
  refine(t_join xs own ⟨⟨[44,32]⟩⟩ (by omega) (by show (Lib.join _ [44,32]).length<=_;rw[hJ];omega)).x (.sc _) ?_
  rw[show Lib.join (xs.map (·.data.toList)) (ByteArray.mk ⟨[44,32]⟩).data.toList=J from hJ]
  have hJa:(⟨J.toArray⟩:ByteArray)=⟨⟨J⟩⟩:=rfl
  rw[hJa]
  simp(disch:=omega)[hlk,ba_app,ba_size,hb1,hb2,hb3,hb4,hb5,hb6,hb7,hb8]
  refine⟨⟨H.objs,n⟩,hfg,fun _=>Desc.mono hH (by first|omega|(dsimp only;omega)),?_,n,by first|omega|(dsimp only;omega),rfl⟩
  rw[hAX]
  simp
 rw[List.drop_eq_getElem_cons hlt,List.map_cons]at he
 have he':(xs++[termX a.args[i]])++(a.args.drop (i+1)).map termX=L:=by rw[List.append_assoc];exact he
 have htk:=List.all_eq_true.1 h3 _ (mem_at hlt)
 obtain⟨g1,g2⟩:=term_size htk
 simp(disch:=omega)[hlt]
 refine(t_showTerm _ g2).x (.sc _) ?_
 simp(disch:=omega)
 refine effP_ap ?_
 have hcan:xs.length+1<=2^30:=by omega
 have hlen1:(xs++[termX a.args[i]]).length=xs.length+1:=by simp
 rcases hr with⟨rfl,rfl,h3⟩|⟨t,rfl,f1,f2,rfl⟩
 ·dsimp only at h3
  simp(disch:=omega)[apL,canApp,strs_all,hcan,wrap_nat (show i<2^62 by omega)]
  refine⟨⟨i+1,n+1+1,xs++[termX a.args[i]],.tok (n+1),(n+1,.tok (xs.length+1) 1)::(H.next,.cells [.str a.pred,argsL a.args])::H.objs⟩,by dsimp only;omega,⟨.inr ⟨n+1,rfl,by dsimp only;omega,Nat.lt_succ_self _,by dsimp only;rw[hlen1]⟩,by dsimp only;omega,by dsimp only;omega,by simpa using he'⟩,by simp[FT.Le,Wk],?_,fun _=>⟨Nat.lt_succ_self _,⟨by omega,hH⟩⟩⟩
  exact hwk_mid (show Desc ((H.next,LObj.cells [.str a.pred,argsL a.args])::H.objs) n from ⟨hn,hH⟩) fun _ _ h=>h
 ·dsimp only at f1
  simp(disch:=omega)[apL,canApp,strs_all,hcan,wrap_nat (show i<2^62 by omega)]
  refine⟨⟨i+1,n+1,xs++[termX a.args[i]],.tok t,(t,.tok (xs.length+1) 1)::(H.next,.cells [.str a.pred,argsL a.args])::H.objs⟩,by dsimp only;omega,⟨.inr ⟨t,rfl,f1,by dsimp only;omega,by dsimp only;rw[hlen1]⟩,by dsimp only;omega,by dsimp only;omega,by simpa using he'⟩,by simp[FT.Le,Wk],?_⟩
  have hOk3:LHeap.Ok ⟨(t,.tok (xs.length+1) 1)::(H.next,.cells [.str a.pred,argsL a.args])::H.objs,n⟩:=⟨f2,⟨by omega,hH⟩⟩
  exact back hOk3 (HExt.cons hOk3 (Nat.le_refl _) (HExt.refl (Nat.le_refl _)) (Nat.le_succ _))
end Go.Abs.Tz
namespace Go.Abs.Tz
open Go Go.Abs Go.Proofs
def pW(c:UInt8):Bool:=wordC c.toNat||decide (c=45)
theorem runN_all(p:Int->Bool):∀{l:List UInt8},runN p l=l.length->∀c∈l,p c.toNat=true
 |[],_,c,hc=>by cases hc
 |a::l,h,c,hc=>by
  unfold runN at h
  by_cases ha:p a.toNat=true
  ·rw[if_pos ha]at h
   have h':runN p l=l.length:=by simpa using h
   rcases List.mem_cons.1 hc with rfl|hc
   ·exact ha
   ·exact runN_all p h' c hc
  ·rw[if_neg ha]at h
   simp at h
theorem word_pW{lo hi:Int}{s:ByteArray}(h:wordOk lo hi s=true):∀c∈s.data.toList,pW c=true:=by
 unfold wordOk at h
 simp only[Bool.and_eq_true,decide_eq_true_eq]at h
 obtain⟨_,_,_,_,_,h⟩:=h
 intro c hc
 unfold pW
 rw[runN_all wordC h c hc]
 rfl
theorem word_first{lo hi:Int}{s:ByteArray}(h:wordOk lo hi s=true):∃c r,s.data.toList=c::r/\lo<=(c.toNat:Int)/\(c.toNat:Int)<=hi:=by
 unfold wordOk at h
 simp only[Bool.and_eq_true,decide_eq_true_eq]at h
 obtain⟨h1,_,_,_,hf,_⟩:=h
 have e:sL s=s.data.toList:=rfl
 rw[e]at hf
 cases hs:s.data.toList with
 |nil=>rw[hs]at hf;simp[firstB]at hf
 |cons c r=>
  rw[hs]at hf
  simp[firstB]at hf
  exact⟨c,r,rfl,hf.1,hf.2⟩
theorem termX_pW{t:Term}(h:termOk t=true):∀c∈(termX t).data.toList,pW c=true:=by
 unfold termOk at h
 unfold termX
 by_cases h1:t.kind=1
 ·rw[if_pos h1]
  intro c hc
  rcases itoa_mem t.n c (by simpa using hc) with rfl|h
  ·rfl
  ·unfold pW wordC digB
   simp
   omega
 ·rw[if_neg h1]at h ⊢
  by_cases h2:t.kind=2
  ·rw[if_pos h2]at h
   simp only[Bool.and_eq_true]at h
   exact word_pW h.2
  ·rw[if_neg h2]at h
   by_cases h3:t.kind=3
   ·rw[if_pos h3]at h
    simp only[Bool.and_eq_true]at h
    exact word_pW h.2
   ·rw[if_neg h3]at h;cases h
theorem ba_ext{a b:ByteArray}(h:a.data.toList=b.data.toList):a=b:=by
 obtain⟨⟨x⟩⟩:=a
 obtain⟨⟨y⟩⟩:=b
 simp at h
 rw[h]
theorem term_cases{t:Term}(h:termOk t=true):(t.kind=1/\t.s=⟨⟨[]⟩⟩)\/(t.kind=2/\t.n=0/\wordOk 97 122 t.s=true)\/(t.kind=3/\t.n=0/\wordOk 65 90 t.s=true):=by
 unfold termOk at h
 by_cases h1:t.kind=1
 ·rw[if_pos h1]at h
  simp only[Bool.and_eq_true]at h
  exact .inl ⟨h1,eqBA_iff.1 h.1⟩
 ·rw[if_neg h1]at h
  by_cases h2:t.kind=2
  ·rw[if_pos h2]at h
   simp only[Bool.and_eq_true,decide_eq_true_eq]at h
   exact .inr (.inl ⟨h2,h.1,h.2⟩)
  ·rw[if_neg h2]at h
   by_cases h3:t.kind=3
   ·rw[if_pos h3]at h
    simp only[Bool.and_eq_true,decide_eq_true_eq]at h
    exact .inr (.inr ⟨h3,h.1,h.2⟩)
   ·rw[if_neg h3]at h;cases h
theorem termX_one{t:Term}(h:t.kind=1):(termX t).data.toList=Lib.itoa t.n:=by
 unfold termX
 rw[if_pos h]
theorem termX_two{t:Term}(h:t.kind≠1):termX t=t.s:=by
 unfold termX
 rw[if_neg h]
theorem itoa_first(n:Int):∃c r,Lib.itoa n=c::r/\c.toNat<=57:=by
 cases h:Lib.itoa n with
 |nil=>exact absurd h (itoa_ne n)
 |cons c r=>
  refine⟨c,r,rfl,?_⟩
  rcases itoa_mem n c (by rw[h];exact List.mem_cons_self) with rfl|h
  ·decide
  ·exact h.2
theorem termX_inj{t u:Term}(ht:termOk t=true)(hu:termOk u=true)(h:termX t=termX u):t=u:=by
 have num_word:∀{t u:Term},t.kind=1->u.kind≠1->(∃lo hi,(65:Int)<=lo/\wordOk lo hi u.s=true)->termX t≠termX u:=by
  intro t u h1 h2 ⟨lo,hi,hlo,hw⟩ e
  have e1:=congrArg (fun x:ByteArray=>x.data.toList) e
  simp only[termX_one h1,termX_two h2]at e1
  obtain⟨c,r,hc,hc2⟩:=itoa_first t.n
  obtain⟨d,r2,hd,hd2,_⟩:=word_first hw
  rw[hc,hd]at e1
  obtain⟨rfl,_⟩:=List.cons.inj e1
  omega
 obtain⟨tk,tn,ts⟩:=t
 obtain⟨uk,un,us⟩:=u
 rcases term_cases ht with⟨h1,h2⟩|⟨h1,h2,h3⟩|⟨h1,h2,h3⟩<;>rcases term_cases hu with⟨g1,g2⟩|⟨g1,g2,g3⟩|⟨g1,g2,g3⟩<;>dsimp only at h1 h2 g1 g2
 ·subst h1;subst g1;subst h2;subst g2
  have e1:=congrArg (fun x:ByteArray=>x.data.toList) h
  simp only[termX_one]at e1
  rw[itoa_inj e1]
 ·exact absurd h (num_word h1 (by show uk≠1;omega) ⟨97,122,by omega,g3⟩)
 ·exact absurd h (num_word h1 (by show uk≠1;omega) ⟨65,90,by omega,g3⟩)
 ·exact absurd h.symm (num_word g1 (by show tk≠1;omega) ⟨97,122,by omega,h3⟩)
 ·rw[termX_two (by show tk≠1;omega),termX_two (by show uk≠1;omega)]at h
  dsimp only at h
  rw[h1,h2,g1,g2,h]
 ·rw[termX_two (by show tk≠1;omega),termX_two (by show uk≠1;omega)]at h
  dsimp only at h h3 g3
  subst h
  obtain⟨c,r,e,a1,a2⟩:=word_first h3
  obtain⟨d,r2,e2,b1,b2⟩:=word_first g3
  rw[e]at e2
  obtain⟨rfl,_⟩:=List.cons.inj e2
  omega
 ·exact absurd h.symm (num_word g1 (by show tk≠1;omega) ⟨65,90,by omega,h3⟩)
 ·rw[termX_two (by show tk≠1;omega),termX_two (by show uk≠1;omega)]at h
  dsimp only at h h3 g3
  subst h
  obtain⟨c,r,e,a1,a2⟩:=word_first h3
  obtain⟨d,r2,e2,b1,b2⟩:=word_first g3
  rw[e]at e2
  obtain⟨rfl,_⟩:=List.cons.inj e2
  omega
 ·rw[termX_two (by show tk≠1;omega),termX_two (by show uk≠1;omega)]at h
  dsimp only at h
  rw[h1,h2,g1,g2,h]
theorem argsX_head(l:List Term)(b:Bool):HeadNot pW (argsX l b):=by
 intro c t h
 cases l with
 |nil=>
  cases b<;>simp[argsX]at h
  rw[<-h.1];rfl
 |cons x l=>
  cases b<;>simp[argsX]at h
  ·rw[<-h.1];rfl
  ·rw[<-h.1];rfl
theorem argsX_inj:∀{l m:List Term},l.all termOk=true->m.all termOk=true->∀b,argsX l b=argsX m b->l=m
 |[],[],_,_,_,_=>rfl
 |[],u::m,_,_,b,h=>by cases b<;>simp[argsX]at h
 |t::l,[],_,_,b,h=>by cases b<;>simp[argsX]at h
 |t::l,u::m,hl,hm,b,h=>by
  simp only[List.all_cons,Bool.and_eq_true]at hl hm
  have h':(termX t).data.toList++argsX l false=(termX u).data.toList++argsX m false:=by
   cases b<;>simpa [argsX] using h
  obtain⟨h1,h2⟩:=split_uniq (termX_pW hl.1) (termX_pW hm.1) (argsX_head _ _) (argsX_head _ _) h'
  rw[termX_inj hl.1 hm.1 (ba_ext h1),argsX_inj hl.2 hm.2 false h2]
theorem atomX_inj{a b:Atom}(ha:atomOk a=true)(hb:atomOk b=true)(h:atomX a=atomX b):a=b:=by
 have e:=congrArg (fun x:ByteArray=>x.data.toList) h
 have e':a.pred.data.toList++argsX a.args true=b.pred.data.toList++argsX b.args true:=e
 unfold atomOk at ha hb
 simp only[Bool.and_eq_true,decide_eq_true_eq]at ha hb
 obtain⟨h1,h2⟩:=split_uniq (word_pW ha.1) (word_pW hb.1) (argsX_head _ _) (argsX_head _ _) e'
 obtain⟨ap,aa⟩:=a
 obtain⟨bp,ba⟩:=b
 dsimp only at h1 h2 ha hb
 rw[ba_ext h1,argsX_inj ha.2.2 hb.2.2 true h2]
end Go.Abs.Tz
