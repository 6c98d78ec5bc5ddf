/- Part of the proof that the law CustomModelsAsSpecified returns true for every input. Conditions: none. -/
import Derived.Test.YtdcmabmjiiklhaaGreatDoorPartV
import Derived.Test.YtdcmabmjiiklhaaGreatDoorPartI
import Derived.Test.YtdcmabmjiiklhaaGreatDoorPartG
namespace Go.Abs.Tz
open Go Go.Abs Go.Proofs
set_option maxRecDepth 20000
set_option linter.unusedSimpArgs false
attribute [local simp ↓] getP_nil getP_node setP_nil setP_node oneP_eq vP_map vP_some vP_none vP_bind eP_some bP_true bP_false gP_yes gP_tf gP_ft gP_tup runP_skip runP_ops runP_drw runP_seq runP_cond runP_blk runP_loop runP_exit runP_ret seqK_n seqK_r seqK_e seqK_p blkK_n blkK_r blkK_e blkK_p loopK_n loopK_r loopK_e loopK_p finK_n finK_r finK_p resP_one resP_two resP_three resP_nil resP_c nxP_nil argsP_nil argsP_cons evP_t evP_c evP_g evsP_nil evsP_cons clP_fn pnP_i opsP_nil opsP_d opsP_x opsP_gt opsP_gf opP_cf opP_cl opP_pn opP_nx valP_mv valP_pk valP_eq valP_bn valP_nt valP_ld valP_fa valP_fd valP_ia valP_ix valP_ln valP_srn valP_srl valP_srh valP_srb valP_cv valP_mi valP_mf valP_xt valP_bs valP_bd valP_nc valP_mn valP_lk valP_ta opP_mv opP_pk opP_eq opP_bn opP_nt opP_ld opP_fa opP_fd opP_ia opP_ix opP_ln opP_sr opP_cv opP_mi opP_mf opP_xt opP_bs opP_bd opP_nc opP_mn opP_lk opP_ta opP_al opP_bx opP_st opP_ap opP_mk opP_nb opP_mu opP_rg opP_en pendP_nil pendP_d pendP_g drwP_nil drwP_d drwP_x drwP_gt drwP_gf look_self natOf_nat
attribute [local simp] faL fdL iaL ixL loadL partL lenL eqK eqL natOf eqB_s eqB_i eqB_b bn_add bn_sub bn_lss bn_leq bn_gtr bn_geq bn_adds bn_lsss bn_gtrs bn_leqs bn_geqs sliceL LV.cells LV.whole look_self put_self putO_self put_eq stL fillL termC dopP LHeap.alloc oneI oneS oneB nth0 nth1 nth2 nth3 nth4 nth5 nth6 nth7 nth8 nth9 look_ne putO_ne
def ltPK(x:Strat)(k:PK):Bool:=lessB x.pred k.1||(eqBA x.pred k.1&&decide (x.args<k.2))
def posS:List Strat->PK->Nat
 |[],_=>0
 |x::r,k=>if ltPK x k then posS r k+1 else 0
def insS(A:List Strat)(k:PK):List Strat:=A.take (posS A k)++[⟨k.1,k.2,0⟩]++A.drop (posS A k)
def foundS(A:List Strat)(a:Atom):Prop:=0<=findSt A (ofA a) 0
instance (A:List Strat) (a:Atom):Decidable (foundS A a):=by unfold foundS;infer_instance
def predF(A:List Strat)(a:Atom):List Strat:=if foundS A a then A else insS A (ofA a)
theorem posS_le:∀(A:List Strat)(k:PK),posS A k<=A.length
 |[],_=>Nat.le_refl _
 |x::r,k=>by
  have:=posS_le r k
  simp only[posS,List.length_cons]
  split<;>omega
theorem insS_len(A:List Strat)(k:PK):(insS A k).length=A.length+1:=by
 have:=posS_le A k
 unfold insS
 simp
 omega
theorem predF_len(A:List Strat)(a:Atom):(predF A a).length<=A.length+1/\A.length<=(predF A a).length:=by
 unfold predF
 split
 ·omega
 ·rw[insS_len];omega
theorem fold_len:∀(aa:List Atom)(A:List Strat),(aa.foldl predF A).length<=A.length+aa.length/\A.length<=(aa.foldl predF A).length
 |[],A=>by simp
 |a::r,A=>by
  have h1:=fold_len r (predF A a)
  have h2:=predF_len A a
  rw[List.foldl_cons,List.length_cons]
  omega
theorem strats_all(A:List Strat):(A.map stratL).all (fun e=>e.cells.length==3)=true:=by
 rw[List.all_map,List.all_eq_true]
 intro x _
 rfl
inductive RepO (H:LHeap) (A:List Strat):LV->List (Nat×LObj)->Nat->Prop
 |sl (own:Own) (n:Nat):H.next<=n->RepO H A (.sl (A.map stratL) own) H.objs n
 |asl (o n:Nat):H.next<=o->o<n->RepO H A (.asl o 0 A.length) ((o,arrS A)::H.objs) n
inductive RepS (H:LHeap):List Strat->LV->List (Nat×LObj)->Nat->Prop
 |nil (n:Nat):H.next<=n->RepS H [] Nl H.objs n
 |asl (A:List Strat) (o n:Nat):H.next<=o->o<n->RepS H A (.asl o 0 A.length) ((o,arrS A)::H.objs) n
theorem del_base{H:LHeap}(hH:H.Ok){o:Nat}(ho:H.next<=o):delO o H.objs=H.objs:=by
 have go:∀(l:List (Nat×LObj))(n:Nat),Desc l n->n<=o->delO o l=l:=by
  intro l
  induction l with
  |nil=>intro n _ _;rfl
  |cons e l ih=>
   obtain⟨i,x⟩:=e
   intro n hd hn
   have h1:i<n:=hd.1
   simp only[delO]
   rw[if_neg (by omega),ih i hd.2 (by omega)]
 exact go _ _ hH ho
theorem ap2_rep{H:LHeap}(hH:H.Ok){A B:List Strat}{v:LV}{ob:List (Nat×LObj)}{n:Nat}(h:RepS H A v ob n)(hl:A.length+B.length<=2^20):
  ∃v' ob' n',(∀ow,ap2L ⟨ob,n⟩ 3 v (.sl (B.map stratL) ow)=some (v',⟨ob',n'⟩))/\RepS H (A++B) v' ob' n'/\n<=n':=by
 have hrow:∀ow,rowL ⟨ob,n⟩ 3 (.sl (B.map stratL) ow)=some (B.flatMap stratC,B.length):=by
  intro ow
  unfold rowL
  simp only
  rw[strats_all,if_pos rfl]
  simp[List.flatMap_map,LV.cells]
 cases hB:B with
 |nil=>
  subst hB
  refine⟨v,ob,n,fun ow=>?_,by rw[List.append_nil];exact h,Nat.le_refl _⟩
  unfold ap2L
  rw[hrow]
  cases h with
  |nil=>rfl
  |asl _ o _ h1 h2=>
   have h3:(A.flatMap stratC).length=A.length*3:=flat_len stratC_len A
   have:srcL ⟨(o,arrS A)::H.objs,n⟩ 3 (.asl o 0 A.length)=some ((A.flatMap stratC).take (A.length*3),LHeap.del ⟨(o,arrS A)::H.objs,n⟩ o,A.length):=by
    simp only[srcL,look,if_true]
    rw[if_pos ⟨trivial,by rw[h3];exact Nat.le_refl _⟩]
   rw[this]
   rfl
 |cons b B'=>
  rw[<-hB]
  have hpos:0<B.length:=by rw[hB];simp
  cases h with
  |nil _ h1=>
   refine⟨.asl n 0 B.length,(n,arrS B)::H.objs,n+1,fun ow=>?_,by rw[List.nil_append];exact .asl B n _ h1 (Nat.lt_succ_self _),Nat.le_succ _⟩
   unfold ap2L
   rw[hrow,show srcL ⟨H.objs,n⟩ 3 Nl=some ([],⟨H.objs,n⟩,0) from rfl]
   simp only[List.length_nil,Nat.zero_add]at hl ⊢
   rw[if_neg (by omega),if_pos ⟨by omega,by omega⟩]
   rfl
  |asl _ o _ h1 h2=>
   have h3:(A.flatMap stratC).length=A.length*3:=flat_len stratC_len A
   have:srcL ⟨(o,arrS A)::H.objs,n⟩ 3 (.asl o 0 A.length)=some (A.flatMap stratC,⟨H.objs,n⟩,A.length):=by
    simp only[srcL,look,if_true]
    rw[if_pos ⟨trivial,by rw[h3];exact Nat.le_refl _⟩,<-h3,List.take_length]
    simp[LHeap.del,delO,del_base hH h1]
   refine⟨.asl n 0 (A.length+B.length),(n,arrS (A++B))::H.objs,n+1,fun ow=>?_,?_,Nat.le_succ _⟩
   ·unfold ap2L
    rw[hrow,this]
    simp only
    rw[if_neg (by omega),if_pos ⟨by omega,by omega⟩]
    simp[LHeap.alloc,List.flatMap_append]
   ·rw[<-List.length_append]
    exact .asl (A++B) n _ (by omega) (Nat.lt_succ_self _)
structure NNP2 where
 i:Nat
 n:Nat
 a:List Strat
 v:LV
 ob:List (Nat×LObj)
def l72b:BCode:=match b102.body with
 |.seq _ (.seq _ (.seq _ (.seq _ (.seq x _))))=>x
 |_=>.bad
theorem RepS.toO{H:LHeap}{A:List Strat}{v:LV}{ob:List (Nat×LObj)}{n:Nat}(h:RepS H A v ob n)(hne:A≠[]):RepO H A v ob n/\∃o,v=.asl o 0 A.length:=by
 cases h with
 |nil=>exact absurd rfl hne
 |asl _ o _ h1 h2=>exact⟨.asl o _ h1 h2,o,rfl⟩
theorem eP_of{o:Option (LV×LHeap)}{k:HP}{v:LV}{H:LHeap}(h:o=some (v,H))(hk:k v H):eP o k:=⟨v,H,h,hk⟩
theorem row_apS{H:LHeap}{A B:List Strat}{own:Own}{ob:List (Nat×LObj)}{n:Nat}(hl:A.length+B.length<=2^20)(h:RowT H 3 A.length own ob n):
  ∃own' ob' n',(∀ow,apL ⟨ob,n⟩ 3 (.sl (A.map stratL) own) (.sl (B.map stratL) ow)=some (.sl ((A++B).map stratL) own',⟨ob',n'⟩))/\RowT H 3 (A++B).length own' ob' n'/\n<=n':=by
 rcases h with⟨rfl,rfl,h⟩|⟨t,rfl,h1,h2,rfl⟩
 ·refine⟨.tok n,(n,.tok (A++B).length 3)::H.objs,n+1,fun ow=>?_,.inr ⟨n,rfl,h,Nat.lt_succ_self _,rfl⟩,Nat.le_succ _⟩
  unfold apL
  simp only
  rw[strats_all,strats_all]
  simp only[Bool.and_self,if_true,List.length_map]
  rw[if_pos ⟨by omega,by omega,rfl⟩]
  simp[LHeap.alloc]
 ·refine⟨.tok t,(t,.tok (A++B).length 3)::H.objs,n,fun ow=>?_,.inr ⟨t,rfl,h1,h2,rfl⟩,Nat.le_refl _⟩
  have hcan:canApp ⟨(t,.tok A.length 3)::H.objs,n⟩ 3 (.tok t) A.length=true:=by simp[canApp,look]
  unfold apL
  simp only
  rw[strats_all,strats_all]
  simp only[Bool.and_self,if_true,List.length_map]
  rw[if_pos ⟨by omega,by omega,hcan⟩]
  simp[LHeap.put,putO]
theorem t_ins(aa:List Atom)(ownA:Own)(haa:aa≠[])(hl:aa.length<2^18)(H:LHeap):
  lP E0 F0 l72b (.nd .bot (.nd .bot (.nd (.sl (aa.map atomL) ownA) .nil .nil) .nil) (.nd .bot .nil (.nd (Nl) .nil .nil))) H (fun e t' H'=>e=.normal/\∃o n,H.next<=o/\o<n/\FT.Le (.nd .bot .nil (.nd .bot .nil (.nd (.asl o 0 (aa.foldl predF []).length) .nil .nil))) t'/\HWk H' ⟨(o,arrS (aa.foldl predF []))::H.objs,n⟩/\(H'.Ok->LHeap.Ok ⟨(o,arrS (aa.foldl predF []))::H.objs,n⟩)):=by
 refine lP_okH fun hH=>lP_of_run ?_
 simp(disch:=omega)[l72b,b102]
 obtain⟨R,hR⟩:∃R,aa.foldl predF []=R:=⟨_,rfl⟩
 rw[hR]
 refine lP_enter (σ:=NNP2) (fun q=>(.nd .bot (.nd .bot (.nd (.sl (aa.map atomL) ownA) (.nd (.int q.i) .nil .nil) .nil) .nil) (.nd .bot .nil (.nd (q.v) .nil .nil)))) (fun q=>⟨q.ob,q.n⟩) (fun q=>aa.length - q.i)
  (fun q=>RepO H q.a q.v q.ob q.n/\q.i<=aa.length/\q.a.length<=q.i/\(aa.drop q.i).foldl predF q.a=R/\((∃own,q.v=.sl (q.a.map stratL) own/\∃a∈aa.drop q.i,¬foundS q.a a)\/((∃o,q.v=.asl o 0 q.a.length)/\∀a∈aa.drop q.i,foundS q.a a)))
  ⟨0,H.next,[],Nl,H.objs⟩ ⟨.sl .full _ (Nat.le_refl _),Nat.zero_le _,Nat.le_refl _,hR,.inl ⟨.full,rfl,aa.head haa,List.head_mem haa,by unfold foundS findSt;omega⟩⟩ (by simp[FT.Le,Wk]) ⟨HWk.refl _,fun h=>h⟩ ?_
 rintro⟨i,n,A,v,ob⟩ ⟨hr,hi,hAi,he,hm⟩ hok
 dsimp only at hr hi hAi he hm hok
 have hnn:H.next<=n:=by cases hr<;>omega
 by_cases hlt:i<aa.length
 case neg=>
  have hd:aa.drop i=[]:=List.drop_eq_nil_of_le (by omega)
  rw[hd]at he hm
  simp only[List.foldl_nil]at he
  subst he
  rcases hm with⟨_,_,a,ha,_⟩|⟨⟨o,rfl⟩,_⟩
  ·cases ha
  cases hr with
  |asl _ _ h1 h2=>
   simp(disch:=omega)[hlt]
   exact⟨o,h1,n,h2,by simp[FT.Le,Wk],HWk.refl _,fun h=>h⟩
 rw[List.drop_eq_getElem_cons hlt]at he hm
 rw[List.foldl_cons]at he
 rcases hm with⟨own,rfl,hex⟩|⟨⟨o,rfl⟩,hall⟩
 case inr=>
  have hf:foundS A aa[i]:=hall _ List.mem_cons_self
  have hp:predF A aa[i]=A:=by unfold predF;rw[if_pos hf]
  rw[hp]at he
  cases hr with
  |asl _ _ h1 h2=>
   simp(disch:=omega)[hlt]
   refine t_rfindA A o _ n (by simp[look]) aa[i] (by omega) fun n1 hn1=>?_
   have hf':(0:Int)<=findSt A (ofA aa[i]) 0:=hf
   simp(disch:=omega)[hf',wrap_nat (show i<2^62 by omega)]
   exact⟨⟨i+1,n1,A,.asl o 0 A.length,(o,arrS A)::H.objs⟩,by dsimp only;omega,⟨.asl o n1 h1 (by omega),by dsimp only;omega,by dsimp only;omega,he,.inr ⟨⟨o,rfl⟩,fun a ha=>hall a (List.mem_cons_of_mem _ ha)⟩⟩,by simp[FT.Le,Wk],HWk.refl _,fun h=>h⟩
 have hob:ob=H.objs:=by cases hr;rfl
 subst hob
 simp(disch:=omega)[hlt]
 refine(t_rfind A own aa[i] (by omega)).go fun n1 hn1=>?_
 by_cases hf:foundS A aa[i]
 ·have hf':(0:Int)<=findSt A (ofA aa[i]) 0:=hf
  have hp:predF A aa[i]=A:=by unfold predF;rw[if_pos hf]
  rw[hp]at he
  simp(disch:=omega)[hf',wrap_nat (show i<2^62 by omega)]
  obtain⟨a,ha,hna⟩:=hex
  refine⟨⟨i+1,n1,A,.sl (A.map stratL) own,H.objs⟩,by dsimp only;omega,⟨.sl own n1 (by omega),by dsimp only;omega,by dsimp only;omega,he,.inl ⟨⟨own,rfl⟩,a,?_,hna⟩⟩,by simp[FT.Le,Wk],HWk.refl _,fun h=>h⟩
  rcases List.mem_cons.1 ha with rfl|ha
  ·exact absurd hf hna
  ·exact ha
 have hf':¬(0:Int)<=findSt A (ofA aa[i]) 0:=hf
 have hp:predF A aa[i]=insS A (ofA aa[i]):=by unfold predF;rw[if_neg hf]
 rw[hp]at he
 simp(disch:=omega)[hf']
 refine lP_enter (σ:=NN) (fun q=>(.nd .bot (.nd .bot (.nd (.sl (aa.map atomL) ownA) (.nd (.int i) .nil .nil) .nil) .nil) (.nd .bot (.nd .bot (.nd (.int q.i) .nil .nil) .nil) (.nd (.sl (A.map stratL) own) .nil .nil)))) (fun q=>⟨H.objs,q.n⟩) (fun q=>A.length - q.i)
  (fun q=>n1<=q.n/\q.i<=A.length/\q.i+posS (A.drop q.i) (ofA aa[i])=posS A (ofA aa[i])) ⟨0,n1⟩ ⟨Nat.le_refl _,Nat.zero_le _,by simp⟩ (by simp[FT.Le,Wk]) ⟨HWk.refl _,fun h=>h⟩ ?_
 rintro⟨j,n2⟩ ⟨hn2,hj,hpos⟩ hok2
 simp only at hn2 hj hpos
 by_cases hlt2:j<A.length
 case neg=>
  have hjp:posS A (ofA aa[i])=j:=by
   rw[List.drop_eq_nil_of_le (by omega)]at hpos
   simpa [posS] using hpos.symm
  have hDz:(A.map stratL).drop j=[]:=List.drop_eq_nil_of_le (by rw[List.length_map];omega)
  simp(disch:=omega)[hlt,hlt2]
  simp(disch:=omega)[hj]
  have hTl:(A.take j).map stratL=(A.map stratL).take j:=List.map_take
  have hDl:(A.drop j).map stratL=(A.map stratL).drop j:=List.map_drop
  obtain⟨S0,hS0⟩:∃S0:Strat,(⟨aa[i].pred,aa[i].args.length,0⟩:Strat)=S0:=⟨_,rfl⟩
  have hIns:insS A (ofA aa[i])=A.take j++[S0]++A.drop j:=by rw[<-hjp,<-hS0];rfl
  have hSL:[S0].map stratL=[.agg [.str aa[i].pred,.int aa[i].args.length,.int 0]]:=by rw[<-hS0];rfl
  have hb1:(A.take j).length<=2^18:=by rw[List.length_take];omega
  have hb2:(A.take j++[S0]).length<=2^18+1:=by rw[List.length_append];simp only[List.length_cons,List.length_nil];omega
  have hb3:(A.drop j).length<=2^18:=by rw[List.length_drop];omega
  have hlen:=insS_len A (ofA aa[i])
  have hne:insS A (ofA aa[i])≠[]:=fun e=>by rw[e]at hlen;simp at hlen
  by_cases hlast:∀a∈aa.drop (i+1),foundS (insS A (ofA aa[i])) a
  ·obtain⟨v1,ob1,m1,e1,r1,q1⟩:=ap2_rep hH (.nil n2 (by omega)) (B:=A.take j) (by simp only[List.length_nil];omega)
   obtain⟨v2,ob2,m2,e2,r2,q2⟩:=ap2_rep hH r1 (B:=[S0]) (by rw[List.nil_append];simp only[List.length_cons,List.length_nil];omega)
   obtain⟨v3,ob3,m3,e3,r3,q3⟩:=ap2_rep hH r2 (B:=A.drop j) (by rw[List.nil_append];omega)
   rw[List.nil_append,<-hIns]at r3
   obtain⟨r4,o4,h4⟩:=r3.toO hne
   rw[hTl]at e1
   rw[hSL]at e2
   rw[hDl]at e3
   refine effP_ap2 ?_
   simp(disch:=omega)
   refine eP_of (v:=v1) (H:=⟨ob1,m1⟩) (by simpa [hlt2] using e1 _) ?_
   try simp(disch:=omega)
   refine effP_ap2 ?_
   simp(disch:=omega)
   refine eP_of (v:=v2) (H:=⟨ob2,m2⟩) (by simpa using e2 _) ?_
   try simp(disch:=omega)
   refine effP_ap2 ?_
   simp(disch:=omega)
   refine eP_of (v:=v3) (H:=⟨ob3,m3⟩) (by simpa [hlt2,hDz] using e3 _) ?_
   simp(disch:=omega)[wrap_nat (show i<2^62 by omega)]
   exact⟨⟨i+1,m3,insS A (ofA aa[i]),v3,ob3⟩,by dsimp only;omega,⟨r4,by dsimp only;omega,by dsimp only;omega,he,.inr ⟨⟨o4,h4⟩,hlast⟩⟩,by simp[FT.Le,Wk],HWk.refl _,fun h=>h⟩
  ·obtain⟨w1,ob1,m1,e1,r1,q1⟩:=row_apS (H:=H) (A:=[]) (B:=A.take j) (own:=.full) (ob:=H.objs) (n:=n2) (by simp only[List.length_nil];omega) (.inl ⟨rfl,rfl,by omega⟩)
   obtain⟨w2,ob2,m2,e2,r2,q2⟩:=row_apS (B:=[S0]) (by rw[List.nil_append];simp only[List.length_cons,List.length_nil];omega) r1
   obtain⟨w3,ob3,m3,e3,r3,q3⟩:=row_apS (B:=A.drop j) (by rw[List.nil_append];omega) r2
   rw[List.nil_append,<-hIns]at r3 e3
   rw[List.nil_append]at e1 e2
   obtain⟨X1,hX1⟩:∃X1,A.take j=X1:=⟨_,rfl⟩
   obtain⟨X2,hX2⟩:∃X2,A.take j++[S0]=X2:=⟨_,rfl⟩
   obtain⟨X3,hX3⟩:∃X3,insS A (ofA aa[i])=X3:=⟨_,rfl⟩
   have e1':∀ow,apL ⟨H.objs,n2⟩ 3 Nl (.sl ((A.map stratL).take j) ow)=some (.sl (X1.map stratL) w1,⟨ob1,m1⟩):=fun ow=>by rw[<-hTl,<-hX1];exact e1 ow
   have e2':∀ow,apL ⟨ob1,m1⟩ 3 (.sl (X1.map stratL) w1) (.sl [.agg [.str aa[i].pred,.int aa[i].args.length,.int 0]] ow)=some (.sl (X2.map stratL) w2,⟨ob2,m2⟩):=fun ow=>by rw[<-hSL,<-hX1,<-hX2];exact e2 ow
   have e3':∀ow,apL ⟨ob2,m2⟩ 3 (.sl (X2.map stratL) w2) (.sl ((A.map stratL).drop j) ow)=some (.sl (X3.map stratL) w3,⟨ob3,m3⟩):=fun ow=>by rw[<-hDl,<-hX2,<-hX3];exact e3 ow
   rw[hX3]at he r3 hlast hlen
   have hnl:∃a,a∈aa.drop (i+1)/\¬foundS X3 a:=by simpa using hlast
   have hfg:HWk ⟨ob3,m3⟩ ⟨H.objs,m3⟩:=⟨Nat.le_refl _,fun q x hx=>by
    rcases r3 with⟨_,rfl,_⟩|⟨t,_,g1,g2,rfl⟩
    ·exact hx
    ·have:=hH.look hx
     simp only[look]
     rw[if_neg (by omega)]
     exact hx⟩
   refine effP_ap ?_
   simp(disch:=omega)
   refine eP_of (v:=.sl (X1.map stratL) w1) (H:=⟨ob1,m1⟩) (by simpa [hlt2] using e1' _) ?_
   try simp(disch:=omega)
   refine effP_ap ?_
   simp(disch:=omega)
   refine eP_of (v:=.sl (X2.map stratL) w2) (H:=⟨ob2,m2⟩) (by simpa using e2' _) ?_
   try simp(disch:=omega)
   refine effP_ap ?_
   simp(disch:=omega)
   refine eP_of (v:=.sl (X3.map stratL) w3) (H:=⟨ob3,m3⟩) (by simpa [hlt2,hDz] using e3' _) ?_
   simp(disch:=omega)[wrap_nat (show i<2^62 by omega)]
   exact⟨⟨i+1,m3,X3,.sl (X3.map stratL) w3,H.objs⟩,by dsimp only;omega,⟨.sl w3 m3 (by omega),by dsimp only;omega,by dsimp only;omega,he,.inl ⟨⟨w3,rfl⟩,hnl⟩⟩,by simp[FT.Le,Wk],hfg,fun _=>Desc.mono hH (by dsimp only;omega)⟩
 rw[List.drop_eq_getElem_cons hlt2]at hpos
 have em:ltPK A[j] (ofA aa[i])=(lessB A[j].pred aa[i].pred||(eqBA A[j].pred aa[i].pred&&decide (A[j].args<aa[i].args.length))):=rfl
 have hDz:((A.map stratL).drop j).take (A.length - j)=(A.map stratL).drop j:=List.take_of_length_le (by rw[List.length_drop,List.length_map];omega)
 simp only[posS]at hpos
 cases h1:lessB A[j].pred aa[i].pred
 ·cases h2:eqBA A[j].pred aa[i].pred
  ·have hjp:posS A (ofA aa[i])=j:=by simp[em,h1,h2]at hpos;omega
   simp(disch:=omega)[hlt,hlt2,h1,h2]
   simp(disch:=omega)[hj]
   have hTl:(A.take j).map stratL=(A.map stratL).take j:=List.map_take
   have hDl:(A.drop j).map stratL=(A.map stratL).drop j:=List.map_drop
   obtain⟨S0,hS0⟩:∃S0:Strat,(⟨aa[i].pred,aa[i].args.length,0⟩:Strat)=S0:=⟨_,rfl⟩
   have hIns:insS A (ofA aa[i])=A.take j++[S0]++A.drop j:=by rw[<-hjp,<-hS0];rfl
   have hSL:[S0].map stratL=[.agg [.str aa[i].pred,.int aa[i].args.length,.int 0]]:=by rw[<-hS0];rfl
   have hb1:(A.take j).length<=2^18:=by rw[List.length_take];omega
   have hb2:(A.take j++[S0]).length<=2^18+1:=by rw[List.length_append];simp only[List.length_cons,List.length_nil];omega
   have hb3:(A.drop j).length<=2^18:=by rw[List.length_drop];omega
   have hlen:=insS_len A (ofA aa[i])
   have hne:insS A (ofA aa[i])≠[]:=fun e=>by rw[e]at hlen;simp at hlen
   by_cases hlast:∀a∈aa.drop (i+1),foundS (insS A (ofA aa[i])) a
   ·obtain⟨v1,ob1,m1,e1,r1,q1⟩:=ap2_rep hH (.nil n2 (by omega)) (B:=A.take j) (by simp only[List.length_nil];omega)
    obtain⟨v2,ob2,m2,e2,r2,q2⟩:=ap2_rep hH r1 (B:=[S0]) (by rw[List.nil_append];simp only[List.length_cons,List.length_nil];omega)
    obtain⟨v3,ob3,m3,e3,r3,q3⟩:=ap2_rep hH r2 (B:=A.drop j) (by rw[List.nil_append];omega)
    rw[List.nil_append,<-hIns]at r3
    obtain⟨r4,o4,h4⟩:=r3.toO hne
    rw[hTl]at e1
    rw[hSL]at e2
    rw[hDl]at e3
    refine effP_ap2 ?_
    simp(disch:=omega)
    refine eP_of (v:=v1) (H:=⟨ob1,m1⟩) (by simpa [hlt2] using e1 _) ?_
    try simp(disch:=omega)
    refine effP_ap2 ?_
    simp(disch:=omega)
    refine eP_of (v:=v2) (H:=⟨ob2,m2⟩) (by simpa using e2 _) ?_
    try simp(disch:=omega)
    refine effP_ap2 ?_
    simp(disch:=omega)
    refine eP_of (v:=v3) (H:=⟨ob3,m3⟩) (by simpa [hlt2,hDz] using e3 _) ?_
    simp(disch:=omega)[wrap_nat (show i<2^62 by omega)]
    exact⟨⟨i+1,m3,insS A (ofA aa[i]),v3,ob3⟩,by dsimp only;omega,⟨r4,by dsimp only;omega,by dsimp only;omega,he,.inr ⟨⟨o4,h4⟩,hlast⟩⟩,by simp[FT.Le,Wk],HWk.refl _,fun h=>h⟩
   ·obtain⟨w1,ob1,m1,e1,r1,q1⟩:=row_apS (H:=H) (A:=[]) (B:=A.take j) (own:=.full) (ob:=H.objs) (n:=n2) (by simp only[List.length_nil];omega) (.inl ⟨rfl,rfl,by omega⟩)
    obtain⟨w2,ob2,m2,e2,r2,q2⟩:=row_apS (B:=[S0]) (by rw[List.nil_append];simp only[List.length_cons,List.length_nil];omega) r1
    obtain⟨w3,ob3,m3,e3,r3,q3⟩:=row_apS (B:=A.drop j) (by rw[List.nil_append];omega) r2
    rw[List.nil_append,<-hIns]at r3 e3
    rw[List.nil_append]at e1 e2
    obtain⟨X1,hX1⟩:∃X1,A.take j=X1:=⟨_,rfl⟩
    obtain⟨X2,hX2⟩:∃X2,A.take j++[S0]=X2:=⟨_,rfl⟩
    obtain⟨X3,hX3⟩:∃X3,insS A (ofA aa[i])=X3:=⟨_,rfl⟩
    have e1':∀ow,apL ⟨H.objs,n2⟩ 3 Nl (.sl ((A.map stratL).take j) ow)=some (.sl (X1.map stratL) w1,⟨ob1,m1⟩):=fun ow=>by rw[<-hTl,<-hX1];exact e1 ow
    have e2':∀ow,apL ⟨ob1,m1⟩ 3 (.sl (X1.map stratL) w1) (.sl [.agg [.str aa[i].pred,.int aa[i].args.length,.int 0]] ow)=some (.sl (X2.map stratL) w2,⟨ob2,m2⟩):=fun ow=>by rw[<-hSL,<-hX1,<-hX2];exact e2 ow
    have e3':∀ow,apL ⟨ob2,m2⟩ 3 (.sl (X2.map stratL) w2) (.sl ((A.map stratL).drop j) ow)=some (.sl (X3.map stratL) w3,⟨ob3,m3⟩):=fun ow=>by rw[<-hDl,<-hX2,<-hX3];exact e3 ow
    rw[hX3]at he r3 hlast hlen
    have hnl:∃a,a∈aa.drop (i+1)/\¬foundS X3 a:=by simpa using hlast
    have hfg:HWk ⟨ob3,m3⟩ ⟨H.objs,m3⟩:=⟨Nat.le_refl _,fun q x hx=>by
     rcases r3 with⟨_,rfl,_⟩|⟨t,_,g1,g2,rfl⟩
     ·exact hx
     ·have:=hH.look hx
      simp only[look]
      rw[if_neg (by omega)]
      exact hx⟩
    refine effP_ap ?_
    simp(disch:=omega)
    refine eP_of (v:=.sl (X1.map stratL) w1) (H:=⟨ob1,m1⟩) (by simpa [hlt2] using e1' _) ?_
    try simp(disch:=omega)
    refine effP_ap ?_
    simp(disch:=omega)
    refine eP_of (v:=.sl (X2.map stratL) w2) (H:=⟨ob2,m2⟩) (by simpa using e2' _) ?_
    try simp(disch:=omega)
    refine effP_ap ?_
    simp(disch:=omega)
    refine eP_of (v:=.sl (X3.map stratL) w3) (H:=⟨ob3,m3⟩) (by simpa [hlt2,hDz] using e3' _) ?_
    simp(disch:=omega)[wrap_nat (show i<2^62 by omega)]
    exact⟨⟨i+1,m3,X3,.sl (X3.map stratL) w3,H.objs⟩,by dsimp only;omega,⟨.sl w3 m3 (by omega),by dsimp only;omega,by dsimp only;omega,he,.inl ⟨⟨w3,rfl⟩,hnl⟩⟩,by simp[FT.Le,Wk],hfg,fun _=>Desc.mono hH (by dsimp only;omega)⟩
  ·by_cases h3:A[j].args<aa[i].args.length
   ·have hq:j+1+posS (A.drop (j+1)) (ofA aa[i])=posS A (ofA aa[i]):=by simp[em,h1,h2,h3]at hpos;omega
    simp(disch:=omega)[hlt,hlt2,h1,h2,h3,wrap_nat (show j<2^62 by omega)]
    exact⟨⟨j+1,n2⟩,by dsimp only;omega,⟨by dsimp only;omega,by dsimp only;omega,hq⟩,by simp[FT.Le,Wk],HWk.refl _,fun h=>h⟩
   ·have hjp:posS A (ofA aa[i])=j:=by simp[em,h1,h2,h3]at hpos;omega
    simp(disch:=omega)[hlt,hlt2,h1,h2,h3]
    simp(disch:=omega)[hj]
    have hTl:(A.take j).map stratL=(A.map stratL).take j:=List.map_take
    have hDl:(A.drop j).map stratL=(A.map stratL).drop j:=List.map_drop
    obtain⟨S0,hS0⟩:∃S0:Strat,(⟨aa[i].pred,aa[i].args.length,0⟩:Strat)=S0:=⟨_,rfl⟩
    have hIns:insS A (ofA aa[i])=A.take j++[S0]++A.drop j:=by rw[<-hjp,<-hS0];rfl
    have hSL:[S0].map stratL=[.agg [.str aa[i].pred,.int aa[i].args.length,.int 0]]:=by rw[<-hS0];rfl
    have hb1:(A.take j).length<=2^18:=by rw[List.length_take];omega
    have hb2:(A.take j++[S0]).length<=2^18+1:=by rw[List.length_append];simp only[List.length_cons,List.length_nil];omega
    have hb3:(A.drop j).length<=2^18:=by rw[List.length_drop];omega
    have hlen:=insS_len A (ofA aa[i])
    have hne:insS A (ofA aa[i])≠[]:=fun e=>by rw[e]at hlen;simp at hlen
    by_cases hlast:∀a∈aa.drop (i+1),foundS (insS A (ofA aa[i])) a
    ·obtain⟨v1,ob1,m1,e1,r1,q1⟩:=ap2_rep hH (.nil n2 (by omega)) (B:=A.take j) (by simp only[List.length_nil];omega)
     obtain⟨v2,ob2,m2,e2,r2,q2⟩:=ap2_rep hH r1 (B:=[S0]) (by rw[List.nil_append];simp only[List.length_cons,List.length_nil];omega)
     obtain⟨v3,ob3,m3,e3,r3,q3⟩:=ap2_rep hH r2 (B:=A.drop j) (by rw[List.nil_append];omega)
     rw[List.nil_append,<-hIns]at r3
     obtain⟨r4,o4,h4⟩:=r3.toO hne
     rw[hTl]at e1
     rw[hSL]at e2
     rw[hDl]at e3
     refine effP_ap2 ?_
     simp(disch:=omega)
     refine eP_of (v:=v1) (H:=⟨ob1,m1⟩) (by simpa [hlt2] using e1 _) ?_
     try simp(disch:=omega)
     refine effP_ap2 ?_
     simp(disch:=omega)
     refine eP_of (v:=v2) (H:=⟨ob2,m2⟩) (by simpa using e2 _) ?_
     try simp(disch:=omega)
     refine effP_ap2 ?_
     simp(disch:=omega)
     refine eP_of (v:=v3) (H:=⟨ob3,m3⟩) (by simpa [hlt2,hDz] using e3 _) ?_
     simp(disch:=omega)[wrap_nat (show i<2^62 by omega)]
     exact⟨⟨i+1,m3,insS A (ofA aa[i]),v3,ob3⟩,by dsimp only;omega,⟨r4,by dsimp only;omega,by dsimp only;omega,he,.inr ⟨⟨o4,h4⟩,hlast⟩⟩,by simp[FT.Le,Wk],HWk.refl _,fun h=>h⟩
    ·obtain⟨w1,ob1,m1,e1,r1,q1⟩:=row_apS (H:=H) (A:=[]) (B:=A.take j) (own:=.full) (ob:=H.objs) (n:=n2) (by simp only[List.length_nil];omega) (.inl ⟨rfl,rfl,by omega⟩)
     obtain⟨w2,ob2,m2,e2,r2,q2⟩:=row_apS (B:=[S0]) (by rw[List.nil_append];simp only[List.length_cons,List.length_nil];omega) r1
     obtain⟨w3,ob3,m3,e3,r3,q3⟩:=row_apS (B:=A.drop j) (by rw[List.nil_append];omega) r2
     rw[List.nil_append,<-hIns]at r3 e3
     rw[List.nil_append]at e1 e2
     obtain⟨X1,hX1⟩:∃X1,A.take j=X1:=⟨_,rfl⟩
     obtain⟨X2,hX2⟩:∃X2,A.take j++[S0]=X2:=⟨_,rfl⟩
     obtain⟨X3,hX3⟩:∃X3,insS A (ofA aa[i])=X3:=⟨_,rfl⟩
     have e1':∀ow,apL ⟨H.objs,n2⟩ 3 Nl (.sl ((A.map stratL).take j) ow)=some (.sl (X1.map stratL) w1,⟨ob1,m1⟩):=fun ow=>by rw[<-hTl,<-hX1];exact e1 ow
     have e2':∀ow,apL ⟨ob1,m1⟩ 3 (.sl (X1.map stratL) w1) (.sl [.agg [.str aa[i].pred,.int aa[i].args.length,.int 0]] ow)=some (.sl (X2.map stratL) w2,⟨ob2,m2⟩):=fun ow=>by rw[<-hSL,<-hX1,<-hX2];exact e2 ow
     have e3':∀ow,apL ⟨ob2,m2⟩ 3 (.sl (X2.map stratL) w2) (.sl ((A.map stratL).drop j) ow)=some (.sl (X3.map stratL) w3,⟨ob3,m3⟩):=fun ow=>by rw[<-hDl,<-hX2,<-hX3];exact e3 ow
     rw[hX3]at he r3 hlast hlen
     have hnl:∃a,a∈aa.drop (i+1)/\¬foundS X3 a:=by simpa using hlast
     have hfg:HWk ⟨ob3,m3⟩ ⟨H.objs,m3⟩:=⟨Nat.le_refl _,fun q x hx=>by
      rcases r3 with⟨_,rfl,_⟩|⟨t,_,g1,g2,rfl⟩
      ·exact hx
      ·have:=hH.look hx
       simp only[look]
       rw[if_neg (by omega)]
       exact hx⟩
     refine effP_ap ?_
     simp(disch:=omega)
     refine eP_of (v:=.sl (X1.map stratL) w1) (H:=⟨ob1,m1⟩) (by simpa [hlt2] using e1' _) ?_
     try simp(disch:=omega)
     refine effP_ap ?_
     simp(disch:=omega)
     refine eP_of (v:=.sl (X2.map stratL) w2) (H:=⟨ob2,m2⟩) (by simpa using e2' _) ?_
     try simp(disch:=omega)
     refine effP_ap ?_
     simp(disch:=omega)
     refine eP_of (v:=.sl (X3.map stratL) w3) (H:=⟨ob3,m3⟩) (by simpa [hlt2,hDz] using e3' _) ?_
     simp(disch:=omega)[wrap_nat (show i<2^62 by omega)]
     exact⟨⟨i+1,m3,X3,.sl (X3.map stratL) w3,H.objs⟩,by dsimp only;omega,⟨.sl w3 m3 (by omega),by dsimp only;omega,by dsimp only;omega,he,.inl ⟨⟨w3,rfl⟩,hnl⟩⟩,by simp[FT.Le,Wk],hfg,fun _=>Desc.mono hH (by dsimp only;omega)⟩
 ·have hq:j+1+posS (A.drop (j+1)) (ofA aa[i])=posS A (ofA aa[i]):=by simp[em,h1]at hpos;omega
  simp(disch:=omega)[hlt,hlt2,h1,wrap_nat (show j<2^62 by omega)]
  exact⟨⟨j+1,n2⟩,by dsimp only;omega,⟨by dsimp only;omega,by dsimp only;omega,hq⟩,by simp[FT.Le,Wk],HWk.refl _,fun h=>h⟩
def predsL(l:List Clause):List Strat:=(allA l).foldl predF []
def p72(k:Nat):BCode:=match k,b102.body with
 |0,.seq x _=>x
 |1,.seq _ (.seq x _)=>x
 |2,.seq _ (.seq _ (.seq _ (.seq x _)))=>x
 |3,.seq _ (.seq _ (.seq _ (.seq _ (.seq _ x))))=>x
 |_,_=>.bad
theorem body72:b102.body=.seq (p72 0) (.seq (p72 1) (.seq l72a (.seq (p72 2) (.seq l72b (p72 3))))):=rfl
theorem t_rpreds(l:List Clause)(hne:l≠[])(hl:l.length<2^18)(hb:∀c∈l,c.body.length<2^18)(hA:(allA l).length<2^18)(H:LHeap){kv kp:HP}
  (hk:∀o n,H.next<=o->o<n->kv (.asl o 0 (predsL l).length) ⟨(o,arrS (predsL l))::H.objs,n⟩):cP E0 F0 102 [clausesL l] H kv kp:=by
 refine cP_of_lP c102 (Nat.le_of_ble_eq_true rfl) fun hH=>?_
 rw[body72]
 simp(disch:=omega)
 refine lP_seq (lP_of_run ?_)
 simp(disch:=omega)[p72,b102]
 refine lP_seq (lP_of_run ?_)
 simp(disch:=omega)[p72,b102]
 refine lP_weak (t':=(.nd (clausesL l) (.nd .bot (.nd (Nl) .nil .nil) .nil) .nil)) (H':=H) (fun l h=>by cases h) (by simp[FT.Le,Wk]) (HWk.refl _) (fun h=>h) ?_
 refine lP_seq (lP_mono (t_all l (by omega) (fun c hc=>by have:=hb c hc;omega) (by omega) H) ?_)
 rintro e t' H' ⟨rfl,own,n,hn,hle,hwk,hok⟩
 show lP E0 F0 (.seq (p72 2) (.seq l72b (p72 3))) t' H' _
 refine lP_weak (fun l h=>by cases h) hle hwk hok ?_
 refine lP_seq (lP_of_run ?_)
 simp(disch:=omega)[p72,b102]
 have hnn:allA l≠[]:=by
  cases l with
  |nil=>exact absurd rfl hne
  |cons c r=>simp[allA,clAs]
 refine lP_weak (t':=(.nd .bot (.nd .bot (.nd (.sl ((allA l).map atomL) own) .nil .nil) .nil) (.nd .bot .nil (.nd (Nl) .nil .nil)))) (H':=⟨H.objs,n⟩) (fun l h=>by cases h) (by simp[FT.Le,Wk]) (HWk.refl _) (fun h=>h) ?_
 refine lP_seq (lP_mono (t_ins (allA l) own hnn hA ⟨H.objs,n⟩) ?_)
 rintro e t2 H2 ⟨rfl,o,n2,hn2,ho2,hle2,hwk2,hok2⟩
 show lP E0 F0 (p72 3) t2 H2 _
 refine lP_weak (fun l h=>by cases h) hle2 hwk2 hok2 ?_
 refine lP_of_run ?_
 simp(disch:=omega)[p72,b102,resP_one]
 exact keep (hk o n2 (by dsimp only at hn2;omega) ho2)
def stratsOf(m:List (PK×Int)):List Strat:=m.map fun e=>⟨e.1.1,e.1.2,e.2⟩
def pIdx(k:PK):List (PK×Int)->Nat
 |[]=>0
 |(j,_)::r=>if eqPK k j then 0 else pIdx k r+1
theorem matchS_iff{x:Strat}{k:PK}:matchS x k=true↔keyS x=k:=by
 obtain⟨p,a,v⟩:=x
 obtain⟨q,b⟩:=k
 simp[matchS,keyS,eqBA_iff]
theorem stratsOf_len(m:List (PK×Int)):(stratsOf m).length=m.length:=List.length_map ..
theorem idx_spec{k:PK}:∀{m:List (PK×Int)},k∈pKeys m->pIdx k m<m.length/\(∀i,findSt (stratsOf m) k i=i+pIdx k m)/\m[pIdx k m]? = some (k,pVal m k)/\∀v,pSet k v m=m.set (pIdx k m) (k,v)
 |[],h=>by cases h
 |(j,u)::r,h=>by
  by_cases hk:eqPK k j=true
  ·have e:=eqPK_iff.1 hk
   subst e
   have hm:matchS ⟨k.1,k.2,u⟩ k=true:=matchS_iff.2 rfl
   refine⟨by simp[pIdx,hk],fun i=>?_,by simp[pIdx,hk,pVal,pGet],fun v=>by simp[pIdx,hk,pSet]⟩
   show findSt (⟨k.1,k.2,u⟩::stratsOf r) k i=_
   simp[findSt,hm,pIdx,hk]
  ·have hr:k∈pKeys r:=by
    rcases List.mem_cons.1 (show k∈j::pKeys r from h) with e|h
    ·exact absurd (eqPK_iff.2 e) hk
    ·exact h
   obtain⟨a1,a2,a3,a4⟩:=idx_spec hr
   have hm:matchS ⟨j.1,j.2,u⟩ k=false:=by
    cases hb:matchS ⟨j.1,j.2,u⟩ k with
    |false=>rfl
    |true=>
     have e:j=k:=matchS_iff.1 hb
     exact absurd (eqPK_iff.2 e.symm) hk
   have hkf:eqPK k j=false:=by simpa using hk
   refine⟨by simp[pIdx,hkf];omega,fun i=>?_,?_,fun v=>by simp[pIdx,hkf,pSet,a4 v]⟩
   ·show findSt (⟨j.1,j.2,u⟩::stratsOf r) k i=_
    simp only[findSt,hm,pIdx,hkf,Bool.false_eq_true,if_false]
    rw[a2 (i+1)]
    omega
   ·simp only[pIdx,hkf,Bool.false_eq_true,if_false,List.getElem?_cons_succ,a3]
    simp[pVal,pGet,hkf]
theorem strats_get{m:List (PK×Int)}{i:Nat}(h:i<m.length):(stratsOf m)[i]'(by rw[stratsOf_len];exact h)=⟨m[i].1.1,m[i].1.2,m[i].2⟩:=by simp[stratsOf]
theorem strats_set(m:List (PK×Int))(i:Nat)(k:PK)(v:Int):stratsOf (m.set i (k,v))=(stratsOf m).set i ⟨k.1,k.2,v⟩:=by simp[stratsOf,List.map_set]
theorem lvl_ld{m:List (PK×Int)}{k:PK}(hk:k∈pKeys m){o:Nat}{ob:List (Nat×LObj)}{n:Nat}(hl:look o ob=some (arrS (stratsOf m))):loadL ⟨ob,n⟩ none (.ptr o (pIdx k m*3+2))=some (.int (pVal m k)):=by
 obtain⟨a1,a2,a3,a4⟩:=idx_spec hk
 have h:=ldA (n:=n) hl (j:=pIdx k m) (c:=2) (by rw[stratsOf_len];exact a1) (by omega)
 rw[h,strats_get a1]
 rw[List.getElem?_eq_getElem a1]at a3
 have:=Option.some.inj a3
 rw[this]
 rfl
theorem lvl_ia{m:List (PK×Int)}{k:PK}(hk:k∈pKeys m){o:Nat}{ob:List (Nat×LObj)}{n:Nat}(hl:look o ob=some (arrS (stratsOf m))):iaL ⟨ob,n⟩ 3 (.asl o 0 m.length) (.int (pIdx k m:Int))=some (.ptr o (pIdx k m*3)):=
 iaA hl (idx_spec hk).1
theorem flat_set1(A:List Strat){j:Nat}(hj:j<A.length)(v:Int):(A.flatMap stratC).take (j*3+2)++[.int v]++(A.flatMap stratC).drop (j*3+2+1)=(A.set j ⟨A[j].pred,A[j].args,v⟩).flatMap stratC:=by
 rw[<-flat_store stratC_len hj,List.take_add]
 have e:((A.flatMap stratC).drop (j*3)).take 2=[.str A[j].pred,.int A[j].args]:=by
  have h:=flat_load stratC_len hj
  have:((A.flatMap stratC).drop (j*3)).take 2=(((A.flatMap stratC).drop (j*3)).take 3).take 2:=by rw[List.take_take];rfl
  rw[this,h]
  rfl
 rw[e]
 simp
theorem lvl_st{m:List (PK×Int)}{k:PK}(hk:k∈pKeys m)(v:Int){o:Nat}{ob:List (Nat×LObj)}{n:Nat}(hl:look o ob=some (arrS (stratsOf m))):stL ⟨ob,n⟩ 1 (.ptr o (pIdx k m*3+2)) (.int v)=some ⟨putO o (arrS (stratsOf (pSet k v m))) ob,n⟩:=by
 obtain⟨a1,a2,a3,a4⟩:=idx_spec hk
 have a1':pIdx k m<(stratsOf m).length:=by rw[stratsOf_len];exact a1
 rw[a4 v,strats_set]
 have hfl:((stratsOf m).flatMap stratC).length=m.length*3:=by rw[flat_len stratC_len,stratsOf_len]
 have hs:=flat_set1 (stratsOf m) a1' v
 have hg:(stratsOf m)[pIdx k m].pred=k.1/\(stratsOf m)[pIdx k m].args=k.2:=by
  rw[strats_get a1]
  rw[List.getElem?_eq_getElem a1]at a3
  rw[Option.some.inj a3]
  exact⟨rfl,rfl⟩
 rw[hg.1,hg.2]at hs
 unfold stL
 simp only[hl]
 rw[if_pos ⟨rfl,rfl,by rw[hfl];omega⟩]
 show some (LHeap.put ⟨ob,n⟩ o (.arr 3 (((stratsOf m).flatMap stratC).take (pIdx k m*3+2)++[.int v]++((stratsOf m).flatMap stratC).drop (pIdx k m*3+2+1))))=_
 rw[hs]
 rfl
def kIdx(k:PK):List PK->Nat
 |[]=>0
 |j::r=>if eqPK k j then 0 else kIdx k r+1
theorem kIdx_eq(k:PK):∀m:List (PK×Int),pIdx k m=kIdx k (pKeys m)
 |[]=>rfl
 |(j,u)::r=>by
  show pIdx k ((j,u)::r)=kIdx k (j::pKeys r)
  simp only[pIdx,kIdx,kIdx_eq k r]
section
variable{m:List (PK×Int)}{V:List PK}{k:PK}(hV:pKeys m=V)(hk:k∈V){o n:Nat}{ob:List (Nat×LObj)}(hl:look o ob=some (arrS (stratsOf m)))
include hV hk hl
theorem v_ld:loadL ⟨ob,n⟩ none (.ptr o (kIdx k V*3+2))=some (.int (pVal m k)):=by
 subst hV;rw[<-kIdx_eq];exact lvl_ld hk hl
theorem v_ia:iaL ⟨ob,n⟩ 3 (.asl o 0 V.length) (.int (kIdx k V:Int))=some (.ptr o (kIdx k V*3)):=by
 subst hV;rw[<-kIdx_eq,pKeys_len];exact lvl_ia hk hl
theorem v_st(v:Int):stL ⟨ob,n⟩ 1 (.ptr o (kIdx k V*3+2)) (.int v)=some ⟨putO o (arrS (stratsOf (pSet k v m))) ob,n⟩:=by
 subst hV;rw[<-kIdx_eq];exact lvl_st hk v hl
theorem v_find{a:Atom}(ha:ofA a=k)(hN:V.length<2^40){kv kp:HP}(hkv:∀n',n<=n'->kv (.int (kIdx k V:Int)) ⟨ob,n'⟩):cP E0 F0 29 [.asl o 0 V.length,atomL a] ⟨ob,n⟩ kv kp:=by
 subst hV;subst ha
 have h:=t_rfindA (stratsOf m) o ob n hl a (by rw[stratsOf_len];rw[pKeys_len]at hN;exact hN) (kv:=kv) (kp:=kp) fun n' hn=>by
  rw[(idx_spec hk).2.1 0]
  have:=hkv n' hn
  rw[<-kIdx_eq]at this
  simpa using this
 rw[stratsOf_len]at h
 rw[pKeys_len]
 exact h
end
theorem InP.mono{m:List (PK×Int)}{N M:Int}(h:InP m N)(hle:N<=M):InP m M:=fun k=>⟨(h k).1,Int.le_trans (h k).2 hle⟩
theorem InP_any{m:List (PK×Int)}{N:Int}(h0:∀k,0<=pVal m k)(hN:0<=N)(h:m.any (fun e=>decide (N<e.2))=false):InP m N:=by
 intro k
 refine⟨h0 k,?_⟩
 by_cases hk:k∈pKeys m
 ·obtain⟨a1,_,a3,_⟩:=idx_spec hk
  have:=List.any_eq_false.1 h _ (List.mem_of_getElem? a3)
  simp only[decide_eq_true_eq]at this
  omega
 ·have:pVal m k=0:=by
   have go:∀{m:List (PK×Int)},k∉pKeys m->pGet k m=none:=by
    intro m
    induction m with
    |nil=>intro _;rfl
    |cons e r ih=>
     obtain⟨j,u⟩:=e
     intro hn
     have h1:¬eqPK k j=true:=fun e=>hn (by rw[eqPK_iff.1 e];exact List.mem_cons_self)
     simp only[pGet]
     rw[if_neg h1]
     exact ih fun hm=>hn (List.mem_cons_of_mem _ hm)
   unfold pVal
   rw[go hk]
   rfl
  omega
theorem any_drop2{α:Type}(p:α->Bool){l:List α}{i:Nat}(h:i<l.length):(l.drop i).any p=(p l[i]||(l.drop (i+1)).any p):=by
 rw[List.drop_eq_getElem_cons h,List.any_cons]
structure NNR where
 i:Nat
 n:Nat
 m:List (PK×Int)
 ch:Bool
theorem t_rlevels(l:List Clause)(hne:l≠[])(hl:l.length<2^18)(hb:∀c∈l,c.body.length<2^18)(hA:(allA l).length<2^18)(hkd:∀c∈l,∀x∈c.body,1<=x.kind)(m0:List (PK×Int))(hm0:stratsOf m0=predsL l)(hz:∀k,pVal m0 k=0)
  (hK:∀c∈l,∀k∈predC c,k∈pKeys m0) (R:Option (List (PK×Int))) (hR:refN l (m0.length+2) m0=R) (H:LHeap) {kv kp:HP} (hk1:R=none->∀n,H.next<=n->kv (.tup [Nl,.bool false]) ⟨H.objs,n⟩)
  (hk2:∀m,R=some m->∀o n,H.next<=o->o<n->kv (.tup [.asl o 0 m.length,.bool true]) ⟨(o,arrS (stratsOf m))::H.objs,n⟩):cP E0 F0 63 [clausesL l] H kv kp:=by
 refine cP_of_fn c63 fun hH=>⟨Nat.le_of_ble_eq_true rfl,?_⟩
 simp(disch:=omega)[b63]
 refine t_rpreds l hne hl hb hA H fun o n0 ho hn0=>?_
 obtain⟨V,hV⟩:∃V,pKeys m0=V:=⟨_,rfl⟩
 rw[hV]at hK
 have hlen0:m0.length=V.length:=by rw[<-hV,pKeys_len]
 have hNb:V.length<2^18:=by
  rw[<-hlen0,<-stratsOf_len,hm0]
  have:=(fold_len (allA l) []).1
  unfold predsL
  simp only[List.length_nil]at this
  omega
 rw[show (predsL l).length=V.length by rw[<-hm0,stratsOf_len,hlen0],<-hm0]
 rw[hlen0]at hR
 have hVm:∀m:List (PK×Int),pKeys m=V->m.length=V.length:=fun m h=>by rw[<-h,pKeys_len]
 have hOk:∀m:List (PK×Int),∀n,o<n->LHeap.Ok ⟨(o,arrS (stratsOf m))::H.objs,n⟩:=fun m n hn=>⟨hn,Desc.mono hH ho⟩
 have hbase:∀(m:List (PK×Int))(n:Nat),o<n->HWk ⟨(o,arrS (stratsOf m))::H.objs,n⟩ ⟨H.objs,n⟩/\(LHeap.Ok ⟨(o,arrS (stratsOf m))::H.objs,n⟩->LHeap.Ok ⟨H.objs,n⟩):=fun m n hn=>
  ⟨⟨Nat.le_refl _,fun i x hx=>by
   have:=hH.look hx
   simp only[look]
   rw[if_neg (by omega)]
   exact hx⟩,fun _=>Desc.mono hH (by dsimp only;omega)⟩
 simp(disch:=omega)
 refine lP_enter (σ:=NNP) (fun q=>(.nd (clausesL l) (.nd .bot (.nd (.bool false) .nil .nil) (.nd (.int q.i) .nil .nil)) (.nd (Nl) (.nd (.asl o 0 V.length) .nil .nil) .nil))) (fun q=>⟨(o,arrS (stratsOf q.m))::H.objs,q.n⟩) (fun q=>V.length+2 - q.i)
  (fun q=>n0<=q.n/\q.i<=V.length+2/\pKeys q.m=V/\InP q.m V.length/\refN l (V.length+2 - q.i) q.m=R) ⟨0,n0,m0⟩ ⟨Nat.le_refl _,Nat.zero_le _,hV,fun k=>by dsimp only;rw[hz k];omega,hR⟩ (by simp[FT.Le,Wk]) ⟨HWk.refl _,fun h=>h⟩ ?_
 rintro⟨r,n,m⟩ ⟨hn,hr,hkm,hin,he⟩ hok
 dsimp only at hn hr hkm hin he hok
 by_cases hrl:r<=V.length+1
 case neg=>
  have hrl':¬((r:Int)<=(V.length:Int)+1):=by omega
  rw[show V.length+2 - r=0 by omega]at he
  simp(disch:=omega)[wrap_nat (show V.length<2^62 by omega),hrl']
  obtain⟨g1,g2⟩:=hbase m n (by omega)
  exact⟨_,g1,g2,hk1 he.symm n (by omega)⟩
 have hrl':((r:Int)<=(V.length:Int)+1):=by omega
 rw[show V.length+2 - r=(V.length+1 - r)+1 by omega]at he
 obtain⟨Q,hQ⟩:∃Q,l.foldl clStep (m,false)=Q:=⟨_,rfl⟩
 rw[refN,hQ]at he
 simp(disch:=omega)[wrap_nat (show V.length<2^62 by omega),hrl']
 refine lP_enter (σ:=NNR) (fun q=>(.nd (clausesL l) (.nd .bot (.nd (.bool false) (.nd (.int q.i) .nil .nil) .nil) (.nd (.int r) .nil .nil)) (.nd (Nl) (.nd (.asl o 0 V.length) .nil .nil) (.nd (.bool q.ch) .nil .nil)))) (fun q=>⟨(o,arrS (stratsOf q.m))::H.objs,q.n⟩) (fun q=>l.length - q.i)
  (fun q=>n0<=q.n/\q.i<=l.length/\pKeys q.m=V/\InP q.m (V.length+q.i*2^18)/\(l.drop q.i).foldl clStep (q.m,q.ch)=Q) ⟨0,n,m,false⟩ ⟨hn,Nat.zero_le _,hkm,hin.mono (by dsimp only;omega),hQ⟩ (by simp[FT.Le,Wk]) ⟨HWk.refl _,fun h=>h⟩ ?_
 rintro⟨i,n2,m2,ch2⟩ ⟨hn2,hi,hkm2,hin2,he2⟩ hok2
 dsimp only at hn2 hi hkm2 hin2 he2 hok2
 by_cases hlt:i<l.length
 case neg=>
  rw[List.drop_eq_nil_of_le (by omega)]at he2
  simp only[List.foldl_nil]at he2
  subst he2
  cases ch2
  ·dsimp only at he
   simp(disch:=omega)[hlt]
   rw[<-hVm m2 hkm2]
   exact keep (hk2 m2 he.symm o n2 ho (by omega))
  dsimp only at he
  rw[hVm m2 hkm2]at he
  simp(disch:=omega)[hlt]
  have hnn2:∀k,0<=pVal m2 k:=fun k=>(hin2 k).1
  obtain⟨B,hB⟩:∃B,m2.any (fun e=>decide ((V.length:Int)<e.2))=B:=⟨_,rfl⟩
  rw[hB]at he
  refine lP_enter (σ:=NN) (fun q=>(.nd (clausesL l) (.nd .bot (.nd (.bool false) .nil .nil) (.nd (.int r) .nil .nil)) (.nd (Nl) (.nd (.asl o 0 V.length) .nil (.nd (.int q.i) .nil .nil)) .nil))) (fun q=>⟨(o,arrS (stratsOf m2))::H.objs,q.n⟩) (fun q=>V.length - q.i)
   (fun q=>n0<=q.n/\q.i<=V.length/\(m2.drop q.i).any (fun e=>decide ((V.length:Int)<e.2))=B) ⟨0,n2⟩ ⟨hn2,Nat.zero_le _,hB⟩ (by simp[FT.Le,Wk]) ⟨HWk.refl _,fun h=>h⟩ ?_
  rintro⟨j,n3⟩ ⟨hn3,hj,hB3⟩ hok3
  simp only at hn3 hj hB3
  by_cases hlt3:j<V.length
  case neg=>
   rw[List.drop_eq_nil_of_le (by rw[hVm m2 hkm2];omega),List.any_nil]at hB3
   subst hB3
   simp(disch:=omega)[hlt3,wrap_nat (show r<2^62 by omega)]
   exact⟨⟨r+1,n3,m2⟩,by dsimp only;omega,⟨by dsimp only;omega,by dsimp only;omega,hkm2,InP_any hnn2 (by omega) hB,by dsimp only;rw[show V.length+2 - (r+1)=V.length+1 - r by omega];simpa using he⟩,by simp[FT.Le,Wk],HWk.refl _,fun h=>h⟩
  have hjm:j<m2.length:=by rw[hVm m2 hkm2];exact hlt3
  rw[any_drop2 _ hjm]at hB3
  have hlo3:look o ((o,arrS (stratsOf m2))::H.objs)=some (arrS (stratsOf m2)):=by simp[look]
  have ia3:=iaA (n:=n3) hlo3 hlt3
  have l3:loadL ⟨(o,arrS (stratsOf m2))::H.objs,n3⟩ none (.ptr o (j*3+2))=some (.int m2[j].2):=by
   rw[ldA (c:=2) hlo3 (by rw[stratsOf_len];exact hjm) (by omega),strats_get hjm]
   rfl
  by_cases hbig:(V.length:Int)<m2[j].2
  ·simp[hbig]at hB3
   subst hB3
   simp at he
   simp(disch:=omega)[-iaL,-loadL,ia3,l3,hlt3,hbig]
   obtain⟨g1,g2⟩:=hbase m2 n3 (by omega)
   exact⟨_,g1,g2,hk1 he.symm n3 (by omega)⟩
  ·simp[hbig]at hB3
   simp(disch:=omega)[-iaL,-loadL,ia3,l3,hlt3,hbig,wrap_nat (show j<2^62 by omega)]
   exact⟨⟨j+1,n3⟩,by dsimp only;omega,⟨by dsimp only;omega,by dsimp only;omega,by simpa using hB3⟩,by simp[FT.Le,Wk],HWk.refl _,fun h=>h⟩
 rw[List.drop_eq_getElem_cons hlt,List.foldl_cons]at he2
 have hcm:=mem_at hlt
 have hbl:=hb _ hcm
 have hhd:ofA l[i].head∈V:=hK _ hcm _ List.mem_cons_self
 have hlo:∀m':List (PK×Int),look o ((o,arrS (stratsOf m'))::H.objs)=some (arrS (stratsOf m')):=fun m'=>by simp[look]
 simp(disch:=omega)[hlt]
 refine v_find hkm2 hhd (hlo m2) rfl (by omega) fun n3 hn3=>?_
 obtain⟨W,hW⟩:∃W,clStep (m2,ch2) l[i]=W:=⟨_,rfl⟩
 rw[hW]at he2
 simp(disch:=omega)[hlt]
 refine lP_enter (σ:=NNR) (fun q=>(.nd (clausesL l) (.nd .bot (.nd (.bool false) (.nd (.int i) .nil .nil) .nil) (.nd (.int r) (.nd (.int q.i) .nil .nil) .nil)) (.nd (Nl) (.nd (.asl o 0 V.length) (.nd (.int (kIdx (ofA l[i].head) V:Int)) .nil .nil) .nil) (.nd (.bool q.ch) .nil .nil)))) (fun q=>⟨(o,arrS (stratsOf q.m))::H.objs,q.n⟩) (fun q=>l[i].body.length - q.i)
  (fun q=>n0<=q.n/\q.i<=l[i].body.length/\pKeys q.m=V/\InP q.m (V.length+i*2^18+q.i)/\(l[i].body.drop q.i).foldl (litStep (ofA l[i].head)) (q.m,q.ch)=W) ⟨0,n3,m2,ch2⟩ ⟨by dsimp only;omega,Nat.zero_le _,hkm2,hin2.mono (by dsimp only;omega),hW⟩ (by simp[FT.Le,Wk]) ⟨HWk.refl _,fun h=>h⟩ ?_
 rintro⟨j,n4,m4,ch4⟩ ⟨hn4,hj,hkm4,hin4,he4⟩ hok4
 dsimp only at hn4 hj hkm4 hin4 he4 hok4
 by_cases hlt4:j<l[i].body.length
 case neg=>
  rw[List.drop_eq_nil_of_le (by omega)]at he4
  simp only[List.foldl_nil]at he4
  subst he4
  simp(disch:=omega)[hlt,hlt4,wrap_nat (show i<2^62 by omega)]
  exact⟨⟨i+1,n4,m4,ch4⟩,by dsimp only;omega,⟨by dsimp only;omega,by dsimp only;omega,hkm4,hin4.mono (by dsimp only;omega),he2⟩,by simp[FT.Le,Wk],HWk.refl _,fun h=>h⟩
 rw[List.drop_eq_getElem_cons hlt4,List.foldl_cons]at he4
 have hkx:=hkd _ hcm _ (mem_at hlt4)
 have hfg:∀(x:LObj)(m':List (PK×Int))(n':Nat),n4+1<=n'->HWk ⟨(n4,x)::(o,arrS (stratsOf m'))::H.objs,n'⟩ ⟨(o,arrS (stratsOf m'))::H.objs,n'⟩/\(LHeap.Ok ⟨(n4,x)::(o,arrS (stratsOf m'))::H.objs,n'⟩->LHeap.Ok ⟨(o,arrS (stratsOf m'))::H.objs,n'⟩):=fun x m' n' hn'=>
  back (hOk m' n4 (by omega)) (HExt.cons (hOk m' n4 (by omega)) (Nat.le_refl _) (HExt.refl (Nat.le_refl _)) (by dsimp only;omega))
 by_cases hk2':l[i].body[j].kind<=2
 case neg=>
  have hst:litStep (ofA l[i].head) (m4,ch4) l[i].body[j]=(m4,ch4):=by
   unfold litStep
   rw[if_neg]
   have h1:¬l[i].body[j].kind=1:=by omega
   have h2:¬l[i].body[j].kind=2:=by omega
   have:=(hin4 (ofA l[i].head)).1
   simp only[lstL,h1,h2,if_false]
   omega
  rw[hst]at he4
  have hgt:(2:Int)<l[i].body[j].kind:=by omega
  simp(disch:=omega)[hlt,hlt4,hgt,wrap_nat (show j<2^62 by omega)]
  obtain⟨g1,g2⟩:=hfg (.cells (litC l[i].body[j])) m4 (n4+1) (Nat.le_refl _)
  exact⟨⟨j+1,n4+1,m4,ch4⟩,by dsimp only;omega,⟨by dsimp only;omega,by dsimp only;omega,hkm4,hin4.mono (by dsimp only;omega),he4⟩,by simp[FT.Le,Wk],g1,g2⟩
 have hngt:¬(2:Int)<l[i].body[j].kind:=by omega
 have hk12:l[i].body[j].kind=1\/l[i].body[j].kind=2:=by omega
 have hat:ofA l[i].body[j].atom∈V:=hK _ hcm _ (List.mem_cons_of_mem _ (List.mem_map.2 ⟨l[i].body[j],List.mem_filter.2 ⟨mem_at hlt4,by simpa using hk12⟩,rfl⟩))
 have hinS:=litStep_in (h:=ofA l[i].head) (s:=(m4,ch4)) (x:=l[i].body[j]) hin4
 have hkS:=litStep_keys (h:=ofA l[i].head) (s:=(m4,ch4)) (x:=l[i].body[j]) (by dsimp only;rw[hkm4];exact hhd)
 dsimp only at hinS hkS
 rw[hkm4]at hkS
 have hc:(V.length:Int)+i*2^18+(j:Int)+1=V.length+i*2^18+((j+1:Nat):Int):=by omega
 rw[hc]at hinS
 have hpv:∀k:PK,0<=pVal m4 k/\pVal m4 k<2^42:=fun k=>⟨(hin4 k).1,by have:=(hin4 k).2;omega⟩
 obtain⟨ob4,hob4⟩:∃ob4:List (Nat×LObj),ob4=(n4,LObj.cells (litC l[i].body[j]))::(o,arrS (stratsOf m4))::H.objs:=⟨_,rfl⟩
 have hlo4:look o ob4=some (arrS (stratsOf m4)):=by rw[hob4,look_ne (by omega)];exact hlo m4
 have hlit:look n4 ob4=some (.cells (litC l[i].body[j])):=by rw[hob4];exact look_self _ _ _
 have hput:∀m':List (PK×Int),putO o (arrS (stratsOf m')) ob4=(n4,LObj.cells (litC l[i].body[j]))::(o,arrS (stratsOf m'))::H.objs:=fun m'=>by
  rw[hob4,putO_ne (by omega)]
  simp[putO]
 simp(disch:=omega)[hlt,hlt4,hngt]
 rw[show [LV.int l[i].body[j].kind,LV.str l[i].body[j].atom.pred,argsL l[i].body[j].atom.args,LV.int l[i].body[j].a.kind,LV.int l[i].body[j].a.n,LV.str l[i].body[j].a.s,LV.int l[i].body[j].b.kind,LV.int l[i].body[j].b.n,LV.str l[i].body[j].b.s]=litC l[i].body[j] from rfl,<-hob4]
 refine v_find hkm4 hat hlo4 rfl (by omega) fun n5 hn5=>?_
 have ia1:=v_ia (n:=n5) hkm4 hat hlo4
 have ia2:=v_ia (n:=n5) hkm4 hhd hlo4
 have ld1:=v_ld (n:=n5) hkm4 hat hlo4
 have ld2:=v_ld (n:=n5) hkm4 hhd hlo4
 have ldk:loadL ⟨ob4,n5⟩ none (.ptr n4 0)=some (.int l[i].body[j].kind):=by simp[loadL,hlit,partL]
 have st:=v_st (n:=n5) hkm4 hhd hlo4
 have hpa:=hpv (ofA l[i].body[j].atom)
 rcases hk12 with hk|hk
 ·have hv:lstL m4 l[i].body[j]=pVal m4 (ofA l[i].body[j].atom):=by simp[lstL,hk]
  by_cases hlt5:pVal m4 (ofA l[i].head)<pVal m4 (ofA l[i].body[j].atom)
  ·have hst:litStep (ofA l[i].head) (m4,ch4) l[i].body[j]=(pSet (ofA l[i].head) (pVal m4 (ofA l[i].body[j].atom)) m4,true):=by
    unfold litStep;dsimp only;rw[hv,if_pos hlt5]
   rw[hst]at hinS hkS he4
   simp(disch:=omega)[-iaL,-loadL,-stL,ia1,ia2,ld1,ld2,ldk,st,hk,hlt5,hput,wrap_nat (show j<2^62 by omega)]
   obtain⟨g1,g2⟩:=hfg (.cells (litC l[i].body[j])) (pSet (ofA l[i].head) (pVal m4 (ofA l[i].body[j].atom)) m4) n5 hn5
   exact⟨⟨j+1,n5,pSet (ofA l[i].head) (pVal m4 (ofA l[i].body[j].atom)) m4,true⟩,by dsimp only;omega,⟨by dsimp only;omega,by dsimp only;omega,hkS,hinS,he4⟩,by simp[FT.Le,Wk],g1,g2⟩
  ·have hst:litStep (ofA l[i].head) (m4,ch4) l[i].body[j]=(m4,ch4):=by
    unfold litStep;dsimp only;rw[hv,if_neg hlt5]
   rw[hst]at hinS hkS he4
   simp(disch:=omega)[-iaL,-loadL,-stL,ia1,ia2,ld1,ld2,ldk,hk,hlt5,wrap_nat (show j<2^62 by omega)]
   obtain⟨g1,g2⟩:=hfg (.cells (litC l[i].body[j])) m4 n5 hn5
   rw[<-hob4]at g1 g2
   exact⟨⟨j+1,n5,m4,ch4⟩,by dsimp only;omega,⟨by dsimp only;omega,by dsimp only;omega,hkS,hinS,he4⟩,by simp[FT.Le,Wk],g1,g2⟩
 ·have hv:lstL m4 l[i].body[j]=pVal m4 (ofA l[i].body[j].atom)+1:=by simp[lstL,hk]
  by_cases hlt5:pVal m4 (ofA l[i].head)<pVal m4 (ofA l[i].body[j].atom)+1
  ·have hst:litStep (ofA l[i].head) (m4,ch4) l[i].body[j]=(pSet (ofA l[i].head) (pVal m4 (ofA l[i].body[j].atom)+1) m4,true):=by
    unfold litStep;dsimp only;rw[hv,if_pos hlt5]
   rw[hst]at hinS hkS he4
   simp(disch:=omega)[-iaL,-loadL,-stL,ia1,ia2,ld1,ld2,ldk,st,hk,wrap_id,hlt5,hput,wrap_nat (show j<2^62 by omega)]
   obtain⟨g1,g2⟩:=hfg (.cells (litC l[i].body[j])) (pSet (ofA l[i].head) (pVal m4 (ofA l[i].body[j].atom)+1) m4) n5 hn5
   exact⟨⟨j+1,n5,pSet (ofA l[i].head) (pVal m4 (ofA l[i].body[j].atom)+1) m4,true⟩,by dsimp only;omega,⟨by dsimp only;omega,by dsimp only;omega,hkS,hinS,he4⟩,by simp[FT.Le,Wk],g1,g2⟩
  ·have hst:litStep (ofA l[i].head) (m4,ch4) l[i].body[j]=(m4,ch4):=by
    unfold litStep;dsimp only;rw[hv,if_neg hlt5]
   rw[hst]at hinS hkS he4
   simp(disch:=omega)[-iaL,-loadL,-stL,ia1,ia2,ld1,ld2,ldk,hk,wrap_id,hlt5,wrap_nat (show j<2^62 by omega)]
   obtain⟨g1,g2⟩:=hfg (.cells (litC l[i].body[j])) m4 n5 hn5
   rw[<-hob4]at g1 g2
   exact⟨⟨j+1,n5,m4,ch4⟩,by dsimp only;omega,⟨by dsimp only;omega,by dsimp only;omega,hkS,hinS,he4⟩,by simp[FT.Le,Wk],g1,g2⟩
structure SmallL(l:List Clause):Prop where
 ok3:l.length<=40->∀c∈l,Clause.ok3 c
theorem checkF_ok:∀(l:List Clause)(i:Nat),(checkF l i).1=0->∀c∈l,clauseOk c=true
 |[],_,_,c,hc=>by cases hc
 |c::l,i,h,d,hd=>by
  simp only[checkF]at h
  by_cases hf:clauseOk c=false
  ·rw[if_pos hf]at h;simp at h
  ·rw[if_neg hf]at h
   by_cases hs:safeB c=false
   ·rw[if_pos hs]at h;simp at h
   ·rw[if_neg hs]at h
    rcases List.mem_cons.1 hd with rfl|hd
    ·simpa using hf
    ·exact checkF_ok l (i+1) h d hd
theorem check_ok{l:List Clause}(h:(checkB l).1=0):l.length<=40/\∀c∈l,clauseOk c=true:=by
 unfold checkB at h
 split at h
 ·simp at h
 ·rename_i h1
  exact⟨by omega,checkF_ok l 0 h⟩
theorem lit_kind{x:Lit}(h:litOk x=true):1<=x.kind/\x.kind<=6:=by
 unfold litOk at h
 split at h
 ·omega
 ·split at h
  ·omega
  ·cases h
structure GoodL(l:List Clause):Prop where
 len:l.length<=40
 body:∀c∈l,c.body.length<=5
 kind:∀c∈l,∀x∈c.body,1<=x.kind/\x.kind<=6
theorem good_of{l:List Clause}(h:(checkB l).1=0):GoodL l:=by
 obtain⟨h1,h2⟩:=check_ok h
 exact⟨h1,fun c hc=>(clause_parts (h2 c hc)).2.1,fun c hc x hx=>lit_kind ((clause_parts (h2 c hc)).2.2 x hx)⟩
theorem GoodL.initLen{l:List Clause}(h:GoodL l):(l.foldl initCl []).length<=240:=by
 have h1:=(init_fold l [] fun _=>rfl).2.2.2
 have h2:∀l:List Clause,(∀c∈l,c.body.length<=5)->(l.map fun c=>c.body.length+1).sum<=6*l.length:=by
  intro l
  induction l with
  |nil=>intro _;exact Nat.le_refl _
  |cons c l ih=>
   intro hb
   have a:=ih fun c hc=>hb c (List.mem_cons_of_mem _ hc)
   have b:=hb c List.mem_cons_self
   simp only[List.map_cons,List.sum_cons,List.length_cons]
   omega
 have h3:=h2 l h.body
 have h4:=h.len
 simp only[List.length_nil]at h1
 omega
theorem GoodL.allLen{l:List Clause}(h:GoodL l):(allA l).length<=240:=by
 have h2:∀l:List Clause,(∀c∈l,c.body.length<=5)->(allA l).length<=6*l.length:=by
  intro l
  induction l with
  |nil=>intro _;exact Nat.le_refl _
  |cons c l ih=>
   intro hb
   have a:=ih fun c hc=>hb c (List.mem_cons_of_mem _ hc)
   have b:=hb c List.mem_cons_self
   have e:(clAs c).length<=c.body.length+1:=by
    unfold clAs
    have g:∀b:List Lit,(b.flatMap litAs).length<=b.length:=by
     intro b
     induction b with
     |nil=>exact Nat.le_refl _
     |cons x b ih=>
      rw[List.flatMap_cons,List.length_append,List.length_cons]
      have:(litAs x).length<=1:=by unfold litAs;split<;>simp
      omega
    have:=g c.body
    simp only[List.length_cons]
    omega
   have:allA (c::l)=clAs c++allA l:=rfl
   rw[this,List.length_append,List.length_cons]
   omega
 have h3:=h2 l h.body
 have h4:=h.len
 omega
theorem t_checked(l:List Clause)(hl:SmallL l)(fuel:Nat)(R:Option (List (PK×Int)))(hR:(checkB l).1=0->levN l fuel (l.foldl initCl [])=some R)(H:LHeap){kv kp:HP}
  (h0:(checkB l).1≠0->∀n,H.next<=n->kv (.tup [.sc (.map none),.int (checkB l).1]) ⟨H.objs,n⟩)
  (h1:(checkB l).1=0->R=none->∀n,H.next<=n->kv (.tup [.sc (.map none),.int 81]) ⟨H.objs,n⟩)
  (h2:(checkB l).1=0->∀m,R=some m->∀o n,H.next<=o->o<n->kv (.tup [.map o,.int 0]) ⟨(o,.map (encP m))::H.objs,n⟩):cP E0 F0 48 [clausesL l] H kv kp:=by
 refine cP_of_fn c48 fun hH=>⟨Nat.le_of_ble_eq_true rfl,?_⟩
 simp(disch:=omega)[b48]
 refine(t_Check l hl.ok3).go fun n hn=>?_
 by_cases hc:(checkB l).1=0
 case neg=>
  simp(disch:=omega)[hc]
  exact keep (h0 hc n hn)
 have hg:=good_of hc
 simp(disch:=omega)[hc]
 refine t_levels l (by have:=hg.len;omega) (fun c hcm=>by have:=hg.body c hcm;omega) (by have:=hg.initLen;omega) fuel R (hR hc) _ (fun hRn n2 hn2=>?_) (fun m hRm n2 hn2=>?_)
 ·dsimp only at hn2
  simp(disch:=omega)
  exact keep (h1 hc hRn n2 (by omega))
 ·dsimp only at hn2
  simp(disch:=omega)
  exact keep (h2 hc m hRm n n2 hn hn2)
abbrev strataL(A:List Strat):LV:=.sl (A.map stratL) .no
def rstratE(l:List Clause)(S:Option (List (PK×Int))):Int:=if (checkB l).1≠0 then (checkB l).1 else if S=none then 81 else 0
def rstratL(l:List Clause)(S:Option (List (PK×Int))):List Strat:=if (checkB l).1≠0 then [] else stratsOf (S.getD [])
theorem chunksS:∀A:List Strat,chunks 3 A.length (A.flatMap stratC)=A.map stratL
 |[]=>rfl
 |x::A=>by
  have ih:=chunksS A
  rw[List.length_cons,List.flatMap_cons]
  show mkEl ((stratC x++A.flatMap stratC).take 3)::chunks 3 A.length ((stratC x++A.flatMap stratC).drop 3)=_
  rw[show (stratC x++A.flatMap stratC).take 3=stratC x from List.take_left (l₁:=stratC x),show (stratC x++A.flatMap stratC).drop 3=A.flatMap stratC from List.drop_left (l₁:=stratC x),ih]
  rfl
theorem frzS{H:LHeap}{A:List Strat}{o:Nat}(hl:look o H.objs=some (arrS A)):frzA H [o] o 0 A.length=strataL A:=by
 unfold frzA
 have h1:(A.flatMap stratC).length=A.length*3:=flat_len stratC_len A
 simp only[List.contains_cons,BEq.rfl,Bool.true_or,if_true,hl]
 rw[if_pos (by rw[h1];omega)]
 rw[Nat.zero_mul,List.drop_zero,chunksS]
theorem look_delsO{L:List Nat}{j:Nat}(h:L.contains j=false):∀{l:List (Nat×LObj)},look j (delsO L l)=look j l
 |[]=>rfl
 |(i,x)::r=>by
  simp only[delsO]
  by_cases hi:L.contains i=true
  ·rw[if_pos hi,look_delsO h]
   simp only[look]
   rw[if_neg]
   rintro rfl
   rw[hi]at h;cases h
  ·rw[if_neg hi]
   simp only[look]
   rw[look_delsO h]
def rlevV:Option (List (PK×Int))->LV
 |none=>.tup [Nl,.bool false]
 |some m=>.tup [strataL (stratsOf m),.bool true]
def predM(l:List Clause):List (PK×Int):=(predsL l).map fun s=>((s.pred,s.args),s.level)
theorem predM_strats(l:List Clause):stratsOf (predM l)=predsL l:=by
 unfold stratsOf predM
 rw[List.map_map]
 conv=>rhs;rw[<-List.map_id (predsL l)]
 rfl
structure PredOk(l:List Clause):Prop where
 zero:∀k,pVal (predM l) k=0
 has:∀c∈l,∀k∈predC c,k∈pKeys (predM l)
def refS(l:List Clause):Option (List (PK×Int)):=refN l ((predM l).length+2) (predM l)
theorem t_rlevelsP(l:List Clause)(hne:l≠[])(hg:GoodL l)(hp:PredOk l):PureT 63 [clausesL l] (rlevV (refS l)):=by
 intro H kv kp hk hH
 have h1:=t_rlevels (kv:=fun v H'=>(refS l=none/\v=.tup [Nl,.bool false]/\∃n,H.next<=n/\H'=⟨H.objs,n⟩)\/∃m o n,refS l=some m/\H.next<=o/\o<n/\v=.tup [.asl o 0 m.length,.bool true]/\H'=⟨(o,arrS (stratsOf m))::H.objs,n⟩) (kp:=fun _ _=>False)
  l hne (by have:=hg.len;omega) (fun c hc=>by have:=hg.body c hc;omega) (by have:=hg.allLen;omega) (fun c hc x hx=>(hg.kind c hc x hx).1) (predM l) (predM_strats l) hp.zero hp.has (refS l) rfl H
  (fun hR n hn=>.inl ⟨hR,rfl,n,hn,rfl⟩) (fun m hR o n ho hn=>.inr ⟨m,o,n,hR,ho,hn,rfl,rfl⟩) hH
 refine .frz (fun v _=>match v with|.tup [.asl o _ _,_]=>[o]|_=>[]) h1 (fun v H' hT=>?_) (fun v H' hT=>?_)
 ·rcases hT with⟨u,H2,he,hok,hT⟩|⟨u,H2,he,hok,hf⟩
  ·cases he
   rcases hT with⟨hR,rfl,n,hn,rfl⟩|⟨m,o,n,hR,ho,hn,rfl,rfl⟩
   ·refine⟨⟨H.objs,n⟩,⟨Nat.le_refl _,fun i x hx=>(look_delsO (L:=[]) rfl).trans hx⟩,.inl ⟨_,_,rfl,Desc.mono hH hn,?_⟩⟩
    have:=hk n hn
    rw[hR]at this
    exact this
   ·refine⟨⟨H.objs,n⟩,⟨Nat.le_refl _,fun i x hx=>?_⟩,.inl ⟨_,_,rfl,Desc.mono hH (by dsimp only;omega),?_⟩⟩
    ·have:=hH.look hx
     have hne:¬i=o:=by omega
     have e1:look i (delsO [o] ((o,arrS (stratsOf m))::H.objs))=look i ((o,arrS (stratsOf m))::H.objs):=look_delsO (by simp[hne])
     show look i (delsO [o] ((o,arrS (stratsOf m))::H.objs))=some x
     rw[e1,look_ne hne]
     exact hx
    ·have:=hk n (by omega)
     rw[hR]at this
     have e:frzA ⟨(o,arrS (stratsOf m))::H.objs,n⟩ [o] o 0 (stratsOf m).length=strataL (stratsOf m):=frzS (by simp[look])
     rw[stratsOf_len]at e
     simpa [frzV,frzL,e,rlevV] using this
  ·cases he
 ·rcases hT with⟨u,H2,he,hok,hT⟩|⟨u,H2,he,hok,hf⟩
  ·cases he
  ·exact hf.elim
theorem findS_iff{k:PK}:∀{A:List Strat}{i:Nat},0<=findSt A k i↔∃x∈A,keyS x=k
 |[],i=>by simp[findSt]
 |x::r,i=>by
  have ih:=findS_iff (k:=k) (A:=r) (i:=i+1)
  simp only[findSt]
  by_cases h:matchS x k=true
  ·rw[if_pos h]
   exact⟨fun _=>⟨x,List.mem_cons_self,matchS_iff.1 h⟩,fun _=>by omega⟩
  ·rw[if_neg h,ih]
   constructor
   ·rintro⟨y,h1,h2⟩;exact⟨y,List.mem_cons_of_mem _ h1,h2⟩
   ·rintro⟨y,h1,h2⟩
    rcases List.mem_cons.1 h1 with rfl|h1
    ·exact absurd (matchS_iff.2 h2) h
    ·exact⟨y,h1,h2⟩
theorem insS_nil(k:PK):insS [] k=[⟨k.1,k.2,0⟩]:=rfl
theorem insS_cons(x:Strat)(r:List Strat)(k:PK):insS (x::r) k=if ltPK x k then x::insS r k else ⟨k.1,k.2,0⟩::x::r:=by
 unfold insS
 simp only[posS]
 split
 ·simp
 ·simp
theorem mem_insS{x:Strat}{k:PK}:∀{A:List Strat},x∈insS A k↔x=⟨k.1,k.2,0⟩\/x∈A
 |[]=>by rw[insS_nil];simp
 |y::r=>by
  rw[insS_cons]
  split
  ·rw[List.mem_cons,mem_insS,List.mem_cons]
   exact⟨fun h=>h.elim (fun h=>.inr (.inl h)) fun h=>h.elim .inl fun h=>.inr (.inr h),fun h=>h.elim (fun h=>.inr (.inl h)) fun h=>h.elim .inl fun h=>.inr (.inr h)⟩
  ·exact List.mem_cons
theorem ltPK_iff{x:Strat}{k:PK}:ltPK x k=true↔keyLt x ⟨k.1,k.2,0⟩:=by
 unfold ltPK keyLt
 simp[eqBA_iff]
theorem sorted_insS{k:PK}:∀{A:List Strat},A.Pairwise keyLt->(∀x∈A,keyS x≠k)->(insS A k).Pairwise keyLt
 |[],_,_=>by rw[insS_nil];exact List.pairwise_singleton _ _
 |y::r,h,hk=>by
  obtain⟨h1,h2⟩:=List.pairwise_cons.1 h
  rw[insS_cons]
  by_cases hy:ltPK y k=true
  ·rw[if_pos hy]
   refine List.pairwise_cons.2 ⟨fun z hz=>?_,sorted_insS h2 fun x hx=>hk x (List.mem_cons_of_mem _ hx)⟩
   rcases mem_insS.1 hz with rfl|hz
   ·exact ltPK_iff.1 hy
   ·exact h1 z hz
  ·rw[if_neg hy]
   have hlt:keyLt ⟨k.1,k.2,0⟩ y:=by
    apply Classical.byContradiction
    intro hn
    have hy':¬keyLt y ⟨k.1,k.2,0⟩:=fun e=>hy (ltPK_iff.2 e)
    obtain⟨e1,e2⟩:=keyLt_total hy' hn
    refine hk y List.mem_cons_self ?_
    unfold keyS
    rw[e1,e2]
   refine List.pairwise_cons.2 ⟨fun z hz=>?_,h⟩
   rcases List.mem_cons.1 hz with rfl|hz
   ·exact hlt
   ·exact keyLt_trans hlt (h1 z hz)
structure RowOk(aa:List Atom)(A B:List Strat):Prop where
 sub:∀x∈A,x∈B
 new:∀x∈B,x∈A\/(x.level=0/\∃a∈aa,keyS x=ofA a)
 all:∀a∈aa,∃x∈B,keyS x=ofA a
 ord:A.Pairwise keyLt->B.Pairwise keyLt
theorem fold_ok:∀(aa:List Atom)(A:List Strat),RowOk aa A (aa.foldl predF A)
 |[],A=>⟨fun _ h=>h,fun _ h=>.inl h,fun _ h=>(by cases h),id⟩
 |a::r,A=>by
  have ih:=fold_ok r (predF A a)
  rw[List.foldl_cons]
  have hp:(∀x∈A,x∈predF A a)/\(∀x∈predF A a,x∈A\/(x.level=0/\keyS x=ofA a))/\(∃x∈predF A a,keyS x=ofA a)/\(A.Pairwise keyLt->(predF A a).Pairwise keyLt):=by
   unfold predF
   by_cases hf:foundS A a
   ·rw[if_pos hf]
    exact⟨fun _ h=>h,fun _ h=>.inl h,findS_iff.1 hf,id⟩
   ·rw[if_neg hf]
    refine⟨fun x hx=>mem_insS.2 (.inr hx),fun x hx=>?_,⟨_,mem_insS.2 (.inl rfl),rfl⟩,fun h=>sorted_insS h fun x hx e=>hf (findS_iff.2 ⟨x,hx,e⟩)⟩
    rcases mem_insS.1 hx with rfl|hx
    ·exact .inr ⟨rfl,rfl⟩
    ·exact .inl hx
  obtain⟨p1,p2,⟨x0,p3,p4⟩,p5⟩:=hp
  refine⟨fun x hx=>ih.sub x (p1 x hx),fun x hx=>?_,fun b hb=>?_,fun h=>ih.ord (p5 h)⟩
  ·rcases ih.new x hx with h|⟨h1,b,hb,h2⟩
   ·rcases p2 x h with h|⟨h1,h2⟩
    ·exact .inl h
    ·exact .inr ⟨h1,a,List.mem_cons_self,h2⟩
   ·exact .inr ⟨h1,b,List.mem_cons_of_mem _ hb,h2⟩
  ·rcases List.mem_cons.1 hb with rfl|hb
   ·exact⟨x0,ih.sub x0 p3,p4⟩
   ·exact ih.all b hb
theorem preds_ok(l:List Clause):RowOk (allA l) [] (predsL l):=fold_ok (allA l) []
theorem pKeys_predM(l:List Clause):pKeys (predM l)=(predsL l).map keyS:=by
 unfold pKeys predM
 rw[List.map_map]
 rfl
theorem pVal_zero:∀{m:List (PK×Int)},(∀e∈m,e.2=0)->∀k,pVal m k=0
 |[],_,_=>rfl
 |(j,u)::r,h,k=>by
  have ih:=pVal_zero (m:=r) (fun e he=>h e (List.mem_cons_of_mem _ he)) k
  unfold pVal at ih ⊢
  simp only[pGet]
  split
  ·exact h _ List.mem_cons_self
  ·exact ih
theorem mem_allA{l:List Clause}(hk:∀c∈l,∀x∈c.body,1<=x.kind){k:PK}:(∃a∈allA l,k=ofA a)↔∃c∈l,k∈predC c:=by
 have hc:∀c∈l,(∃a∈clAs c,k=ofA a)↔k∈predC c:=by
  intro c hcm
  unfold clAs predC
  constructor
  ·rintro⟨a,ha,rfl⟩
   rcases List.mem_cons.1 ha with rfl|ha
   ·exact List.mem_cons_self
   ·obtain⟨x,hx,ha⟩:=List.mem_flatMap.1 ha
    unfold litAs at ha
    split at ha
    ·rename_i h2
     rw[List.mem_singleton.1 ha]
     have h1:=hk c hcm x hx
     have h12:x.kind=1\/x.kind=2:=by omega
     exact List.mem_cons_of_mem _ (List.mem_map.2 ⟨x,List.mem_filter.2 ⟨hx,by simpa using h12⟩,rfl⟩)
    ·cases ha
  ·intro h
   rcases List.mem_cons.1 h with rfl|h
   ·exact⟨c.head,List.mem_cons_self,rfl⟩
   ·obtain⟨x,hx,rfl⟩:=List.mem_map.1 h
    obtain⟨h1,h2⟩:=List.mem_filter.1 hx
    refine⟨x.atom,List.mem_cons_of_mem _ (List.mem_flatMap.2 ⟨x,h1,?_⟩),rfl⟩
    have:x.kind=1\/x.kind=2:=by simpa using h2
    unfold litAs
    rw[if_pos (by omega)]
    exact List.mem_singleton.2 rfl
 constructor
 ·rintro⟨a,ha,e⟩
  obtain⟨c,hcm,ha⟩:=List.mem_flatMap.1 ha
  exact⟨c,hcm,(hc c hcm).1 ⟨a,ha,e⟩⟩
 ·rintro⟨c,hcm,h⟩
  obtain⟨a,ha,e⟩:=(hc c hcm).2 h
  exact⟨a,List.mem_flatMap.2 ⟨c,hcm,ha⟩,e⟩
theorem mem_predM{l:List Clause}(hk:∀c∈l,∀x∈c.body,1<=x.kind){k:PK}:k∈pKeys (predM l)↔∃c∈l,k∈predC c:=by
 rw[<-mem_allA hk,pKeys_predM,List.mem_map]
 have h:=preds_ok l
 constructor
 ·rintro⟨x,hx,rfl⟩
  rcases h.new x hx with h|⟨_,a,ha,e⟩
  ·cases h
  ·exact⟨a,ha,e⟩
 ·rintro⟨a,ha,rfl⟩
  exact h.all a ha
theorem pred_ok{l:List Clause}(hk:∀c∈l,∀x∈c.body,1<=x.kind):PredOk l where
 zero:=pVal_zero fun e he=>by
  unfold predM at he
  obtain⟨s,hs,rfl⟩:=List.mem_map.1 he
  rcases (preds_ok l).new s hs with h|⟨h,_⟩
  ·cases h
  ·exact h
 has c hc k hkc:=(mem_predM hk).2 ⟨c,hc,hkc⟩
theorem keyLt_key{x y:Strat}(h:keyLt x y):keyS x≠keyS y:=by
 intro e
 have e1:x.pred=y.pred:=congrArg Prod.fst e
 have e2:x.args=y.args:=congrArg Prod.snd e
 rcases h with h|⟨_,h⟩
 ·rw[e1,lessB_eq,bl_irr]at h;cases h
 ·omega
theorem nodup_predM(l:List Clause):(pKeys (predM l)).Nodup:=by
 rw[pKeys_predM]
 have h:(predsL l).Pairwise keyLt:=(preds_ok l).ord .nil
 exact List.pairwise_map.2 (h.imp keyLt_key)
theorem t_rlevels0:PureT 63 [clausesL []] (.tup [Nl,.bool true]):=by
 refine PureT.of c63 fun H hH=>⟨Nat.le_of_ble_eq_true rfl,?_⟩
 simp(disch:=omega)[b63]
 have hp:PureT 102 [clausesL []] Nl:=by
  refine PureT.of c102 fun H hH=>⟨Nat.le_of_ble_eq_true rfl,?_⟩
  simp(disch:=omega)[b102]
  refine lP_unroll ?_
  simp(disch:=omega)
  refine lP_unroll ?_
  simp(disch:=omega)
  exact doneK hH (by first|rfl|simp[])
 refine hp.go fun n hn=>?_
 simp(disch:=omega)[wrap_id]
 refine lP_unroll ?_
 simp(disch:=omega)[wrap_id]
 refine lP_unroll ?_
 simp(disch:=omega)
 exact doneK hH (by first|rfl|simp[])
theorem t_rstratified(l:List Clause)(hl:SmallL l):∃own,PureT 27 [clausesL l] (.agg [.sl ((rstratL l (refS l)).map stratL) own,.int (rstratE l (refS l))]):=by
 have hcs:(rcheckB l).1=(checkB l).1:=by rw[check_same]
 by_cases hc:(checkB l).1=0
 case neg=>
  refine⟨.full,PureT.of c27 fun H hH=>⟨Nat.le_of_ble_eq_true rfl,?_⟩⟩
  simp(disch:=omega)[b27]
  refine(t_rCheck l hl.ok3).go fun n hn=>?_
  rw[hcs]
  simp(disch:=omega)[hc]
  exact doneK hH (by simp[rstratL,rstratE,hc])
 have hg:=good_of hc
 cases hl0:l with
 |nil=>
  refine⟨.full,PureT.of c27 fun H hH=>⟨Nat.le_of_ble_eq_true rfl,?_⟩⟩
  simp(disch:=omega)[b27]
  rw[hl0]at hl hcs hc
  refine(t_rCheck [] hl.ok3).go fun n hn=>?_
  rw[hcs]
  simp(disch:=omega)[hc]
  refine t_rlevels0.go fun n hn=>?_
  simp(disch:=omega)
  have e:refS []=some []:=rfl
  exact doneK hH (by simp[rstratL,rstratE,hc,e,stratsOf])
 |cons c r=>
  rw[<-hl0]
  have hne:l≠[]:=by rw[hl0];simp
  have hp:=t_rlevelsP l hne hg (pred_ok fun c hc x hx=>(hg.kind c hc x hx).1)
  cases hS:refS l with
  |none=>
   rw[hS]at hp
   refine⟨.full,PureT.of c27 fun H hH=>⟨Nat.le_of_ble_eq_true rfl,?_⟩⟩
   simp(disch:=omega)[b27]
   refine(t_rCheck l hl.ok3).go fun n hn=>?_
   rw[hcs]
   simp(disch:=omega)[hc]
   refine hp.go fun n hn=>?_
   simp(disch:=omega)[rlevV]
   exact doneK hH (by simp[rstratL,rstratE,hc,stratsOf])
  |some m=>
   rw[hS]at hp
   refine⟨.no,PureT.of c27 fun H hH=>⟨Nat.le_of_ble_eq_true rfl,?_⟩⟩
   simp(disch:=omega)[b27]
   refine(t_rCheck l hl.ok3).go fun n hn=>?_
   rw[hcs]
   simp(disch:=omega)[hc]
   refine hp.go fun n hn=>?_
   simp(disch:=omega)[rlevV]
   exact doneK hH (by simp[rstratL,rstratE,hc])
def hasP(k:PK)(W:List PK):Bool:=W.any (eqPK k)
structure NNG where
 f:Nat
 c:Nat
 n:Nat
 w:List PK
structure NNF where
 i:Nat
 n:Nat
 w:List PK
structure NNI2 where
 i:Nat
 n:Nat
 ns:List Int
 own:Own
 ob:List (Nat×LObj)
abbrev arrB(bits:List Bool):LObj:=.arr 1 (bits.map LV.bool)
def bitsOf(V U:List PK):List Bool:=V.map fun k=>hasP k U
section
variable{V U:List PK}{k:PK}(hk:k∈V){o n:Nat}{ob:List (Nat×LObj)}(hl:look o ob=some (arrB (bitsOf V U)))
include hk hl
end
theorem look_putO_ne{i j:Nat}{x:LObj}(h:i≠j):∀{l:List (Nat×LObj)},look i (putO j x l)=look i l
 |[]=>rfl
 |(k,y)::r=>by
  simp only[putO]
  by_cases hk:j=k
  ·subst hk
   rw[if_pos rfl]
   simp only[look]
   rw[if_neg h,if_neg h]
  ·rw[if_neg hk]
   simp only[look]
   rw[look_putO_ne h]
structure NNB where
 i:Nat
 n:Nat
 bs:List Bool
structure Stp where
 atom:Atom
 cl:Int
 frm:List Int
abbrev stepC(s:Stp):List LV:=[.str s.atom.pred,argsL s.atom.args,.int s.cl,.sl (s.frm.map LV.int) .no]
abbrev stepL(s:Stp):LV:=.agg (stepC s)
abbrev encM(M:List (ByteArray×Int)):List (LV×LV):=M.map fun e=>(.str e.1,.int e.2)
def lookM(k:ByteArray):List (ByteArray×Int)->Option Int
 |[]=>none
 |(j,v)::r=>if eqBA k j then some v else lookM k r
theorem findL_M(k:ByteArray):∀M:List (ByteArray×Int),findL (.pl 1) (.str k) (encM M)=some ((lookM k M).map LV.int)
 |[]=>rfl
 |(j,v)::r=>by
  have ih:=findL_M k r
  show (match eqK (.pl 1) (.str k) (.str j) with
   |some true=>some (some (LV.int v))
   |some false=>findL (.pl 1) (.str k) (encM r)
   |none=>none)=_
  rw[ih]
  simp only[eqK,eqB_s,lookM]
  cases eqBA k j<;>rfl
theorem setL_M(k:ByteArray)(v:Int):∀M:List (ByteArray×Int),lookM k M=none->setL (.pl 1) (.str k) (.int v) (encM M)=some (encM (M++[(k,v)]))
 |[],_=>rfl
 |(j,u)::r,h=>by
  simp only[lookM]at h
  by_cases he:eqBA k j=true
  ·rw[if_pos he]at h;cases h
  ·rw[if_neg he]at h
   have he':eqBA k j=false:=by simpa using he
   have ih:=setL_M k v r h
   show (match eqK (.pl 1) (.str k) (.str j) with
    |some true=>some ((LV.str j,LV.int v)::encM r)
    |some false=>(setL (.pl 1) (.str k) (.int v) (encM r)).map ((LV.str j,LV.int u)::·)
    |none=>none)=_
   rw[ih]
   simp only[eqK,eqB_s,he']
   rfl
def idxF:List Stp->Int->List (ByteArray×Int)
 |[],_=>[]
 |s::r,i=>(atomX s.atom,i)::idxF r (i+1)
theorem idxF_append(s:Stp):∀(F:List Stp)(i:Int),idxF (F++[s]) i=idxF F i++[(atomX s.atom,i+F.length)]
 |[],i=>by simp[idxF]
 |q::F,i=>by
  have ih:=idxF_append s F (i+1)
  simp only[List.cons_append,idxF,ih,List.length_cons]
  congr 4
  omega
theorem lookM_none{k:ByteArray}:∀{F:List Stp}{i:Int},lookM k (idxF F i)=none↔∀q∈F,atomX q.atom≠k
 |[],_=>by simp[idxF,lookM]
 |q::F,i=>by
  have ih:=lookM_none (k:=k) (F:=F) (i:=i+1)
  simp only[idxF,lookM]
  by_cases he:eqBA k (atomX q.atom)=true
  ·rw[if_pos he]
   have:=eqBA_iff.1 he
   constructor
   ·intro h;cases h
   ·intro h;exact absurd this.symm (h q List.mem_cons_self)
  ·rw[if_neg he,ih]
   have hne:atomX q.atom≠k:=fun e=>he (eqBA_iff.2 e.symm)
   constructor
   ·intro h x hx
    rcases List.mem_cons.1 hx with rfl|hx
    ·exact hne
    ·exact h x hx
   ·exact fun h x hx=>h x (List.mem_cons_of_mem _ hx)
structure FactsAt(ob:List (Nat×LObj))(fo am:Nat)(F:List Stp)(own:Own):Prop where
 pair:look fo ob=some (.cells [.map am,.sl (F.map stepL) own])
 map:look am ob=some (.map (encM (idxF F 0)))
 ne:fo≠am
 row:(own=.full/\F=[])\/∃t,own=.tok t/\t≠fo/\t≠am/\look t ob=some (.tok F.length 4)
def NoIt(ob:List (Nat×LObj)):Prop:=∀i m l k n,look i ob≠some (.iter m l k n)
def isIt:LObj->Bool
 |.iter _ _ _ _=>true
 |_=>false
theorem noIt_iff{ob:List (Nat×LObj)}:NoIt ob↔∀i x,look i ob=some x->isIt x=false:=by
 constructor
 ·intro h i x hx
  cases x<;>first|rfl|exact absurd hx (h _ _ _ _ _)
 ·intro h i m l k n hx
  exact absurd (h i _ hx) (by simp[isIt])
theorem NoIt.cons{ob:List (Nat×LObj)}(h:NoIt ob)(m:Nat){x:LObj}(hx:isIt x=false):NoIt ((m,x)::ob):=noIt_iff.2 fun i y hy=>by
 simp only[look]at hy
 split at hy
 ·cases hy;exact hx
 ·exact noIt_iff.1 h i y hy
theorem look_putO_or{o:Nat}{x:LObj}:∀{l:List (Nat×LObj)}{i:Nat}{y:LObj},look i (putO o x l)=some y->y=x\/look i l=some y
 |[],_,_,h=>by cases h
 |(j,z)::r,i,y,h=>by
  simp only[putO]at h
  split at h
  ·simp only[look]at h ⊢
   split at h
   ·cases h;exact .inl rfl
   ·rename_i hne;exact .inr (by rw[if_neg hne];exact h)
  ·simp only[look]at h ⊢
   split at h
   ·rename_i he;exact .inr (by rw[if_pos he];exact h)
   ·rename_i hne;rw[if_neg hne];exact look_putO_or h
theorem NoIt.put{ob:List (Nat×LObj)}(h:NoIt ob)(m:Nat){x:LObj}(hx:isIt x=false):NoIt (putO m x ob):=noIt_iff.2 fun i y hy=>by
 rcases look_putO_or hy with rfl|hy
 ·exact hx
 ·exact noIt_iff.1 h i y hy
def OwnNear(n:Nat)(own own':Own):Prop:=own'=own\/∃t,own'=.tok t/\n<=t
theorem lkM{H:LHeap}{o:Nat}{M:List (ByteArray×Int)}(h:look o H.objs=some (.map (encM M)))(k:ByteArray)(z:LV):lkL H (.pl 1) true z (.map o) (.str k)=some (match lookM k M with|some t=>.tup [.int t,.bool true]|none=>.tup [z,.bool false]):=by
 unfold lkL
 simp only[eqK,eqB_s,eqBA_self,Option.isSome_some,if_true,h,findL_M]
 cases lookM k M<;>rfl
theorem muM{H:LHeap}{o:Nat}{M:List (ByteArray×Int)}{k:ByteArray}(h:look o H.objs=some (.map (encM M)))(hn:lookM k M=none)(v:Int):muL H (.pl 1) (.map o) (.str k) (.int v)=some (H.put o (.map (encM (M++[(k,v)])))):=by
 unfold muL
 simp only[h,eqK,eqB_s,eqBA_self,Option.isNone_some,Bool.false_eq_true,if_false,setL_M _ _ _ hn,Option.map_some]
theorem steps_all(F:List Stp):(F.map stepL).all (fun e=>e.cells.length==4)=true:=by
 rw[List.all_map,List.all_eq_true]
 intro x _
 rfl
theorem t_add(s:Stp)(hs:atomOk s.atom=true)(fo am:Nat)(F:List Stp)(hF:F.length<=2^20)(own:Own)(ob:List (Nat×LObj))(n:Nat)(hA:FactsAt ob fo am F own){kv kp:HP}
  (h0:(∃q∈F,atomX q.atom=atomX s.atom)->∀n',n<=n'->kv (.tup []) ⟨ob,n'⟩)
  (h1:(∀q∈F,atomX q.atom≠atomX s.atom)->∀ob' n' own',n<=n'->FactsAt ob' fo am (F++[s]) own'->OwnNear n own own'->(NoIt ob->NoIt ob')->(∀i,i<n->i≠fo->i≠am->(∀t,own=.tok t->i≠t)->look i ob'=look i ob)->kv (.tup []) ⟨ob',n'⟩):
  cP E0 F0 59 [.ptr fo 0,stepL s] ⟨ob,n⟩ kv kp:=by
 refine cP_of_fn c59 fun hH=>⟨Nat.le_of_ble_eq_true rfl,?_⟩
 have hfo:fo<n:=hH.look hA.pair
 have ham:am<n:=hH.look hA.map
 simp(disch:=omega)[b59]
 refine(t_show s.atom hs).go fun n2 hn2=>?_
 simp(disch:=omega)[hA.pair]
 rw[lkM (by rw[look_ne (by omega)];exact hA.map)]
 cases hl:lookM (atomX s.atom) (idxF F 0) with
 |some t=>
  simp(disch:=omega)[resP_nil]
  have hex:∃q∈F,atomX q.atom=atomX s.atom:=by
   apply Classical.byContradiction
   intro hno
   have:=lookM_none (i:=0).2 fun q hq e=>hno ⟨q,hq,e⟩
   rw[hl]at this;cases this
  obtain⟨g1,g2⟩:=back (l:=(n,LObj.cells (stepC s))::ob) (n:=n2) hH (HExt.cons' hH (Nat.le_refl _) (by dsimp only;omega) (HExt.refl' _))
  exact⟨_,g1,g2,h0 hex n2 (by omega)⟩
 |none=>
  have hnone:=lookM_none.1 hl
  simp(disch:=omega)[hA.pair,hA.map]
  rw[muM (by rw[look_ne (by omega)];exact hA.map) hl]
  obtain⟨S,hS⟩:∃S,F.map stepL=S:=⟨_,rfl⟩
  have hall:=steps_all F
  have hpair:=hA.pair
  have hSl:S.length=F.length:=by rw[<-hS,List.length_map]
  have hF2:(F++[s]).map stepL=S++[stepL s]:=by rw[<-hS];simp
  have hidx:idxF (F++[s]) 0=idxF F 0++[(atomX s.atom,(F.length:Int))]:=by rw[idxF_append];simp
  rw[hS]at hall hpair
  rw[<-hidx]
  obtain⟨M2,hM2⟩:∃M2,LObj.map (encM (idxF (F++[s]) 0))=M2:=⟨_,rfl⟩
  have hMi:isIt M2=false:=by rw[<-hM2];rfl
  rw[hM2]
  have hna:fo≠am:=hA.ne
  have hlp:look fo (putO am M2 ob)=some (.cells [.map am,.sl S own]):=by rw[look_putO_ne hna];exact hpair
  simp(disch:=omega)[hlp]
  refine effP_ap ?_
  simp(disch:=omega)
  have hmap:look am (putO am M2 ob)=some M2:=look_putO hA.map
  rcases hA.row with⟨rfl,hFn⟩|⟨t,rfl,t1,t2,t3⟩
  ·rw[apL_new hall rfl (by rw[hSl];omega) (by omega)]
   simp(disch:=omega)[hlp,resP_nil]
   refine⟨_,HWk.refl _,fun h=>h,h1 hnone _ _ (.tok n2) (by omega) ⟨?_,?_,hna,.inr ⟨n2,rfl,by omega,by omega,?_⟩⟩ (.inr ⟨n2,rfl,by omega⟩) ?_ fun i hi hif hia _=>?_⟩
   ·rw[look_ne (by omega),look_ne (by omega),hF2]
    exact look_putO hlp
   ·rw[look_ne (by omega),look_ne (by omega),look_putO_ne (Ne.symm hna),hM2]
    exact hmap
   ·simp[look,hSl]
   ·exact fun hI=>NoIt.cons (NoIt.cons (NoIt.put (NoIt.put hI _ hMi) _ rfl) _ rfl) _ rfl
   ·rw[look_ne (by omega),look_ne (by omega),look_putO_ne hif,look_putO_ne hia]
  ·have htn:t<n:=hH.look t3
   have hlp2:look fo (putO t (LObj.tok (S.length+1) 4) (putO am M2 ob))=some (.cells [.map am,.sl S (.tok t)]):=by rw[look_putO_ne (Ne.symm t1)];exact hlp
   have htt:look t (putO am M2 ob)=some (.tok F.length 4):=by rw[look_putO_ne t2];exact t3
   rw[apL_tok hall rfl (by rw[hSl];omega) (by omega) (by omega) (by rw[look_ne (by omega),hSl];exact htt)]
   simp(disch:=omega)[hlp2,resP_nil]
   refine⟨_,HWk.refl _,fun h=>h,h1 hnone _ _ (.tok t) (by omega) ⟨?_,?_,hna,.inr ⟨t,rfl,t1,t2,?_⟩⟩ (.inl rfl) ?_ fun i hi hif hia hit=>?_⟩
   ·rw[look_ne (by omega),hF2]
    exact look_putO hlp2
   ·rw[look_ne (by omega),look_putO_ne (Ne.symm hna),look_putO_ne (Ne.symm t2),hM2]
    exact hmap
   ·rw[look_ne (by omega),look_putO_ne t1,look_putO htt]
    simp[hSl]
   ·exact fun hI=>NoIt.cons (NoIt.put (NoIt.put (NoIt.put hI _ hMi) _ rfl) _ rfl) _ rfl
   ·rw[look_ne (by omega),look_putO_ne hif,look_putO_ne (hit t rfl),look_putO_ne hia]
def hasF(k:ByteArray)(F:List Stp):Bool:=(lookM k (idxF F 0)).isSome
theorem hasF_iff{k:ByteArray}{F:List Stp}:hasF k F=true↔∃q∈F,atomX q.atom=k:=by
 unfold hasF
 constructor
 ·intro h
  apply Classical.byContradiction
  intro hno
  rw[lookM_none.2 fun q hq e=>hno ⟨q,hq,e⟩]at h
  cases h
 ·rintro⟨q,hq,e⟩
  cases hl:lookM k (idxF F 0) with
  |some v=>rfl
  |none=>exact absurd e (lookM_none.1 hl q hq)
def addF(F:List Stp)(s:Stp):List Stp:=if hasF (atomX s.atom) F then F else F++[s]
def freshF(F G:List Stp)(s:Stp):List Stp:=if hasF (atomX s.atom) F then G else if G.length<=300 then addF G s else G
theorem FactsAt.cons{ob:List (Nat×LObj)}{fo am n m:Nat}{F:List Stp}{own:Own}(h:FactsAt ob fo am F own)(hH:LHeap.Ok ⟨ob,n⟩)(hm:n<=m)(x:LObj):FactsAt ((m,x)::ob) fo am F own:=by
 have b1:fo<n:=hH.look h.pair
 have b2:am<n:=hH.look h.map
 refine⟨by rw[look_ne (by omega)];exact h.pair,by rw[look_ne (by omega)];exact h.map,h.ne,?_⟩
 rcases h.row with h1|⟨t,h1,h2,h3,h4⟩
 ·exact .inl h1
 ·have b3:t<n:=hH.look h4
  exact .inr ⟨t,h1,h2,h3,by rw[look_ne (by omega)];exact h4⟩
theorem t_do(a:Atom)(ha:atomOk a=true)(frm:List Int)(fv hv iv:Nat)(i:Int)(fo am go gm:Nat)(F G:List Stp)(hG:G.length<=2^20)(ownF own:Own)(ob:List (Nat×LObj))(n:Nat)
  (hF:FactsAt ob fo am F ownF) (hA:FactsAt ob go gm G own) (l1:look fv ob=some (.cells [.ptr fo 0])) (l2:look hv ob=some (.cells [.ptr go 0])) (l3:look iv ob=some (.cells [.int i])) {kv kp:HP}
  (hk:∀ob' n' own',n<=n'->FactsAt ob' go gm (freshF F G ⟨a,i,frm⟩) own'->OwnNear n own own'->(NoIt ob->NoIt ob')->(∀i,i<n->i≠go->i≠gm->(∀t,own=.tok t->i≠t)->look i ob'=look i ob)->kv (.tup []) ⟨ob',n'⟩):
  cP E0 F0 58 [atomL a,.sl (frm.map LV.int) .no,.ptr fv 0,.ptr hv 0,.ptr iv 0] ⟨ob,n⟩ kv kp:=by
 refine cP_of_fn c58 fun hH=>⟨Nat.le_of_ble_eq_true rfl,?_⟩
 have b1:fv<n:=hH.look l1
 have b2:hv<n:=hH.look l2
 have b3:iv<n:=hH.look l3
 have b4:fo<n:=hH.look hF.pair
 have b5:am<n:=hH.look hF.map
 have b6:go<n:=hH.look hA.pair
 simp(disch:=omega)[b58,l1,hF.pair]
 refine(t_show a ha).go fun n2 hn2=>?_
 simp(disch:=omega)
 rw[lkM (by rw[look_ne (by omega)];exact hF.map)]
 have hlast:∀(l:LObj),freshF F G ⟨a,i,frm⟩=G->∃H'',HWk ⟨(n,l)::ob,n2⟩ H''/\(LHeap.Ok ⟨(n,l)::ob,n2⟩->H''.Ok)/\kv (.tup []) H'':=fun l e=>by
  obtain⟨g1,g2⟩:=back (l:=(n,l)::ob) (n:=n2) hH (HExt.cons' hH (Nat.le_refl _) (by dsimp only;omega) (HExt.refl' _))
  exact⟨_,g1,g2,hk ob n2 own (by omega) (by rw[e];exact hA) (.inl rfl) id fun _ _ _ _ _=>rfl⟩
 have hGl:(G.map stepL).length=G.length:=List.length_map ..
 cases hl:lookM (atomX a) (idxF F 0) with
 |some t=>
  simp(disch:=omega)[resP_nil,l1,l2,l3,hF.pair,hA.pair]
  exact hlast _ (by simp[freshF,hasF,hl])
 |none=>
  by_cases h300:G.length<=300
  ·have h300':(G.length:Int)<=300:=by omega
   simp(disch:=omega)[l1,l2,l3,hF.pair,hA.pair,h300']
   have hnF:hasF (atomX a) F=false:=by simp[hasF,hl]
   refine t_add ⟨a,i,frm⟩ ha go gm G hG own _ n2 (hA.cons hH (Nat.le_refl _) _) (fun hex n3 hn3=>?_) (fun hno ob' n3 own' hn3 hA' hnear hnoit hsame=>?_)
   ·simp(disch:=omega)[resP_nil]
    have e:freshF F G ⟨a,i,frm⟩=G:=by simp[freshF,hnF,h300,addF,hasF_iff.2 hex]
    refine⟨_,HWk.refl _,fun h=>h,hk _ n3 own (by omega) (by rw[e];exact hA.cons hH (Nat.le_refl _) _) (.inl rfl) (fun hI=>hI.cons _ rfl) fun j hj _ _ _=>by rw[look_ne (by omega)]⟩
   ·simp(disch:=omega)[resP_nil]
    have hnG:hasF (atomX a) G=false:=by
     cases h:hasF (atomX a) G with
     |false=>rfl
     |true=>
      obtain⟨q,hq,e⟩:=hasF_iff.1 h
      exact absurd e (hno q hq)
    have e:freshF F G ⟨a,i,frm⟩=G++[⟨a,i,frm⟩]:=by simp[freshF,hnF,h300,addF,hnG]
    refine⟨_,HWk.refl _,fun h=>h,hk ob' n3 own' (by omega) (by rw[e];exact hA') (hnear.imp id fun⟨t,h1,h2⟩=>⟨t,h1,by omega⟩) (fun hI=>hnoit (hI.cons _ rfl)) fun j hj h1 h2 h3=>?_⟩
    rw[hsame j (by omega) h1 h2 h3,look_ne (by omega)]
  ·have h300':¬(G.length:Int)<=300:=by omega
   simp(disch:=omega)[l1,l2,l3,hF.pair,hA.pair,h300',resP_nil]
   exact hlast _ (by simp[freshF,h300])
end Go.Abs.Tz
namespace Go.Abs.Tz
open Go Go.Abs Go.Proofs
def restOk(F:List Stp)(K:Bind):List Lit->Bool
 |[]=>true
 |x::r=>if x.kind=1 then restOk F K r else if x.kind=2 then !hasF (atomX (fillA K x.atom)) F&&restOk F K r else cmpLit K x&&restOk F K r
def posL(b:List Lit):List Atom:=(b.filter fun x=>decide (x.kind=1)).map Lit.atom
def insts(F:List Stp)(c:Clause):List Atom->Bind->List Int->List (Bind×List Int)
 |[],K,frm=>if restOk F K c.body then [(K,frm)] else []
 |p::ps,K,frm=>(List.range F.length).flatMap fun j=>match F[j]? with
  |some s=>match bindKA K p s.atom with
   |some R=>insts F c ps R (frm++[(j:Int)])
   |none=>[]
  |none=>[]
def foldI{σ:Type}(step:σ->Atom->List Int->σ)(c:Clause)(l:List (Bind×List Int))(s:σ):σ:=l.foldl (fun s x=>step s (fillA x.1 c.head) x.2) s
theorem freshF_len(F G:List Stp)(s:Stp):G.length<=(freshF F G s).length/\(freshF F G s).length<=G.length+1:=by
 unfold freshF addF
 by_cases h1:hasF (atomX s.atom) F=true
 ·rw[if_pos h1];omega
 ·rw[if_neg h1]
  by_cases h2:G.length<=300
  ·rw[if_pos h2]
   by_cases h3:hasF (atomX s.atom) G=true
   ·rw[if_pos h3];omega
   ·rw[if_neg h3];simp
  ·rw[if_neg h2];omega
theorem freshF_max{F G:List Stp}{s:Stp}(h:G.length<=301):(freshF F G s).length<=301:=by
 have h1:=(freshF_len F G s).2
 by_cases h2:G.length<=300
 ·omega
 ·have:freshF F G s=G:=by
   unfold freshF
   by_cases h3:hasF (atomX s.atom) F=true
   ·rw[if_pos h3]
   ·rw[if_neg h3,if_neg h2]
  rw[this];exact h
end Go.Abs.Tz
namespace Go.Abs.Tz
open Go Go.Abs Go.Proofs
def atomG(a:Atom):Prop:=atomOk a=true/\a.args.all notVar=true
structure GoodB(K:Bind):Prop where
 nd:(keysB K).Nodup
 ok:∀e∈K,termOk e.2=true/\notVar e.2=true
theorem GoodB.nil:GoodB []:=⟨.nil,fun e h=>by cases h⟩
def ExtB(K R:Bind):Prop:=∀k v,findB k K=some v->findB k R=some v
theorem ExtB.refl(K:Bind):ExtB K K:=fun _ _ h=>h
theorem ExtB.trans{K L R:Bind}(h:ExtB K L)(k:ExtB L R):ExtB K R:=fun x v hx=>k x v (h x v hx)
def BoundIn(K:Bind)(ts:List Term):Prop:=∀t∈ts,t.kind=3->(findB t.s K).isSome=true
theorem BoundIn.ext{K R:Bind}{ts:List Term}(h:BoundIn K ts)(he:ExtB K R):BoundIn R ts:=fun t ht hk=>by
 obtain⟨v,hv⟩:=Option.isSome_iff_exists.1 (h t ht hk)
 rw[he _ _ hv];rfl
theorem findB_app{k:ByteArray}{v:Term}:∀{E X:Bind},findB k E=some v->findB k (E++X)=some v
 |[],_,h=>by cases h
 |(j,u)::r,X,h=>by
  simp only[findB,List.cons_append]at h ⊢
  split
  ·rename_i hj;rw[if_pos hj]at h;exact h
  ·rename_i hj;rw[if_neg hj]at h;exact findB_app h
theorem findB_last{k:ByteArray}{v:Term}:∀{E:Bind},findB k E=none->findB k (E++[(k,v)])=some v
 |[],_=>by simp[findB,eqBA_self]
 |(j,u)::r,h=>by
  simp only[findB,List.cons_append]at h ⊢
  split
  ·rename_i hj;rw[if_pos hj]at h;cases h
  ·rename_i hj;rw[if_neg hj]at h;exact findB_last h
theorem fillT_ext{K R:Bind}(h:ExtB K R){t:Term}(hb:t.kind=3->(findB t.s K).isSome=true):fillT R t=fillT K t:=by
 unfold fillT
 by_cases hk:t.kind=3
 ·obtain⟨v,hv⟩:=Option.isSome_iff_exists.1 (hb hk)
  rw[if_pos hk,if_pos hk,hv,h _ _ hv]
 ·rw[if_neg hk,if_neg hk]
theorem fillA_ext{K R:Bind}(h:ExtB K R){a:Atom}(hb:BoundIn K a.args):fillA R a=fillA K a:=by
 unfold fillA
 congr 1
 exact List.map_congr_left fun t ht=>fillT_ext h (hb t ht)
theorem bindR_spec:∀(ps qs:List Term)(K R:Bind),GoodB K->(∀q∈qs,termOk q=true/\notVar q=true)->ps.length=qs.length->bindR K ps qs=some R ->
  GoodB R/\ExtB K R/\BoundIn R ps/\ps.map (fillT R)=qs
 |[],[],K,R,hK,_,_,h=>by
  simp only[bindR,Option.some.injEq]at h
  subst h
  exact⟨hK,.refl _,fun t ht=>(by cases ht),rfl⟩
 |[],_::_,_,_,_,_,hl,_=>by simp at hl
 |_::_,[],_,_,_,_,hl,_=>by simp at hl
 |p::ps,q::qs,K,R,hK,hq,hl,h=>by
  have hl':ps.length=qs.length:=by simpa using hl
  have hq':∀x∈qs,termOk x=true/\notVar x=true:=fun x hx=>hq x (List.mem_cons_of_mem _ hx)
  simp only[bindR]at h
  by_cases hk:p.kind=3
  ·rw[if_pos hk]at h
   have fin:∀K':Bind,GoodB K'->ExtB K K'->findB p.s K'=some q->bindR K' ps qs=some R->GoodB R/\ExtB K R/\BoundIn R (p::ps)/\(p::ps).map (fillT R)=q::qs:=by
    intro K' h1 h2 h3 h4
    obtain⟨g1,g2,g3,g4⟩:=bindR_spec ps qs K' R h1 hq' hl' h4
    refine⟨g1,h2.trans g2,fun t ht htk=>?_,?_⟩
    ·rcases List.mem_cons.1 ht with rfl|ht
     ·rw[g2 _ _ h3];rfl
     ·exact g3 t ht htk
    ·rw[List.map_cons,g4]
     congr 1
     unfold fillT
     rw[if_pos hk,g2 _ _ h3];rfl
   cases hf:findB p.s K with
   |some old=>
    rw[hf]at h
    simp only at h
    split at h
    ·rename_i he
     have:=eqT_iff he
     subst this
     exact fin K hK (.refl _) hf h
    ·cases h
   |none=>
    rw[hf]at h
    simp only at h
    refine fin _ ⟨?_,fun e he=>?_⟩ (fun k v hv=>findB_app hv) (findB_last hf) h
    ·unfold keysB
     rw[List.map_append]
     refine List.nodup_append.2 ⟨hK.nd,by simp,fun x hx y hy e=>?_⟩
     simp at hy
     subst hy
     subst e
     exact findB_none hf hx
    ·rcases List.mem_append.1 he with he|he
     ·exact hK.ok e he
     ·simp at he
      subst he
      exact hq q List.mem_cons_self
  ·rw[if_neg hk]at h
   split at h
   ·rename_i he
    have e:=eqT_iff he
    obtain⟨g1,g2,g3,g4⟩:=bindR_spec ps qs K R hK hq' hl' h
    refine⟨g1,g2,fun t ht htk=>?_,?_⟩
    ·rcases List.mem_cons.1 ht with rfl|ht
     ·exact absurd htk hk
     ·exact g3 t ht htk
    ·rw[List.map_cons,g4]
     congr 1
     unfold fillT
     rw[if_neg hk,e]
   ·cases h
theorem atomG.args{a:Atom}(h:atomG a):∀q∈a.args,termOk q=true/\notVar q=true:=fun q hq=>
 ⟨List.all_eq_true.1 (atom_args h.1).2 q hq,List.all_eq_true.1 h.2 q hq⟩
theorem bindKA_spec{K R:Bind}{p a:Atom}(hK:GoodB K)(ha:atomG a)(h:bindKA K p a=some R):GoodB R/\ExtB K R/\BoundIn R p.args/\fillA R p=a:=by
 unfold bindKA at h
 split at h
 ·rename_i hc
  simp only[Bool.and_eq_true,decide_eq_true_eq]at hc
  obtain⟨g1,g2,g3,g4⟩:=bindR_spec _ _ K R hK ha.args hc.2 h
  refine⟨g1,g2,g3,?_⟩
  unfold fillA
  rw[g4,eqBA_iff.1 hc.1]
 ·cases h
theorem GoodB.find{K:Bind}(h:GoodB K){k:ByteArray}{v:Term}(hf:findB k K=some v):termOk v=true/\notVar v=true:=h.ok _ ((findB_iff h.nd).1 hf)
theorem fillT_ok{K:Bind}(h:GoodB K){t:Term}(ht:termOk t=true)(hb:t.kind=3->(findB t.s K).isSome=true):termOk (fillT K t)=true/\notVar (fillT K t)=true:=by
 unfold fillT
 by_cases hk:t.kind=3
 ·obtain⟨v,hv⟩:=Option.isSome_iff_exists.1 (hb hk)
  rw[if_pos hk,hv]
  exact h.find hv
 ·rw[if_neg hk]
  exact⟨ht,by simp[notVar,hk]⟩
theorem fillA_ok{K:Bind}(h:GoodB K){a:Atom}(ha:atomOk a=true)(hb:BoundIn K a.args):atomG (fillA K a):=by
 have h1:=atom_args ha
 have h2:∀t∈(fillA K a).args,termOk t=true/\notVar t=true:=by
  intro t ht
  obtain⟨u,hu,rfl⟩:=List.mem_map.1 (show t∈a.args.map (fillT K) from ht)
  exact fillT_ok h (List.all_eq_true.1 h1.2 u hu) (hb u hu)
 refine⟨?_,List.all_eq_true.2 fun t ht=>(h2 t ht).2⟩
 have h3:wordOk 97 122 a.pred=true:=by
  unfold atomOk at ha
  simp only[Bool.and_eq_true]at ha
  exact ha.1
 unfold atomOk
 rw[show (fillA K a).pred=a.pred from rfl,h3,show (fillA K a).args.length=a.args.length from List.length_map _,List.all_eq_true.2 fun t ht=>(h2 t ht).1]
 simp[h1.1]
theorem ofA_fill(K:Bind)(a:Atom):ofA (fillA K a)=ofA a:=by
 unfold ofA fillA
 simp
theorem termOk_ok{t:Term}(h:termOk t=true):t.ok:=by
 unfold Term.ok
 rcases term_cases h with⟨_,e⟩|⟨_,_,e⟩|⟨_,_,e⟩
 ·rw[e];exact Nat.pow_pos (by omega)
 ·have:=word_size e;omega
 ·have:=word_size e;omega
theorem atomOk_ok{a:Atom}(h:atomOk a=true):a.ok:=by
 have h1:=atom_args h
 unfold atomOk at h
 simp only[Bool.and_eq_true]at h
 have:=word_size h.1
 exact⟨by omega,by omega,fun t ht=>termOk_ok (List.all_eq_true.1 h1.2 t ht)⟩
structure CGood(c:Clause):Prop where
 ok:clauseOk c=true
 safe:safeB c=true
theorem posL_mem{c:Clause}{p:Atom}(h:p∈posL c.body):∃x∈c.body,x.kind=1/\x.atom=p:=by
 obtain⟨x,hx,e⟩:=List.mem_map.1 h
 obtain⟨h1,h2⟩:=List.mem_filter.1 hx
 exact⟨x,h1,by simpa using h2,e⟩
theorem mem_posL{c:Clause}{x:Lit}(h:x∈c.body)(hk:x.kind=1):x.atom∈posL c.body:=List.mem_map.2 ⟨x,List.mem_filter.2 ⟨h,by simp[hk]⟩,rfl⟩
theorem litOk_atom{x:Lit}(h:litOk x=true)(hk:x.kind=1\/x.kind=2):atomOk x.atom=true:=by
 unfold litOk at h
 rw[if_pos hk]at h
 simp only[Bool.and_eq_true]at h
 exact h.1
theorem CGood.posOk{c:Clause}(h:CGood c):∀p∈posL c.body,atomOk p=true:=fun p hp=>by
 obtain⟨x,hx,hk,rfl⟩:=posL_mem hp
 exact litOk_atom ((clause_parts h.ok).2.2 x hx) (.inl hk)
theorem CGood.bound{c:Clause}(h:CGood c){K:Bind}(hp:∀p∈posL c.body,BoundIn K p.args):BoundIn K c.head.args/\(∀x∈c.body,x.kind=2->BoundIn K x.atom.args)/\∀x∈c.body,x.kind≠1->x.kind≠2->BoundIn K [x.a,x.b]:=by
 have hs:=h.safe
 unfold safeB at hs
 rw[List.all_eq_true]at hs
 have key:∀v,v∈(litsV c.body ([],addVs c.head.args [])).2->(findB v K).isSome=true:=by
  intro v hv
  have h1:=hasV_iff.1 (hs v hv)
  rcases litsV_1.1 h1 with h2|⟨x,hx,hk,t,ht,htk,rfl⟩
  ·cases h2
  ·exact hp _ (mem_posL hx hk) t ht htk
 refine⟨fun t ht hk=>key _ (litsV_2.2 (.inl (mem_addVs.2 (.inr ⟨t,ht,hk,rfl⟩)))),fun x hx hk t ht htk=>key _ (litsV_2.2 (.inr ⟨x,hx,by omega,t,by rw[if_pos hk];exact ht,htk,rfl⟩)),fun x hx h1 h2 t ht htk=>key _ (litsV_2.2 (.inr ⟨x,hx,h1,t,by rw[if_neg h2];exact ht,htk,rfl⟩))⟩
theorem CGood.leaf{c:Clause}(h:CGood c){K:Bind}(hK:GoodB K)(hp:∀p∈posL c.body,BoundIn K p.args):(∀x∈c.body,x.kind=2->atomG (fillA K x.atom))/\atomG (fillA K c.head):=by
 obtain⟨h1,h2,_⟩:=h.bound hp
 exact⟨fun x hx hk=>fillA_ok hK (litOk_atom ((clause_parts h.ok).2.2 x hx) (.inr hk)) (h2 x hx hk),fillA_ok hK (clause_parts h.ok).1 h1⟩
end Go.Abs.Tz
namespace Go.Abs.Tz
open Go Go.Abs Go.Proofs
def ChainI(F:List Stp):List Atom->Bind->List Int->Bind->Prop
 |[],K,js,R=>js=[]/\R=K
 |p::ps,K,js,R=>∃(j:Nat)(s:Stp)(K':Bind)(js':List Int),F[j]? = some s/\bindKA K p s.atom=some K'/\js=(j:Int)::js'/\ChainI F ps K' js' R
def Chain(S:Atom->Prop):List Atom->Bind->Bind->Prop
 |[],K,R=>R=K
 |p::ps,K,R=>∃(a:Atom)(K':Bind),S a/\bindKA K p a=some K'/\Chain S ps K' R
def SetF(F:List Stp)(a:Atom):Prop:=∃s∈F,s.atom=a
theorem chain_of{F:List Stp}:∀{ps:List Atom}{K:Bind}{js:List Int}{R:Bind},ChainI F ps K js R->Chain (SetF F) ps K R
 |[],_,_,_,h=>h.2
 |_::_,_,_,_,⟨_,s,K',_,h1,h2,_,h4⟩=>⟨s.atom,K',⟨s,List.mem_iff_getElem?.2 ⟨_,h1⟩,rfl⟩,h2,chain_of h4⟩
theorem of_chain{F:List Stp}:∀{ps:List Atom}{K:Bind}{R:Bind},Chain (SetF F) ps K R->∃js,ChainI F ps K js R
 |[],_,_,h=>⟨[],rfl,h⟩
 |_::_,_,_,⟨a,K',⟨s,hs,e⟩,h2,h3⟩=>by
  obtain⟨js,hjs⟩:=of_chain h3
  obtain⟨j,hj⟩:=List.mem_iff_getElem?.1 hs
  exact⟨(j:Int)::js,j,s,K',js,hj,by rw[e];exact h2,rfl,hjs⟩
theorem Chain.mono{S T:Atom->Prop}(h:∀a,S a->T a):∀{ps:List Atom}{K R:Bind},Chain S ps K R->Chain T ps K R
 |[],_,_,hc=>hc
 |_::_,_,_,⟨a,K',h1,h2,h3⟩=>⟨a,K',h a h1,h2,Chain.mono h h3⟩
theorem chain_good{S:Atom->Prop}(hS:∀a,S a->atomG a):∀{ps:List Atom}{K R:Bind},GoodB K->Chain S ps K R->GoodB R/\ExtB K R/\(∀p∈ps,BoundIn R p.args)/\∀p∈ps,S (fillA R p)
 |[],K,R,hK,h=>by
  have e:R=K:=h
  subst e
  exact⟨hK,.refl _,fun p hp=>(by cases hp),fun p hp=>(by cases hp)⟩
 |p::ps,K,R,hK,⟨a,K',h1,h2,h3⟩=>by
  obtain⟨g1,g2,g3,g4⟩:=bindKA_spec hK (hS a h1) h2
  obtain⟨f1,f2,f3,f4⟩:=chain_good hS g1 h3
  refine⟨f1,g2.trans f2,fun q hq=>?_,fun q hq=>?_⟩
  ·rcases List.mem_cons.1 hq with rfl|hq
   ·exact g3.ext f2
   ·exact f3 q hq
  ·rcases List.mem_cons.1 hq with rfl|hq
   ·rw[fillA_ext f2 g3,g4];exact h1
   ·exact f4 q hq
def RestP(S:Atom->Prop)(K:Bind)(b:List Lit):Prop:=∀x∈b,(x.kind=2->¬S (fillA K x.atom))/\(x.kind≠1->x.kind≠2->cmpLit K x=true)
def HeadOf(S:Atom->Prop)(c:Clause)(h:Atom):Prop:=∃R,Chain S (posL c.body) [] R/\RestP S R c.body/\h=fillA R c.head
theorem HeadOf.good{S:Atom->Prop}(hS:∀a,S a->atomG a){c:Clause}(hc:CGood c){h:Atom}(hh:HeadOf S c h):atomG h:=by
 obtain⟨R,h1,_,rfl⟩:=hh
 obtain⟨g1,_,g3,_⟩:=chain_good hS .nil h1
 exact(hc.leaf g1 g3).2
theorem hasF_set{F:List Stp}(hF:∀s∈F,atomOk s.atom=true){a:Atom}(ha:atomOk a=true):hasF (atomX a) F=true↔SetF F a:=by
 rw[hasF_iff]
 constructor
 ·rintro⟨q,hq,e⟩
  exact⟨q,hq,atomX_inj (hF q hq) ha e⟩
 ·rintro⟨q,hq,e⟩
  exact⟨q,hq,by rw[e]⟩
theorem restOk_iff{F:List Stp}(hF:∀s∈F,atomOk s.atom=true){K:Bind}:∀{b:List Lit},(∀x∈b,x.kind=2->atomOk (fillA K x.atom)=true)->(restOk F K b=true↔RestP (SetF F) K b)
 |[],_=>⟨fun _ x hx=>(by cases hx),fun _=>rfl⟩
 |x::r,hb=>by
  have ih:=restOk_iff hF (K:=K) (b:=r) fun y hy=>hb y (List.mem_cons_of_mem _ hy)
  have split:RestP (SetF F) K (x::r)↔((x.kind=2->¬SetF F (fillA K x.atom))/\(x.kind≠1->x.kind≠2->cmpLit K x=true))/\RestP (SetF F) K r:=by
   constructor
   ·intro h
    exact⟨h x List.mem_cons_self,fun y hy=>h y (List.mem_cons_of_mem _ hy)⟩
   ·rintro⟨h1,h2⟩ y hy
    rcases List.mem_cons.1 hy with rfl|hy
    ·exact h1
    ·exact h2 y hy
  rw[split]
  unfold restOk
  by_cases h1:x.kind=1
  ·rw[if_pos h1,ih]
   exact⟨fun h=>⟨⟨fun h2=>by omega,fun h3=>absurd h1 h3⟩,h⟩,fun h=>h.2⟩
  ·rw[if_neg h1]
   by_cases h2:x.kind=2
   ·rw[if_pos h2,Bool.and_eq_true,ih]
    have e:(!hasF (atomX (fillA K x.atom)) F)=true↔¬SetF F (fillA K x.atom):=by
     rw[<-hasF_set hF (hb x List.mem_cons_self h2)]
     simp
    rw[e]
    exact⟨fun h=>⟨⟨fun _=>h.1,fun _ h3=>absurd h2 h3⟩,h.2⟩,fun h=>⟨h.1.1 h2,h.2⟩⟩
   ·rw[if_neg h2,Bool.and_eq_true,ih]
    exact⟨fun h=>⟨⟨fun h3=>absurd h3 h2,fun _ _=>h.1⟩,h.2⟩,fun h=>⟨h.1.2 h1 h2,h.2⟩⟩
theorem mem_insts{F:List Stp}{c:Clause}:∀{ps:List Atom}{K:Bind}{frm:List Int}{x:Bind×List Int},x∈insts F c ps K frm↔∃js,ChainI F ps K js x.1/\restOk F x.1 c.body=true/\x.2=frm++js
 |[],K,frm,x=>by
  unfold insts
  constructor
  ·intro h
   split at h
   ·rename_i hr
    simp at h
    subst h
    exact⟨[],⟨rfl,rfl⟩,hr,by simp⟩
   ·cases h
  ·rintro⟨js,⟨rfl,h2⟩,h3,h4⟩
   rw[<-h2,if_pos h3]
   obtain⟨x1,x2⟩:=x
   simp at h4
   subst h4
   simp
 |p::ps,K,frm,x=>by
  unfold insts
  rw[List.mem_flatMap]
  constructor
  ·rintro⟨j,hj,h⟩
   split at h
   ·rename_i s hs
    split at h
    ·rename_i R hR
     obtain⟨js,h1,h2,h3⟩:=mem_insts.1 h
     exact⟨(j:Int)::js,⟨j,s,R,js,hs,hR,rfl,h1⟩,h2,by rw[h3];simp⟩
    ·cases h
   ·cases h
  ·rintro⟨js,⟨j,s,K',js',h1,h2,h3,h4⟩,h5,h6⟩
   refine⟨j,List.mem_range.2 (List.getElem?_eq_some_iff.1 h1).1,?_⟩
   rw[h1]
   simp only[h2]
   exact mem_insts.2 ⟨js',h4,h5,by rw[h6,h3];simp⟩
def headsI(F:List Stp)(c:Clause)(ci:Int):List Stp:=(insts F c (posL c.body) [] []).map fun x=>⟨fillA x.1 c.head,ci,x.2⟩
theorem foldI_fresh(F:List Stp)(c:Clause)(ci:Int)(l:List (Bind×List Int))(G:List Stp):foldI (fun G a frm=>freshF F G ⟨a,ci,frm⟩) c l G=(l.map fun x=>(⟨fillA x.1 c.head,ci,x.2⟩:Stp)).foldl (freshF F) G:=by
 unfold foldI
 rw[List.foldl_map]
theorem freshF_cases(F G:List Stp)(s:Stp):freshF F G s=G\/(freshF F G s=G++[s]/\hasF (atomX s.atom) F=false/\hasF (atomX s.atom) G=false):=by
 unfold freshF addF
 cases h1:hasF (atomX s.atom) F
 ·rw[if_neg (by simp)]
  by_cases h2:G.length<=300
  ·rw[if_pos h2]
   cases h3:hasF (atomX s.atom) G
   ·rw[if_neg (by simp)];exact .inr ⟨rfl,rfl,rfl⟩
   ·exact .inl (if_pos rfl)
  ·rw[if_neg h2];exact .inl rfl
 ·exact .inl (if_pos rfl)
theorem freshF_has{F G:List Stp}{s:Stp}(h:(freshF F G s).length<=300):hasF (atomX s.atom) F=true\/hasF (atomX s.atom) (freshF F G s)=true:=by
 cases h1:hasF (atomX s.atom) F
 ·right
  have hG:G.length<=300:=by have:=(freshF_len F G s).1;omega
  unfold freshF addF
  rw[h1,if_neg (by simp),if_pos hG]
  cases h3:hasF (atomX s.atom) G
  ·rw[if_neg (by simp)]
   exact hasF_iff.2 ⟨s,by simp,rfl⟩
  ·rw[if_pos rfl];exact h3
 ·exact .inl rfl
theorem hasF_app{k:ByteArray}{G X:List Stp}(h:hasF k G=true):hasF k (G++X)=true:=by
 obtain⟨q,hq,e⟩:=hasF_iff.1 h
 exact hasF_iff.2 ⟨q,List.mem_append_left _ hq,e⟩
theorem fresh_pre(F:List Stp):∀(l G:List Stp),∃X,l.foldl (freshF F) G=G++X/\∀q∈X,q∈l
 |[],G=>⟨[],by simp,fun q hq=>by cases hq⟩
 |s::l,G=>by
  obtain⟨X,hX,hX2⟩:=fresh_pre F l (freshF F G s)
  rw[List.foldl_cons,hX]
  rcases freshF_cases F G s with e|⟨e,_⟩
  ·exact⟨X,by rw[e],fun q hq=>List.mem_cons_of_mem _ (hX2 q hq)⟩
  ·refine⟨s::X,by rw[e];simp,fun q hq=>?_⟩
   rcases List.mem_cons.1 hq with rfl|hq
   ·exact List.mem_cons_self
   ·exact List.mem_cons_of_mem _ (hX2 q hq)
theorem fresh_full(F:List Stp):∀(l G:List Stp),(l.foldl (freshF F) G).length<=300->∀s∈l,hasF (atomX s.atom) F=true\/hasF (atomX s.atom) (l.foldl (freshF F) G)=true
 |[],G,_,s,hs=>by cases hs
 |q::l,G,h,s,hs=>by
  rw[List.foldl_cons]at h ⊢
  rcases List.mem_cons.1 hs with rfl|hs
  ·obtain⟨X,hX,_⟩:=fresh_pre F l (freshF F G s)
   rw[hX]at h ⊢
   rw[List.length_append]at h
   rcases freshF_has (F:=F) (G:=G) (s:=s) (by omega) with h1|h1
   ·exact .inl h1
   ·exact .inr (hasF_app h1)
  ·exact fresh_full F l _ h s hs
theorem fresh_max(F:List Stp):∀(l G:List Stp),G.length<=301->(l.foldl (freshF F) G).length<=301
 |[],_,h=>h
 |s::l,G,h=>fresh_max F l _ (freshF_max h)
def DistF(F G:List Stp):Prop:=(G.map fun q=>atomX q.atom).Nodup/\∀q∈G,hasF (atomX q.atom) F=false
theorem DistF.nil(F:List Stp):DistF F []:=⟨.nil,fun q hq=>by cases hq⟩
theorem freshF_dist{F G:List Stp}{s:Stp}(h:DistF F G):DistF F (freshF F G s):=by
 rcases freshF_cases F G s with e|⟨e,h1,h2⟩
 ·rw[e];exact h
 ·rw[e]
  refine⟨?_,fun q hq=>?_⟩
  ·rw[List.map_append]
   refine List.nodup_append.2 ⟨h.1,by simp,fun x hx y hy hxy=>?_⟩
   simp at hy
   subst hy
   obtain⟨q,hq,e⟩:=List.mem_map.1 hx
   have:hasF (atomX s.atom) G=true:=hasF_iff.2 ⟨q,hq,by rw[e,hxy]⟩
   rw[h2]at this
   cases this
  ·rcases List.mem_append.1 hq with hq|hq
   ·exact h.2 q hq
   ·simp at hq
    subst hq
    exact h1
theorem fresh_dist(F:List Stp):∀(l G:List Stp),DistF F G->DistF F (l.foldl (freshF F) G)
 |[],_,h=>h
 |_::l,_,h=>fresh_dist F l _ (freshF_dist h)
theorem addF_all:∀{G F:List Stp},DistF F G->G.foldl addF F=F++G
 |[],F,_=>by simp
 |s::G,F,h=>by
  obtain⟨h1,h2⟩:=h
  have e:addF F s=F++[s]:=by unfold addF;rw[h2 s List.mem_cons_self,if_neg (by simp)]
  rw[List.map_cons,List.nodup_cons]at h1
  rw[List.foldl_cons,e,addF_all ⟨h1.2,fun q hq=>?_⟩]
  ·simp
  ·cases hh:hasF (atomX q.atom) (F++[s])
   ·rfl
   ·obtain⟨r,hr,er⟩:=hasF_iff.1 hh
    rcases List.mem_append.1 hr with hr|hr
    ·have:hasF (atomX q.atom) F=true:=hasF_iff.2 ⟨r,hr,er⟩
     rw[h2 q (List.mem_cons_of_mem _ hq)]at this
     cases this
    ·simp at hr
     subst hr
     exact absurd (List.mem_map.2 ⟨q,hq,er.symm⟩) h1.1
end Go.Abs.Tz
namespace Go.Abs.Tz
open Go Go.Abs Go.Proofs
set_option maxRecDepth 20000
set_option linter.unusedSimpArgs false
attribute [local simp ↓] getP_nil getP_node setP_nil setP_node oneP_eq vP_map vP_some vP_none vP_bind eP_some bP_true bP_false gP_yes gP_tf gP_ft gP_tup runP_skip runP_ops runP_drw runP_seq runP_cond runP_blk runP_loop runP_exit runP_ret seqK_n seqK_r seqK_e seqK_p blkK_n blkK_r blkK_e blkK_p loopK_n loopK_r loopK_e loopK_p finK_n finK_r finK_p resP_one resP_two resP_three resP_nil resP_c nxP_nil argsP_nil argsP_cons evP_t evP_c evP_g evsP_nil evsP_cons clP_fn pnP_i opsP_nil opsP_d opsP_x opsP_gt opsP_gf opP_cf opP_cl opP_pn opP_nx valP_mv valP_pk valP_eq valP_bn valP_nt valP_ld valP_fa valP_fd valP_ia valP_ix valP_ln valP_srn valP_srl valP_srh valP_srb valP_cv valP_mi valP_mf valP_xt valP_bs valP_bd valP_nc valP_mn valP_lk valP_ta opP_mv opP_pk opP_eq opP_bn opP_nt opP_ld opP_fa opP_fd opP_ia opP_ix opP_ln opP_sr opP_cv opP_mi opP_mf opP_xt opP_bs opP_bd opP_nc opP_mn opP_lk opP_ta opP_al opP_bx opP_st opP_ap opP_mk opP_nb opP_mu opP_rg opP_en pendP_nil pendP_d pendP_g drwP_nil drwP_d drwP_x drwP_gt drwP_gf look_self natOf_nat
attribute [local simp] faL fdL iaL ixL loadL partL lenL eqK eqL natOf eqB_s eqB_i eqB_b bn_add bn_sub bn_lss bn_leq bn_gtr bn_geq bn_adds bn_lsss bn_gtrs bn_leqs bn_geqs sliceL LV.cells LV.whole look_self put_self putO_self put_eq stL fillL termC dopP LHeap.alloc oneI oneS oneB nth0 nth1 nth2 nth3 nth4 nth5 nth6 nth7 nth8 nth9 look_ne putO_ne
theorem placeB_var{K:Bind}(hK:GoodB K){p:Term}:(placeB K p).kind=3↔(p.kind=3/\findB p.s K=none):=by
 unfold placeB
 by_cases h:p.kind=3
 ·rw[if_pos h]
  cases hf:findB p.s K with
  |none=>simp[h]
  |some v=>
   have:=(hK.find hf).2
   simp only[Option.getD_some]
   constructor
   ·intro e;simp[notVar,e]at this
   ·rintro⟨_,e⟩;cases e
 ·rw[if_neg h]
  exact⟨fun e=>absurd e h,fun e=>e.1⟩
theorem bindR_place{K:Bind}(hK:GoodB K)(p q:Term)(ps qs:List Term):bindR K (p::ps) (q::qs)=if (placeB K p).kind=3 then bindR (K++[((placeB K p).s,q)]) ps qs else if eqT (placeB K p) q then bindR K ps qs else none:=by
 by_cases h3:p.kind=3
 ·cases hf:findB p.s K with
  |none=>
   have e:placeB K p=p:=by unfold placeB;rw[if_pos h3,hf];rfl
   rw[e,if_pos h3]
   simp only[bindR]
   rw[if_pos h3,hf]
  |some v=>
   have e:placeB K p=v:=by unfold placeB;rw[if_pos h3,hf];rfl
   have hv:¬v.kind=3:=fun h=>by have:=(hK.find hf).2;simp[notVar,h]at this
   rw[e,if_neg hv]
   simp only[bindR]
   rw[if_pos h3,hf]
 ·have e:placeB K p=p:=by unfold placeB;rw[if_neg h3]
  rw[e,if_neg h3]
  simp only[bindR]
  rw[if_neg h3]
theorem goodB_push{K:Bind}(hK:GoodB K){p q:Term}(h3:(placeB K p).kind=3)(hq:termOk q=true/\notVar q=true):GoodB (K++[((placeB K p).s,q)]):=by
 obtain⟨h1,h2⟩:=(placeB_var hK).1 h3
 have e:placeB K p=p:=by unfold placeB;rw[if_pos h1,h2];rfl
 rw[e]
 refine⟨?_,fun x hx=>?_⟩
 ·unfold keysB
  rw[List.map_append]
  refine List.nodup_append.2 ⟨hK.nd,by simp,fun x hx y hy e=>?_⟩
  simp at hy
  subst hy
  subst e
  exact findB_none h2 hx
 ·rcases List.mem_append.1 hx with hx|hx
  ·exact hK.ok x hx
  ·simp at hx
   subst hx
   exact hq
theorem apL_row{H:LHeap}{sz:Nat}{Y:List LV}{ow:Own}(hY:(Y.all fun e=>e.cells.length==sz)=true)(hl:Y.length<=2^30)(hs:sz<=2^10):apL H sz (.sl [] .full) (.sl Y ow)=some (.sl Y (.tok H.next),H.alloc (.tok Y.length sz)):=by
 unfold apL
 simp only
 rw[hY]
 simp only[List.all_nil,Bool.and_self,if_true,List.length_nil,Nat.zero_add,List.nil_append]
 rw[if_pos ⟨hl,hs,rfl⟩]
structure NNG2 where
 i:Nat
 n:Nat
 e:Bind
theorem t_rmatch(K:Bind)(hK:GoodB K)(ow:Own)(p a:Atom)(hp:p.ok)(ha:atomG a)(hKl:K.length<=2^20)(H:LHeap){kv kp:HP}
  (hk1:∀R,bindKA K p a=some R->∀n,H.next<=n->kv (.tup [.sl (R.map givenL) .no,.bool true]) ⟨H.objs,n⟩)
  (hk2:bindKA K p a=none->∀n,H.next<=n->∀x,kv (.tup [x,.bool false]) ⟨H.objs,n⟩):
  cP E0 F0 67 [.sl (K.map givenL) ow,atomL p,atomL a] H kv kp:=by
 refine cP_of_fnW c67 fun hH=>⟨Nat.le_of_ble_eq_true rfl,?_⟩
 have hal:=(atom_args ha.1).1
 have finW:∀{H':LHeap}{v v':LV},Wk v v'->HExt H H'->kv v' ⟨H.objs,H'.next⟩->∃v',Wk v v'/\∃H'',HWk H' H''/\(H'.Ok->H''.Ok)/\kv v' H'':=fun{H' v v'} hw he h=>⟨v',hw,⟨H.objs,H'.next⟩,⟨Nat.le_refl _,he.2⟩,fun _=>Desc.mono hH he.1,h⟩
 cases h1:eqBA p.pred a.pred
 ·have hm:bindKA K p a=none:=by simp[bindKA,h1]
  simp(disch:=omega)[b67,h1]
  exact finW (.inl rfl) (by first|exact HExt.refl' _|(repeat (first|exact HExt.refl (by first|omega|(dsimp only;omega))|refine HExt.cons' hH (by first|omega|(dsimp only;omega)) (by first|omega|(dsimp only;omega)) ?_))) (hk2 hm _ (by first|omega|(dsimp only;omega)) _)
 by_cases h2:p.args.length=a.args.length
 case neg=>
  have h2i:¬(p.args.length:Int)=(a.args.length:Int):=by omega
  have hm:bindKA K p a=none:=by simp[bindKA,h1,h2]
  simp(disch:=omega)[b67,h1,h2i]
  exact finW (.inl rfl) (by first|exact HExt.refl' _|(repeat (first|exact HExt.refl (by first|omega|(dsimp only;omega))|refine HExt.cons' hH (by first|omega|(dsimp only;omega)) (by first|omega|(dsimp only;omega)) ?_))) (hk2 hm _ (by first|omega|(dsimp only;omega)) _)
 have h2i:(p.args.length:Int)=(a.args.length:Int):=by omega
 obtain⟨A,hA⟩:∃A,bindKA K p a=A:=⟨_,rfl⟩
 have hm:bindR K p.args a.args=A:=by rw[<-hA];simp[bindKA,h1,h2]
 rw[hA]at hk1 hk2
 simp(disch:=omega)[b67,h1,h2i]
 refine effP_ap ?_
 simp(disch:=omega)
 rw[apL_row (givens_all K) (by rw[List.length_map];omega) (by omega)]
 simp(disch:=omega)
 refine lP_enter (σ:=NNG2) (fun q=>(.nd (.sl (K.map givenL) ow) (.nd .bot .nil (.nd (.ptr (H.next+1) 0) (.nd (.int q.i) .nil .nil) .nil)) (.nd .bot (.nd (.ptr H.next 0) (.nd (.sl (q.e.map givenL) (.tok (H.next+1+1))) .nil .nil) .nil) .nil)))
  (fun q=>⟨(H.next+1+1,.tok q.e.length 4)::(H.next+1,.cells [.str a.pred,argsL a.args])::(H.next,.cells [.str p.pred,argsL p.args])::H.objs,q.n⟩) (fun q=>a.args.length - q.i)
  (fun q=>H.next+3<=q.n/\q.i<=a.args.length/\q.e.length<=K.length+q.i/\GoodB q.e/\bindR q.e (p.args.drop q.i) (a.args.drop q.i)=A) ⟨0,H.next+3,K⟩ ⟨by dsimp only;omega,Nat.zero_le _,by dsimp only;omega,hK,hm⟩ (by simp[FT.Le,Wk]) (by simp[HWk.refl]) ?_
 rintro⟨i,n,G⟩ ⟨hn,hi,hG,hGg,he⟩ hok
 simp only at hn hi hG hGg he
 have hHe:∀m:Nat,LHeap.Ok ⟨(H.next+1+1,.tok m 4)::(H.next+1,.cells [.str a.pred,argsL a.args])::(H.next,.cells [.str p.pred,argsL p.args])::H.objs,H.next+3⟩:=fun _=>⟨by first|omega|(dsimp only;omega),by omega,by omega,hH⟩
 by_cases hlt:i<a.args.length
 case neg=>
  rw[List.drop_eq_nil_of_le (by omega),List.drop_eq_nil_of_le (by omega)]at he
  simp only[bindR]at he
  simp(disch:=omega)[hlt]
  exact finW (v':=.tup [.sl (G.map givenL) .no,.bool true]) (.inr (.inl (by simp[LV.strip,stripL,stripL_map,List.map_map,Function.comp_def]))) (by first|exact HExt.refl' _|(repeat (first|exact HExt.refl (by first|omega|(dsimp only;omega))|refine HExt.cons' hH (by first|omega|(dsimp only;omega)) (by first|omega|(dsimp only;omega)) ?_))) (hk1 G he.symm _ (by first|omega|(dsimp only;omega)))
 have hly:i<p.args.length:=by omega
 rw[List.drop_eq_getElem_cons hlt,List.drop_eq_getElem_cons hly,bindR_place hGg]at he
 have hqg:=ha.args _ (List.getElem_mem hlt)
 obtain⟨t,ht⟩:∃t,placeB G p.args[i]=t:=⟨_,rfl⟩
 have hpush:=fun h3:(placeB G p.args[i]).kind=3=>goodB_push hGg (p:=p.args[i]) (q:=a.args[i]) h3 hqg
 rw[ht]at he hpush
 simp(disch:=omega)[hlt,hly]
 refine(t_place G _ (by omega) _).go fun n1 hn1=>?_
 rw[ht]
 by_cases hk3:t.kind=3
 ·rw[if_pos hk3]at he
  simp(disch:=omega)[hlt,hly,hk3]
  refine effP_ap ?_
  have hcan:G.length+1<=2^30:=by omega
  simp(disch:=omega)[apL,canApp,hcan,wrap_nat (show i<2^62 by omega)]
  refine⟨⟨i+1,n1+1,G++[(t.s,a.args[i])]⟩,by dsimp only;omega,⟨by dsimp only;omega,by dsimp only;omega,by dsimp only;rw[List.length_append];simp only[List.length_singleton];omega,hpush hk3,he⟩,by simp[FT.Le,Wk],?_⟩
  have hlen:(G++[(t.s,a.args[i])]).length=G.length+1:=by simp
  dsimp only
  rw[hlen]
  exact back (hHe _) (by first|exact HExt.refl' _|(repeat (first|exact HExt.refl (by first|omega|(dsimp only;omega))|refine HExt.cons' (hHe _) (by first|omega|(dsimp only;omega)) (by first|omega|(dsimp only;omega)) ?_)))
 ·rw[if_neg hk3]at he
  cases hq:eqT t a.args[i]
  ·have hq':=hq
   simp only[eqT]at hq'
   simp[hq]at he
   simp(disch:=omega)[hlt,hly,hk3,hq']
   exact finW (.inl rfl) (by first|exact HExt.refl' _|(repeat (first|exact HExt.refl (by first|omega|(dsimp only;omega))|refine HExt.cons' hH (by first|omega|(dsimp only;omega)) (by first|omega|(dsimp only;omega)) ?_))) (hk2 he.symm _ (by first|omega|(dsimp only;omega)) _)
  ·have hq':=hq
   simp only[eqT]at hq'
   simp[hq]at he
   simp(disch:=omega)[hlt,hly,hk3,hq',wrap_nat (show i<2^62 by omega)]
   exact⟨⟨i+1,n1+1,G⟩,by dsimp only;omega,⟨by dsimp only;omega,by dsimp only;omega,by dsimp only;omega,hGg,he⟩,by simp[FT.Le,Wk],back (hHe _) (by first|exact HExt.refl' _|(repeat (first|exact HExt.refl (by first|omega|(dsimp only;omega))|refine HExt.cons' (hHe _) (by first|omega|(dsimp only;omega)) (by first|omega|(dsimp only;omega)) ?_)))⟩
theorem placeB_fill{K:Bind}{t:Term}(hb:t.kind=3->(findB t.s K).isSome=true):placeB K t=fillT K t:=by
 unfold placeB fillT
 by_cases h:t.kind=3
 ·obtain⟨v,hv⟩:=Option.isSome_iff_exists.1 (hb h)
  rw[if_pos h,if_pos h,hv];rfl
 ·rw[if_neg h,if_neg h]
theorem t_rplace(K:Bind)(ow:Own)(hKl:K.length<=2^20)(t:Term)(hb:t.kind=3->(findB t.s K).isSome=true):PureT 106 [.sl (K.map givenL) ow,termL t] (termL (fillT K t)):=by
 rw[<-placeB_fill hb]
 exact t_place K ow (by omega) t
theorem t_rinst(K:Bind)(ow:Own)(hKl:K.length<=2^20)(a:Atom)(hA:a.args.length<=2^20)(hb:BoundIn K a.args)(H:LHeap){kv kp:HP}(hk:∀n,H.next<=n->kv (atomL (fillA K a)) ⟨H.objs,n⟩):
  cP E0 F0 66 [.sl (K.map givenL) ow,atomL a] H kv kp:=by
 refine cP_of_fnW c66 fun hH=>⟨Nat.le_of_ble_eq_true rfl,?_⟩
 obtain⟨N,hN⟩:∃N,H.next=N:=⟨_,rfl⟩
 obtain⟨ob0,nx0⟩:=H
 dsimp only at hN hk
 subst hN
 simp(disch:=omega)[b66]
 refine lP_enter (σ:=NNFl) (fun q=>(.nd (.sl (K.map givenL) ow) (.nd .bot (.nd (.ptr nx0 0) .nil .nil) (.nd (.ptr (nx0+1+1) 0) .nil .nil)) (.nd .bot (.nd (.ptr (nx0+1) 0) .nil .nil) (.nd (.int q.i) .nil .nil)))) (fun q=>⟨q.ob,q.n⟩) (fun q=>a.args.length - q.i)
  (fun q=>RowT ⟨(nx0+1+1,.cells [.str a.pred,.sl (fillsL (fillT K) q.xs) q.own])::(nx0+1,.cells [S [],Nl])::(nx0,.cells [.str a.pred,argsL a.args])::ob0,nx0+1+1+1⟩ 3 q.i q.own q.ob q.n/\q.i<=a.args.length/\q.xs.length=q.i/\q.xs++a.args.drop q.i=a.args)
  ⟨0,nx0+1+1+1,[],.full,(nx0+1+1,.cells [.str a.pred,Nl])::(nx0+1,.cells [S [],Nl])::(nx0,.cells [.str a.pred,argsL a.args])::ob0⟩ ⟨.inl ⟨rfl,rfl,Nat.le_refl _⟩,Nat.zero_le _,rfl,by simp⟩ (by simp[FT.Le,Wk]) ⟨HWk.refl _,fun h=>h⟩ ?_
 rintro⟨i,n,xs,own,ob⟩ ⟨hr,hi,hxl,hxs⟩ hok
 dsimp only at hr hi hok hxl hxs
 have hfin:∀(ow:Own)(H':LHeap),HWk H' ⟨ob0,n⟩->xs=a.args->∃v',Wk (LV.agg [.str a.pred,.sl (fillsL (fillT K) xs) ow]) v'/\∃H'',HWk H' H''/\(H'.Ok->H''.Ok)/\kv v' H'':=by
  intro ow H' hw hx
  have hn0:nx0<=n:=by
   rcases hr with⟨_,_,h3⟩|⟨t,_,g1,g2,_⟩
   ·dsimp only at h3;omega
   ·dsimp only at g1;omega
  refine⟨atomL (fillA K a),.inr (.inl ?_),⟨ob0,n⟩,hw,fun _=>Desc.mono hH hn0,hk n hn0⟩
  subst hx
  simp[fillA,LV.strip,stripL_map,List.map_map,Function.comp_def]
 by_cases hlt:i<a.args.length
 case neg=>
  have hall:xs=a.args:=by rw[List.drop_eq_nil_of_le (by omega),List.append_nil]at hxs;exact hxs
  rcases hr with⟨rfl,rfl,h3⟩|⟨t,rfl,g1,g2,rfl⟩
  ·dsimp only at h3
   simp(disch:=omega)[hlt,resP_c]
   refine hfin _ _ ⟨Nat.le_refl _,fun i x hx=>?_⟩ hall
   have:i<nx0:=hH.look hx
   rw[look_ne (by omega),look_ne (by omega),look_ne (by omega)]
   exact hx
  ·dsimp only at g1
   simp(disch:=omega)[hlt,resP_c]
   refine hfin _ _ ⟨Nat.le_refl _,fun i x hx=>?_⟩ hall
   have:i<nx0:=hH.look hx
   rw[look_ne (by omega),look_ne (by omega),look_ne (by omega),look_ne (by omega)]
   exact hx
 have hX:=fills_all (fillT K) xs
 obtain⟨X,hXe⟩:∃X,fillsL (fillT K) xs=X:=⟨_,rfl⟩
 have hXl:X.length=i:=by rw[<-hXe,List.length_map];exact hxl
 have hnew:fillsL (fillT K) (xs++[a.args[i]])=X++[termL (fillT K a.args[i])]:=by rw[<-hXe];simp[fillsL]
 have hxl2:(xs++[a.args[i]]).length=i+1:=by simp[hxl]
 have hxs2:(xs++[a.args[i]])++a.args.drop (i+1)=a.args:=by
  rw[List.append_assoc]
  show xs++(a.args[i]::a.args.drop (i+1))=a.args
  rw[<-List.drop_eq_getElem_cons hlt]
  exact hxs
 rw[hXe]at hX hr
 have hcan:i+1<=2^30:=by omega
 have hpl:=t_rplace K ow hKl a.args[i] (hb _ (List.getElem_mem hlt))
 rcases hr with⟨rfl,rfl,h3⟩|⟨t,rfl,g1,g2,rfl⟩
 ·dsimp only at h3
  simp(disch:=omega)[hlt]
  refine hpl.go fun n2 hn2=>?_
  simp(disch:=omega)
  refine effP_ap ?_
  simp(disch:=omega)
  rw[apL_new hX rfl (by rw[hXl];exact hcan) (by omega)]
  simp(disch:=omega)[hXl,wrap_nat (show i<2^62 by omega)]
  refine⟨⟨i+1,n2+1,xs++[a.args[i]],.tok n2,(n2,.tok (i+1) 3)::(nx0+1+1,.cells [.str a.pred,.sl (fillsL (fillT K) (xs++[a.args[i]])) (.tok n2)])::(nx0+1,.cells [S [],Nl])::(nx0,.cells [.str a.pred,argsL a.args])::ob0⟩,by dsimp only;omega,⟨.inr ⟨n2,rfl,by dsimp only;omega,Nat.lt_succ_self _,rfl⟩,by dsimp only;omega,hxl2,hxs2⟩,by simp[FT.Le,Wk],?_⟩
  dsimp only
  rw[hnew]
  exact⟨HWk.refl _,fun h=>h⟩
 ·dsimp only at g1
  simp(disch:=omega)[hlt]
  refine hpl.go fun n2 hn2=>?_
  simp(disch:=omega)
  refine effP_ap ?_
  simp(disch:=omega)
  rw[apL_tok hX rfl (by rw[hXl];exact hcan) (by omega) (by omega) (by rw[hXl];simp[look])]
  simp(disch:=omega)[hXl,wrap_nat (show i<2^62 by omega)]
  refine⟨⟨i+1,n2,xs++[a.args[i]],.tok t,(t,.tok (i+1) 3)::(nx0+1+1,.cells [.str a.pred,.sl (fillsL (fillT K) (xs++[a.args[i]])) (.tok t)])::(nx0+1,.cells [S [],Nl])::(nx0,.cells [.str a.pred,argsL a.args])::ob0⟩,by dsimp only;omega,⟨.inr ⟨t,rfl,g1,by dsimp only;omega,rfl⟩,by dsimp only;omega,hxl2,hxs2⟩,by simp[FT.Le,Wk],?_⟩
  dsimp only
  rw[hnew]
  exact⟨HWk.refl _,fun h=>h⟩
structure NNRs where
 i:Nat
 n:Nat
def rest121:BCode:=match b94.body with
 |.seq _ (.seq r _)=>r
 |_=>.bad
theorem t_rest(c:Clause)(hb:c.body.length<2^40)(K:Bind)(hn:(keysB K).Nodup)(hargs:∀x∈c.body,x.atom.args.length<=2^20)(hok:∀x∈c.body,x.kind=2->atomOk (fillA K x.atom)=true)
  (F:List Stp) (fo am:Nat) (ownF:Own) (ko t1 t3 t5 t6:Nat) (k:Int) (z2 z4:LV) (ob:List (Nat×LObj)) (n:Nat) (hF:FactsAt ob fo am F ownF) (hko:look ko ob=some (.um (encE K))) (l3:look t3 ob=some (.cells [.ptr fo 0])) (l5:look t5 ob=some (.cells (clauseC c)))
  {KX:XP} (hx1:restOk F K c.body=true->∀n',n<=n'->KX .normal ((.nd (.map ko) (.nd (.ptr t1 0) (.nd (.ptr t3 0) .nil (.nd .bot .nil (.nd .bot .nil (.nd (.int c.body.length) .nil .nil)))) (.nd (.ptr t5 0) (.nd .bot .nil (.nd .bot .nil (.nd (bodyL c.body) .nil .nil))) .nil)) (.nd .bot (.nd .bot .nil (.nd .bot .nil (.nd .bot .nil (.nd (.sc (.bool false)) .nil .nil)))) (.nd (.ptr t6 0) (.nd .bot .nil (.nd .bot .nil (.nd (.int c.body.length) .nil .nil))) .nil)))) ⟨ob,n'⟩)
  (hx2:restOk F K c.body=false->∀t' H' n',n<=n'->HWk H' ⟨ob,n'⟩->(H'.Ok->LHeap.Ok ⟨ob,n'⟩)->KX .ret t' H'):
  lP E0 F0 rest121 ((.nd (.map ko) (.nd (.ptr t1 0) (.nd (.ptr t3 0) .nil .nil) (.nd (.ptr t5 0) .nil .nil)) (.nd .bot .nil (.nd (.ptr t6 0) .nil .nil)))) ⟨ob,n⟩ KX:=by
 refine lP_okH fun hH=>lP_of_run ?_
 have b3:t3<n:=hH.look l3
 have b5:t5<n:=hH.look l5
 have bf:fo<n:=hH.look hF.pair
 have bm:am<n:=hH.look hF.map
 have bk:ko<n:=hH.look hko
 simp(disch:=omega)[rest121,b94,l5]
 obtain⟨A,hA⟩:∃A,restOk F K c.body=A:=⟨_,rfl⟩
 rw[hA]at hx1 hx2
 refine lP_enter (σ:=NNRs) (fun q=>(.nd (.map ko) (.nd (.ptr t1 0) (.nd (.ptr t3 0) .nil (.nd .bot .nil (.nd .bot .nil (.nd (.int q.i) .nil .nil)))) (.nd (.ptr t5 0) (.nd .bot .nil (.nd .bot .nil (.nd (bodyL c.body) .nil .nil))) .nil)) (.nd .bot .nil (.nd (.ptr t6 0) (.nd .bot .nil (.nd .bot .nil (.nd (.int c.body.length) .nil .nil))) .nil)))) (fun q=>⟨ob,q.n⟩) (fun q=>c.body.length - q.i)
  (fun q=>n<=q.n/\q.i<=c.body.length/\restOk F K (c.body.drop q.i)=A) ⟨0,n⟩ ⟨Nat.le_refl _,Nat.zero_le _,by simpa using hA⟩ (by simp[FT.Le,Wk]) ⟨HWk.refl _,fun h=>h⟩ ?_
 rintro⟨i,m⟩ ⟨hm,hi,he⟩ hok1
 dsimp only at hm hi he hok1
 by_cases hlt:i<c.body.length
 case neg=>
  rw[List.drop_eq_nil_of_le (by omega)]at he
  have hA1:A=true:=he.symm
  obtain rfl:i=c.body.length:=by omega
  simp(disch:=omega)[hlt]
  exact hx1 hA1 m hm
 rw[List.drop_eq_getElem_cons hlt]at he
 simp only[restOk]at he
 have hback:∀(m2:Nat)(x:LObj),m+1<=m2->HWk ⟨(m,x)::ob,m2⟩ ⟨ob,m2⟩/\(LHeap.Ok ⟨(m,x)::ob,m2⟩->LHeap.Ok ⟨ob,m2⟩):=fun m2 x h2=>back (H:=⟨ob,m⟩) hok1 (HExt.cons hok1 (Nat.le_refl _) (HExt.refl (Nat.le_refl _)) (by dsimp only;omega))
 have hmem:c.body[i]∈c.body:=List.getElem_mem hlt
 have hnx:IntKind.wrap .i64 ((i:Int)+1)=((i+1:Nat):Int):=wrap_nat (show i<2^62 by omega)
 by_cases k1:c.body[i].kind=1
 ·rw[if_pos k1]at he
  simp(disch:=omega)[hlt,k1,wrap_nat (show i<2^62 by omega)]
  obtain⟨g1,g2⟩:=hback (m+1) (.cells (litC c.body[i])) (Nat.le_refl _)
  exact⟨⟨i+1,m+1⟩,by dsimp only;omega,⟨by dsimp only;omega,by dsimp only;omega,he⟩,by simp[FT.Le,Wk],by simpa [litC,k1] using g1,by simpa [litC,k1] using g2⟩
 rw[if_neg k1]at he
 by_cases k2:c.body[i].kind=2
 ·rw[if_pos k2]at he
  simp(disch:=omega)[hlt,k1,k2,l3,hF.pair]
  refine t_filledM c.body[i].atom (hargs _ hmem) K hn ko _ (by dsimp only;rw[look_ne (by omega)];exact hko) fun m2 hm2=>?_
  dsimp only at hm2
  simp(disch:=omega)[l3,hF.pair]
  refine(t_show _ (hok _ hmem k2)).go fun m3 hm3=>?_
  simp(disch:=omega)[l3,hF.pair]
  rw[lkM (by rw[look_ne (by omega)];exact hF.map)]
  have hh:hasF (atomX (fillA K c.body[i].atom)) F=(lookM (atomX (fillA K c.body[i].atom)) (idxF F 0)).isSome:=rfl
  cases hl:lookM (atomX (fillA K c.body[i].atom)) (idxF F 0) with
  |some v=>
   rw[hh,hl]at he
   have hA0:A=false:=he.symm
   simp(disch:=omega)[l3,hF.pair]
   obtain⟨g1,g2⟩:=hback m3 (.cells (litC c.body[i])) (by omega)
   exact hx2 hA0 _ _ m3 (by omega) (by simpa [litC,k2] using g1) (by simpa [litC,k2] using g2)
  |none=>
   rw[hh,hl]at he
   simp(disch:=omega)[l3,hF.pair,wrap_nat (show i<2^62 by omega)]
   obtain⟨g1,g2⟩:=hback m3 (.cells (litC c.body[i])) (by omega)
   exact⟨⟨i+1,m3⟩,by dsimp only;omega,⟨by dsimp only;omega,by dsimp only;omega,by simpa using he⟩,by simp[FT.Le,Wk],by simpa [litC,k2] using g1,by simpa [litC,k2] using g2⟩
 rw[if_neg k2]at he
 simp(disch:=omega)[hlt,k1,k2]
 refine t_comparesM c.body[i] K hn ko _ (by dsimp only;rw[look_ne (by omega)];exact hko) fun m2 hm2=>?_
 dsimp only at hm2
 cases hc:cmpLit K c.body[i]
 ·rw[hc]at he
  have hA0:A=false:=he.symm
  simp(disch:=omega)
  obtain⟨g1,g2⟩:=hback m2 (.cells (litC c.body[i])) hm2
  exact hx2 hA0 _ _ m2 (by omega) g1 g2
 ·rw[hc]at he
  simp(disch:=omega)[wrap_nat (show i<2^62 by omega)]
  obtain⟨g1,g2⟩:=hback m2 (.cells (litC c.body[i])) hm2
  exact⟨⟨i+1,m2⟩,by dsimp only;omega,⟨by dsimp only;omega,by dsimp only;omega,by simpa using he⟩,by simp[FT.Le,Wk],g1,g2⟩
def FromAt(ob:List (Nat×LObj))(v:LV)(frm:List Int):Prop:=(v=Nl/\frm=[])\/∃ao cs,v=.asl ao 0 frm.length/\look ao ob=some (.arr 1 cs)/\frm.length<=cs.length/\cs.take frm.length=frm.map LV.int
theorem t_cloneFrom{ob:List (Nat×LObj)}{v:LV}{frm:List Int}(h:FromAt ob v frm)(hl:frm.length<=2^40){n:Nat}{kv kp:HP}(hk:kv (.sl (frm.map LV.int) .no) ⟨ob,n⟩):cP E0 F0 96 [v] ⟨ob,n⟩ kv kp:=by
 rcases h with⟨rfl,rfl⟩|⟨ao,cs,rfl,h1,h2,h3⟩
 ·exact t_clone_sl [] .full (by simp) _ hk
 ·exact t_clone_asl ⟨ob,n⟩ ao frm.length cs frm h1 h2 h3 hl hk
def head121:BCode:=match b94.body with
 |.seq h _=>h
 |_=>.bad
def tail121:BCode:=match b94.body with
 |.seq _ (.seq _ t)=>t
 |_=>.bad
theorem body121:b94.body=.seq head121 (.seq rest121 tail121):=rfl
theorem FromAt.len{ob:List (Nat×LObj)}{v:LV}{frm:List Int}(h:FromAt ob v frm)(H:LHeap):lenL H 1 v=some frm.length:=by
 rcases h with⟨rfl,rfl⟩|⟨ao,cs,rfl,_⟩<;>rfl
def plainO:LObj->Bool
 |.cells _=>true
 |.map _=>true
 |.tok _ _=>true
 |_=>false
def StatOk(L ob:List (Nat×LObj)):Prop:=∀p∈L,look p.1 ob=some p.2
structure Doer(σ:Type) where
 fn:FuncId
 cap:List LV
 Stat:List (Nat×LObj)
 At:List (Nat×LObj)->σ->(Nat->Prop)->Prop
 step:σ->Atom->List Int->σ
 lim:σ->Prop
 lim_step:∀s a frm,lim s->lim (step s a frm)
 at_look:∀(ob:List (Nat×LObj))(s:σ)(S:Nat->Prop)(i:Nat),At ob s S->S i->∃x,look i ob=some x/\plainO x=true
 at_keep:∀(ob ob':List (Nat×LObj))(s:σ)(S:Nat->Prop),At ob s S->(∀i,S i->look i ob'=look i ob)->At ob' s S
 ok:∀(ob:List (Nat×LObj))(n:Nat)(s:σ)(S:Nat->Prop)(a:Atom)(frm:List Int)(kv kp:HP),lim s->atomOk a=true->At ob s S->StatOk Stat ob->(∀p∈Stat,¬S p.1)->NoIt ob ->
  (∀ob' n' S',n<=n'->At ob' (step s a frm) S'->(∀i,S' i->S i\/n<=i)->NoIt ob'->(∀i,i<n->¬S i->look i ob'=look i ob)->kv (.tup []) ⟨ob',n'⟩) ->
  cP E0 F0 fn ([atomL a,.sl (frm.map LV.int) .no]++cap) ⟨ob,n⟩ kv kp
structure ChI where
 c:Clause
 F:List Stp
 fo:Nat
 am:Nat
 ownF:Own
 ow:Own
 t1:Nat
 t2:Nat
 t3:Nat
 t4:Nat
 t5:Nat
 t6:Nat
 L:List (Nat×LObj)
structure ChOk{σ:Type}(D:Doer σ)(I:ChI):Prop where
 good:CGood I.c
 hDL:∀p∈D.Stat,p∈I.L
 pl:∀p∈I.L,plainO p.2=true
 hF:∀ob,StatOk I.L ob->FactsAt ob I.fo I.am I.F I.ownF
 Fg:∀s∈I.F,atomG s.atom
 Fl:I.F.length<=2^20
 t1L:∀p∈I.L,p.1≠I.t1
 e2:(I.t2,LObj.cells [.sl ((posL I.c.body).map atomL) I.ow])∈I.L
 e3:(I.t3,LObj.cells [.ptr I.fo 0])∈I.L
 e4:(I.t4,LObj.cells [.fn (.func 94) [] [.ptr I.t1 0,.ptr I.t2 0,.ptr I.t3 0,.ptr I.t4 0,.ptr I.t5 0,.ptr I.t6 0]])∈I.L
 e5:(I.t5,LObj.cells (clauseC I.c))∈I.L
 e6:(I.t6,LObj.cells [.fn (.func D.fn) [] D.cap])∈I.L
structure ChAt{σ:Type}(D:Doer σ)(I:ChI)(ob:List (Nat×LObj))(G:σ)(S:Nat->Prop)(frm:List Int)(fv:LV):Prop where
 st:StatOk I.L ob
 at_:D.At ob G S
 sep:∀p∈I.L,¬S p.1
 c1:look I.t1 ob=some (.cells [fv])
 t1S:¬S I.t1
 fr:FromAt ob fv frm
 ni:NoIt ob
def KeptC(I:ChI)(n:Nat)(S:Nat->Prop)(fv:LV)(ob ob':List (Nat×LObj)):Prop:=∀i,i<n->¬S i->i≠I.t1->(∀a o l,fv=.asl a o l->i≠a)->look i ob'=look i ob
section
variable{σ:Type}{D:Doer σ}{I:ChI}
theorem ChAt.notS(hC:ChOk D I){ob:List (Nat×LObj)}{G:σ}{S:Nat->Prop}{frm:List Int}{fv:LV}(h:ChAt D I ob G S frm fv){i:Nat}{x:LObj}(hl:look i ob=some x)(hx:plainO x=false):¬S i:=fun hs=>by
 obtain⟨y,h1,h2⟩:=D.at_look _ _ _ _ h.at_ hs
 rw[hl]at h1
 cases h1
 rw[hx]at h2
 cases h2
theorem FromAt.keep{ob ob':List (Nat×LObj)}{v:LV}{frm:List Int}(h:FromAt ob v frm)(hk:∀a o l,v=.asl a o l->look a ob'=look a ob):FromAt ob' v frm:=by
 rcases h with h|⟨ao,cs,h1,h2,h3⟩
 ·exact .inl h
 ·exact .inr ⟨ao,cs,h1,by rw[hk _ _ _ h1];exact h2,h3⟩
theorem t_choose0(hC:ChOk D I)(K:Bind)(frm:List Int)(G:σ)(hK:GoodB K)(hb:∀p∈posL I.c.body,BoundIn K p.args)(hpos:(posL I.c.body).length=frm.length)(hfl:frm.length<=2^20)(hlim:D.lim G)
  (ob:List (Nat×LObj)) (n:Nat) (S:Nat->Prop) (fv:LV) (ko:Nat) (h:ChAt D I ob G S frm fv) (hko:look ko ob=some (.um (encE K))) {kv kp:HP}
  (hk:∀ob' n' S' fv',n<=n'->ChAt D I ob' (foldI D.step I.c (insts I.F I.c [] K frm) G) S' frm fv'->(∀i,S' i->S i\/n<=i)->(∀a o l,fv'=.asl a o l->n<=a\/∃o2 l2,fv=.asl a o2 l2)->KeptC I n S fv ob ob'->kv (.tup []) ⟨ob',n'⟩):
  cP E0 F0 94 [.map ko,.ptr I.t1 0,.ptr I.t2 0,.ptr I.t3 0,.ptr I.t4 0,.ptr I.t5 0,.ptr I.t6 0] ⟨ob,n⟩ kv kp:=by
 refine cP_of_lP c94 (Nat.le_of_ble_eq_true rfl) fun hH=>?_
 rw[body121]
 have hF:=hC.hF ob h.st
 have l1:=h.c1
 have l2:look I.t2 ob=some (.cells [.sl ((posL I.c.body).map atomL) I.ow]):=h.st _ hC.e2
 have l3:look I.t3 ob=some (.cells [.ptr I.fo 0]):=h.st _ hC.e3
 have l5:look I.t5 ob=some (.cells (clauseC I.c)):=h.st _ hC.e5
 have l6:look I.t6 ob=some (.cells [.fn (.func D.fn) [] D.cap]):=h.st _ hC.e6
 have b1:I.t1<n:=hH.look l1
 have b5:I.t5<n:=hH.look l5
 have b6:I.t6<n:=hH.look l6
 obtain⟨cp1,cp2,cp3⟩:=clause_parts hC.good.ok
 obtain⟨g1,g2⟩:=hC.good.leaf hK hb
 have hargs:∀x∈I.c.body,x.atom.args.length<=2^20:=fun x hx=>by have:=lit_args (cp3 x hx);omega
 have hh:I.c.head.args.length<=2^20:=by have:=(atom_args cp1).1;omega
 have hlt:¬(frm.length:Int)<(((posL I.c.body).length:Nat):Int):=by omega
 simp(disch:=omega)
 refine lP_seq (lP_of_run ?_)
 simp(disch:=omega)[head121,b94,l1,l2]
 refine⟨frm.length,h.fr.len ⟨ob,n⟩,?_⟩
 simp(disch:=omega)[l2,hlt]
 show lP E0 F0 (.seq rest121 tail121) _ _ _
 refine lP_weak (t':=(.nd (.map ko) (.nd (.ptr I.t1 0) (.nd (.ptr I.t3 0) .nil .nil) (.nd (.ptr I.t5 0) .nil .nil)) (.nd .bot .nil (.nd (.ptr I.t6 0) .nil .nil)))) (fun l h=>by cases h) (by simp[FT.Le,Wk]) (HWk.refl _) (fun h=>h) ?_
 refine lP_seq (t_rest I.c (by omega) K hK.nd hargs (fun x hx hk2=>(g1 x hx hk2).1) I.F I.fo I.am I.ownF ko I.t1 I.t3 I.t5 I.t6 0 .bot .bot ob n hF hko l3 l5 (fun hr n2 hn2=>?_) (fun hr t' H' n2 hn2 hwk hok2=>?_))
 ·show lP E0 F0 tail121 _ _ _
  refine lP_of_run ?_
  simp(disch:=omega)[tail121,b94,l1,l5,l6]
  refine t_filledM I.c.head hh K hK.nd ko ⟨ob,n2⟩ hko fun n3 hn3=>?_
  dsimp only at hn3
  simp(disch:=omega)[l1,l5,l6]
  refine t_cloneFrom h.fr (by omega) ?_
  simp(disch:=omega)[l1,l5,l6]
  have e:foldI D.step I.c (insts I.F I.c [] K frm) G=D.step G (fillA K I.c.head) frm:=by simp[foldI,insts,hr]
  rw[e]at hk
  refine D.ok ob n3 G S (fillA K I.c.head) frm _ _ hlim g2.1 h.at_ (fun p hp=>h.st p (hC.hDL p hp)) (fun p hp=>h.sep p (hC.hDL p hp)) h.ni fun ob' n4 S' hn4 hA' hS' hni hsame=>?_
  simp(disch:=omega)[resP_nil]
  have hst:StatOk I.L ob':=fun p hp=>by
   rw[hsame _ ?_ (h.sep p hp)]
   ·exact h.st p hp
   ·have:p.1<n:=hH.look (h.st p hp)
    omega
  refine⟨_,HWk.refl _,fun h=>h,hk ob' n4 S' fv (by omega) ⟨hst,hA',fun p hp hs=>?_,?_,fun hs=>?_,h.fr.keep fun a o l he=>?_,hni⟩ (fun i hi=>(hS' i hi).imp id fun h=>by omega) (fun a o l he=>.inr ⟨o,l,he⟩) fun i hi h1 _ _=>hsame i (by omega) h1⟩
  ·have:p.1<n:=hH.look (h.st p hp)
   rcases hS' _ hs with h1|h1
   ·exact h.sep p hp h1
   ·omega
  ·rw[hsame _ (by omega) h.t1S];exact l1
  ·rcases hS' _ hs with h1|h1
   ·exact h.t1S h1
   ·omega
  ·rcases h.fr with⟨e1,_⟩|⟨ao,cs,e1,e2,_⟩
   ·rw[e1]at he;cases he
   ·rw[e1]at he
    simp only[LV.asl.injEq]at he
    obtain⟨rfl,rfl,rfl⟩:=he
    have:=hH.look e2
    dsimp only at this
    exact hsame _ (by omega) (h.notS hC e2 rfl)
 ·have e:foldI D.step I.c (insts I.F I.c [] K frm) G=G:=by simp[foldI,insts,hr]
  rw[e]at hk
  show resP E0 b94.res t' H' _
  rw[show b94.res=[] from rfl,resP_nil]
  exact⟨_,hwk,hok2,hk ob n2 S fv hn2 h (fun i hi=>.inl hi) (fun a o l he=>.inr ⟨o,l,he⟩) fun _ _ _ _ _=>rfl⟩
end
theorem look_delO_ne{i j:Nat}(h:i≠j)(l:List (Nat×LObj)):look i (delO j l)=look i l:=by rw[look_del,if_neg h]
theorem look_delO_or{j:Nat}{l:List (Nat×LObj)}{i:Nat}{x:LObj}(h:look i (delO j l)=some x):look i l=some x:=by
 rw[look_del]at h
 split at h
 ·cases h
 ·exact h
theorem NoIt.del{ob:List (Nat×LObj)}(h:NoIt ob)(m:Nat):NoIt (delO m ob):=noIt_iff.2 fun i y hy=>noIt_iff.1 h i y (look_delO_or hy)
theorem from_push{ob:List (Nat×LObj)}{v:LV}{frm:List Int}(h:FromAt ob v frm)(hl:frm.length<=2^20)(j:Int)(n:Nat):
  ∃ob',ap2L ⟨ob,n⟩ 1 v (.sl [.int j] .full)=some (.asl n 0 (frm.length+1),⟨ob',n+1⟩)/\FromAt ob' (.asl n 0 (frm.length+1)) (frm++[j])/\(NoIt ob->NoIt ob')/\∀i,i≠n->(∀a o l,v=.asl a o l->i≠a)->look i ob'=look i ob:=by
 rcases h with⟨rfl,rfl⟩|⟨ao,cs,rfl,h1,h2,h3⟩
 ·refine⟨(n,.arr 1 [.int j])::ob,rfl,.inr ⟨n,[.int j],rfl,look_self _ _ _,by simp,by simp⟩,fun hI=>hI.cons _ rfl,fun i hi _=>look_ne hi _ _⟩
 ·have e:srcL ⟨ob,n⟩ 1 (.asl ao 0 frm.length)=some (cs.take (frm.length*1),⟨delO ao ob,n⟩,frm.length):=by
   simp only[srcL,h1]
   rw[if_pos ⟨trivial,by omega⟩]
   rfl
  have e2:rowL ⟨ob,n⟩ 1 (.sl [.int j] .full)=some ([.int j],1):=rfl
  refine⟨(n,.arr 1 (cs.take (frm.length*1)++[.int j]))::delO ao ob,?_,.inr ⟨n,_,by simp,look_self _ _ _,?_,?_⟩,fun hI=>(hI.del _).cons _ rfl,fun i hi hne=>?_⟩
  ·unfold ap2L
   rw[e,e2]
   simp only
   rw[if_neg (by omega),if_pos ⟨by omega,by omega⟩]
   rfl
  ·simp only[List.length_append,List.length_take,List.length_cons,List.length_nil]
   omega
  ·rw[Nat.mul_one,h3,List.take_of_length_le (by simp),List.map_append]
   rfl
  ·rw[look_ne hi,look_delO_ne (hne ao 0 frm.length rfl)]
structure NNCh(σ:Type) where
 i:Nat
 n:Nat
 ob:List (Nat×LObj)
 G:σ
 S:Nat->Prop
 fv:LV
section
variable{σ:Type}{D:Doer σ}{I:ChI}
def instsF(F:List Stp)(c:Clause)(p:Atom)(ps:List Atom)(K:Bind)(frm:List Int)(i:Nat):List (Bind×List Int):=((List.range F.length).drop i).flatMap fun j=>match F[j]? with
  |some s=>match bindKA K p s.atom with
   |some R=>insts F c ps R (frm++[(j:Int)])
   |none=>[]
  |none=>[]
theorem instsF_step(F:List Stp)(c:Clause)(p:Atom)(ps:List Atom)(K:Bind)(frm:List Int){i:Nat}(h:i<F.length):instsF F c p ps K frm i=(match bindKA K p F[i].atom with
   |some R=>insts F c ps R (frm++[(i:Int)])
   |none=>[])++instsF F c p ps K frm (i+1):=by
 unfold instsF
 rw[List.drop_eq_getElem_cons (by simpa using h),List.flatMap_cons]
 congr 1
 rw[List.getElem_range,List.getElem?_eq_getElem h]
theorem foldI_app{step:σ->Atom->List Int->σ}{c:Clause}(l m:List (Bind×List Int))(s:σ):foldI step c (l++m) s=foldI step c m (foldI step c l s):=List.foldl_append ..
theorem foldI_lim(c:Clause):∀(l:List (Bind×List Int))(s:σ),D.lim s->D.lim (foldI D.step c l s)
 |[],_,h=>h
 |x::l,s,h=>foldI_lim c l _ (D.lim_step s _ _ h)
theorem t_choose(hC:ChOk D I):∀(ps:List Atom)(don:List Atom)(K:Bind)(frm:List Int)(G:σ),posL I.c.body=don++ps->don.length=frm.length->GoodB K->(∀p∈don,BoundIn K p.args)->D.lim G ->
  ∀(ob:List (Nat×LObj))(n:Nat)(S:Nat->Prop)(fv:LV)(ko:Nat),ChAt D I ob G S frm fv->look ko ob=some (.um (encE K))->∀{kv kp:HP},
  (∀ob' n' S' fv',n<=n'->ChAt D I ob' (foldI D.step I.c (insts I.F I.c ps K frm) G) S' frm fv'->(∀i,S' i->S i\/n<=i)->(∀a o l,fv'=.asl a o l->n<=a\/∃o2 l2,fv=.asl a o2 l2)->KeptC I n S fv ob ob'->kv (.tup []) ⟨ob',n'⟩) ->
  cP E0 F0 94 [.map ko,.ptr I.t1 0,.ptr I.t2 0,.ptr I.t3 0,.ptr I.t4 0,.ptr I.t5 0,.ptr I.t6 0] ⟨ob,n⟩ kv kp
 |[],don,K,frm,G,hp,hd,hK,hb,hlim,ob,n,S,fv,ko,h,hko,_,_,hk=>by
  rw[List.append_nil]at hp
  have hpl:(posL I.c.body).length<=5:=by
   obtain⟨_,h2,_⟩:=clause_parts hC.good.ok
   unfold posL
   rw[List.length_map]
   exact Nat.le_trans (List.length_filter_le _ _) h2
  exact t_choose0 hC K frm G hK (by rw[hp];exact hb) (by rw[hp,hd]) (by rw[<-hd,<-hp];omega) hlim ob n S fv ko h hko hk
 |p::ps,don,K,frm,G,hp,hd,hK,hb,hlim,ob,n,S,fv,ko,h,hko,kv,kp,hk=>by
  have hpl:(posL I.c.body).length<=5:=by
   obtain⟨_,h2,_⟩:=clause_parts hC.good.ok
   unfold posL
   rw[List.length_map]
   exact Nat.le_trans (List.length_filter_le _ _) h2
  have hpl2:(posL I.c.body).length=frm.length+(ps.length+1):=by rw[hp,List.length_append,hd,List.length_cons]
  have hget:(posL I.c.body)[frm.length]? = some p:=by rw[hp,List.getElem?_append_right (by omega),hd];simp
  have hpok:atomOk p=true:=hC.good.posOk p (by rw[hp];simp)
  refine cP_of_lP c94 (Nat.le_of_ble_eq_true rfl) fun hH=>?_
  rw[body121]
  have hF:=hC.hF ob h.st
  have l1:=h.c1
  have l2:look I.t2 ob=some (.cells [.sl ((posL I.c.body).map atomL) I.ow]):=h.st _ hC.e2
  have l3:look I.t3 ob=some (.cells [.ptr I.fo 0]):=h.st _ hC.e3
  have hlt:(frm.length:Int)<(((posL I.c.body).length:Nat):Int):=by omega
  simp(disch:=omega)
  refine lP_seq (lP_of_run ?_)
  simp(disch:=omega)[head121,b94,l1,l2]
  refine⟨frm.length,h.fr.len ⟨ob,n⟩,?_⟩
  simp(disch:=omega)[l2,l3,hF.pair,hlt]
  obtain⟨A,hA⟩:∃A,foldI D.step I.c (insts I.F I.c (p::ps) K frm) G=A:=⟨_,rfl⟩
  rw[hA]at hk
  refine lP_enter (σ:=NNCh σ) (fun q=>(.nd (.map ko) (.nd (.ptr I.t1 0) (.nd (.ptr I.t3 0) .nil .nil) (.nd (.ptr I.t5 0) (.nd .bot .nil (.nd (.int I.F.length) .nil .nil)) .nil)) (.nd (.ptr I.t2 0) (.nd (.ptr I.t4 0) (.nd (.int frm.length) .nil .nil) .nil) (.nd (.ptr I.t6 0) (.nd .bot .nil (.nd (.int q.i) .nil .nil)) .nil)))) (fun q=>⟨q.ob,q.n⟩) (fun q=>I.F.length - q.i)
   (fun q=>n<=q.n/\q.i<=I.F.length/\D.lim q.G/\foldI D.step I.c (instsF I.F I.c p ps K frm q.i) q.G=A/\ChAt D I q.ob q.G q.S frm q.fv/\(∀i,q.S i->S i\/n<=i)/\(∀a o l,q.fv=.asl a o l->n<=a\/∃o2 l2,fv=.asl a o2 l2)/\KeptC I n S fv ob q.ob)
   ⟨0,n,ob,G,S,fv⟩ ⟨Nat.le_refl _,Nat.zero_le _,hlim,hA,h,fun i hi=>.inl hi,fun a o l he=>.inr ⟨o,l,he⟩,fun _ _ _ _ _=>rfl⟩ (by simp[FT.Le,Wk]) ⟨HWk.refl _,fun h=>h⟩ ?_
  rintro⟨i,m,ob1,G1,S1,fv1⟩ ⟨hm,hi,hlim1,hfold,h1,hS1,hfv1,hkept⟩ hok
  dsimp only at hm hi hlim1 hfold h1 hS1 hfv1 hkept hok
  by_cases hin:i<I.F.length
  case neg=>
   obtain rfl:i=I.F.length:=by omega
   have e:foldI D.step I.c (instsF I.F I.c p ps K frm I.F.length) G1=G1:=by
    unfold instsF
    rw[List.drop_eq_nil_of_le (by simp)]
    rfl
   rw[e]at hfold
   simp(disch:=omega)[resP_nil]
   exact⟨_,HWk.refl _,fun h=>h,hk ob1 m S1 fv1 hm (by rw[<-hfold];exact h1) hS1 hfv1 hkept⟩
  have hF1:=hC.hF ob1 h1.st
  have k1:=h1.c1
  have k2:look I.t2 ob1=some (.cells [.sl ((posL I.c.body).map atomL) I.ow]):=h1.st _ hC.e2
  have k3:look I.t3 ob1=some (.cells [.ptr I.fo 0]):=h1.st _ hC.e3
  have k4:=h1.st _ hC.e4
  dsimp only at k4
  have b1:I.t1<m:=hok.look k1
  have hge:(posL I.c.body)[frm.length]'(by omega)=p:=by
   rw[List.getElem?_eq_getElem (by omega)]at hget
   exact Option.some.inj hget
  have hkn:ko<n:=hH.look hko
  have hko1:look ko ob1=some (.um (encE K)):=by
   rw[hkept ko hkn (h.notS hC hko rfl) (fun e=>by rw[e,l1]at hko;cases hko) (fun a o l he e=>?_)]
   ·exact hko
   ·rcases h.fr with⟨e1,_⟩|⟨ao,cs,e1,e2,_⟩
    ·rw[e1]at he;cases he
    ·rw[e1]at he
     simp only[LV.asl.injEq]at he
     rw[he.1,<-e,hko]at e2
     cases e2
  simp(disch:=omega)[hin,k2,k3,hF1.pair,hge,hpl2]
  refine t_bindM p I.F[i].atom (atomOk_ok hpok) (atomOk_ok (hC.Fg _ (List.getElem_mem hin)).1) _ ko K hko1 (fun i m l k n hl=>absurd hl (h1.ni _ _ _ _ _)) hK.nd (fun hbn=>?_) (fun R hbr=>?_)
  ·rw[instsF_step _ _ _ _ _ _ hin,hbn]at hfold
   simp(disch:=omega)[k2,k3,hF1.pair,wrap_nat (show i<2^62 by have:=hC.Fl;omega)]
   exact⟨⟨i+1,m,ob1,G1,S1,fv1⟩,by dsimp only;omega,⟨hm,by dsimp only;omega,hlim1,hfold,h1,hS1,hfv1,hkept⟩,by simp[FT.Le,Wk],HWk.refl _,fun h=>h⟩
  ·rw[instsF_step _ _ _ _ _ _ hin,hbr,foldI_app]at hfold
   have hfr1:FromAt ((m+2,.um (encE R))::ob1) fv1 frm:=h1.fr.keep fun a o l he=>by
    rcases h1.fr with⟨e1,_⟩|⟨ao,cs,e1,e2,_⟩
    ·rw[e1]at he;cases he
    ·rw[e1]at he
     simp only[LV.asl.injEq]at he
     rw[<-he.1]
     have:=hok.look e2
     dsimp only at this
     exact look_ne (by omega) _ _
   have hfl:frm.length<=2^20:=by omega
   obtain⟨ob2,ha,hfr2,hni2,hkeep2⟩:=from_push hfr1 hfl (i:Int) (m+3)
   have hob2:∀j,j<m->(∀a o l,fv1=.asl a o l->j≠a)->look j ob2=look j ob1:=fun j hj hne=>by
    rw[hkeep2 j (by omega) hne,look_ne (by omega)]
   have hna:∀j x,look j ob1=some x->plainO x=true->∀a o l,fv1=.asl a o l->j≠a:=fun j x hx hpx a o l he e=>by
    rcases h1.fr with⟨e1,_⟩|⟨ao,cs,e1,e2,_⟩
    ·rw[e1]at he;cases he
    ·rw[e1]at he
     simp only[LV.asl.injEq]at he
     rw[he.1,<-e,hx]at e2
     cases e2
     cases hpx
   have hpl2':∀j x,look j ob1=some x->plainO x=true->look j ob2=some x:=fun j x hx hpx=>by
    rw[hob2 j (by have:=hok.look hx;exact this) (hna j x hx hpx)];exact hx
   have j1:look I.t1 ob2=some (.cells [fv1]):=hpl2' _ _ k1 rfl
   have j4:=hpl2' _ _ k4 rfl
   have ht41:I.t4≠I.t1:=hC.t1L _ hC.e4
   simp(disch:=omega)[k1,k2,k3,hF1.pair]
   refine effP_ap2 ?_
   simp(disch:=omega)[ha,j1]
   have hob3:∀j,j≠I.t1->look j (putO I.t1 (.cells [.asl (m+3) 0 (frm.length+1)]) ob2)=look j ob2:=fun j hj=>look_putO_ne hj
   obtain⟨ob3,hob3e⟩:∃ob3,putO I.t1 (.cells [.asl (m+3) 0 (frm.length+1)]) ob2=ob3:=⟨_,rfl⟩
   have j14:look I.t1 ob3=some (.cells [.asl (m+3) 0 (frm.length+1)]):=by rw[<-hob3e];exact look_putO j1
   have hni3:NoIt ob3:=by rw[<-hob3e];exact(hni2 (h1.ni.cons _ rfl)).put _ rfl
   rw[hob3e]at hob3 ⊢
   have j44:=(hob3 _ ht41).trans j4
   simp(disch:=omega)[j44]
   have hpl3:∀j x,j≠I.t1->look j ob1=some x->plainO x=true->look j ob3=some x:=fun j x hj hx hpx=>by rw[hob3 j hj];exact hpl2' j x hx hpx
   have hst3:StatOk I.L ob3:=fun q hq=>hpl3 _ _ (hC.t1L q hq) (h1.st q hq) (hC.pl q hq)
   have hS1t:∀j,S1 j->j≠I.t1:=fun j hj e=>h1.t1S (e▸hj)
   have hat3:D.At ob3 G1 S1:=D.at_keep _ _ _ _ h1.at_ fun j hj=>by
    obtain⟨x,hx,hpx⟩:=D.at_look _ _ _ _ h1.at_ hj
    rw[hx]
    exact hpl3 j x (hS1t j hj) hx hpx
   have hfr3:FromAt ob3 (.asl (m+3) 0 (frm.length+1)) (frm++[(i:Int)]):=hfr2.keep fun a o l he=>by
    simp only[LV.asl.injEq]at he
    exact hob3 a (by omega)
   have hne1:m+2≠I.t1:=by omega
   have hko3:look (m+2) ob3=some (.um (encE R)):=by
    rw[hob3 _ hne1,hkeep2 _ (by omega) (fun a o l he e=>?_),look_self]
    rcases h1.fr with⟨e1,_⟩|⟨ao,cs,e1,e2,_⟩
    ·rw[e1]at he;cases he
    ·rw[e1]at he
     simp only[LV.asl.injEq]at he
     have:=hok.look e2
     dsimp only at this
     omega
   obtain⟨gR,gX,gB,_⟩:=bindKA_spec hK (hC.Fg _ (List.getElem_mem hin)) hbr
   refine t_choose hC ps (don++[p]) R (frm++[(i:Int)]) G1 (by rw[hp];simp) (by simp[hd]) gR (fun q hq=>?_) hlim1 ob3 (m+4) S1 _ (m+2) ⟨hst3,hat3,h1.sep,j14,h1.t1S,hfr3,hni3⟩ hko3 fun ob4 n4 S4 fv4 hn4 h4 hS4 hfv4 hkept4=>?_
   ·rcases List.mem_append.1 hq with hq|hq
    ·exact(hb q hq).ext gX
    ·simp at hq
     subst hq
     exact gB
   have m1:=h4.c1
   obtain⟨a4,cs4,e4,f1,f2,f3⟩:∃ao cs,fv4=.asl ao 0 (frm.length+1)/\look ao ob4=some (.arr 1 cs)/\frm.length+1<=cs.length/\cs.take (frm.length+1)=(frm++[(i:Int)]).map LV.int:=by
    rcases h4.fr with⟨_,e⟩|⟨ao,cs,e1,e2,e3,e5⟩
    ·simp at e
    ·simp only[List.length_append,List.length_cons,List.length_nil]at e1 e3 e5
     exact⟨ao,cs,e1,e2,e3,e5⟩
   subst e4
   have hsl:sliceL 1 1 (.asl a4 0 (frm.length+1)) 0 frm.length=some (.asl a4 0 frm.length):=by
    simp[sliceL]
   simp(disch:=omega)[m1,wrap_nat (show i<2^62 by have:=hC.Fl;omega)]
   obtain⟨ob5,hob5e⟩:∃ob5,putO I.t1 (.cells [.asl a4 0 frm.length]) ob4=ob5:=⟨_,rfl⟩
   rw[hob5e]
   have hob5:∀j,j≠I.t1->look j ob5=look j ob4:=fun j hj=>by rw[<-hob5e];exact look_putO_ne hj
   have hS4t:∀j,S4 j->j≠I.t1:=fun j hj e=>h4.t1S (e▸hj)
   have ha4:n<=a4:=by
    rcases hfv4 _ _ _ rfl with h|⟨_,_,h⟩
    ·omega
    ·simp only[LV.asl.injEq]at h;omega
   refine⟨⟨i+1,n4,ob5,foldI D.step I.c (insts I.F I.c ps R (frm++[(i:Int)])) G1,S4,.asl a4 0 frm.length⟩,by dsimp only;omega,⟨by dsimp only;omega,by dsimp only;omega,foldI_lim _ _ _ hlim1,hfold,⟨?_,?_,h4.sep,?_,h4.t1S,?_,?_⟩,?_,?_,?_⟩,by simp[FT.Le,Wk],HWk.refl _,fun h=>h⟩
   ·exact fun q hq=>by
     rw[hob5 _ (hC.t1L q hq)];exact h4.st q hq
   ·exact D.at_keep _ _ _ _ h4.at_ fun j hj=>hob5 j (hS4t j hj)
   ·dsimp only
    rw[<-hob5e];exact look_putO m1
   ·refine .inr ⟨a4,cs4,rfl,?_,by omega,?_⟩
    ·dsimp only
     rw[hob5 _ (fun e=>by rw[e,m1]at f1;cases f1)];exact f1
    ·have:=congrArg (List.take frm.length) f3
     rw[List.take_take,Nat.min_eq_left (by omega),<-List.map_take,List.take_left]at this
     exact this
   ·dsimp only
    rw[<-hob5e];exact h4.ni.put _ rfl
   ·intro j hj
    rcases hS4 j hj with h|h
    ·exact hS1 j h
    ·exact .inr (by omega)
   ·intro a o l he
    simp only[LV.asl.injEq]at he
    exact .inl (by omega)
   ·intro j hj hjS hjt hja
    dsimp only
    rw[hob5 j hjt,hkept4 j (by omega) (fun hs=>?_) hjt (fun a o l he=>?_),hob3 j hjt,hob2 j (by omega) (fun a o l he=>?_)]
    ·exact hkept j hj hjS hjt hja
    ·rcases hfv1 a o l he with h|⟨_,_,h⟩
     ·omega
     ·exact hja _ _ _ h
    ·rcases hS1 j hs with h|h
     ·exact hjS h
     ·omega
    ·simp only[LV.asl.injEq]at he
     omega
end
end Go.Abs.Tz
