/- Part of the proof that the law CustomGrows returns true for every input. Conditions: none. -/
import Derived.Test.YtdifmcjgoamanaaGreatDoorPartY
import Derived.Test.YtdifmcjgoamanaaGreatDoorPartV
namespace Go.Abs.Tz
open Go Go.Abs Go.Proofs
def LevC(l:List Clause)(R:Option (List (PK×Int))):Prop:=(R=none->¬∃g,SolL (edgesOf l) g)/\∀m,R=some m->LevOk l m/\∀g,SolL (edgesOf l) g->∀k,valN m k<=g k
theorem levels_c(l:List Clause)(hc:(checkB l).1=0):∃fuel R,levN l fuel (l.foldl initCl [])=some R/\LevC l R:=by
 have hg:=good_of hc
 obtain⟨i1,i2,i3,i4⟩:=init_fold l [] fun _=>rfl
 have i5:=hg.initLen
 obtain⟨m0,hm0⟩:∃m0,l.foldl initCl []=m0:=⟨_,rfl⟩
 rw[hm0]at i1 i2 i3 i5 ⊢
 have hV:∀c∈l,∀k∈predC c,k∈pKeys m0:=fun c hc k hkc=>(i3 k).2 (.inr ⟨c,hc,hkc⟩)
 have hz:∀k,valN m0 k=0:=fun k=>by unfold valN;rw[i1 k];rfl
 obtain⟨R,hR,hE⟩:=cust_levels hV ((pKeys m0).length*(pKeys m0).length) m0 rfl (fun k=>by rw[i1 k];omega) (fun g _ k=>by rw[hz k];omega) (Nat.le_add_left _ _)
 refine⟨_,R,hR,fun hn=>?_,fun m hm=>?_⟩
 ·rw[hn]at hE;exact hE
 ·rw[hm]at hE
  have hE:LeastL l (pKeys m0) m:=hE
  exact⟨levOk_of hg (i2 .nil) hV (by rw[pKeys_len];exact i5) hE,hE.le⟩
def PosL(l:List Clause):Prop:=∀c∈l,∀x∈c.body,x.kind≠2
theorem sol_zero{l:List Clause}(hp:PosL l):SolL (edgesOf l) fun _=>0:=by
 intro e he
 obtain⟨c,hc,he⟩:=List.mem_flatMap.1 he
 obtain⟨x,hx,he⟩:=List.mem_filterMap.1 he
 unfold edgeL at he
 split at he
 ·cases he;simp
 ·rw[if_neg (hp c hc x hx)]at he
  cases he
structure ClosedM(l:List Clause)(base:List Atom)(T:Atom->Prop):Prop where
 base:∀a∈base,T a
 good:∀a,T a->atomG a
 step:∀c∈l,∀h,HeadOf T c h->T h
theorem pos_model(l:List Clause)(hp:PosL l)(base:List Atom)(hc:(checkB l).1=0)(hb:∀a∈base,atomG a)(hbl:base.length<=100){R:Option (List (PK×Int))}(hL:LevC l R):
  ((modelE l R base=0/\(modelF l R base).length<=300/\ClosedM l base (·∈atomsF (modelF l R base))/\∀T,ClosedM l base T->∀a∈atomsF (modelF l R base),T a) \/
   (modelE l R base=2/\∃L:List Atom,L.Nodup/\300<L.length/\∀T,ClosedM l base T->∀a∈L,T a)):=by
 obtain⟨hno,hok⟩:=hL
 have h0:=sol_zero hp
 cases R with
 |none=>exact absurd ⟨_,h0⟩ (hno rfl)
 |some m=>
  obtain⟨hm,hle⟩:=hok m rfl
  have hz:∀k,pVal m k=0:=fun k=>by
   have h1:=hle _ h0 k
   have h2:=hm.nn k
   unfold valN at h1
   omega
  have hmx:=hm.max
  have hmax:maxI 0 (m.map (·.2))=0:=by
   have:=(maxI_facts (m.map (·.2)) 0).2.2 0 (Int.le_refl _) fun x hx=>by
    obtain⟨e,he,rfl⟩:=List.mem_map.1 hx
    rw[<-pVal_mem hm.nd e he,hz]
    exact Int.le_refl _
   omega
  have hbe:basedE l (some m) base=0:=by
   unfold basedE
   rw[if_neg (by omega),if_neg (by simp),if_neg (by omega),List.all_eq_true.2 fun a ha=>baseOk_iff.2 (hb a ha)]
   rfl
  have hg:=check_good hc
  have hS:∀s∈base.map (fun a=>(⟨a,-1,[]⟩:Stp)),atomOk s.atom=true:=fun s hs=>by
   obtain⟨a,ha,rfl⟩:=List.mem_map.1 hs
   exact(hb a ha).1
  obtain⟨a1,a2⟩:=addFs_has (base.map fun a=>(⟨a,-1,[]⟩:Stp)) [] (fun s hs=>by cases hs) hS .nil
  have hl1:=(addFs_len (base.map fun a=>(⟨a,-1,[]⟩:Stp)) []).2
  have e:∀a,a∈atomsF (baseD base)↔a∈base:=fun a=>by
   rw[show atomsF (baseD base)=atomsF ((base.map fun a=>(⟨a,-1,[]⟩:Stp)).foldl addF []) from rfl,a2 a]
   simp[atomsF,Function.comp_def]
  have hbd:(baseD base).length<=300:=by
   rw[List.length_map,List.length_nil]at hl1
   unfold baseD
   omega
  have e0:(fun a=>a∈atomsF (baseD base))=fun a=>a∈base:=funext fun a=>propext (e a)
  have hM:Mid l m 0 (·∈base) (·∈atomsF (baseD base)):=by
   rw[e0]
   exact .base hb
  obtain⟨c1,c2⟩:=level_spec (v:=0) hm hg 302 (F:=baseD base) (by omega) hM a1 hbd
  have hD:derivedD m l base=levelD m 0 l 302 (baseD base):=by
   unfold derivedD
   rw[hmax]
   show levelsD m l 1 0 (baseD base)=_
   unfold levelsD
   show (match levelD m 0 l 302 (baseD base) with|none=>none|some F'=>levelsD m l 0 1 F')=_
   cases levelD m 0 l 302 (baseD base)<;>rfl
  have hT:∀T,ClosedM l base T->LowS m 0 (·∈base) T/\ClosedS l m 0 T:=fun T h=>⟨⟨h.base,fun a _ hl=>by rw[hz]at hl;omega,h.good⟩,fun c hcl _=>h.step c hcl⟩
  cases hd:levelD m 0 l 302 (baseD base) with
  |none=>
   rw[hd]at c1 hD
   obtain⟨L,l1,l2,l3⟩:=c1
   refine .inr ⟨?_,L,l1,l2,fun T h a ha=>l3.least T (hT T h).1 (hT T h).2 a ha⟩
   unfold modelE
   rw[hbe]
   simp[hD]
  |some F=>
   rw[hd]at c1 hD
   obtain⟨m1,m2,m3⟩:=c1
   have hcl:=c2 F hd
   have eF:modelF l (some m) base=F:=by unfold modelF;simp[hD]
   refine .inl ⟨?_,by rw[eF];exact m3,?_,fun T h a ha=>?_⟩
   ·unfold modelE
    rw[hbe]
    simp[hD]
   ·rw[eF]
    exact⟨m1.lo.sup,m1.lo.good,fun c hcl2 h hh=>hcl c hcl2 (hz _) h hh⟩
   ·rw[eF]at ha
    exact m1.least T (hT T h).1 (hT T h).2 a ha
theorem checkF_zero:∀(l:List Clause)(i:Nat),(∀c∈l,CGood c)->(checkF l i).1=0
 |[],_,_=>rfl
 |c::r,i,h=>by
  have hc:=h c List.mem_cons_self
  unfold checkF
  rw[if_neg (by rw[hc.ok];simp),if_neg (by rw[hc.safe];simp)]
  exact checkF_zero r (i+1) fun d hd=>h d (List.mem_cons_of_mem _ hd)
theorem check_less{l k:List Clause}(hc:(checkB l).1=0)(hk:∀c∈k,c∈l)(hkl:k.length<=l.length):(checkB k).1=0:=by
 have hll:=(check_ok hc).1
 unfold checkB
 rw[if_neg (by omega)]
 exact checkF_zero k 0 fun c h=>check_good hc c (hk c h)
theorem LevC.bound{l:List Clause}{R:Option (List (PK×Int))}(h:LevC l R):∀m,R=some m->0<=maxI 0 (m.map (·.2))/\maxI 0 (m.map (·.2))<=2^30:=fun m hm=>by
 have:=(h.2 m hm).1.max
 omega
theorem pos_less{l k:List Clause}{base bs:List Atom}(hp:PosL l){R:Option (List (PK×Int))}(hL:(checkB l).1=0->LevC l R)(hz:modelE l R base=0)(hk:∀c∈k,c∈l)(hkl:k.length<=l.length)(hb:∀a∈bs,a∈base)(hbl:bs.length<=base.length):
  (∀a∈base,a∈atomsF (modelF l R base))/\(checkB k).1=0/\∀R',LevC k R'->modelE k R' bs=0/\∀a∈atomsF (modelF k R' bs),a∈atomsF (modelF l R base):=by
 have hbe:basedE l R base=0:=by
  unfold modelE at hz
  by_cases h:basedE l R base≠0
  ·rw[if_pos h]at hz;exact absurd hz h
  ·omega
 obtain⟨hc,_,hbl2,hbg⟩:=basedE_z hbe
 rcases pos_model l hp base hc hbg hbl2 (hL hc) with⟨_,n1,n2,n3⟩|⟨h,_⟩
 case inr=>rw[hz]at h;cases h
 have hck:=check_less hc hk hkl
 refine⟨n2.base,hck,fun R' hL'=>?_⟩
 have hcl:ClosedM k bs (·∈atomsF (modelF l R base)):=⟨fun a ha=>n2.base a (hb a ha),n2.good,fun c hck h hh=>n2.step c (hk c hck) h hh⟩
 rcases pos_model k (fun c hck=>hp c (hk c hck)) bs hck (fun a ha=>hbg a (hb a ha)) (by omega) hL' with⟨j1,j2,j3,j4⟩|⟨_,L,l1,l2,l3⟩
 ·exact⟨j1,j4 _ hcl⟩
 ·have:=nodup_le l1 (b:=atomsF (modelF l R base)) fun x hx=>l3 _ hcl x hx
  rw[List.length_map]at this
  omega
theorem lev_ex(l:List Clause):∃fuel R,((checkB l).1=0->levN l fuel (l.foldl initCl [])=some R)/\((checkB l).1=0->∀m,R=some m->0<=maxI 0 (m.map (·.2))/\maxI 0 (m.map (·.2))<=2^30)/\((checkB l).1=0->LevC l R):=by
 by_cases hc:(checkB l).1=0
 ·obtain⟨f,R,h1,h2⟩:=levels_c l hc
  exact⟨f,R,fun _=>h1,fun _=>h2.bound,fun _=>h2⟩
 ·exact⟨0,none,fun h=>absurd h hc,fun h=>absurd h hc,fun h=>absurd h hc⟩
end Go.Abs.Tz
namespace Go.Abs.Tz
open Go Go.Abs Go.Proofs
set_option maxRecDepth 20000
set_option linter.unusedSimpArgs false
attribute [local simp ↓] getP_nil getP_node setP_nil setP_node oneP_eq vP_map vP_some vP_none vP_bind eP_some bP_true bP_false gP_yes gP_tf gP_ft gP_tup runP_skip runP_ops runP_drw runP_seq runP_cond runP_blk runP_loop runP_exit runP_ret seqK_n seqK_r seqK_e seqK_p blkK_n blkK_r blkK_e blkK_p loopK_n loopK_r loopK_e loopK_p finK_n finK_r finK_p resP_one resP_two resP_three resP_nil resP_c nxP_nil argsP_nil argsP_cons evP_t evP_c evP_g evsP_nil evsP_cons clP_fn pnP_i opsP_nil opsP_d opsP_x opsP_gt opsP_gf opP_cf opP_cl opP_pn opP_nx valP_mv valP_pk valP_eq valP_bn valP_nt valP_ld valP_fa valP_fd valP_ia valP_ix valP_ln valP_srn valP_srl valP_srh valP_srb valP_cv valP_mi valP_mf valP_xt valP_bs valP_bd valP_nc valP_mn valP_lk valP_ta opP_mv opP_pk opP_eq opP_bn opP_nt opP_ld opP_fa opP_fd opP_ia opP_ix opP_ln opP_sr opP_cv opP_mi opP_mf opP_xt opP_bs opP_bd opP_nc opP_mn opP_lk opP_ta opP_al opP_bx opP_st opP_ap opP_mk opP_nb opP_mu opP_rg opP_en pendP_nil pendP_d pendP_g drwP_nil drwP_d drwP_x drwP_gt drwP_gf look_self natOf_nat
attribute [local simp] faL fdL iaL ixL loadL partL lenL eqK eqL natOf eqB_s eqB_i eqB_b bn_add bn_sub bn_lss bn_leq bn_gtr bn_geq bn_adds bn_lsss bn_gtrs bn_leqs bn_geqs sliceL LV.cells LV.whole look_self put_self putO_self put_eq stL fillL termC dopP LHeap.alloc oneI oneS oneB nth0 nth1 nth2 nth3 nth4 nth5 nth6 nth7 nth8 nth9 look_ne putO_ne
def posC(c:Clause):Bool:=c.body.all fun x=>decide (x.kind≠2)
def posB(l:List Clause):Bool:=l.all posC
theorem posB_iff{l:List Clause}(h:posB l=true):PosL l:=fun c hc x hx=>by
 have:=List.all_eq_true.1 (List.all_eq_true.1 h c hc) x hx
 exact of_decide_eq_true this
theorem t_positive(l:List Clause)(hl:l.length<2^63)(hb:∀c∈l,c.body.length<2^63):PureT 8 [clausesL l] (.bool (posB l)):=by
 refine PureT.of c8 fun H hH=>⟨Nat.le_of_ble_eq_true rfl,?_⟩
 simp(disch:=omega)[b8]
 obtain⟨A,hA⟩:∃A,l.all posC=A:=⟨_,rfl⟩
 have hB:posB l=A:=hA
 rw[hB]
 refine lP_enter (σ:=NN) (fun q=>(.nd (clausesL l) (.nd .bot (.nd (.int q.i) .nil .nil) .nil) (.nd (.bool false) .nil .nil))) (fun q=>⟨H.objs,q.n⟩) (fun q=>l.length - q.i)
  (fun q=>H.next<=q.n/\q.i<=l.length/\(l.drop q.i).all posC=A) ⟨0,H.next⟩ ⟨Nat.le_refl _,Nat.zero_le _,hA⟩ (by simp[FT.Le,Wk]) ⟨HWk.refl _,fun h=>h⟩ ?_
 rintro⟨i,n⟩ ⟨hn,hi,he⟩ hok
 simp only at hn hi he
 by_cases hlt:i<l.length
 case neg=>
  obtain rfl:i=l.length:=by omega
  rw[List.drop_eq_nil_of_le (Nat.le_refl _),List.all_nil]at he
  simp(disch:=omega)
  exact doneK hH (by simp[<-he])
 rw[all_drop posC hlt]at he
 have hbl:=hb _ (mem_at hlt)
 obtain⟨D,hD⟩:∃D,posC l[i]=D:=⟨_,rfl⟩
 rw[hD]at he
 simp(disch:=omega)[hlt]
 refine lP_enter (σ:=NN) (fun q=>(.nd (clausesL l) (.nd .bot (.nd (.int i) .nil .nil) .nil) (.nd (.bool false) (.nd (.int q.i) .nil .nil) .nil))) (fun q=>⟨H.objs,q.n⟩) (fun q=>l[i].body.length - q.i)
  (fun q=>H.next<=q.n/\q.i<=l[i].body.length/\(l[i].body.drop q.i).all (fun x=>decide (x.kind≠2))=D) ⟨0,n⟩ ⟨hn,Nat.zero_le _,hD⟩ (by simp[FT.Le,Wk]) ⟨HWk.refl _,fun h=>h⟩ ?_
 rintro⟨j,n2⟩ ⟨hn2,hj,he2⟩ hok2
 dsimp only at hn2 hj he2
 by_cases hlt2:j<l[i].body.length
 case neg=>
  rw[List.drop_eq_nil_of_le (by omega),List.all_nil]at he2
  subst he2
  rw[Bool.true_and]at he
  simp(disch:=omega)[hlt,hlt2,wrap_nat63 (show i+1<2^63 by omega)]
  exact⟨⟨i+1,n2⟩,by dsimp only;omega,⟨by dsimp only;omega,by dsimp only;omega,he⟩,by simp[FT.Le,Wk],HWk.refl _,fun h=>h⟩
 rw[all_drop _ hlt2]at he2
 by_cases hk:l[i].body[j].kind=2
 ·simp only[hk,ne_eq,not_true_eq_false,decide_false,Bool.false_and]at he2
  subst he2
  rw[Bool.false_and]at he
  simp(disch:=omega)[hlt,hlt2,hk]
  exact doneK hH (by simp[<-he])
 ·simp only[hk,ne_eq,not_false_eq_true,decide_true,Bool.true_and]at he2
  simp(disch:=omega)[hlt,hlt2,hk,wrap_nat63 (show j+1<2^63 by omega)]
  exact⟨⟨j+1,n2⟩,by dsimp only;omega,⟨by dsimp only;omega,by dsimp only;omega,by simpa using he2⟩,by simp[FT.Le,Wk],HWk.refl _,fun h=>h⟩
def inB(B:List Atom)(a:Atom):Bool:=B.any fun b=>decide (cmpA a b=0)
def withinB(A B:List Atom):Bool:=A.all (inB B)
theorem inB_iff{B:List Atom}{a:Atom}:inB B a=true↔a∈B:=by
 unfold inB
 rw[List.any_eq_true]
 constructor
 ·rintro⟨x,hx,h⟩
  rw[cmpA_L.zero.1 (of_decide_eq_true h)]
  exact hx
 ·intro h
  exact⟨a,h,by simp[cmpA_L.refl a]⟩
structure NNWi where
 i:Nat
 n:Nat
 is:Bool
theorem t_withinA(A B:List Atom)(o1 o2:Own)(hA:A.length<2^63)(hB:B.length<2^63)(ha:∀a∈A,a.ok)(hbo:∀a∈B,a.ok):PureT 11 [.sl (A.map atomL) o1,.sl (B.map atomL) o2] (.bool (withinB A B)):=by
 refine PureT.of c11 fun H hH=>⟨Nat.le_of_ble_eq_true rfl,?_⟩
 simp(disch:=omega)[b11]
 obtain⟨V,hV⟩:∃V,withinB A B=V:=⟨_,rfl⟩
 rw[hV]
 refine lP_enter (σ:=NN) (fun q=>(.nd (.sl (A.map atomL) o1) (.nd (.sl (B.map atomL) o2) .nil (.nd (.int q.i) .nil .nil)) (.nd .bot (.nd (.bool false) .nil .nil) .nil))) (fun q=>⟨H.objs,q.n⟩) (fun q=>A.length - q.i)
  (fun q=>H.next<=q.n/\q.i<=A.length/\(A.drop q.i).all (inB B)=V) ⟨0,H.next⟩ ⟨Nat.le_refl _,Nat.zero_le _,hV⟩ (by simp[FT.Le,Wk]) ⟨HWk.refl _,fun h=>h⟩ ?_
 rintro⟨i,n⟩ ⟨hn,hi,he⟩ hok
 simp only at hn hi he
 by_cases hlt:i<A.length
 case neg=>
  obtain rfl:i=A.length:=by omega
  rw[List.drop_eq_nil_of_le (Nat.le_refl _),List.all_nil]at he
  simp(disch:=omega)
  exact doneK hH (by simp[<-he])
 rw[all_drop (inB B) hlt]at he
 have hai:=ha _ (List.getElem_mem hlt)
 obtain⟨D,hD⟩:∃D,inB B A[i]=D:=⟨_,rfl⟩
 rw[hD]at he
 simp(disch:=omega)[hlt]
 refine lP_enter (σ:=NNWi) (fun q=>(.nd (.sl (A.map atomL) o1) (.nd (.sl (B.map atomL) o2) (.nd .bot (.nd (.int q.i) .nil .nil) .nil) (.nd (.int i) .nil .nil)) (.nd .bot (.nd (.bool false) .nil .nil) (.nd (.bool q.is) .nil .nil)))) (fun q=>⟨H.objs,q.n⟩) (fun q=>B.length - q.i)
  (fun q=>H.next<=q.n/\q.i<=B.length/\(q.is||(B.drop q.i).any fun b=>decide (cmpA A[i] b=0))=D) ⟨0,n,false⟩ ⟨hn,Nat.zero_le _,by simpa [inB] using hD⟩ (by simp[FT.Le,Wk]) ⟨HWk.refl _,fun h=>h⟩ ?_
 rintro⟨j,n2,is⟩ ⟨hn2,hj,he2⟩ hok2
 dsimp only at hn2 hj he2
 by_cases hlt2:j<B.length
 case neg=>
  rw[List.drop_eq_nil_of_le (by omega),List.any_nil,Bool.or_false]at he2
  subst he2
  cases is
  ·rw[Bool.false_and]at he
   simp(disch:=omega)[hlt,hlt2]
   exact doneK hH (by simp[<-he])
  ·rw[Bool.true_and]at he
   simp(disch:=omega)[hlt,hlt2,wrap_nat63 (show i+1<2^63 by omega)]
   exact⟨⟨i+1,n2⟩,by dsimp only;omega,⟨by dsimp only;omega,by dsimp only;omega,he⟩,by simp[FT.Le,Wk],HWk.refl _,fun h=>h⟩
 rw[List.drop_eq_getElem_cons hlt2,List.any_cons]at he2
 have hbj:=hbo _ (List.getElem_mem hlt2)
 cases is
 ·simp(disch:=omega)[hlt,hlt2]
  refine(t_Compare A[i] B[j] hai hbj).go fun n3 hn3=>?_
  by_cases hz:cmpA A[i] B[j]=0
  ·simp(disch:=omega)[hz,wrap_nat63 (show j+1<2^63 by omega)]
   exact⟨⟨j+1,n3,true⟩,by dsimp only;omega,⟨by dsimp only;omega,by dsimp only;omega,by simpa [hz] using he2⟩,by simp[FT.Le,Wk],HWk.refl _,fun h=>h⟩
  ·simp(disch:=omega)[hz,wrap_nat63 (show j+1<2^63 by omega)]
   exact⟨⟨j+1,n3,false⟩,by dsimp only;omega,⟨by dsimp only;omega,by dsimp only;omega,by simpa [hz] using he2⟩,by simp[FT.Le,Wk],HWk.refl _,fun h=>h⟩
 ·simp(disch:=omega)[hlt,hlt2,wrap_nat63 (show j+1<2^63 by omega)]
  exact⟨⟨j+1,n2,true⟩,by dsimp only;omega,⟨by dsimp only;omega,by dsimp only;omega,by simpa using he2⟩,by simp[FT.Le,Wk],HWk.refl _,fun h=>h⟩
theorem cP_args2{f:FuncId}{a a' b b':LV}{H H':LHeap}{kv kp:HP}(hw:Wk a a')(hw2:Wk b b')(hh:HWk H H')(hok:H.Ok->H'.Ok)(h:cP E0 F0 f [a',b'] H' kv kp):cP E0 F0 f [a,b] H kv kp:=fun hH=>
 .weakArgs (args':=[a',b']) rfl (fun i=>by
  match i with
  |0=>exact hw
  |1=>exact hw2
  |n+2=>exact .inl rfl) hh (h (hok hH))
theorem strip_cls(l:List Clause)(ow:Own):Wk (.sl (l.map clauseL) ow) (clausesL l):=by
 refine .inr (.inl ?_)
 simp[LV.strip,stripL,stripL_map,List.map_map,Function.comp_def]
theorem clauses_all(l:List Clause):((l.map clauseL).all fun e=>e.cells.length==3)=true:=by
 rw[List.all_eq_true]
 intro e he
 obtain⟨c,_,rfl⟩:=List.mem_map.1 he
 rfl
set_option maxHeartbeats 1000000 in
theorem t_law5(hs:PureT 9 [] (.bool true))(l:List Clause)(base:List Atom)(z:Int)(hz:0<=z/\z<256)(hl:l.length<2^63)(hb:∀c∈l,c.body.length<2^63)(hbl:base.length<2^63)(ob:List (Nat×LObj))(n:Nat)(hni:NoIt ob){kv kp:HP}
  (hk:∀n',n<=n'->kv (.bool true) ⟨ob,n'⟩):cP E0 F0 3 [clausesL l,.sl (base.map atomL) .no,.sc (.int .u8 z)] ⟨ob,n⟩ kv kp:=by
 refine cP_of_fn c3 fun hH=>⟨Nat.le_of_ble_eq_true rfl,?_⟩
 simp(disch:=omega)[b3]
 refine(t_shortClauses 6 (by omega) l hb).go fun n1 hn1=>?_
 have fin1:∀(m:Nat),n<=m->∃H'',HWk ⟨ob,m⟩ H''/\(LHeap.Ok ⟨ob,m⟩->H''.Ok)/\kv (.bool true) H'':=fun m hm=>⟨⟨ob,m⟩,HWk.refl _,id,hk m hm⟩
 cases h1:shortB 6 l
 ·simp(disch:=omega)
  refine hs.go fun n2 hn2=>?_
  simp(disch:=omega)
  exact fin1 _ (by omega)
 simp(disch:=omega)
 refine(t_shortAtoms base (by omega)).go fun n2 hn2=>?_
 cases h2:shortAs base
 ·simp(disch:=omega)
  refine hs.go fun n3 hn3=>?_
  simp(disch:=omega)
  exact fin1 _ (by omega)
 simp(disch:=omega)
 refine(t_positive l hl hb).go fun n3 hn3=>?_
 cases h3:posB l
 ·simp(disch:=omega)
  refine hs.go fun n4 hn4=>?_
  simp(disch:=omega)
  exact fin1 _ (by omega)
 have hcl:l.length<=40->∀c∈l,clShort c=true:=by
  intro hl c hc
  unfold shortB at h1
  rw[if_neg (by omega)]at h1
  split at h1
  ·rename_i hall
   exact List.all_eq_true.1 hall c hc
  ·cases h1
 have hsm:SmallL l:=⟨fun hl c hc=>short_ok3 (hcl hl c hc)⟩
 have hbo:base.length<=100->∀x∈base,x.ok:=by
  intro hl x hx
  unfold shortAs at h2
  rw[if_neg (by omega)]at h2
  split at h2
  ·rename_i hall
   exact Atom.small_ok (List.all_eq_true.1 hall x hx)
  ·cases h2
 obtain⟨fuel,R,hR,hRb,hLC⟩:=lev_ex l
 have hI:ModIn l fuel R base:=⟨hsm,hR,hRb,hbl,hbo⟩
 have hp:=posB_iff h3
 simp(disch:=omega)
 refine t_Model hI _ _ _ hni (fun h0 n4 hn4=>?_) (fun h0 B ow n4 hB hn4=>?_)
 ·simp(disch:=omega)[h0]
  refine hs.go fun n5 hn5=>?_
  simp(disch:=omega)
  exact fin1 _ (by omega)
 simp(disch:=omega)
 have hbe:basedE l R base=0:=by
  unfold modelE at h0
  by_cases h:basedE l R base≠0
  ·rw[if_pos h]at h0;exact absurd h0 h
  ·omega
 obtain⟨hc,_,hb100,hbg⟩:=basedE_z hbe
 obtain⟨hml,hmc⟩:(modelF l R base).length<=300/\ClosedM l base (·∈atomsF (modelF l R base)):=by
  rcases pos_model l hp base hc hbg hb100 (hLC hc) with⟨_,n1,n2,_⟩|⟨h,_⟩
  ·exact⟨n1,n2⟩
  ·rw[h0]at h;cases h
 have hBm:∀a,a∈B↔a∈atomsF (modelF l R base):=fun a=>hB.1.mem_iff
 have hBl:B.length<=300:=by rw[hB.1.length_eq,List.length_map];exact hml
 have hBo:∀a∈B,a.ok:=fun a ha=>atomOk_ok (hmc.good a ((hBm a).1 ha)).1
 have win:∀(A:List Atom),(∀a∈A,a∈B)->withinB A B=true:=fun A h=>List.all_eq_true.2 fun a ha=>inB_iff.2 (h a ha)
 refine(t_withinA base B .no ow (by omega) (by omega) (fun a ha=>atomOk_ok (hbg a ha).1) hBo).go fun n5 hn5=>?_
 rw[win base fun a ha=>(hBm a).2 (hmc.base a ha)]
 have less:=fun{k:List Clause} {bs:List Atom}=>pos_less (l:=l) (k:=k) (base:=base) (bs:=bs) hp hLC h0
 obtain⟨zn,rfl⟩:∃zn:Nat,z=(zn:Int):=⟨z.toNat,by omega⟩
 have hw:IntKind.wrap .i64 (zn:Int)=(zn:Int):=wrap_id (by omega) (by omega)
 by_cases hl0:l.length=0
 ·have hlz:¬0<l.length:=by omega
  simp(disch:=omega)[hl0,hlz]
  obtain⟨nn,hnn⟩:∃x,n5=x:=⟨_,rfl⟩
  rw[hnn]
  rw[hnn]at hn5
  by_cases hb0:base.length=0
  ·have hbz:¬0<base.length:=by omega
   simp(disch:=omega)[hb0,hbz]
   refine hs.go fun n8 hn8=>?_
   simp(disch:=omega)
   exact fin1 _ (by omega)
  have hb0':0<base.length:=by omega
  obtain⟨k2,hkk2⟩:∃k2,zn % base.length=k2:=⟨_,rfl⟩
  have hk2l:k2<base.length:=by rw[<-hkk2];exact Nat.mod_lt _ hb0'
  have hremB:Int.tmod (zn:Int) (base.length:Int)=(k2:Int):=by rw[<-hkk2];exact(Int.ofNat_tmod _ _).symm
  have hneB:¬(base.length:Int)=0:=by omega
  have hw2B:IntKind.wrap .i64 ((k2:Int)+1)=((k2+1:Nat):Int):=wrap_nat63 (by omega)
  have hk2l2:k2<=base.length:=by omega
  have hk2l3:k2+1<=base.length:=by omega
  have hk20:(0:Int)<=(k2:Int)+1:=by omega
  simp(disch:=omega)[hb0',bn_rem,hw,hremB,hneB,hw2B,hk2l2,hk2l3,hk20]
  refine effP_ap ?_
  simp(disch:=omega)
  obtain⟨o3,ob3,m3,e3,hr3,hm3⟩:=row_apY (sz:=2) (H:=⟨ob,nn⟩) (es:=[]) (Y:=(base.map atomL).take k2) (own:=.full) (n:=nn) (by omega) rfl (all_take2 (atoms_all base) k2).1 (by simp;omega) (.inl ⟨rfl,rfl,Nat.le_refl _⟩)
  rw[List.nil_append]at e3
  rw[e3]
  simp(disch:=omega)
  refine effP_ap ?_
  simp(disch:=omega)
  obtain⟨o4,ob4,m4,e4,hr4,hm4⟩:=row_apY (sz:=2) (es:=[]++(base.map atomL).take k2) (Y:=(base.map atomL).drop (k2+1)) (by omega) (by simpa using (all_take2 (atoms_all base) k2).1) (all_take2 (atoms_all base) (k2+1)).2 (by simp;omega) (by rw[List.length_append];exact hr3)
  rw[List.nil_append]at e4
  rw[show List.take (base.length - (k2+1)) (List.drop (k2+1) (base.map atomL))=List.drop (k2+1) (base.map atomL) from List.take_of_length_le (by simp),e4]
  simp(disch:=omega)
  obtain⟨bs1,hbs1⟩:∃x,base.take k2++base.drop (k2+1)=x:=⟨_,rfl⟩
  have hmapB:List.take k2 (base.map atomL)++List.drop (k2+1) (base.map atomL)=bs1.map atomL:=by rw[<-hbs1];simp
  rw[hmapB]
  have hsubB:∀a∈bs1,a∈base:=fun a ha=>by
   rw[<-hbs1]at ha
   rcases List.mem_append.1 ha with h|h
   ·exact List.mem_of_mem_take h
   ·exact List.mem_of_mem_drop h
  have hlenB:bs1.length<=base.length:=by rw[<-hbs1,List.length_append,List.length_take,List.length_drop];omega
  obtain⟨_,hcl2,hres2⟩:=less (k:=l) (bs:=bs1) (fun c h=>h) (Nat.le_refl _) hsubB hlenB
  have hI2:ModIn l fuel R bs1:=⟨hsm,hR,hRb,by omega,fun _ x hx=>atomOk_ok (hbg x (hsubB x hx)).1⟩
  obtain⟨hz2,hmem2⟩:=hres2 R (hLC hcl2)
  have hlen2:(modelF l R bs1).length<=300:=by
   rcases pos_model l hp bs1 hcl2 (fun a ha=>hbg a (hsubB a ha)) (by omega) (hLC hcl2) with⟨_,j,_⟩|⟨h,_⟩
   ·exact j
   ·rw[hz2]at h;cases h
  refine cP_args2 (.inl rfl) (.inl rfl) (H':=⟨ob,m4⟩) (hwk_old hH (fun i hi=>?_) (Nat.le_refl _)) (fun _=>Desc.mono hH (by have:=hr4.old.1;have:=hr3.old.1;dsimp only at *;omega)) ?_
  ·exact hr4.old.2 i (by dsimp only;omega)
  refine t_Model hI2 _ _ _ hni (fun h _ _=>absurd hz2 h) (fun _ B2 ow2 n9 hB2 hn9=>?_)
  simp(disch:=omega)
  have hB2m:∀a∈B2,a∈B:=fun a ha=>(hBm a).2 (hmem2 a (hB2.1.mem_iff.1 ha))
  refine(t_withinA B2 B ow2 ow (by rw[hB2.1.length_eq,List.length_map];omega) (by omega) (fun a ha=>hBo a (hB2m a ha)) hBo).go fun n10 hn10=>?_
  rw[win B2 hB2m]
  simp(disch:=omega)
  refine hs.go fun n11 hn11=>?_
  simp(disch:=omega)
  exact fin1 _ (by have:=hr4.old.1;have:=hr3.old.1;dsimp only at *;omega)
 have hl0':0<l.length:=by omega
 obtain⟨k,hkk⟩:∃k,zn % l.length=k:=⟨_,rfl⟩
 have hkl:k<l.length:=by rw[<-hkk];exact Nat.mod_lt _ hl0'
 have hrem:Int.tmod (zn:Int) (l.length:Int)=(k:Int):=by rw[<-hkk];exact(Int.ofNat_tmod _ _).symm
 have hne:¬(l.length:Int)=0:=by omega
 have hw2:IntKind.wrap .i64 ((k:Int)+1)=((k+1:Nat):Int):=wrap_nat63 (by omega)
 have hkl2:k<=l.length:=by omega
 have hkl3:k+1<=l.length:=by omega
 have hk0:(0:Int)<=(k:Int)+1:=by omega
 simp(disch:=omega)[hl0',bn_rem,hw,hrem,hne,hw2,hkl2,hkl3,hk0]
 have hll:=(check_ok hc).1
 refine effP_ap ?_
 simp(disch:=omega)
 obtain⟨o1,ob1,m1,e1,hr1,hm1⟩:=row_apY (sz:=3) (H:=⟨ob,n5⟩) (es:=[]) (Y:=(l.map clauseL).take k) (own:=.full) (n:=n5) (by omega) rfl (all_take2 (clauses_all l) k).1 (by simp;omega) (.inl ⟨rfl,rfl,Nat.le_refl _⟩)
 rw[List.nil_append]at e1
 rw[e1]
 simp(disch:=omega)
 refine effP_ap ?_
 simp(disch:=omega)
 obtain⟨o2,ob2,m2,e2,hr2,hm2⟩:=row_apY (sz:=3) (es:=[]++(l.map clauseL).take k) (Y:=(l.map clauseL).drop (k+1)) (by omega) (by simpa using (all_take2 (clauses_all l) k).1) (all_take2 (clauses_all l) (k+1)).2 (by simp;omega) (by rw[List.length_append];exact hr1)
 rw[List.nil_append]at e2
 rw[show List.take (l.length - (k+1)) (List.drop (k+1) (l.map clauseL))=List.drop (k+1) (l.map clauseL) from List.take_of_length_le (by simp),e2]
 simp(disch:=omega)
 obtain⟨less1,hk1⟩:∃x,l.take k++l.drop (k+1)=x:=⟨_,rfl⟩
 have hmap:List.take k (l.map clauseL)++List.drop (k+1) (l.map clauseL)=less1.map clauseL:=by rw[<-hk1];simp
 rw[hmap]
 have hsub:∀c∈less1,c∈l:=fun c hcm=>by
  rw[<-hk1]at hcm
  rcases List.mem_append.1 hcm with h|h
  ·exact List.mem_of_mem_take h
  ·exact List.mem_of_mem_drop h
 have hlen1:less1.length<=l.length:=by rw[<-hk1,List.length_append,List.length_take,List.length_drop];omega
 obtain⟨_,hcl1,hres1⟩:=less (k:=less1) (bs:=base) hsub hlen1 (fun a h=>h) (Nat.le_refl _)
 obtain⟨fuel1,R1,hR1,hRb1,hLC1⟩:=lev_ex less1
 have hI1:ModIn less1 fuel1 R1 base:=⟨⟨fun _ c hcm=>hsm.ok3 hll c (hsub c hcm)⟩,hR1,hRb1,hbl,hbo⟩
 obtain⟨hz1,hmem1⟩:=hres1 R1 (hLC1 hcl1)
 refine cP_args2 (strip_cls less1 o2) (.inl rfl) (H':=⟨ob,m2⟩) (hwk_old hH (fun i hi=>?_) (Nat.le_refl _)) (fun _=>Desc.mono hH (by have:=hr2.old.1;have:=hr1.old.1;dsimp only at *;omega)) ?_
 ·exact hr2.old.2 i (by dsimp only;omega)
 refine t_Model hI1 _ _ _ hni (fun h _ _=>absurd hz1 h) (fun _ B1 ow1 n6 hB1 hn6=>?_)
 simp(disch:=omega)
 have hlen1':(modelF less1 R1 base).length<=300:=by
  rcases pos_model less1 (fun c h=>hp c (hsub c h)) base hcl1 hbg hb100 (hLC1 hcl1) with⟨_,j,_⟩|⟨h,_⟩
  ·exact j
  ·rw[hz1]at h;cases h
 have hB1m:∀a∈B1,a∈B:=fun a ha=>(hBm a).2 (hmem1 a (hB1.1.mem_iff.1 ha))
 have hmm:n<=n6:=by have:=hr2.old.1;have:=hr1.old.1;dsimp only at *;omega
 refine(t_withinA B1 B ow1 ow (by rw[hB1.1.length_eq,List.length_map];omega) (by omega) (fun a ha=>hBo a (hB1m a ha)) hBo).go fun n7 hn7=>?_
 rw[win B1 hB1m]
 simp(disch:=omega)
 obtain⟨nn,hnn⟩:∃x,n7=x:=⟨_,rfl⟩
 rw[hnn]
 rw[hnn]at hn7
 by_cases hb0:base.length=0
 ·have hbz:¬0<base.length:=by omega
  simp(disch:=omega)[hb0,hbz]
  refine hs.go fun n8 hn8=>?_
  simp(disch:=omega)
  exact fin1 _ (by omega)
 have hb0':0<base.length:=by omega
 obtain⟨k2,hkk2⟩:∃k2,zn % base.length=k2:=⟨_,rfl⟩
 have hk2l:k2<base.length:=by rw[<-hkk2];exact Nat.mod_lt _ hb0'
 have hremB:Int.tmod (zn:Int) (base.length:Int)=(k2:Int):=by rw[<-hkk2];exact(Int.ofNat_tmod _ _).symm
 have hneB:¬(base.length:Int)=0:=by omega
 have hw2B:IntKind.wrap .i64 ((k2:Int)+1)=((k2+1:Nat):Int):=wrap_nat63 (by omega)
 have hk2l2:k2<=base.length:=by omega
 have hk2l3:k2+1<=base.length:=by omega
 have hk20:(0:Int)<=(k2:Int)+1:=by omega
 simp(disch:=omega)[hb0',bn_rem,hw,hremB,hneB,hw2B,hk2l2,hk2l3,hk20]
 refine effP_ap ?_
 simp(disch:=omega)
 obtain⟨o3,ob3,m3,e3,hr3,hm3⟩:=row_apY (sz:=2) (H:=⟨ob,nn⟩) (es:=[]) (Y:=(base.map atomL).take k2) (own:=.full) (n:=nn) (by omega) rfl (all_take2 (atoms_all base) k2).1 (by simp;omega) (.inl ⟨rfl,rfl,Nat.le_refl _⟩)
 rw[List.nil_append]at e3
 rw[e3]
 simp(disch:=omega)
 refine effP_ap ?_
 simp(disch:=omega)
 obtain⟨o4,ob4,m4,e4,hr4,hm4⟩:=row_apY (sz:=2) (es:=[]++(base.map atomL).take k2) (Y:=(base.map atomL).drop (k2+1)) (by omega) (by simpa using (all_take2 (atoms_all base) k2).1) (all_take2 (atoms_all base) (k2+1)).2 (by simp;omega) (by rw[List.length_append];exact hr3)
 rw[List.nil_append]at e4
 rw[show List.take (base.length - (k2+1)) (List.drop (k2+1) (base.map atomL))=List.drop (k2+1) (base.map atomL) from List.take_of_length_le (by simp),e4]
 simp(disch:=omega)
 obtain⟨bs1,hbs1⟩:∃x,base.take k2++base.drop (k2+1)=x:=⟨_,rfl⟩
 have hmapB:List.take k2 (base.map atomL)++List.drop (k2+1) (base.map atomL)=bs1.map atomL:=by rw[<-hbs1];simp
 rw[hmapB]
 have hsubB:∀a∈bs1,a∈base:=fun a ha=>by
  rw[<-hbs1]at ha
  rcases List.mem_append.1 ha with h|h
  ·exact List.mem_of_mem_take h
  ·exact List.mem_of_mem_drop h
 have hlenB:bs1.length<=base.length:=by rw[<-hbs1,List.length_append,List.length_take,List.length_drop];omega
 obtain⟨_,hcl2,hres2⟩:=less (k:=l) (bs:=bs1) (fun c h=>h) (Nat.le_refl _) hsubB hlenB
 have hI2:ModIn l fuel R bs1:=⟨hsm,hR,hRb,by omega,fun _ x hx=>atomOk_ok (hbg x (hsubB x hx)).1⟩
 obtain⟨hz2,hmem2⟩:=hres2 R (hLC hcl2)
 have hlen2:(modelF l R bs1).length<=300:=by
  rcases pos_model l hp bs1 hcl2 (fun a ha=>hbg a (hsubB a ha)) (by omega) (hLC hcl2) with⟨_,j,_⟩|⟨h,_⟩
  ·exact j
  ·rw[hz2]at h;cases h
 refine cP_args2 (.inl rfl) (.inl rfl) (H':=⟨ob,m4⟩) (hwk_old hH (fun i hi=>?_) (Nat.le_refl _)) (fun _=>Desc.mono hH (by have:=hr4.old.1;have:=hr3.old.1;dsimp only at *;omega)) ?_
 ·exact hr4.old.2 i (by dsimp only;omega)
 refine t_Model hI2 _ _ _ hni (fun h _ _=>absurd hz2 h) (fun _ B2 ow2 n9 hB2 hn9=>?_)
 simp(disch:=omega)
 have hB2m:∀a∈B2,a∈B:=fun a ha=>(hBm a).2 (hmem2 a (hB2.1.mem_iff.1 ha))
 refine(t_withinA B2 B ow2 ow (by rw[hB2.1.length_eq,List.length_map];omega) (by omega) (fun a ha=>hBo a (hB2m a ha)) hBo).go fun n10 hn10=>?_
 rw[win B2 hB2m]
 simp(disch:=omega)
 refine hs.go fun n11 hn11=>?_
 simp(disch:=omega)
 exact fin1 _ (by have:=hr4.old.1;have:=hr3.old.1;dsimp only at *;omega)
end Go.Abs.Tz
namespace Go.Abs.Tz
set_option maxRecDepth 20000
open Go Go.Abs Go.Proofs Go.ChangeShapes Go.WideShapes Go.RowKit Go.Proofs.YtdifmcjgoamanaaGreatDoor
theorem law_run5(l:List Clause)(bs:List Atom)(z:Int)(hz:0<=z/\z<256)(hl:l.length<2^63)(hb:∀c∈l,c.body.length<2^63)(hbl:bs.length<2^63)(W:World)(hW:laidMetH Tryz.prog Rows.customGrowsRow.laid W)(us:Array Value)(h0:us.size=3)
  (h1:VR (gOf W) W (clausesL l) (us.getD 0 undef)) (h2:VR (gOf W) W (.sl (bs.map atomL) .no) (us.getD 1 undef)) (h3:VR (gOf W) W (.sc (.int .u8 z)) (us.getD 2 undef)):
  Calls Tryz.prog 3 us W fun e W'=>e=.returned (.bool true)/\Below W.heap.size W W':=by
 have hO:cP E0 F0 3 [clausesL l,.sl (bs.map atomL) .no,.sc (.int .u8 z)] ⟨[],1⟩ (fun v _=>v=.bool true) (fun _ _=>False):=
  t_law5 t_sanity l bs z hz hl hb hbl [] 1 (fun i m l k n=>by simp[look]) fun _ _=>rfl
 have hC:CallOk Tryz.prog E0 3 [clausesL l,.sl (bs.map atomL) .no,.sc (.int .u8 z)] ⟨[],1⟩ _:=sound hmixT fnsT (hO trivial)
 refine(hC.2 (gOf W) W us (gOf_inv W 1) (gOf_env W hW) ⟨h0,fun i x hi=>?_⟩).mono fun e W' hp=>?_
 ·match i,hi with
  |0,hi=>simp at hi;subst hi;exact h1
  |1,hi=>simp at hi;subst hi;exact h2
  |2,hi=>simp at hi;subst hi;exact h3
  |i+3,hi=>simp at hi
 ·cases e with
  |outgrown=>exact hp.elim
  |panicked ch=>
   obtain⟨_,_,_,_,hT,_⟩:=hp
   rcases hT with⟨_,_,he,_⟩|⟨_,_,he,_,hf⟩
   ·cases he
   ·exact hf.elim
  |returned u=>
   obtain⟨v,H',G',hT,hV,_,hx⟩:=hp
   rcases hT with⟨v',H'',he,_,hv⟩|⟨_,_,he,_⟩
   ·cases he
    subst hv
    obtain rfl:=hV.sc_inv
    exact⟨rfl,hx.os,hx.tape,hx.output,hx.size,fun k hk=>hx.block k (by simp[gOf,hk])⟩
   ·cases he
end Go.Abs.Tz
