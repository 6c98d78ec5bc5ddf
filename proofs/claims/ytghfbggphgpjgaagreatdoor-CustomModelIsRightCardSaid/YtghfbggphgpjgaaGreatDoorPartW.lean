/- Part of the proof that the law CustomModelIsRight returns true for every input. Conditions: none. -/
import Derived.Test.YtghfbggphgpjgaaGreatDoorPartV
import Derived.Test.YtghfbggphgpjgaaGreatDoorPartG
import Derived.Test.YtghfbggphgpjgaaGreatDoorPartI
namespace Go.Abs.Tz
open Go Go.Abs Go.Proofs
def ChainI(F:List Stp):List Atom->Bind->List Int->Bind->Prop
 |[],K,js,R=>js=[]/\R=K
 |p::ps,K,js,R=>∃(j:Nat)(s:Stp)(K':Bind)(js':List Int),F[j]? = some s/\bindKA K p s.atom=some K'/\js=(j:Int)::js'/\ChainI F ps K' js' R
def Chain(S:Atom->Prop):List Atom->Bind->Bind->Prop
 |[],K,R=>R=K
 |p::ps,K,R=>∃(a:Atom)(K':Bind),S a/\bindKA K p a=some K'/\Chain S ps K' R
def SetF(F:List Stp)(a:Atom):Prop:=∃s∈F,s.atom=a
theorem chain_of{F:List Stp}:∀{ps:List Atom}{K:Bind}{js:List Int}{R:Bind},ChainI F ps K js R->Chain (SetF F) ps K R
 |[],_,_,_,h=>h.2
 |_::_,_,_,_,⟨_,s,K',_,h1,h2,_,h4⟩=>⟨s.atom,K',⟨s,List.mem_iff_getElem?.2 ⟨_,h1⟩,rfl⟩,h2,chain_of h4⟩
theorem of_chain{F:List Stp}:∀{ps:List Atom}{K:Bind}{R:Bind},Chain (SetF F) ps K R->∃js,ChainI F ps K js R
 |[],_,_,h=>⟨[],rfl,h⟩
 |_::_,_,_,⟨a,K',⟨s,hs,e⟩,h2,h3⟩=>by
  obtain⟨js,hjs⟩:=of_chain h3
  obtain⟨j,hj⟩:=List.mem_iff_getElem?.1 hs
  exact⟨(j:Int)::js,j,s,K',js,hj,by rw[e];exact h2,rfl,hjs⟩
theorem Chain.mono{S T:Atom->Prop}(h:∀a,S a->T a):∀{ps:List Atom}{K R:Bind},Chain S ps K R->Chain T ps K R
 |[],_,_,hc=>hc
 |_::_,_,_,⟨a,K',h1,h2,h3⟩=>⟨a,K',h a h1,h2,Chain.mono h h3⟩
theorem chain_good{S:Atom->Prop}(hS:∀a,S a->atomG a):∀{ps:List Atom}{K R:Bind},GoodB K->Chain S ps K R->GoodB R/\ExtB K R/\(∀p∈ps,BoundIn R p.args)/\∀p∈ps,S (fillA R p)
 |[],K,R,hK,h=>by
  have e:R=K:=h
  subst e
  exact⟨hK,.refl _,fun p hp=>(by cases hp),fun p hp=>(by cases hp)⟩
 |p::ps,K,R,hK,⟨a,K',h1,h2,h3⟩=>by
  obtain⟨g1,g2,g3,g4⟩:=bindKA_spec hK (hS a h1) h2
  obtain⟨f1,f2,f3,f4⟩:=chain_good hS g1 h3
  refine⟨f1,g2.trans f2,fun q hq=>?_,fun q hq=>?_⟩
  ·rcases List.mem_cons.1 hq with rfl|hq
   ·exact g3.ext f2
   ·exact f3 q hq
  ·rcases List.mem_cons.1 hq with rfl|hq
   ·rw[fillA_ext f2 g3,g4];exact h1
   ·exact f4 q hq
def RestP(S:Atom->Prop)(K:Bind)(b:List Lit):Prop:=∀x∈b,(x.kind=2->¬S (fillA K x.atom))/\(x.kind≠1->x.kind≠2->cmpLit K x=true)
def HeadOf(S:Atom->Prop)(c:Clause)(h:Atom):Prop:=∃R,Chain S (posL c.body) [] R/\RestP S R c.body/\h=fillA R c.head
theorem HeadOf.good{S:Atom->Prop}(hS:∀a,S a->atomG a){c:Clause}(hc:CGood c){h:Atom}(hh:HeadOf S c h):atomG h:=by
 obtain⟨R,h1,_,rfl⟩:=hh
 obtain⟨g1,_,g3,_⟩:=chain_good hS .nil h1
 exact(hc.leaf g1 g3).2
theorem hasF_set{F:List Stp}(hF:∀s∈F,atomOk s.atom=true){a:Atom}(ha:atomOk a=true):hasF (atomX a) F=true↔SetF F a:=by
 rw[hasF_iff]
 constructor
 ·rintro⟨q,hq,e⟩
  exact⟨q,hq,atomX_inj (hF q hq) ha e⟩
 ·rintro⟨q,hq,e⟩
  exact⟨q,hq,by rw[e]⟩
theorem restOk_iff{F:List Stp}(hF:∀s∈F,atomOk s.atom=true){K:Bind}:∀{b:List Lit},(∀x∈b,x.kind=2->atomOk (fillA K x.atom)=true)->(restOk F K b=true↔RestP (SetF F) K b)
 |[],_=>⟨fun _ x hx=>(by cases hx),fun _=>rfl⟩
 |x::r,hb=>by
  have ih:=restOk_iff hF (K:=K) (b:=r) fun y hy=>hb y (List.mem_cons_of_mem _ hy)
  have split:RestP (SetF F) K (x::r)↔((x.kind=2->¬SetF F (fillA K x.atom))/\(x.kind≠1->x.kind≠2->cmpLit K x=true))/\RestP (SetF F) K r:=by
   constructor
   ·intro h
    exact⟨h x List.mem_cons_self,fun y hy=>h y (List.mem_cons_of_mem _ hy)⟩
   ·rintro⟨h1,h2⟩ y hy
    rcases List.mem_cons.1 hy with rfl|hy
    ·exact h1
    ·exact h2 y hy
  rw[split]
  unfold restOk
  by_cases h1:x.kind=1
  ·rw[if_pos h1,ih]
   exact⟨fun h=>⟨⟨fun h2=>by omega,fun h3=>absurd h1 h3⟩,h⟩,fun h=>h.2⟩
  ·rw[if_neg h1]
   by_cases h2:x.kind=2
   ·rw[if_pos h2,Bool.and_eq_true,ih]
    have e:(!hasF (atomX (fillA K x.atom)) F)=true↔¬SetF F (fillA K x.atom):=by
     rw[<-hasF_set hF (hb x List.mem_cons_self h2)]
     simp
    rw[e]
    exact⟨fun h=>⟨⟨fun _=>h.1,fun _ h3=>absurd h2 h3⟩,h.2⟩,fun h=>⟨h.1.1 h2,h.2⟩⟩
   ·rw[if_neg h2,Bool.and_eq_true,ih]
    exact⟨fun h=>⟨⟨fun h3=>absurd h3 h2,fun _ _=>h.1⟩,h.2⟩,fun h=>⟨h.1.2 h1 h2,h.2⟩⟩
theorem mem_insts{F:List Stp}{c:Clause}:∀{ps:List Atom}{K:Bind}{frm:List Int}{x:Bind×List Int},x∈insts F c ps K frm↔∃js,ChainI F ps K js x.1/\restOk F x.1 c.body=true/\x.2=frm++js
 |[],K,frm,x=>by
  unfold insts
  constructor
  ·intro h
   split at h
   ·rename_i hr
    simp at h
    subst h
    exact⟨[],⟨rfl,rfl⟩,hr,by simp⟩
   ·cases h
  ·rintro⟨js,⟨rfl,h2⟩,h3,h4⟩
   rw[<-h2,if_pos h3]
   obtain⟨x1,x2⟩:=x
   simp at h4
   subst h4
   simp
 |p::ps,K,frm,x=>by
  unfold insts
  rw[List.mem_flatMap]
  constructor
  ·rintro⟨j,hj,h⟩
   split at h
   ·rename_i s hs
    split at h
    ·rename_i R hR
     obtain⟨js,h1,h2,h3⟩:=mem_insts.1 h
     exact⟨(j:Int)::js,⟨j,s,R,js,hs,hR,rfl,h1⟩,h2,by rw[h3];simp⟩
    ·cases h
   ·cases h
  ·rintro⟨js,⟨j,s,K',js',h1,h2,h3,h4⟩,h5,h6⟩
   refine⟨j,List.mem_range.2 (List.getElem?_eq_some_iff.1 h1).1,?_⟩
   rw[h1]
   simp only[h2]
   exact mem_insts.2 ⟨js',h4,h5,by rw[h6,h3];simp⟩
def headsI(F:List Stp)(c:Clause)(ci:Int):List Stp:=(insts F c (posL c.body) [] []).map fun x=>⟨fillA x.1 c.head,ci,x.2⟩
theorem foldI_fresh(F:List Stp)(c:Clause)(ci:Int)(l:List (Bind×List Int))(G:List Stp):foldI (fun G a frm=>freshF F G ⟨a,ci,frm⟩) c l G=(l.map fun x=>(⟨fillA x.1 c.head,ci,x.2⟩:Stp)).foldl (freshF F) G:=by
 unfold foldI
 rw[List.foldl_map]
theorem freshF_cases(F G:List Stp)(s:Stp):freshF F G s=G\/(freshF F G s=G++[s]/\hasF (atomX s.atom) F=false/\hasF (atomX s.atom) G=false):=by
 unfold freshF addF
 cases h1:hasF (atomX s.atom) F
 ·rw[if_neg (by simp)]
  by_cases h2:G.length<=300
  ·rw[if_pos h2]
   cases h3:hasF (atomX s.atom) G
   ·rw[if_neg (by simp)];exact .inr ⟨rfl,rfl,rfl⟩
   ·exact .inl (if_pos rfl)
  ·rw[if_neg h2];exact .inl rfl
 ·exact .inl (if_pos rfl)
theorem freshF_has{F G:List Stp}{s:Stp}(h:(freshF F G s).length<=300):hasF (atomX s.atom) F=true\/hasF (atomX s.atom) (freshF F G s)=true:=by
 cases h1:hasF (atomX s.atom) F
 ·right
  have hG:G.length<=300:=by have:=(freshF_len F G s).1;omega
  unfold freshF addF
  rw[h1,if_neg (by simp),if_pos hG]
  cases h3:hasF (atomX s.atom) G
  ·rw[if_neg (by simp)]
   exact hasF_iff.2 ⟨s,by simp,rfl⟩
  ·rw[if_pos rfl];exact h3
 ·exact .inl rfl
theorem hasF_app{k:ByteArray}{G X:List Stp}(h:hasF k G=true):hasF k (G++X)=true:=by
 obtain⟨q,hq,e⟩:=hasF_iff.1 h
 exact hasF_iff.2 ⟨q,List.mem_append_left _ hq,e⟩
theorem fresh_pre(F:List Stp):∀(l G:List Stp),∃X,l.foldl (freshF F) G=G++X/\∀q∈X,q∈l
 |[],G=>⟨[],by simp,fun q hq=>by cases hq⟩
 |s::l,G=>by
  obtain⟨X,hX,hX2⟩:=fresh_pre F l (freshF F G s)
  rw[List.foldl_cons,hX]
  rcases freshF_cases F G s with e|⟨e,_⟩
  ·exact⟨X,by rw[e],fun q hq=>List.mem_cons_of_mem _ (hX2 q hq)⟩
  ·refine⟨s::X,by rw[e];simp,fun q hq=>?_⟩
   rcases List.mem_cons.1 hq with rfl|hq
   ·exact List.mem_cons_self
   ·exact List.mem_cons_of_mem _ (hX2 q hq)
theorem fresh_full(F:List Stp):∀(l G:List Stp),(l.foldl (freshF F) G).length<=300->∀s∈l,hasF (atomX s.atom) F=true\/hasF (atomX s.atom) (l.foldl (freshF F) G)=true
 |[],G,_,s,hs=>by cases hs
 |q::l,G,h,s,hs=>by
  rw[List.foldl_cons]at h ⊢
  rcases List.mem_cons.1 hs with rfl|hs
  ·obtain⟨X,hX,_⟩:=fresh_pre F l (freshF F G s)
   rw[hX]at h ⊢
   rw[List.length_append]at h
   rcases freshF_has (F:=F) (G:=G) (s:=s) (by omega) with h1|h1
   ·exact .inl h1
   ·exact .inr (hasF_app h1)
  ·exact fresh_full F l _ h s hs
theorem fresh_max(F:List Stp):∀(l G:List Stp),G.length<=301->(l.foldl (freshF F) G).length<=301
 |[],_,h=>h
 |s::l,G,h=>fresh_max F l _ (freshF_max h)
def DistF(F G:List Stp):Prop:=(G.map fun q=>atomX q.atom).Nodup/\∀q∈G,hasF (atomX q.atom) F=false
theorem DistF.nil(F:List Stp):DistF F []:=⟨.nil,fun q hq=>by cases hq⟩
theorem freshF_dist{F G:List Stp}{s:Stp}(h:DistF F G):DistF F (freshF F G s):=by
 rcases freshF_cases F G s with e|⟨e,h1,h2⟩
 ·rw[e];exact h
 ·rw[e]
  refine⟨?_,fun q hq=>?_⟩
  ·rw[List.map_append]
   refine List.nodup_append.2 ⟨h.1,by simp,fun x hx y hy hxy=>?_⟩
   simp at hy
   subst hy
   obtain⟨q,hq,e⟩:=List.mem_map.1 hx
   have:hasF (atomX s.atom) G=true:=hasF_iff.2 ⟨q,hq,by rw[e,hxy]⟩
   rw[h2]at this
   cases this
  ·rcases List.mem_append.1 hq with hq|hq
   ·exact h.2 q hq
   ·simp at hq
    subst hq
    exact h1
theorem fresh_dist(F:List Stp):∀(l G:List Stp),DistF F G->DistF F (l.foldl (freshF F) G)
 |[],_,h=>h
 |_::l,_,h=>fresh_dist F l _ (freshF_dist h)
theorem addF_all:∀{G F:List Stp},DistF F G->G.foldl addF F=F++G
 |[],F,_=>by simp
 |s::G,F,h=>by
  obtain⟨h1,h2⟩:=h
  have e:addF F s=F++[s]:=by unfold addF;rw[h2 s List.mem_cons_self,if_neg (by simp)]
  rw[List.map_cons,List.nodup_cons]at h1
  rw[List.foldl_cons,e,addF_all ⟨h1.2,fun q hq=>?_⟩]
  ·simp
  ·cases hh:hasF (atomX q.atom) (F++[s])
   ·rfl
   ·obtain⟨r,hr,er⟩:=hasF_iff.1 hh
    rcases List.mem_append.1 hr with hr|hr
    ·have:hasF (atomX q.atom) F=true:=hasF_iff.2 ⟨r,hr,er⟩
     rw[h2 q (List.mem_cons_of_mem _ hq)]at this
     cases this
    ·simp at hr
     subst hr
     exact absurd (List.mem_map.2 ⟨q,hq,er.symm⟩) h1.1
end Go.Abs.Tz
namespace Go.Abs.Tz
open Go Go.Abs Go.Proofs
set_option maxRecDepth 20000
set_option linter.unusedSimpArgs false
attribute [local simp ↓] getP_nil getP_node setP_nil setP_node oneP_eq vP_map vP_some vP_none vP_bind eP_some bP_true bP_false gP_yes gP_tf gP_ft gP_tup runP_skip runP_ops runP_drw runP_seq runP_cond runP_blk runP_loop runP_exit runP_ret seqK_n seqK_r seqK_e seqK_p blkK_n blkK_r blkK_e blkK_p loopK_n loopK_r loopK_e loopK_p finK_n finK_r finK_p resP_one resP_two resP_three resP_nil resP_c nxP_nil argsP_nil argsP_cons evP_t evP_c evP_g evsP_nil evsP_cons clP_fn pnP_i opsP_nil opsP_d opsP_x opsP_gt opsP_gf opP_cf opP_cl opP_pn opP_nx valP_mv valP_pk valP_eq valP_bn valP_nt valP_ld valP_fa valP_fd valP_ia valP_ix valP_ln valP_srn valP_srl valP_srh valP_srb valP_cv valP_mi valP_mf valP_xt valP_bs valP_bd valP_nc valP_mn valP_lk valP_ta opP_mv opP_pk opP_eq opP_bn opP_nt opP_ld opP_fa opP_fd opP_ia opP_ix opP_ln opP_sr opP_cv opP_mi opP_mf opP_xt opP_bs opP_bd opP_nc opP_mn opP_lk opP_ta opP_al opP_bx opP_st opP_ap opP_mk opP_nb opP_mu opP_rg opP_en pendP_nil pendP_d pendP_g drwP_nil drwP_d drwP_x drwP_gt drwP_gf look_self natOf_nat
attribute [local simp] faL fdL iaL ixL loadL partL lenL eqK eqL natOf eqB_s eqB_i eqB_b bn_add bn_sub bn_lss bn_leq bn_gtr bn_geq bn_adds bn_lsss bn_gtrs bn_leqs bn_geqs sliceL LV.cells LV.whole look_self put_self putO_self put_eq stL fillL termC dopP LHeap.alloc oneI oneS oneB nth0 nth1 nth2 nth3 nth4 nth5 nth6 nth7 nth8 nth9 look_ne putO_ne
structure NNG2 where
 i:Nat
 n:Nat
 e:Bind
structure NNRs where
 i:Nat
 n:Nat
def rest121:BCode:=match b94.body with
 |.seq _ (.seq r _)=>r
 |_=>.bad
theorem t_rest(c:Clause)(hb:c.body.length<2^40)(K:Bind)(hn:(keysB K).Nodup)(hargs:∀x∈c.body,x.atom.args.length<=2^20)(hok:∀x∈c.body,x.kind=2->atomOk (fillA K x.atom)=true)
  (F:List Stp) (fo am:Nat) (ownF:Own) (ko t1 t3 t5 t6:Nat) (k:Int) (z2 z4:LV) (ob:List (Nat×LObj)) (n:Nat) (hF:FactsAt ob fo am F ownF) (hko:look ko ob=some (.um (encE K))) (l3:look t3 ob=some (.cells [.ptr fo 0])) (l5:look t5 ob=some (.cells (clauseC c)))
  {KX:XP} (hx1:restOk F K c.body=true->∀n',n<=n'->KX .normal ((.nd (.map ko) (.nd (.ptr t1 0) (.nd (.ptr t3 0) .nil (.nd .bot .nil (.nd .bot .nil (.nd (.int c.body.length) .nil .nil)))) (.nd (.ptr t5 0) (.nd .bot .nil (.nd .bot .nil (.nd (bodyL c.body) .nil .nil))) .nil)) (.nd .bot (.nd .bot .nil (.nd .bot .nil (.nd .bot .nil (.nd (.sc (.bool false)) .nil .nil)))) (.nd (.ptr t6 0) (.nd .bot .nil (.nd .bot .nil (.nd (.int c.body.length) .nil .nil))) .nil)))) ⟨ob,n'⟩)
  (hx2:restOk F K c.body=false->∀t' H' n',n<=n'->HWk H' ⟨ob,n'⟩->(H'.Ok->LHeap.Ok ⟨ob,n'⟩)->KX .ret t' H'):
  lP E0 F0 rest121 ((.nd (.map ko) (.nd (.ptr t1 0) (.nd (.ptr t3 0) .nil .nil) (.nd (.ptr t5 0) .nil .nil)) (.nd .bot .nil (.nd (.ptr t6 0) .nil .nil)))) ⟨ob,n⟩ KX:=by
 refine lP_okH fun hH=>lP_of_run ?_
 have b3:t3<n:=hH.look l3
 have b5:t5<n:=hH.look l5
 have bf:fo<n:=hH.look hF.pair
 have bm:am<n:=hH.look hF.map
 have bk:ko<n:=hH.look hko
 simp(disch:=omega)[rest121,b94,l5]
 obtain⟨A,hA⟩:∃A,restOk F K c.body=A:=⟨_,rfl⟩
 rw[hA]at hx1 hx2
 refine lP_enter (σ:=NNRs) (fun q=>(.nd (.map ko) (.nd (.ptr t1 0) (.nd (.ptr t3 0) .nil (.nd .bot .nil (.nd .bot .nil (.nd (.int q.i) .nil .nil)))) (.nd (.ptr t5 0) (.nd .bot .nil (.nd .bot .nil (.nd (bodyL c.body) .nil .nil))) .nil)) (.nd .bot .nil (.nd (.ptr t6 0) (.nd .bot .nil (.nd .bot .nil (.nd (.int c.body.length) .nil .nil))) .nil)))) (fun q=>⟨ob,q.n⟩) (fun q=>c.body.length - q.i)
  (fun q=>n<=q.n/\q.i<=c.body.length/\restOk F K (c.body.drop q.i)=A) ⟨0,n⟩ ⟨Nat.le_refl _,Nat.zero_le _,by simpa using hA⟩ (by simp[FT.Le,Wk]) ⟨HWk.refl _,fun h=>h⟩ ?_
 rintro⟨i,m⟩ ⟨hm,hi,he⟩ hok1
 dsimp only at hm hi he hok1
 by_cases hlt:i<c.body.length
 case neg=>
  rw[List.drop_eq_nil_of_le (by omega)]at he
  have hA1:A=true:=he.symm
  obtain rfl:i=c.body.length:=by omega
  simp(disch:=omega)[hlt]
  exact hx1 hA1 m hm
 rw[List.drop_eq_getElem_cons hlt]at he
 simp only[restOk]at he
 have hback:∀(m2:Nat)(x:LObj),m+1<=m2->HWk ⟨(m,x)::ob,m2⟩ ⟨ob,m2⟩/\(LHeap.Ok ⟨(m,x)::ob,m2⟩->LHeap.Ok ⟨ob,m2⟩):=fun m2 x h2=>back (H:=⟨ob,m⟩) hok1 (HExt.cons hok1 (Nat.le_refl _) (HExt.refl (Nat.le_refl _)) (by dsimp only;omega))
 have hmem:c.body[i]∈c.body:=List.getElem_mem hlt
 have hnx:IntKind.wrap .i64 ((i:Int)+1)=((i+1:Nat):Int):=wrap_nat (show i<2^62 by omega)
 by_cases k1:c.body[i].kind=1
 ·rw[if_pos k1]at he
  simp(disch:=omega)[hlt,k1,wrap_nat (show i<2^62 by omega)]
  obtain⟨g1,g2⟩:=hback (m+1) (.cells (litC c.body[i])) (Nat.le_refl _)
  exact⟨⟨i+1,m+1⟩,by dsimp only;omega,⟨by dsimp only;omega,by dsimp only;omega,he⟩,by simp[FT.Le,Wk],by simpa [litC,k1] using g1,by simpa [litC,k1] using g2⟩
 rw[if_neg k1]at he
 by_cases k2:c.body[i].kind=2
 ·rw[if_pos k2]at he
  simp(disch:=omega)[hlt,k1,k2,l3,hF.pair]
  refine t_filledM c.body[i].atom (hargs _ hmem) K hn ko _ (by dsimp only;rw[look_ne (by omega)];exact hko) fun m2 hm2=>?_
  dsimp only at hm2
  simp(disch:=omega)[l3,hF.pair]
  refine(t_show _ (hok _ hmem k2)).go fun m3 hm3=>?_
  simp(disch:=omega)[l3,hF.pair]
  rw[lkM (by rw[look_ne (by omega)];exact hF.map)]
  have hh:hasF (atomX (fillA K c.body[i].atom)) F=(lookM (atomX (fillA K c.body[i].atom)) (idxF F 0)).isSome:=rfl
  cases hl:lookM (atomX (fillA K c.body[i].atom)) (idxF F 0) with
  |some v=>
   rw[hh,hl]at he
   have hA0:A=false:=he.symm
   simp(disch:=omega)[l3,hF.pair]
   obtain⟨g1,g2⟩:=hback m3 (.cells (litC c.body[i])) (by omega)
   exact hx2 hA0 _ _ m3 (by omega) (by simpa [litC,k2] using g1) (by simpa [litC,k2] using g2)
  |none=>
   rw[hh,hl]at he
   simp(disch:=omega)[l3,hF.pair,wrap_nat (show i<2^62 by omega)]
   obtain⟨g1,g2⟩:=hback m3 (.cells (litC c.body[i])) (by omega)
   exact⟨⟨i+1,m3⟩,by dsimp only;omega,⟨by dsimp only;omega,by dsimp only;omega,by simpa using he⟩,by simp[FT.Le,Wk],by simpa [litC,k2] using g1,by simpa [litC,k2] using g2⟩
 rw[if_neg k2]at he
 simp(disch:=omega)[hlt,k1,k2]
 refine t_comparesM c.body[i] K hn ko _ (by dsimp only;rw[look_ne (by omega)];exact hko) fun m2 hm2=>?_
 dsimp only at hm2
 cases hc:cmpLit K c.body[i]
 ·rw[hc]at he
  have hA0:A=false:=he.symm
  simp(disch:=omega)
  obtain⟨g1,g2⟩:=hback m2 (.cells (litC c.body[i])) hm2
  exact hx2 hA0 _ _ m2 (by omega) g1 g2
 ·rw[hc]at he
  simp(disch:=omega)[wrap_nat (show i<2^62 by omega)]
  obtain⟨g1,g2⟩:=hback m2 (.cells (litC c.body[i])) hm2
  exact⟨⟨i+1,m2⟩,by dsimp only;omega,⟨by dsimp only;omega,by dsimp only;omega,by simpa using he⟩,by simp[FT.Le,Wk],g1,g2⟩
def FromAt(ob:List (Nat×LObj))(v:LV)(frm:List Int):Prop:=(v=Nl/\frm=[])\/∃ao cs,v=.asl ao 0 frm.length/\look ao ob=some (.arr 1 cs)/\frm.length<=cs.length/\cs.take frm.length=frm.map LV.int
theorem t_cloneFrom{ob:List (Nat×LObj)}{v:LV}{frm:List Int}(h:FromAt ob v frm)(hl:frm.length<=2^40){n:Nat}{kv kp:HP}(hk:kv (.sl (frm.map LV.int) .no) ⟨ob,n⟩):cP E0 F0 95 [v] ⟨ob,n⟩ kv kp:=by
 rcases h with⟨rfl,rfl⟩|⟨ao,cs,rfl,h1,h2,h3⟩
 ·exact t_clone_sl [] .full (by simp) _ hk
 ·exact t_clone_asl ⟨ob,n⟩ ao frm.length cs frm h1 h2 h3 hl hk
def head121:BCode:=match b94.body with
 |.seq h _=>h
 |_=>.bad
def tail121:BCode:=match b94.body with
 |.seq _ (.seq _ t)=>t
 |_=>.bad
theorem body121:b94.body=.seq head121 (.seq rest121 tail121):=rfl
theorem FromAt.len{ob:List (Nat×LObj)}{v:LV}{frm:List Int}(h:FromAt ob v frm)(H:LHeap):lenL H 1 v=some frm.length:=by
 rcases h with⟨rfl,rfl⟩|⟨ao,cs,rfl,_⟩<;>rfl
def plainO:LObj->Bool
 |.cells _=>true
 |.map _=>true
 |.tok _ _=>true
 |_=>false
def StatOk(L ob:List (Nat×LObj)):Prop:=∀p∈L,look p.1 ob=some p.2
structure Doer(σ:Type) where
 fn:FuncId
 cap:List LV
 Stat:List (Nat×LObj)
 At:List (Nat×LObj)->σ->(Nat->Prop)->Prop
 step:σ->Atom->List Int->σ
 lim:σ->Prop
 lim_step:∀s a frm,lim s->lim (step s a frm)
 at_look:∀(ob:List (Nat×LObj))(s:σ)(S:Nat->Prop)(i:Nat),At ob s S->S i->∃x,look i ob=some x/\plainO x=true
 at_keep:∀(ob ob':List (Nat×LObj))(s:σ)(S:Nat->Prop),At ob s S->(∀i,S i->look i ob'=look i ob)->At ob' s S
 ok:∀(ob:List (Nat×LObj))(n:Nat)(s:σ)(S:Nat->Prop)(a:Atom)(frm:List Int)(kv kp:HP),lim s->atomOk a=true->At ob s S->StatOk Stat ob->(∀p∈Stat,¬S p.1)->NoIt ob ->
  (∀ob' n' S',n<=n'->At ob' (step s a frm) S'->(∀i,S' i->S i\/n<=i)->NoIt ob'->(∀i,i<n->¬S i->look i ob'=look i ob)->kv (.tup []) ⟨ob',n'⟩) ->
  cP E0 F0 fn ([atomL a,.sl (frm.map LV.int) .no]++cap) ⟨ob,n⟩ kv kp
structure ChI where
 c:Clause
 F:List Stp
 fo:Nat
 am:Nat
 ownF:Own
 ow:Own
 t1:Nat
 t2:Nat
 t3:Nat
 t4:Nat
 t5:Nat
 t6:Nat
 L:List (Nat×LObj)
structure ChOk{σ:Type}(D:Doer σ)(I:ChI):Prop where
 good:CGood I.c
 hDL:∀p∈D.Stat,p∈I.L
 pl:∀p∈I.L,plainO p.2=true
 hF:∀ob,StatOk I.L ob->FactsAt ob I.fo I.am I.F I.ownF
 Fg:∀s∈I.F,atomG s.atom
 Fl:I.F.length<=2^20
 t1L:∀p∈I.L,p.1≠I.t1
 e2:(I.t2,LObj.cells [.sl ((posL I.c.body).map atomL) I.ow])∈I.L
 e3:(I.t3,LObj.cells [.ptr I.fo 0])∈I.L
 e4:(I.t4,LObj.cells [.fn (.func 94) [] [.ptr I.t1 0,.ptr I.t2 0,.ptr I.t3 0,.ptr I.t4 0,.ptr I.t5 0,.ptr I.t6 0]])∈I.L
 e5:(I.t5,LObj.cells (clauseC I.c))∈I.L
 e6:(I.t6,LObj.cells [.fn (.func D.fn) [] D.cap])∈I.L
structure ChAt{σ:Type}(D:Doer σ)(I:ChI)(ob:List (Nat×LObj))(G:σ)(S:Nat->Prop)(frm:List Int)(fv:LV):Prop where
 st:StatOk I.L ob
 at_:D.At ob G S
 sep:∀p∈I.L,¬S p.1
 c1:look I.t1 ob=some (.cells [fv])
 t1S:¬S I.t1
 fr:FromAt ob fv frm
 ni:NoIt ob
def KeptC(I:ChI)(n:Nat)(S:Nat->Prop)(fv:LV)(ob ob':List (Nat×LObj)):Prop:=∀i,i<n->¬S i->i≠I.t1->(∀a o l,fv=.asl a o l->i≠a)->look i ob'=look i ob
section
variable{σ:Type}{D:Doer σ}{I:ChI}
theorem ChAt.notS(hC:ChOk D I){ob:List (Nat×LObj)}{G:σ}{S:Nat->Prop}{frm:List Int}{fv:LV}(h:ChAt D I ob G S frm fv){i:Nat}{x:LObj}(hl:look i ob=some x)(hx:plainO x=false):¬S i:=fun hs=>by
 obtain⟨y,h1,h2⟩:=D.at_look _ _ _ _ h.at_ hs
 rw[hl]at h1
 cases h1
 rw[hx]at h2
 cases h2
theorem FromAt.keep{ob ob':List (Nat×LObj)}{v:LV}{frm:List Int}(h:FromAt ob v frm)(hk:∀a o l,v=.asl a o l->look a ob'=look a ob):FromAt ob' v frm:=by
 rcases h with h|⟨ao,cs,h1,h2,h3⟩
 ·exact .inl h
 ·exact .inr ⟨ao,cs,h1,by rw[hk _ _ _ h1];exact h2,h3⟩
theorem t_choose0(hC:ChOk D I)(K:Bind)(frm:List Int)(G:σ)(hK:GoodB K)(hb:∀p∈posL I.c.body,BoundIn K p.args)(hpos:(posL I.c.body).length=frm.length)(hfl:frm.length<=2^20)(hlim:D.lim G)
  (ob:List (Nat×LObj)) (n:Nat) (S:Nat->Prop) (fv:LV) (ko:Nat) (h:ChAt D I ob G S frm fv) (hko:look ko ob=some (.um (encE K))) {kv kp:HP}
  (hk:∀ob' n' S' fv',n<=n'->ChAt D I ob' (foldI D.step I.c (insts I.F I.c [] K frm) G) S' frm fv'->(∀i,S' i->S i\/n<=i)->(∀a o l,fv'=.asl a o l->n<=a\/∃o2 l2,fv=.asl a o2 l2)->KeptC I n S fv ob ob'->kv (.tup []) ⟨ob',n'⟩):
  cP E0 F0 94 [.map ko,.ptr I.t1 0,.ptr I.t2 0,.ptr I.t3 0,.ptr I.t4 0,.ptr I.t5 0,.ptr I.t6 0] ⟨ob,n⟩ kv kp:=by
 refine cP_of_lP c94 (Nat.le_of_ble_eq_true rfl) fun hH=>?_
 rw[body121]
 have hF:=hC.hF ob h.st
 have l1:=h.c1
 have l2:look I.t2 ob=some (.cells [.sl ((posL I.c.body).map atomL) I.ow]):=h.st _ hC.e2
 have l3:look I.t3 ob=some (.cells [.ptr I.fo 0]):=h.st _ hC.e3
 have l5:look I.t5 ob=some (.cells (clauseC I.c)):=h.st _ hC.e5
 have l6:look I.t6 ob=some (.cells [.fn (.func D.fn) [] D.cap]):=h.st _ hC.e6
 have b1:I.t1<n:=hH.look l1
 have b5:I.t5<n:=hH.look l5
 have b6:I.t6<n:=hH.look l6
 obtain⟨cp1,cp2,cp3⟩:=clause_parts hC.good.ok
 obtain⟨g1,g2⟩:=hC.good.leaf hK hb
 have hargs:∀x∈I.c.body,x.atom.args.length<=2^20:=fun x hx=>by have:=lit_args (cp3 x hx);omega
 have hh:I.c.head.args.length<=2^20:=by have:=(atom_args cp1).1;omega
 have hlt:¬(frm.length:Int)<(((posL I.c.body).length:Nat):Int):=by omega
 simp(disch:=omega)
 refine lP_seq (lP_of_run ?_)
 simp(disch:=omega)[head121,b94,l1,l2]
 refine⟨frm.length,h.fr.len ⟨ob,n⟩,?_⟩
 simp(disch:=omega)[l2,hlt]
 show lP E0 F0 (.seq rest121 tail121) _ _ _
 refine lP_weak (t':=(.nd (.map ko) (.nd (.ptr I.t1 0) (.nd (.ptr I.t3 0) .nil .nil) (.nd (.ptr I.t5 0) .nil .nil)) (.nd .bot .nil (.nd (.ptr I.t6 0) .nil .nil)))) (fun l h=>by cases h) (by simp[FT.Le,Wk]) (HWk.refl _) (fun h=>h) ?_
 refine lP_seq (t_rest I.c (by omega) K hK.nd hargs (fun x hx hk2=>(g1 x hx hk2).1) I.F I.fo I.am I.ownF ko I.t1 I.t3 I.t5 I.t6 0 .bot .bot ob n hF hko l3 l5 (fun hr n2 hn2=>?_) (fun hr t' H' n2 hn2 hwk hok2=>?_))
 ·show lP E0 F0 tail121 _ _ _
  refine lP_of_run ?_
  simp(disch:=omega)[tail121,b94,l1,l5,l6]
  refine t_filledM I.c.head hh K hK.nd ko ⟨ob,n2⟩ hko fun n3 hn3=>?_
  dsimp only at hn3
  simp(disch:=omega)[l1,l5,l6]
  refine t_cloneFrom h.fr (by omega) ?_
  simp(disch:=omega)[l1,l5,l6]
  have e:foldI D.step I.c (insts I.F I.c [] K frm) G=D.step G (fillA K I.c.head) frm:=by simp[foldI,insts,hr]
  rw[e]at hk
  refine D.ok ob n3 G S (fillA K I.c.head) frm _ _ hlim g2.1 h.at_ (fun p hp=>h.st p (hC.hDL p hp)) (fun p hp=>h.sep p (hC.hDL p hp)) h.ni fun ob' n4 S' hn4 hA' hS' hni hsame=>?_
  simp(disch:=omega)[resP_nil]
  have hst:StatOk I.L ob':=fun p hp=>by
   rw[hsame _ ?_ (h.sep p hp)]
   ·exact h.st p hp
   ·have:p.1<n:=hH.look (h.st p hp)
    omega
  refine⟨_,HWk.refl _,fun h=>h,hk ob' n4 S' fv (by omega) ⟨hst,hA',fun p hp hs=>?_,?_,fun hs=>?_,h.fr.keep fun a o l he=>?_,hni⟩ (fun i hi=>(hS' i hi).imp id fun h=>by omega) (fun a o l he=>.inr ⟨o,l,he⟩) fun i hi h1 _ _=>hsame i (by omega) h1⟩
  ·have:p.1<n:=hH.look (h.st p hp)
   rcases hS' _ hs with h1|h1
   ·exact h.sep p hp h1
   ·omega
  ·rw[hsame _ (by omega) h.t1S];exact l1
  ·rcases hS' _ hs with h1|h1
   ·exact h.t1S h1
   ·omega
  ·rcases h.fr with⟨e1,_⟩|⟨ao,cs,e1,e2,_⟩
   ·rw[e1]at he;cases he
   ·rw[e1]at he
    simp only[LV.asl.injEq]at he
    obtain⟨rfl,rfl,rfl⟩:=he
    have:=hH.look e2
    dsimp only at this
    exact hsame _ (by omega) (h.notS hC e2 rfl)
 ·have e:foldI D.step I.c (insts I.F I.c [] K frm) G=G:=by simp[foldI,insts,hr]
  rw[e]at hk
  show resP E0 b94.res t' H' _
  rw[show b94.res=[] from rfl,resP_nil]
  exact⟨_,hwk,hok2,hk ob n2 S fv hn2 h (fun i hi=>.inl hi) (fun a o l he=>.inr ⟨o,l,he⟩) fun _ _ _ _ _=>rfl⟩
end
theorem look_delO_ne{i j:Nat}(h:i≠j)(l:List (Nat×LObj)):look i (delO j l)=look i l:=by rw[look_del,if_neg h]
theorem look_delO_or{j:Nat}{l:List (Nat×LObj)}{i:Nat}{x:LObj}(h:look i (delO j l)=some x):look i l=some x:=by
 rw[look_del]at h
 split at h
 ·cases h
 ·exact h
theorem NoIt.del{ob:List (Nat×LObj)}(h:NoIt ob)(m:Nat):NoIt (delO m ob):=noIt_iff.2 fun i y hy=>noIt_iff.1 h i y (look_delO_or hy)
theorem from_push{ob:List (Nat×LObj)}{v:LV}{frm:List Int}(h:FromAt ob v frm)(hl:frm.length<=2^20)(j:Int)(n:Nat):
  ∃ob',ap2L ⟨ob,n⟩ 1 v (.sl [.int j] .full)=some (.asl n 0 (frm.length+1),⟨ob',n+1⟩)/\FromAt ob' (.asl n 0 (frm.length+1)) (frm++[j])/\(NoIt ob->NoIt ob')/\∀i,i≠n->(∀a o l,v=.asl a o l->i≠a)->look i ob'=look i ob:=by
 rcases h with⟨rfl,rfl⟩|⟨ao,cs,rfl,h1,h2,h3⟩
 ·refine⟨(n,.arr 1 [.int j])::ob,rfl,.inr ⟨n,[.int j],rfl,look_self _ _ _,by simp,by simp⟩,fun hI=>hI.cons _ rfl,fun i hi _=>look_ne hi _ _⟩
 ·have e:srcL ⟨ob,n⟩ 1 (.asl ao 0 frm.length)=some (cs.take (frm.length*1),⟨delO ao ob,n⟩,frm.length):=by
   simp only[srcL,h1]
   rw[if_pos ⟨trivial,by omega⟩]
   rfl
  have e2:rowL ⟨ob,n⟩ 1 (.sl [.int j] .full)=some ([.int j],1):=rfl
  refine⟨(n,.arr 1 (cs.take (frm.length*1)++[.int j]))::delO ao ob,?_,.inr ⟨n,_,by simp,look_self _ _ _,?_,?_⟩,fun hI=>(hI.del _).cons _ rfl,fun i hi hne=>?_⟩
  ·unfold ap2L
   rw[e,e2]
   simp only
   rw[if_neg (by omega),if_pos ⟨by omega,by omega⟩]
   rfl
  ·simp only[List.length_append,List.length_take,List.length_cons,List.length_nil]
   omega
  ·rw[Nat.mul_one,h3,List.take_of_length_le (by simp),List.map_append]
   rfl
  ·rw[look_ne hi,look_delO_ne (hne ao 0 frm.length rfl)]
structure NNCh(σ:Type) where
 i:Nat
 n:Nat
 ob:List (Nat×LObj)
 G:σ
 S:Nat->Prop
 fv:LV
section
variable{σ:Type}{D:Doer σ}{I:ChI}
def instsF(F:List Stp)(c:Clause)(p:Atom)(ps:List Atom)(K:Bind)(frm:List Int)(i:Nat):List (Bind×List Int):=((List.range F.length).drop i).flatMap fun j=>match F[j]? with
  |some s=>match bindKA K p s.atom with
   |some R=>insts F c ps R (frm++[(j:Int)])
   |none=>[]
  |none=>[]
theorem instsF_step(F:List Stp)(c:Clause)(p:Atom)(ps:List Atom)(K:Bind)(frm:List Int){i:Nat}(h:i<F.length):instsF F c p ps K frm i=(match bindKA K p F[i].atom with
   |some R=>insts F c ps R (frm++[(i:Int)])
   |none=>[])++instsF F c p ps K frm (i+1):=by
 unfold instsF
 rw[List.drop_eq_getElem_cons (by simpa using h),List.flatMap_cons]
 congr 1
 rw[List.getElem_range,List.getElem?_eq_getElem h]
theorem foldI_app{step:σ->Atom->List Int->σ}{c:Clause}(l m:List (Bind×List Int))(s:σ):foldI step c (l++m) s=foldI step c m (foldI step c l s):=List.foldl_append ..
theorem foldI_lim(c:Clause):∀(l:List (Bind×List Int))(s:σ),D.lim s->D.lim (foldI D.step c l s)
 |[],_,h=>h
 |x::l,s,h=>foldI_lim c l _ (D.lim_step s _ _ h)
theorem t_choose(hC:ChOk D I):∀(ps:List Atom)(don:List Atom)(K:Bind)(frm:List Int)(G:σ),posL I.c.body=don++ps->don.length=frm.length->GoodB K->(∀p∈don,BoundIn K p.args)->D.lim G ->
  ∀(ob:List (Nat×LObj))(n:Nat)(S:Nat->Prop)(fv:LV)(ko:Nat),ChAt D I ob G S frm fv->look ko ob=some (.um (encE K))->∀{kv kp:HP},
  (∀ob' n' S' fv',n<=n'->ChAt D I ob' (foldI D.step I.c (insts I.F I.c ps K frm) G) S' frm fv'->(∀i,S' i->S i\/n<=i)->(∀a o l,fv'=.asl a o l->n<=a\/∃o2 l2,fv=.asl a o2 l2)->KeptC I n S fv ob ob'->kv (.tup []) ⟨ob',n'⟩) ->
  cP E0 F0 94 [.map ko,.ptr I.t1 0,.ptr I.t2 0,.ptr I.t3 0,.ptr I.t4 0,.ptr I.t5 0,.ptr I.t6 0] ⟨ob,n⟩ kv kp
 |[],don,K,frm,G,hp,hd,hK,hb,hlim,ob,n,S,fv,ko,h,hko,_,_,hk=>by
  rw[List.append_nil]at hp
  have hpl:(posL I.c.body).length<=5:=by
   obtain⟨_,h2,_⟩:=clause_parts hC.good.ok
   unfold posL
   rw[List.length_map]
   exact Nat.le_trans (List.length_filter_le _ _) h2
  exact t_choose0 hC K frm G hK (by rw[hp];exact hb) (by rw[hp,hd]) (by rw[<-hd,<-hp];omega) hlim ob n S fv ko h hko hk
 |p::ps,don,K,frm,G,hp,hd,hK,hb,hlim,ob,n,S,fv,ko,h,hko,kv,kp,hk=>by
  have hpl:(posL I.c.body).length<=5:=by
   obtain⟨_,h2,_⟩:=clause_parts hC.good.ok
   unfold posL
   rw[List.length_map]
   exact Nat.le_trans (List.length_filter_le _ _) h2
  have hpl2:(posL I.c.body).length=frm.length+(ps.length+1):=by rw[hp,List.length_append,hd,List.length_cons]
  have hget:(posL I.c.body)[frm.length]? = some p:=by rw[hp,List.getElem?_append_right (by omega),hd];simp
  have hpok:atomOk p=true:=hC.good.posOk p (by rw[hp];simp)
  refine cP_of_lP c94 (Nat.le_of_ble_eq_true rfl) fun hH=>?_
  rw[body121]
  have hF:=hC.hF ob h.st
  have l1:=h.c1
  have l2:look I.t2 ob=some (.cells [.sl ((posL I.c.body).map atomL) I.ow]):=h.st _ hC.e2
  have l3:look I.t3 ob=some (.cells [.ptr I.fo 0]):=h.st _ hC.e3
  have hlt:(frm.length:Int)<(((posL I.c.body).length:Nat):Int):=by omega
  simp(disch:=omega)
  refine lP_seq (lP_of_run ?_)
  simp(disch:=omega)[head121,b94,l1,l2]
  refine⟨frm.length,h.fr.len ⟨ob,n⟩,?_⟩
  simp(disch:=omega)[l2,l3,hF.pair,hlt]
  obtain⟨A,hA⟩:∃A,foldI D.step I.c (insts I.F I.c (p::ps) K frm) G=A:=⟨_,rfl⟩
  rw[hA]at hk
  refine lP_enter (σ:=NNCh σ) (fun q=>(.nd (.map ko) (.nd (.ptr I.t1 0) (.nd (.ptr I.t3 0) .nil .nil) (.nd (.ptr I.t5 0) (.nd .bot .nil (.nd (.int I.F.length) .nil .nil)) .nil)) (.nd (.ptr I.t2 0) (.nd (.ptr I.t4 0) (.nd (.int frm.length) .nil .nil) .nil) (.nd (.ptr I.t6 0) (.nd .bot .nil (.nd (.int q.i) .nil .nil)) .nil)))) (fun q=>⟨q.ob,q.n⟩) (fun q=>I.F.length - q.i)
   (fun q=>n<=q.n/\q.i<=I.F.length/\D.lim q.G/\foldI D.step I.c (instsF I.F I.c p ps K frm q.i) q.G=A/\ChAt D I q.ob q.G q.S frm q.fv/\(∀i,q.S i->S i\/n<=i)/\(∀a o l,q.fv=.asl a o l->n<=a\/∃o2 l2,fv=.asl a o2 l2)/\KeptC I n S fv ob q.ob)
   ⟨0,n,ob,G,S,fv⟩ ⟨Nat.le_refl _,Nat.zero_le _,hlim,hA,h,fun i hi=>.inl hi,fun a o l he=>.inr ⟨o,l,he⟩,fun _ _ _ _ _=>rfl⟩ (by simp[FT.Le,Wk]) ⟨HWk.refl _,fun h=>h⟩ ?_
  rintro⟨i,m,ob1,G1,S1,fv1⟩ ⟨hm,hi,hlim1,hfold,h1,hS1,hfv1,hkept⟩ hok
  dsimp only at hm hi hlim1 hfold h1 hS1 hfv1 hkept hok
  by_cases hin:i<I.F.length
  case neg=>
   obtain rfl:i=I.F.length:=by omega
   have e:foldI D.step I.c (instsF I.F I.c p ps K frm I.F.length) G1=G1:=by
    unfold instsF
    rw[List.drop_eq_nil_of_le (by simp)]
    rfl
   rw[e]at hfold
   simp(disch:=omega)[resP_nil]
   exact⟨_,HWk.refl _,fun h=>h,hk ob1 m S1 fv1 hm (by rw[<-hfold];exact h1) hS1 hfv1 hkept⟩
  have hF1:=hC.hF ob1 h1.st
  have k1:=h1.c1
  have k2:look I.t2 ob1=some (.cells [.sl ((posL I.c.body).map atomL) I.ow]):=h1.st _ hC.e2
  have k3:look I.t3 ob1=some (.cells [.ptr I.fo 0]):=h1.st _ hC.e3
  have k4:=h1.st _ hC.e4
  dsimp only at k4
  have b1:I.t1<m:=hok.look k1
  have hge:(posL I.c.body)[frm.length]'(by omega)=p:=by
   rw[List.getElem?_eq_getElem (by omega)]at hget
   exact Option.some.inj hget
  have hkn:ko<n:=hH.look hko
  have hko1:look ko ob1=some (.um (encE K)):=by
   rw[hkept ko hkn (h.notS hC hko rfl) (fun e=>by rw[e,l1]at hko;cases hko) (fun a o l he e=>?_)]
   ·exact hko
   ·rcases h.fr with⟨e1,_⟩|⟨ao,cs,e1,e2,_⟩
    ·rw[e1]at he;cases he
    ·rw[e1]at he
     simp only[LV.asl.injEq]at he
     rw[he.1,<-e,hko]at e2
     cases e2
  simp(disch:=omega)[hin,k2,k3,hF1.pair,hge,hpl2]
  refine t_bindM p I.F[i].atom (atomOk_ok hpok) (atomOk_ok (hC.Fg _ (List.getElem_mem hin)).1) _ ko K hko1 (fun i m l k n hl=>absurd hl (h1.ni _ _ _ _ _)) hK.nd (fun hbn=>?_) (fun R hbr=>?_)
  ·rw[instsF_step _ _ _ _ _ _ hin,hbn]at hfold
   simp(disch:=omega)[k2,k3,hF1.pair,wrap_nat (show i<2^62 by have:=hC.Fl;omega)]
   exact⟨⟨i+1,m,ob1,G1,S1,fv1⟩,by dsimp only;omega,⟨hm,by dsimp only;omega,hlim1,hfold,h1,hS1,hfv1,hkept⟩,by simp[FT.Le,Wk],HWk.refl _,fun h=>h⟩
  ·rw[instsF_step _ _ _ _ _ _ hin,hbr,foldI_app]at hfold
   have hfr1:FromAt ((m+2,.um (encE R))::ob1) fv1 frm:=h1.fr.keep fun a o l he=>by
    rcases h1.fr with⟨e1,_⟩|⟨ao,cs,e1,e2,_⟩
    ·rw[e1]at he;cases he
    ·rw[e1]at he
     simp only[LV.asl.injEq]at he
     rw[<-he.1]
     have:=hok.look e2
     dsimp only at this
     exact look_ne (by omega) _ _
   have hfl:frm.length<=2^20:=by omega
   obtain⟨ob2,ha,hfr2,hni2,hkeep2⟩:=from_push hfr1 hfl (i:Int) (m+3)
   have hob2:∀j,j<m->(∀a o l,fv1=.asl a o l->j≠a)->look j ob2=look j ob1:=fun j hj hne=>by
    rw[hkeep2 j (by omega) hne,look_ne (by omega)]
   have hna:∀j x,look j ob1=some x->plainO x=true->∀a o l,fv1=.asl a o l->j≠a:=fun j x hx hpx a o l he e=>by
    rcases h1.fr with⟨e1,_⟩|⟨ao,cs,e1,e2,_⟩
    ·rw[e1]at he;cases he
    ·rw[e1]at he
     simp only[LV.asl.injEq]at he
     rw[he.1,<-e,hx]at e2
     cases e2
     cases hpx
   have hpl2':∀j x,look j ob1=some x->plainO x=true->look j ob2=some x:=fun j x hx hpx=>by
    rw[hob2 j (by have:=hok.look hx;exact this) (hna j x hx hpx)];exact hx
   have j1:look I.t1 ob2=some (.cells [fv1]):=hpl2' _ _ k1 rfl
   have j4:=hpl2' _ _ k4 rfl
   have ht41:I.t4≠I.t1:=hC.t1L _ hC.e4
   simp(disch:=omega)[k1,k2,k3,hF1.pair]
   refine effP_ap2 ?_
   simp(disch:=omega)[ha,j1]
   have hob3:∀j,j≠I.t1->look j (putO I.t1 (.cells [.asl (m+3) 0 (frm.length+1)]) ob2)=look j ob2:=fun j hj=>look_putO_ne hj
   obtain⟨ob3,hob3e⟩:∃ob3,putO I.t1 (.cells [.asl (m+3) 0 (frm.length+1)]) ob2=ob3:=⟨_,rfl⟩
   have j14:look I.t1 ob3=some (.cells [.asl (m+3) 0 (frm.length+1)]):=by rw[<-hob3e];exact look_putO j1
   have hni3:NoIt ob3:=by rw[<-hob3e];exact(hni2 (h1.ni.cons _ rfl)).put _ rfl
   rw[hob3e]at hob3 ⊢
   have j44:=(hob3 _ ht41).trans j4
   simp(disch:=omega)[j44]
   have hpl3:∀j x,j≠I.t1->look j ob1=some x->plainO x=true->look j ob3=some x:=fun j x hj hx hpx=>by rw[hob3 j hj];exact hpl2' j x hx hpx
   have hst3:StatOk I.L ob3:=fun q hq=>hpl3 _ _ (hC.t1L q hq) (h1.st q hq) (hC.pl q hq)
   have hS1t:∀j,S1 j->j≠I.t1:=fun j hj e=>h1.t1S (e▸hj)
   have hat3:D.At ob3 G1 S1:=D.at_keep _ _ _ _ h1.at_ fun j hj=>by
    obtain⟨x,hx,hpx⟩:=D.at_look _ _ _ _ h1.at_ hj
    rw[hx]
    exact hpl3 j x (hS1t j hj) hx hpx
   have hfr3:FromAt ob3 (.asl (m+3) 0 (frm.length+1)) (frm++[(i:Int)]):=hfr2.keep fun a o l he=>by
    simp only[LV.asl.injEq]at he
    exact hob3 a (by omega)
   have hne1:m+2≠I.t1:=by omega
   have hko3:look (m+2) ob3=some (.um (encE R)):=by
    rw[hob3 _ hne1,hkeep2 _ (by omega) (fun a o l he e=>?_),look_self]
    rcases h1.fr with⟨e1,_⟩|⟨ao,cs,e1,e2,_⟩
    ·rw[e1]at he;cases he
    ·rw[e1]at he
     simp only[LV.asl.injEq]at he
     have:=hok.look e2
     dsimp only at this
     omega
   obtain⟨gR,gX,gB,_⟩:=bindKA_spec hK (hC.Fg _ (List.getElem_mem hin)) hbr
   refine t_choose hC ps (don++[p]) R (frm++[(i:Int)]) G1 (by rw[hp];simp) (by simp[hd]) gR (fun q hq=>?_) hlim1 ob3 (m+4) S1 _ (m+2) ⟨hst3,hat3,h1.sep,j14,h1.t1S,hfr3,hni3⟩ hko3 fun ob4 n4 S4 fv4 hn4 h4 hS4 hfv4 hkept4=>?_
   ·rcases List.mem_append.1 hq with hq|hq
    ·exact(hb q hq).ext gX
    ·simp at hq
     subst hq
     exact gB
   have m1:=h4.c1
   obtain⟨a4,cs4,e4,f1,f2,f3⟩:∃ao cs,fv4=.asl ao 0 (frm.length+1)/\look ao ob4=some (.arr 1 cs)/\frm.length+1<=cs.length/\cs.take (frm.length+1)=(frm++[(i:Int)]).map LV.int:=by
    rcases h4.fr with⟨_,e⟩|⟨ao,cs,e1,e2,e3,e5⟩
    ·simp at e
    ·simp only[List.length_append,List.length_cons,List.length_nil]at e1 e3 e5
     exact⟨ao,cs,e1,e2,e3,e5⟩
   subst e4
   have hsl:sliceL 1 1 (.asl a4 0 (frm.length+1)) 0 frm.length=some (.asl a4 0 frm.length):=by
    simp[sliceL]
   simp(disch:=omega)[m1,wrap_nat (show i<2^62 by have:=hC.Fl;omega)]
   obtain⟨ob5,hob5e⟩:∃ob5,putO I.t1 (.cells [.asl a4 0 frm.length]) ob4=ob5:=⟨_,rfl⟩
   rw[hob5e]
   have hob5:∀j,j≠I.t1->look j ob5=look j ob4:=fun j hj=>by rw[<-hob5e];exact look_putO_ne hj
   have hS4t:∀j,S4 j->j≠I.t1:=fun j hj e=>h4.t1S (e▸hj)
   have ha4:n<=a4:=by
    rcases hfv4 _ _ _ rfl with h|⟨_,_,h⟩
    ·omega
    ·simp only[LV.asl.injEq]at h;omega
   refine⟨⟨i+1,n4,ob5,foldI D.step I.c (insts I.F I.c ps R (frm++[(i:Int)])) G1,S4,.asl a4 0 frm.length⟩,by dsimp only;omega,⟨by dsimp only;omega,by dsimp only;omega,foldI_lim _ _ _ hlim1,hfold,⟨?_,?_,h4.sep,?_,h4.t1S,?_,?_⟩,?_,?_,?_⟩,by simp[FT.Le,Wk],HWk.refl _,fun h=>h⟩
   ·exact fun q hq=>by
     rw[hob5 _ (hC.t1L q hq)];exact h4.st q hq
   ·exact D.at_keep _ _ _ _ h4.at_ fun j hj=>hob5 j (hS4t j hj)
   ·dsimp only
    rw[<-hob5e];exact look_putO m1
   ·refine .inr ⟨a4,cs4,rfl,?_,by omega,?_⟩
    ·dsimp only
     rw[hob5 _ (fun e=>by rw[e,m1]at f1;cases f1)];exact f1
    ·have:=congrArg (List.take frm.length) f3
     rw[List.take_take,Nat.min_eq_left (by omega),<-List.map_take,List.take_left]at this
     exact this
   ·dsimp only
    rw[<-hob5e];exact h4.ni.put _ rfl
   ·intro j hj
    rcases hS4 j hj with h|h
    ·exact hS1 j h
    ·exact .inr (by omega)
   ·intro a o l he
    simp only[LV.asl.injEq]at he
    exact .inl (by omega)
   ·intro j hj hjS hjt hja
    dsimp only
    rw[hob5 j hjt,hkept4 j (by omega) (fun hs=>?_) hjt (fun a o l he=>?_),hob3 j hjt,hob2 j (by omega) (fun a o l he=>?_)]
    ·exact hkept j hj hjS hjt hja
    ·rcases hfv1 a o l he with h|⟨_,_,h⟩
     ·omega
     ·exact hja _ _ _ h
    ·rcases hS1 j hs with h|h
     ·exact hjS h
     ·omega
    ·simp only[LV.asl.injEq]at he
     omega
end
theorem cP_um{f:FuncId}{args:List LV}{H:LHeap}{o:Nat}{es:List (LV×LV)}{kv kp:HP}(hl:look o H.objs=some (.map es))(h:cP E0 F0 f args (H.put o (.um es)) kv kp):cP E0 F0 f args H kv kp:=by
 intro hH
 have hC:CallOk Tryz.prog E0 f args (H.put o (.um es)) (CSP kv kp):=sound hmixT fnsT (h (Desc.put hH))
 exact .prim ⟨hC.1,fun G w us hI hE ha=>hC.2 G w us (hI.toUm hl (.refl _)) hE ha⟩
structure NNIn where
 i:Nat
 n:Nat
 xs:List Atom
 own:Own
 ob:List (Nat×LObj)
def loop57:BCode:=match b49.body with
 |.seq _ (.seq _ (.seq l _))=>l
 |_=>.bad
def rest57:BCode:=match b49.body with
 |.seq _ (.seq _ (.seq _ r))=>r
 |_=>.bad
abbrev cell57(c:Clause)(fv:LV)(fo n:Nat)(xs:List Atom)(own:Own)(ob:List (Nat×LObj)):List (Nat×LObj):=(n+1+1+1,.cells [.sl (xs.map atomL) own])::(n+1+1,.cells [fv])::(n+1,.cells (clauseC c))::(n,.cells [.ptr fo 0])::ob
theorem posL_take{b:List Lit}{i:Nat}(h:i<b.length):posL (b.take (i+1))=posL (b.take i)++(if b[i].kind=1 then [b[i].atom] else []):=by
 unfold posL
 rw[List.take_add_one,List.getElem?_eq_getElem h,List.filter_append,List.map_append]
 congr 1
 by_cases hk:b[i].kind=1
 ·simp[hk]
 ·simp[hk]
theorem hwk_skip{a n m:Nat}{y:LObj}{r:List (Nat×LObj)}(hr:Desc r a)(h:n<=m):HWk ⟨(a,y)::r,m⟩ ⟨r,m⟩:=by
 refine⟨Nat.le_refl _,fun i z hz=>?_⟩
 have:=hr.look hz
 rw[look_ne (by omega)]
 exact hz
theorem t_posLoop(c:Clause)(hc:c.body.length<=2^20)(fv:LV)(fo n:Nat)(ob:List (Nat×LObj))(hOb:Desc ob n){KX:XP}
  (hk:∀ow ob1 m,RowT ⟨cell57 c fv fo n (posL c.body) ow ob,n+1+1+1+1⟩ 2 (posL c.body).length ow ob1 m->KX .normal ((.nd .bot (.nd .bot (.nd (.ptr n 0) (.nd .bot (.nd (.sc (.bool false)) .nil .nil) .nil) .nil) (.nd (.ptr (n+1+1) 0) .nil (.nd (.int c.body.length) .nil .nil))) (.nd .bot (.nd (.ptr (n+1) 0) .nil (.nd (bodyL c.body) .nil .nil)) (.nd (.ptr (n+1+1+1) 0) .nil (.nd (.int c.body.length) .nil .nil))))) ⟨ob1,m⟩):
  lP E0 F0 loop57 ((.nd .bot (.nd .bot (.nd (.ptr n 0) .nil .nil) (.nd (.ptr (n+1+1) 0) .nil .nil)) (.nd .bot (.nd (.ptr (n+1) 0) .nil .nil) (.nd (.ptr (n+1+1+1) 0) .nil .nil)))) ⟨cell57 c fv fo n [] .full ob,n+1+1+1+1⟩ KX:=by
 refine lP_of_run ?_
 simp(disch:=omega)[loop57,b49]
 refine lP_enter (σ:=NNIn) (fun q=>(.nd .bot (.nd .bot (.nd (.ptr n 0) .nil .nil) (.nd (.ptr (n+1+1) 0) .nil (.nd (.int c.body.length) .nil .nil))) (.nd .bot (.nd (.ptr (n+1) 0) .nil (.nd (bodyL c.body) .nil .nil)) (.nd (.ptr (n+1+1+1) 0) .nil (.nd (.int q.i) .nil .nil))))) (fun q=>⟨q.ob,q.n⟩) (fun q=>c.body.length - q.i)
  (fun q=>RowT ⟨cell57 c fv fo n q.xs q.own ob,n+1+1+1+1⟩ 2 q.xs.length q.own q.ob q.n/\q.i<=c.body.length/\q.xs=posL (c.body.take q.i))
  ⟨0,n+1+1+1+1,[],.full,cell57 c fv fo n [] .full ob⟩ ⟨.inl ⟨rfl,rfl,Nat.le_refl _⟩,Nat.zero_le _,rfl⟩ (by simp[FT.Le,Wk]) ⟨HWk.refl _,fun h=>h⟩ ?_
 rintro⟨i,m,xs,own,ob1⟩ ⟨hr,hi,hxs⟩ hok
 dsimp only at hr hi hok hxs
 by_cases hlt:i<c.body.length
 case neg=>
  obtain rfl:i=c.body.length:=by omega
  rw[List.take_length]at hxs
  subst hxs
  simp(disch:=omega)
  exact hk _ _ _ hr
 have hB:∀(ys:List Atom)(ow:Own),Desc (cell57 c fv fo n ys ow ob) (n+1+1+1+1):=fun ys ow=>⟨by omega,by omega,by omega,by omega,hOb⟩
 have hX:=atoms_all xs
 obtain⟨X,hXe⟩:∃X,xs.map atomL=X:=⟨_,rfl⟩
 have hXl:X.length=xs.length:=by rw[<-hXe,List.length_map]
 have htk:=posL_take hlt
 have hxl:xs.length<=i:=by
  rw[hxs]
  unfold posL
  rw[List.length_map]
  exact Nat.le_trans (List.length_filter_le _ _) (by rw[List.length_take];omega)
 by_cases hk1:c.body[i].kind=1
 case neg=>
  rw[if_neg hk1,List.append_nil]at htk
  rcases hr with⟨rfl,rfl,h3⟩|⟨t,rfl,g1,g2,rfl⟩
  ·dsimp only at h3
   simp(disch:=omega)[hlt,hk1,wrap_nat (show i<2^62 by omega)]
   exact⟨⟨i+1,m+1,xs,.full,cell57 c fv fo n xs .full ob⟩,by dsimp only;omega,⟨.inl ⟨rfl,rfl,by dsimp only;omega⟩,by dsimp only;omega,by dsimp only;rw[htk];exact hxs⟩,by simp[FT.Le,Wk],hwk_skip ((hB xs _).mono h3) (Nat.le_refl _),fun _=>(hB xs _).mono (by dsimp only;omega)⟩
  ·dsimp only at g1
   simp(disch:=omega)[hlt,hk1,wrap_nat (show i<2^62 by omega)]
   exact⟨⟨i+1,m+1,xs,.tok t,(t,.tok xs.length 2)::cell57 c fv fo n xs (.tok t) ob⟩,by dsimp only;omega,⟨.inr ⟨t,rfl,g1,by dsimp only;omega,rfl⟩,by dsimp only;omega,by dsimp only;rw[htk];exact hxs⟩,by simp[FT.Le,Wk],hwk_skip (show Desc _ m from hok) (Nat.le_refl _),fun _=>(show Desc _ m from hok).mono (by dsimp only;omega)⟩
 rw[if_pos hk1]at htk
 have hnew:(xs++[c.body[i].atom]).map atomL=X++[atomL c.body[i].atom]:=by rw[<-hXe];simp
 have hxl2:(xs++[c.body[i].atom]).length=xs.length+1:=by simp
 rw[hXe]at hX
 rcases hr with⟨rfl,rfl,h3⟩|⟨t,rfl,g1,g2,rfl⟩
 ·dsimp only at h3
  simp(disch:=omega)[hlt,hk1]
  refine effP_ap ?_
  simp(disch:=omega)[hXe]
  rw[apL_new hX rfl (by rw[hXl];omega) (by omega)]
  simp(disch:=omega)[hXl,wrap_nat (show i<2^62 by omega)]
  refine⟨⟨i+1,m+1+1,xs++[c.body[i].atom],.tok (m+1),(m+1,.tok (xs.length+1) 2)::cell57 c fv fo n (xs++[c.body[i].atom]) (.tok (m+1)) ob⟩,by dsimp only;omega,⟨.inr ⟨m+1,rfl,by dsimp only;omega,Nat.lt_succ_self _,by dsimp only;rw[hxl2]⟩,by dsimp only;omega,by dsimp only;rw[htk,hxs]⟩,by simp[FT.Le,Wk],?_⟩
  dsimp only
  unfold cell57
  rw[hnew]
  have hB2:=hB (xs++[c.body[i].atom]) (.tok (m+1))
  unfold cell57 at hB2
  rw[hnew]at hB2
  exact⟨hwk_mid (hB2.mono h3) fun _ _ h=>h,fun _=>⟨Nat.lt_succ_self _,hB2.mono (by omega)⟩⟩
 ·dsimp only at g1
  simp(disch:=omega)[hlt,hk1]
  refine effP_ap ?_
  simp(disch:=omega)[hXe]
  rw[apL_tok hX rfl (by rw[hXl];omega) (by omega) (by omega) (by rw[look_ne (by omega),hXl];simp[look])]
  simp(disch:=omega)[hXl,wrap_nat (show i<2^62 by omega)]
  refine⟨⟨i+1,m+1,xs++[c.body[i].atom],.tok t,(t,.tok (xs.length+1) 2)::cell57 c fv fo n (xs++[c.body[i].atom]) (.tok t) ob⟩,by dsimp only;omega,⟨.inr ⟨t,rfl,g1,by dsimp only;omega,by dsimp only;rw[hxl2]⟩,by dsimp only;omega,by dsimp only;rw[htk,hxs]⟩,by simp[FT.Le,Wk],?_⟩
  dsimp only
  unfold cell57
  rw[hnew]
  have hB2:=hB (xs++[c.body[i].atom]) (.tok t)
  unfold cell57 at hB2
  rw[hnew]at hB2
  have hOk3:Desc ((t,LObj.tok (xs.length+1) 2)::(n+1+1+1,LObj.cells [.sl (X++[atomL c.body[i].atom]) (.tok t)])::(n+1+1,.cells [fv])::(n+1,.cells (clauseC c))::(n,.cells [.ptr fo 0])::ob) m:=⟨g2,hB2.mono g1⟩
  exact⟨hwk_skip hOk3 (Nat.le_refl _),fun _=>hOk3.mono (by dsimp only;omega)⟩
theorem body57:b49.body=.seq (.ops [D 3 (.bx (T 0)),D 4 (.bx (T 1)),D 5 (.bx (T 2))]) (.seq (.ops [D 6 (.al [Nl])]) (.seq loop57 rest57)):=rfl
section
variable{σ:Type}{D:Doer σ}
theorem t_instances(c:Clause)(hc:CGood c)(F:List Stp)(fo am:Nat)(ownF:Own)(L:List (Nat×LObj))(hDL:∀p∈D.Stat,p∈L)(hpl:∀p∈L,plainO p.2=true)(hF:∀ob,StatOk L ob->FactsAt ob fo am F ownF)
  (hFg:∀s∈F,atomG s.atom) (hFl:F.length<=2^20) (ob:List (Nat×LObj)) (n:Nat) (G:σ) (S:Nat->Prop) (hlim:D.lim G) (hst:StatOk L ob) (hat:D.At ob G S) (hsep:∀p∈L,¬S p.1) (hni:NoIt ob) {kv kp:HP}
  (hk:∀ob' n' S',n<=n'->D.At ob' (foldI D.step c (insts F c (posL c.body) [] []) G) S'->(∀i,S' i->S i\/n<=i)->NoIt ob'->(∀i,i<n->¬S i->look i ob'=look i ob)->kv (.tup []) ⟨ob',n'⟩):
  cP E0 F0 49 [.ptr fo 0,clauseL c,.fn (.func D.fn) [] D.cap] ⟨ob,n⟩ kv kp:=by
 refine cP_of_lP c49 (Nat.le_of_ble_eq_true rfl) fun hH=>?_
 rw[body57]
 simp(disch:=omega)
 refine lP_seq (lP_of_run ?_)
 simp(disch:=omega)
 refine lP_seq (lP_of_run ?_)
 simp(disch:=omega)
 refine lP_seq ?_
 refine lP_weak (t':=(.nd .bot (.nd .bot (.nd (.ptr n 0) .nil .nil) (.nd (.ptr (n+1+1) 0) .nil .nil)) (.nd .bot (.nd (.ptr (n+1) 0) .nil .nil) (.nd (.ptr (n+1+1+1) 0) .nil .nil)))) (fun l h=>by unfold loop57 at h;simp[b49]at h) (by simp[FT.Le,Wk]) (HWk.refl _) (fun h=>h) ?_
 obtain⟨cp1,cp2,cp3⟩:=clause_parts hc.ok
 refine t_posLoop c (by omega) (.fn (.func D.fn) [] D.cap) fo n ob hH fun ow ob1 m hr=>?_
 obtain⟨hm,q3,q2,q1,q0,hold,hni1⟩:n+1+1+1+1<=m/\look (n+1+1+1) ob1=some (.cells [.sl ((posL c.body).map atomL) ow])/\look (n+1+1) ob1=some (.cells [.fn (.func D.fn) [] D.cap])/\look (n+1) ob1=some (.cells (clauseC c))/\look n ob1=some (.cells [.ptr fo 0])/\(∀i,i<n->look i ob1=look i ob)/\NoIt ob1:=by
  have base:∀xs ow,look (n+1+1+1) (cell57 c (.fn (.func D.fn) [] D.cap) fo n xs ow ob)=some (.cells [.sl (xs.map atomL) ow])/\look (n+1+1) (cell57 c (.fn (.func D.fn) [] D.cap) fo n xs ow ob)=some (.cells [.fn (.func D.fn) [] D.cap])/\look (n+1) (cell57 c (.fn (.func D.fn) [] D.cap) fo n xs ow ob)=some (.cells (clauseC c))/\look n (cell57 c (.fn (.func D.fn) [] D.cap) fo n xs ow ob)=some (.cells [.ptr fo 0])/\(∀i,i<n->look i (cell57 c (.fn (.func D.fn) [] D.cap) fo n xs ow ob)=look i ob)/\NoIt (cell57 c (.fn (.func D.fn) [] D.cap) fo n xs ow ob):=by
   intro xs ow
   refine⟨look_self _ _ _,by rw[look_ne (by omega)];exact look_self _ _ _,by rw[look_ne (by omega),look_ne (by omega)];exact look_self _ _ _,by rw[look_ne (by omega),look_ne (by omega),look_ne (by omega)];exact look_self _ _ _,fun i hi=>?_,(((hni.cons _ rfl).cons _ rfl).cons _ rfl).cons _ rfl⟩
   rw[look_ne (by omega),look_ne (by omega),look_ne (by omega),look_ne (by omega)]
  rcases hr with⟨rfl,rfl,h3⟩|⟨t,rfl,g1,g2,rfl⟩
  ·exact⟨h3,base _ _⟩
  ·dsimp only at g1
   obtain⟨a1,a2,a3,a4,a5,a6⟩:=base (posL c.body) (.tok t)
   exact⟨by omega,by rw[look_ne (by omega)];exact a1,by rw[look_ne (by omega)];exact a2,by rw[look_ne (by omega)];exact a3,by rw[look_ne (by omega)];exact a4,fun i hi=>by rw[look_ne (by omega)];exact a5 i hi,a6.cons _ rfl⟩
 refine lP_of_run ?_
 simp(disch:=omega)[rest57,b49]
 refine cP_um (o:=m+1+1) (es:=[]) (look_self _ _ _) ?_
 rw[put_self]
 obtain⟨cl,hcle⟩:∃cl:LV,LV.fn (.func 94) [] [.ptr m 0,.ptr (n+1+1+1) 0,.ptr n 0,.ptr (m+1) 0,.ptr (n+1) 0,.ptr (n+1+1) 0]=cl:=⟨_,rfl⟩
 obtain⟨obE,hobE⟩:∃obE,(m+1+1,LObj.um [])::(m+1,LObj.cells [cl])::(m,LObj.cells [Nl])::ob1=obE:=⟨_,rfl⟩
 rw[hcle,hobE]
 have hE:∀i,i<m->look i obE=look i ob1:=fun i hi=>by rw[<-hobE,look_ne (by omega),look_ne (by omega),look_ne (by omega)]
 have hlow:∀p∈L,p.1<n:=fun p hp=>hH.look (hst p hp)
 have hSlow:∀i,S i->i<n:=fun i hi=>by
  obtain⟨x,hx,_⟩:=D.at_look _ _ _ _ hat hi
  exact hH.look hx
 have hC:ChOk D ⟨c,F,fo,am,ownF,ow,m,n+1+1+1,n,m+1,n+1,n+1+1,(n+1+1+1,.cells [.sl ((posL c.body).map atomL) ow])::(n,.cells [.ptr fo 0])::(m+1,.cells [cl])::(n+1,.cells (clauseC c))::(n+1+1,.cells [.fn (.func D.fn) [] D.cap])::L⟩:=by
  refine⟨hc,fun p hp=>?_,?_,fun ob h=>hF ob fun p hp=>h p ?_,hFg,hFl,?_,?_,?_,?_,?_,?_⟩
  ·simp only[List.mem_cons]
   exact .inr (.inr (.inr (.inr (.inr (hDL p hp)))))
  ·simp only[List.forall_mem_cons]
   exact⟨rfl,rfl,rfl,rfl,rfl,hpl⟩
  ·simp only[List.mem_cons]
   exact .inr (.inr (.inr (.inr (.inr hp))))
  ·simp only[List.forall_mem_cons]
   exact⟨by omega,by omega,by omega,by omega,by omega,fun p hp=>by have:=hlow p hp;omega⟩
  all_goals first|exact List.mem_cons_self|(rw[<-hcle];simp)|simp
 refine t_choose hC (posL c.body) [] [] [] G rfl rfl .nil (fun p hp=>by cases hp) hlim obE (m+1+1+1) S Nl (m+1+1) ⟨?_,?_,?_,?_,fun h=>?_,.inl ⟨rfl,rfl⟩,?_⟩ (by rw[<-hobE];exact look_self _ _ _) fun ob2 n2 S2 fv2 hn2 h2 hS2 _ hkept=>?_
 ·simp only[StatOk,List.forall_mem_cons]
  refine⟨by rw[hE _ (by omega)];exact q3,by rw[hE _ (by omega)];exact q0,by rw[<-hobE,look_ne (by omega)];exact look_self _ _ _,by rw[hE _ (by omega)];exact q1,by rw[hE _ (by omega)];exact q2,fun p hp=>?_⟩
  have:=hlow p hp
  rw[hE _ (by omega),hold _ this]
  exact hst p hp
 ·exact D.at_keep _ _ _ _ hat fun i hi=>by
   have:=hSlow i hi
   rw[hE _ (by omega),hold _ this]
 ·simp only[List.forall_mem_cons]
  exact⟨fun h=>by have:=hSlow _ h;omega,fun h=>by have:=hSlow _ h;omega,fun h=>by have:=hSlow _ h;omega,fun h=>by have:=hSlow _ h;omega,fun h=>by have:=hSlow _ h;omega,hsep⟩
 ·rw[<-hobE]
  show look m _=_
  rw[look_ne (by omega),look_ne (by omega)]
  exact look_self _ _ _
 ·have:=hSlow _ h
  dsimp only at this
  omega
 ·rw[<-hobE]
  exact((hni1.cons _ rfl).cons _ rfl).cons _ rfl
 ·simp(disch:=omega)[resP_nil]
  refine⟨_,HWk.refl _,fun h=>h,hk ob2 n2 S2 (by omega) h2.at_ (fun i hi=>(hS2 i hi).imp id fun h=>by omega) h2.ni fun i hi hiS=>?_⟩
  rw[hkept i (by omega) hiS (by dsimp only;omega) (fun a o l he=>by cases he),hE _ (by omega),hold _ hi]
end
def hasA(l:List Atom)(a:Atom):Bool:=l.any fun x=>decide (cmpA x a=0)
def restR(l:List Atom)(K:Bind):List Lit->Bool
 |[]=>true
 |x::r=>if x.kind=1 then restR l K r else if x.kind=2 then !hasA l (fillA K x.atom)&&restR l K r else cmpLit K x&&restR l K r
end Go.Abs.Tz
