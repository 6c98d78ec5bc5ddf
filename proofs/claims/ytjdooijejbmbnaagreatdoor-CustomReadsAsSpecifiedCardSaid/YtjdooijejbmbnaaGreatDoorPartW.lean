/- Part of the proof that for every source the law CustomReadsAsSpecified returns true. Conditions: none. -/
import Derived.Test.YtjdooijejbmbnaaGreatDoorPartV
import Derived.Lib.AtoiAllCases
import Derived.Test.YtjdooijejbmbnaaGreatDoorPartI
import Derived.Test.YtjdooijejbmbnaaGreatDoorPartD
namespace Go.Abs.Tz
open Go Go.Abs Go.Proofs
set_option maxRecDepth 20000
set_option linter.unusedSimpArgs false
attribute [local simp ↓] getP_nil getP_node setP_nil setP_node oneP_eq vP_map vP_some vP_none vP_bind eP_some bP_true bP_false gP_yes gP_tf gP_ft gP_tup runP_skip runP_ops runP_drw runP_seq runP_cond runP_blk runP_loop runP_exit runP_ret seqK_n seqK_r seqK_e seqK_p blkK_n blkK_r blkK_e blkK_p loopK_n loopK_r loopK_e loopK_p finK_n finK_r finK_p resP_one resP_two resP_three resP_nil resP_c nxP_nil argsP_nil argsP_cons evP_t evP_c evP_g evsP_nil evsP_cons clP_fn clP_yld clfP_fn pnP_i opsP_nil opsP_d opsP_x opsP_gt opsP_gf opP_cf opP_cl opP_pn opP_nx valP_mv valP_pk valP_eq valP_bn valP_nt valP_ld valP_fa valP_fd valP_ia valP_ix valP_ln valP_srn valP_srl valP_srh valP_srb valP_cv valP_mi valP_mf valP_xt valP_bs valP_bd valP_nc valP_mn valP_lk valP_ta opP_mv opP_pk opP_eq opP_bn opP_nt opP_ld opP_fa opP_fd opP_ia opP_ix opP_ln opP_sr opP_cv opP_mi opP_mf opP_xt opP_bs opP_bd opP_nc opP_mn opP_lk opP_ta opP_al opP_bx opP_st opP_ap opP_mk opP_nb opP_mu opP_rg opP_en pendP_nil pendP_d pendP_g drwP_nil drwP_d drwP_x drwP_gt drwP_gf look_self natOf_nat
attribute [local simp] faL fdL iaL ixL loadL partL lenL eqK eqL natOf eqB_s eqB_i eqB_b bn_add bn_sub bn_lss bn_leq bn_gtr bn_geq bn_adds bn_lsss bn_gtrs bn_leqs bn_geqs sliceL LV.cells LV.whole look_self put_self putO_self put_eq stL fillL termC dopP LHeap.alloc oneI oneS oneB nth0 nth1 nth2 nth3 nth4 nth5 nth6 nth7 nth8 nth9 look_ne putO_ne
def byI(s:ByteArray)(i:Nat):Int:=match s.data[i]? with
 |some c=>(c.toNat:Int)
 |none=>-1
theorem byI_of{s:ByteArray}{i:Nat}{c:UInt8}(h:s.data[i]? = some c):byI s i=(c.toNat:Int):=by unfold byI;rw[h]
theorem byI_ge{s:ByteArray}{i:Nat}(h:¬i<s.size):byI s i=-1:=by
 have:s.data[i]? = none:=Array.getElem?_eq_none (by have:s.data.size=s.size:=rfl;omega)
 unfold byI
 rw[this]
inductive LStep where
 |skip (j:Nat)
 |tok (r:RTok) (j:Nat)
 |bad (e:Nat)
def notNl(n:Int):Bool:=decide (n≠10)
def wKind(x:ByteArray)(n:Int):Int:=if (eqBA x bIf||eqBA x bNot)=true then 4 else if n<=90 then 2 else 1
def wordStep(s:ByteArray)(i:Nat):LStep:=if 24<endN wordC s i - i then .bad i else .tok ⟨wKind (s.extract i (endN wordC s i)) (byI s i),s.extract i (endN wordC s i),0,i⟩ (endN wordC s i)
def numFrom(s:ByteArray)(i:Nat):Nat:=if byI s i=45 then i+1 else i
def numEnd(s:ByteArray)(f:Nat):Nat:=if byI s f=48 then f+1 else endN digB s f
def numV(s:ByteArray)(f e:Nat):Int:=valL 0 (((sL s).drop f).take (e - f))
def numAt(s:ByteArray)(i f e:Nat):LStep:=if 1000000000<numV s f e then .bad i else if (digB (byI s e)||letB (byI s e))=true then .bad e else .tok ⟨3,⟨⟨[]⟩⟩,if byI s i=45 then 0 - numV s f e else numV s f e,i⟩ e
def numStep(s:ByteArray)(i:Nat):LStep:=if byI s i=45/\(byI s (i+1)<49\/57<byI s (i+1)) then .bad i else numAt s i (numFrom s i) (numEnd s (numFrom s i))
def markStep(s:ByteArray)(i:Nat):LStep:=if markL ((sL s).drop i)=0 then .bad i else .tok ⟨4,s.extract i (i+markL ((sL s).drop i)),0,i⟩ (i+markL ((sL s).drop i))
def lstep(s:ByteArray)(i:Nat):LStep:=
 if byI s i=32\/byI s i=9\/byI s i=10 then .skip (i+1)
 else if byI s i=35 then .skip (endN notNl s i)
 else if letB (byI s i)=true then wordStep s i
 else if digB (byI s i)=true\/byI s i=45 then numStep s i
 else markStep s i
def lexF(s:ByteArray):Nat->Nat->List RTok->Except Nat (List RTok)
 |0,_,acc=>.ok acc
 |k+1,i,acc=>if i<s.size then
   match lstep s i with
   |.skip j=>lexF s k j acc
   |.tok r j=>lexF s k j (acc++[r])
   |.bad e=>.error e
  else .ok acc
theorem lexF_end{s:ByteArray}{k i:Nat}{acc:List RTok}(h:¬i<s.size):lexF s (k+1) i acc=.ok acc:=by
 unfold lexF
 rw[if_neg h]
theorem lexF_go{s:ByteArray}{k i:Nat}{acc:List RTok}(h:i<s.size):lexF s (k+1) i acc=match lstep s i with
   |.skip j=>lexF s k j acc
   |.tok r j=>lexF s k j (acc++[r])
   |.bad e=>.error e:=by
 conv=>lhs;unfold lexF
 rw[if_pos h]
theorem endN_lt{p:Int->Bool}{s:ByteArray}{i:Nat}{c:UInt8}{r:List UInt8}(hd:(sL s).drop i=c::r)(hp:p (c.toNat:Int)=true):i<endN p s i:=by
 unfold endN
 rw[hd]
 unfold runN
 rw[if_pos hp]
 omega
abbrev endT(s:ByteArray):RTok:=⟨5,⟨⟨[]⟩⟩,0,s.size⟩
theorem runN_take(p:Int->Bool):∀(l:List UInt8)(c:UInt8),c∈l.take (runN p l)->p (c.toNat:Int)=true
 |[],c,h=>by simp at h
 |d::r,c,h=>by
  unfold runN at h
  by_cases hp:p (d.toNat:Int)=true
  ·rw[if_pos hp,List.take_succ_cons]at h
   rcases List.mem_cons.1 h with rfl|h
   ·exact hp
   ·exact runN_take p r c h
  ·rw[if_neg hp]at h
   simp at h
theorem num_digits{s:ByteArray}{f:Nat}{c:UInt8}(hc:s.data[f]? = some c)(hd:(sL s).drop f=c::(sL s).drop (f+1))(hr:digB (c.toNat:Int)=true):∀d∈sL (s.extract f (numEnd s f)),digB (d.toNat:Int)=true:=by
 intro d h
 unfold sL at h
 rw[extr_list]at h
 unfold numEnd at h
 rw[byI_of hc]at h
 by_cases h48:(c.toNat:Int)=48
 ·rw[if_pos h48,show f+1 - f=1 by omega,hd]at h
  simp at h
  rw[h]
  exact hr
 ·rw[if_neg h48]at h
  unfold endN at h
  rw[show f+runN digB ((sL s).drop f) - f=runN digB ((sL s).drop f) by omega]at h
  exact runN_take digB _ d h
theorem valL_range:∀(l:List UInt8)(n:Int),0<=n->n<=2^40->(∀d∈l,digB (d.toNat:Int)=true)->0<=valL n l/\valL n l<=2^40
 |[],n,h0,h1,_=>⟨h0,h1⟩
 |c::r,n,h0,h1,hd=>by
  have hc:48<=(c.toNat:Int)/\(c.toNat:Int)<=57:=by simpa [digB] using hd c List.mem_cons_self
  unfold valL
  refine valL_range r _ ?_ ?_ fun d h=>hd d (List.mem_cons_of_mem _ h)
  ·split<;>omega
  ·split<;>omega
theorem mark_le{s:ByteArray}{i:Nat}(hi:i<s.size):markL ((sL s).drop i)=0\/(0<markL ((sL s).drop i)/\i+markL ((sL s).drop i)<=s.size):=by
 obtain⟨c,hc,hd⟩:=byteG hi
 by_cases h2:i+1<s.size
 ·obtain⟨d,hdd,hd2⟩:=byteG h2
  rw[hd2]at hd
  rw[hd,show markL (c::d::(sL s).drop (i+1+1))=if twoMark (c.toNat:Int) (d.toNat:Int) then 2 else if oneMark (c.toNat:Int) then 1 else 0 from rfl]
  split
  ·exact .inr ⟨by omega,by omega⟩
  ·split
   ·exact .inr ⟨by omega,by omega⟩
   ·exact .inl rfl
 ·have hn:(sL s).drop (i+1)=[]:=List.drop_eq_nil_of_le (by rw[sL_len];omega)
  rw[hn]at hd
  rw[hd,show markL [c]=if oneMark (c.toNat:Int) then 1 else 0 from rfl]
  split
  ·exact .inr ⟨by omega,by omega⟩
  ·exact .inl rfl
structure NNIq where
 i:Nat
 n:Nat
 es:List RTok
 ow:Own
 ob:List (Nat×LObj)
 k:Nat
theorem rtoks_all(l:List RTok):(l.map rtokL).all (fun e=>e.cells.length==4)=true:=by simp[LV.cells]
theorem strip_rtoks(l:List RTok)(e a:Int)(ow:Own):Wk (.agg [.sl (l.map rtokL) ow,.int e,.int a]) (.agg [.sl (l.map rtokL) .no,.int e,.int a]):=by
 refine .inr (.inl ?_)
 simp[LV.strip,stripL,stripL_map,List.map_map,Function.comp_def]
set_option maxHeartbeats 2000000 in
theorem t_lex(s:ByteArray)(hs:s.size<=2^20)(H:LHeap){kv kp:HP}
  (hk0:∀e,lexF s (s.size+1) 0 []=.error e->∀n',H.next<=n'->kv (.agg [Nl,.int 7,.int e]) ⟨H.objs,n'⟩)
  (hk1:∀R,lexF s (s.size+1) 0 []=.ok R->∀n',H.next<=n'->kv (.agg [.sl ((R++[endT s]).map rtokL) .no,.int 0,.int 0]) ⟨H.objs,n'⟩):
  cP E0 F0 28 [.str s] H kv kp:=by
 refine cP_of_fnW c28 fun hH=>⟨Nat.le_of_ble_eq_true rfl,?_⟩
 obtain⟨N0,hN0⟩:∃N0,H.next=N0:=⟨_,rfl⟩
 obtain⟨ob,n⟩:=H
 dsimp only at hN0 hk0 hk1
 subst hN0
 have hOb:Desc ob n:=hH
 obtain⟨V,hV⟩:∃V,lexF s (s.size+1) 0 []=V:=⟨_,rfl⟩
 rw[hV]at hk0 hk1
 simp(disch:=omega)[b28]
 refine lP_enter (σ:=NNIq) (fun q=>(.nd (.str s) (.nd .bot (.nd (.sl (q.es.map rtokL) q.ow) .nil .nil) .nil) (.nd (.ptr n 0) (.nd (.int q.i) .nil .nil) .nil))) (fun q=>⟨q.ob,q.n⟩) (fun q=>s.size+1 - q.i)
  (fun q=>RowT ⟨(n,.cells [Nl,.int 0,.int 0])::ob,n+1⟩ 4 q.es.length q.ow q.ob q.n/\q.i<=s.size/\q.es.length<=q.i/\s.size - q.i<q.k/\lexF s q.k q.i q.es=V) ⟨0,n+1,[],.full,(n,.cells [Nl,.int 0,.int 0])::ob,s.size+1⟩ ⟨.inl ⟨rfl,rfl,Nat.le_refl _⟩,Nat.zero_le _,Nat.le_refl _,by dsimp only;omega,hV⟩ (by simp[FT.Le,Wk]) ⟨HWk.refl _,fun h=>h⟩ ?_
 rintro⟨i,m,es,ow,ob2,k⟩ ⟨hr,hi,hel,hkk,he⟩ hok
 dsimp only at hr hi hel hkk he hok
 have hold:=hr.old
 dsimp only at hold
 have kz:look n ob2=some (.cells [Nl,.int 0,.int 0]):=by rw[hold.2 n (by omega)];exact look_self _ _ _
 have hlp:∀x,look n (putO n x ob2)=some x:=fun x=>look_putO kz
 have ko:∀(x:LObj)(j:Nat),j<n->look j (putO n x ob2)=look j ob:=fun x j hj=>by rw[look_putO_ne (by omega),hold.2 j (by omega),look_ne (by omega)]
 obtain⟨k,rfl⟩:∃k2,k=k2+1:=⟨k - 1,by omega⟩
 have row:∀(r:RTok)(m':Nat),m<=m'->∃ow3 ob3 m3,(∀o,apL ⟨ob2,m'⟩ 4 (.sl (es.map rtokL) ow) (.sl [rtokL r] o)=some (.sl ((es++[r]).map rtokL) ow3,⟨ob3,m3⟩))/\RowT ⟨(n,.cells [Nl,.int 0,.int 0])::ob,n+1⟩ 4 (es.length+1) ow3 ob3 m3/\m'<=m3:=fun r m' hm'=>by
  obtain⟨ow3,ob3,m3,e3,hr4,hm3⟩:=row_apY (sz:=4) (es:=es.map rtokL) (Y:=[rtokL r]) (by omega) (rtoks_all es) rfl (by simp;omega) (by rw[List.length_map];exact hr.mono hm')
  rw[List.length_map,List.length_singleton]at hr4
  have e4:es.map rtokL++[rtokL r]=(es++[r]).map rtokL:=by simp
  rw[e4]at e3
  exact⟨ow3,ob3,m3,e3,hr4,hm3⟩
 have hH1:LHeap.Ok ⟨(n,.cells [Nl,.int 0,.int 0])::ob,n+1⟩:=⟨Nat.lt_succ_self _,hOb⟩
 have rowC:∀(r:RTok)(cs:LObj)(m':Nat),m<=m'->∃ow3 ob3 ob4 m3,(∀o,apL ⟨(m',cs)::ob2,m'+1⟩ 4 (.sl (es.map rtokL) ow) (.sl [rtokL r] o)=some (.sl ((es++[r]).map rtokL) ow3,⟨ob3,m3⟩))/\RowT ⟨(n,.cells [Nl,.int 0,.int 0])::ob,n+1⟩ 4 (es.length+1) ow3 ob4 m3/\m'+1<=m3/\HWk ⟨ob3,m3⟩ ⟨ob4,m3⟩/\(LHeap.Ok ⟨ob3,m3⟩->LHeap.Ok ⟨ob4,m3⟩):=fun r cs m' hm'=>by
  obtain⟨ow3,ob3,ob4,m3,e3,hr4,hm3,hw3,ho3⟩:=row_apC (m:=m') (k:=m'+1) (cs:=cs) hH1 (sz:=4) (es:=es.map rtokL) (Y:=[rtokL r]) (by omega) (rtoks_all es) rfl (by simp;omega) (by rw[List.length_map];exact hr) hm' (Nat.lt_succ_self _)
  rw[List.length_map,List.length_singleton]at hr4
  have e4:es.map rtokL++[rtokL r]=(es++[r]).map rtokL:=by simp
  rw[e4]at e3
  exact⟨ow3,ob3,ob4,m3,e3,hr4,hm3,hw3,ho3⟩
 by_cases hlt:i<s.size
 case neg=>
  rw[lexF_end hlt]at he
  subst he
  simp(disch:=omega)[hlt]
  refine effP_ap ?_
  simp(disch:=omega)
  obtain⟨ow3,ob3,m3,e3,hr3,hm3⟩:=row (endT s) m (Nat.le_refl _)
  have hold3:=hr3.old
  dsimp only at hold3
  have kz3:look n ob3=some (.cells [Nl,.int 0,.int 0]):=by rw[hold3.2 n (by omega)];exact look_self _ _ _
  have hlp3:∀x,look n (putO n x ob3)=some x:=fun x=>look_putO kz3
  rw[e3]
  simp(disch:=omega)[kz3,hlp3]
  have hst:=strip_rtoks (es++[endT s]) 0 0 ow3
  rw[List.map_append,List.map_cons,List.map_nil]at hst
  have hkv:=hk1 es rfl m3 (by omega)
  rw[List.map_append,List.map_cons,List.map_nil]at hkv
  exact⟨_,hst,⟨ob,m3⟩,hwk_old hH (fun j hj=>by rw[look_putO_ne (by omega),hold3.2 j (by omega),look_ne (by omega)]) (Nat.le_refl _),fun _=>hOb.mono (show n<=m3 by omega),hkv⟩
 rw[lexF_go hlt]at he
 obtain⟨c,hc,hd⟩:=byteG hlt
 have hb:=byI_of hc
 unfold lstep at he
 rw[hb]at he
 by_cases h1:(c.toNat:Int)=32\/(c.toNat:Int)=9\/(c.toNat:Int)=10
 ·rw[if_pos h1]at he
  simp only at he
  rcases h1 with h1|h1|h1
  ·simp(disch:=omega)[hlt,hc,h1,wrap_nat (show i<2^62 by omega)]
   exact⟨⟨i+1,m,es,ow,ob2,k⟩,by dsimp only;omega,⟨hr,by dsimp only;omega,by dsimp only;omega,by dsimp only;omega,he⟩,by simp[FT.Le,Wk],HWk.refl _,fun h=>h⟩
  ·simp(disch:=omega)[hlt,hc,h1,wrap_nat (show i<2^62 by omega)]
   exact⟨⟨i+1,m,es,ow,ob2,k⟩,by dsimp only;omega,⟨hr,by dsimp only;omega,by dsimp only;omega,by dsimp only;omega,he⟩,by simp[FT.Le,Wk],HWk.refl _,fun h=>h⟩
  ·simp(disch:=omega)[hlt,hc,h1,wrap_nat (show i<2^62 by omega)]
   exact⟨⟨i+1,m,es,ow,ob2,k⟩,by dsimp only;omega,⟨hr,by dsimp only;omega,by dsimp only;omega,by dsimp only;omega,he⟩,by simp[FT.Le,Wk],HWk.refl _,fun h=>h⟩
 rw[if_neg h1]at he
 have n1:¬(c.toNat:Int)=32:=fun h=>h1 (.inl h)
 have n2:¬(c.toNat:Int)=9:=fun h=>h1 (.inr (.inl h))
 have n3:¬(c.toNat:Int)=10:=fun h=>h1 (.inr (.inr h))
 by_cases h2:(c.toNat:Int)=35
 ·rw[if_pos h2]at he
  simp only at he
  obtain⟨E,hE⟩:∃E,endN notNl s i=E:=⟨_,rfl⟩
  have hEi:i<E:=by rw[<-hE];exact endN_lt hd (by simp[notNl,h2])
  have hEs:E<=s.size:=by rw[<-hE];exact(endN_le (by omega)).2
  rw[hE]at he
  simp(disch:=omega)[hlt,hc,n1,n2,n3,h2]
  refine lP_enter (σ:=NNInA) (fun q=>(.nd (.str s) (.nd .bot (.nd (.sl (es.map rtokL) ow) .nil .nil) .nil) (.nd (.ptr n 0) (.nd (.int q.i) .nil .nil) .nil))) (fun q=>⟨ob2,q.n⟩) (fun q=>s.size - q.i)
   (fun q=>m<=q.n/\q.i<=s.size/\endN notNl s q.i=E) ⟨i,m⟩ ⟨Nat.le_refl _,by dsimp only;omega,hE⟩ (by simp[FT.Le,Wk]) ⟨HWk.refl _,fun h=>h⟩ ?_
  rintro⟨j,m2⟩ ⟨hm2,hj,hje⟩ hok2
  dsimp only at hm2 hj hje hok2
  by_cases hjl:j<s.size
  case neg=>
   have hjE:j=E:=by
    rw[<-hje]
    unfold endN
    rw[List.drop_eq_nil_of_le (by rw[sL_len];omega)]
    rfl
   subst hjE
   simp(disch:=omega)[hjl]
   exact⟨⟨j,m2,es,ow,ob2,k⟩,by dsimp only;omega,⟨hr.mono hm2,by dsimp only;omega,by dsimp only;omega,by dsimp only;omega,he⟩,by simp[FT.Le,Wk],HWk.refl _,fun h=>h⟩
  obtain⟨c2,hc2,hd2⟩:=byteG hjl
  by_cases h10:(c2.toNat:Int)=10
  ·have hjE:j=E:=by
    rw[<-hje]
    unfold endN
    rw[hd2]
    unfold runN
    rw[if_neg (by simp[notNl,h10])]
    rfl
   subst hjE
   simp(disch:=omega)[hjl,hc2,h10]
   exact⟨⟨j,m2,es,ow,ob2,k⟩,by dsimp only;omega,⟨hr.mono hm2,by dsimp only;omega,by dsimp only;omega,by dsimp only;omega,he⟩,by simp[FT.Le,Wk],HWk.refl _,fun h=>h⟩
  ·have hj2:endN notNl s (j+1)=E:=by
    rw[<-hje]
    unfold endN
    rw[hd2]
    conv=>rhs;unfold runN
    rw[if_pos (by simp[notNl,h10])]
    omega
   simp(disch:=omega)[hjl,hc2,h10,wrap_nat (show j<2^62 by omega)]
   exact⟨⟨j+1,m2⟩,by dsimp only;omega,⟨by dsimp only;omega,by dsimp only;omega,hj2⟩,by simp[FT.Le,Wk],HWk.refl _,fun h=>h⟩
 rw[if_neg h2]at he
 simp(disch:=omega)[hlt,hc,n1,n2,n3,h2]
 refine(t_rletter _).go fun n4 hn4=>?_
 have errV:∀(e:Nat)(m':Nat),V=.error e->n<=m'->∃v',Wk (.agg [Nl,.int 7,.int e]) v'/\∃H'',HWk ⟨putO n (.cells [Nl,.int 7,.int e]) ob2,m'⟩ H''/\(LHeap.Ok ⟨putO n (.cells [Nl,.int 7,.int e]) ob2,m'⟩->H''.Ok)/\kv v' H'':=fun e m' hv hm'=>
  ⟨_,.inl rfl,⟨ob,m'⟩,hwk_old hH (ko _) (Nat.le_refl _),fun _=>hOb.mono hm',hk0 e hv m' hm'⟩
 cases hl:letB (c.toNat:Int)
 case true=>
  rw[hl,if_pos rfl]at he
  unfold wordStep at he
  obtain⟨E,hE⟩:∃E,endN wordC s i=E:=⟨_,rfl⟩
  have hEi:i<E:=by rw[<-hE];exact endN_lt hd (by simp[wordC,hl])
  have hEs:E<=s.size:=by rw[<-hE];exact(endN_le (by omega)).2
  rw[hE]at he
  simp(disch:=omega)
  refine(t_rword s (by omega) i (by omega)).go fun n5 hn5=>?_
  rw[hE]
  have hw:IntKind.wrap .i64 ((E:Int) - (i:Int))=(E:Int) - (i:Int):=wrap_id (by omega) (by omega)
  by_cases h24:24<E - i
  ·rw[if_pos h24]at he
   simp only at he
   have h24':(24:Int)<(E:Int) - (i:Int):=by omega
   simp(disch:=omega)[hw,h24']
   refine(t_wrong (i:Int)).go fun n6 hn6=>?_
   simp(disch:=omega)[kz,hlp]
   exact errV i n6 he.symm (by omega)
  rw[if_neg h24]at he
  simp only at he
  have h24':¬(24:Int)<(E:Int) - (i:Int):=by omega
  unfold wKind at he
  rw[hb]at he
  cases x1:eqBA (s.extract i E) bIf
  case true=>
   rw[x1,Bool.true_or,if_pos rfl]at he
   by_cases h90:(c.toNat:Int)<=90
   ·simp(disch:=omega)[hw,h24',hEi,hEs,show i<=E by omega,h90,x1]
    obtain⟨ow3,ob3,ob4,m3,e3,hr4,hm3,hw3,ho3⟩:=rowC ⟨4,s.extract i E,0,i⟩ (.cells [.int 4,.str (s.extract i E),.int 0,.int i]) n5 (by omega)
    refine effP_ap ?_
    simp(disch:=omega)
    rw[e3]
    simp(disch:=omega)
    exact⟨⟨E,m3,es++[⟨4,s.extract i E,0,i⟩],ow3,ob4,k⟩,by dsimp only;omega,⟨by rw[List.length_append,List.length_singleton];exact hr4,by dsimp only;omega,by simp;omega,by dsimp only;omega,he⟩,by simp[FT.Le,Wk],hw3,ho3⟩
   ·simp(disch:=omega)[hw,h24',hEi,hEs,show i<=E by omega,h90,x1]
    obtain⟨ow3,ob3,ob4,m3,e3,hr4,hm3,hw3,ho3⟩:=rowC ⟨4,s.extract i E,0,i⟩ (.cells [.int 4,.str (s.extract i E),.int 0,.int i]) n5 (by omega)
    refine effP_ap ?_
    simp(disch:=omega)
    rw[e3]
    simp(disch:=omega)
    exact⟨⟨E,m3,es++[⟨4,s.extract i E,0,i⟩],ow3,ob4,k⟩,by dsimp only;omega,⟨by rw[List.length_append,List.length_singleton];exact hr4,by dsimp only;omega,by simp;omega,by dsimp only;omega,he⟩,by simp[FT.Le,Wk],hw3,ho3⟩
  cases x2:eqBA (s.extract i E) bNot
  case true=>
   rw[x1,x2,Bool.false_or,if_pos rfl]at he
   by_cases h90:(c.toNat:Int)<=90
   ·simp(disch:=omega)[hw,h24',hEi,hEs,show i<=E by omega,h90,x1,x2]
    obtain⟨ow3,ob3,ob4,m3,e3,hr4,hm3,hw3,ho3⟩:=rowC ⟨4,s.extract i E,0,i⟩ (.cells [.int 4,.str (s.extract i E),.int 0,.int i]) n5 (by omega)
    refine effP_ap ?_
    simp(disch:=omega)
    rw[e3]
    simp(disch:=omega)
    exact⟨⟨E,m3,es++[⟨4,s.extract i E,0,i⟩],ow3,ob4,k⟩,by dsimp only;omega,⟨by rw[List.length_append,List.length_singleton];exact hr4,by dsimp only;omega,by simp;omega,by dsimp only;omega,he⟩,by simp[FT.Le,Wk],hw3,ho3⟩
   ·simp(disch:=omega)[hw,h24',hEi,hEs,show i<=E by omega,h90,x1,x2]
    obtain⟨ow3,ob3,ob4,m3,e3,hr4,hm3,hw3,ho3⟩:=rowC ⟨4,s.extract i E,0,i⟩ (.cells [.int 4,.str (s.extract i E),.int 0,.int i]) n5 (by omega)
    refine effP_ap ?_
    simp(disch:=omega)
    rw[e3]
    simp(disch:=omega)
    exact⟨⟨E,m3,es++[⟨4,s.extract i E,0,i⟩],ow3,ob4,k⟩,by dsimp only;omega,⟨by rw[List.length_append,List.length_singleton];exact hr4,by dsimp only;omega,by simp;omega,by dsimp only;omega,he⟩,by simp[FT.Le,Wk],hw3,ho3⟩
  rw[x1,x2,Bool.false_or,if_neg (by simp)]at he
  by_cases h90:(c.toNat:Int)<=90
  ·rw[if_pos h90]at he
   simp(disch:=omega)[hw,h24',hEi,hEs,show i<=E by omega,h90,x1,x2]
   obtain⟨ow3,ob3,ob4,m3,e3,hr4,hm3,hw3,ho3⟩:=rowC ⟨2,s.extract i E,0,i⟩ (.cells [.int 2,.str (s.extract i E),.int 0,.int i]) n5 (by omega)
   refine effP_ap ?_
   simp(disch:=omega)
   rw[e3]
   simp(disch:=omega)
   exact⟨⟨E,m3,es++[⟨2,s.extract i E,0,i⟩],ow3,ob4,k⟩,by dsimp only;omega,⟨by rw[List.length_append,List.length_singleton];exact hr4,by dsimp only;omega,by simp;omega,by dsimp only;omega,he⟩,by simp[FT.Le,Wk],hw3,ho3⟩
  ·rw[if_neg h90]at he
   simp(disch:=omega)[hw,h24',hEi,hEs,show i<=E by omega,h90,x1,x2]
   obtain⟨ow3,ob3,ob4,m3,e3,hr4,hm3,hw3,ho3⟩:=rowC ⟨1,s.extract i E,0,i⟩ (.cells [.int 1,.str (s.extract i E),.int 0,.int i]) n5 (by omega)
   refine effP_ap ?_
   simp(disch:=omega)
   rw[e3]
   simp(disch:=omega)
   exact⟨⟨E,m3,es++[⟨1,s.extract i E,0,i⟩],ow3,ob4,k⟩,by dsimp only;omega,⟨by rw[List.length_append,List.length_singleton];exact hr4,by dsimp only;omega,by simp;omega,by dsimp only;omega,he⟩,by simp[FT.Le,Wk],hw3,ho3⟩
 rw[hl,if_neg (by simp)]at he
 simp(disch:=omega)
 refine(t_rdigit _).go fun n5 hn5=>?_
 cases hg:digB (c.toNat:Int)
 case true=>
  have hcr:48<=(c.toNat:Int)/\(c.toNat:Int)<=57:=by simpa [digB] using hg
  have h45:¬(c.toNat:Int)=45:=by omega
  rw[hg,if_pos (.inl rfl)]at he
  unfold numStep numFrom at he
  rw[hb,if_neg (by omega),if_neg h45]at he
  have hf:i<s.size:=hlt
  have hcf:=hc
  have hdf:=hd
  have hrf:=hg
  simp(disch:=omega)[h45]
  obtain⟨E,hE⟩:∃E,numEnd s i=E:=⟨_,rfl⟩
  obtain⟨Vn,hVn⟩:∃Vn,numV s i E=Vn:=⟨_,rfl⟩
  have hdg:=num_digits hcf hdf hrf
  have hEf:i<E:=by
   rw[<-hE]
   unfold numEnd
   split
   ·omega
   ·exact endN_lt hdf hrf
  have hEs:E<=s.size:=by
   rw[<-hE]
   unfold numEnd
   split
   ·omega
   ·exact(endN_le (by omega)).2
  rw[hE]at he hdg
  unfold numAt at he
  rw[hVn,hb]at he
  have hEx:sL (s.extract i E)=((sL s).drop i).take (E - i):=by unfold sL;rw[extr_list];rfl
  have hval:valL 0 (sL (s.extract i E))=Vn:=by rw[hEx];exact hVn
  have hsz:(s.extract i E).size<2^40:=by rw[<-sL_len,hEx,List.length_take,List.length_drop,sL_len];omega
  refine(t_rdigits s (by omega) i (by omega)).go fun n6 hn6=>?_
  have hE2:E=if (c.toNat:Int)=48 then i+1 else endN digB s i:=by rw[<-hE];unfold numEnd;rw[byI_of hcf]
  by_cases h48:(c.toNat:Int)=48
  ·rw[if_pos h48]at hE2
   have hwE:IntKind.wrap .i64 ((i:Int)+1)=(E:Int):=by rw[wrap_id (by omega) (by omega)];omega
   simp(disch:=omega)[hf,hcf,h48,hwE,hEs,show i<=E by omega]
   refine(t_value (s.extract i E) hsz hdg).go fun n7 hn7=>?_
   rw[hval]
   by_cases hbig:1000000000<Vn
   ·rw[if_pos hbig]at he
    simp only at he
    simp(disch:=omega)[hbig]
    refine(t_wrong (i:Int)).go fun n8 hn8=>?_
    simp(disch:=omega)[kz,hlp]
    exact errV i n8 he.symm (by omega)
   rw[if_neg hbig]at he
   by_cases hEl:E<s.size
   ·obtain⟨ce,hce,_⟩:=byteG hEl
    rw[byI_of hce]at he
    simp(disch:=omega)[hbig,hEl,hce]
    refine(t_rdigit _).go fun n8 hn8=>?_
    cases hq:digB (ce.toNat:Int)
    case true=>
     rw[hq,Bool.true_or,if_pos rfl]at he
     simp only at he
     simp(disch:=omega)
     refine(t_wrong (E:Int)).go fun n9 hn9=>?_
     simp(disch:=omega)[kz,hlp]
     exact errV E n9 he.symm (by omega)
    simp(disch:=omega)[hEl,hce]
    refine(t_rletter _).go fun n9 hn9=>?_
    cases hq2:letB (ce.toNat:Int)
    case true=>
     rw[hq,hq2,Bool.or_true,if_pos rfl]at he
     simp only at he
     simp(disch:=omega)
     refine(t_wrong (E:Int)).go fun n10 hn10=>?_
     simp(disch:=omega)[kz,hlp]
     exact errV E n10 he.symm (by omega)
    rw[hq,hq2,Bool.or_false,if_neg (by simp)]at he
    simp only at he
    rw[if_neg h45]at he
    simp(disch:=omega)[h45]
    refine effP_ap ?_
    simp(disch:=omega)
    obtain⟨ow3,ob3,m3,e3,hr3,hm3⟩:=row ⟨3,⟨⟨[]⟩⟩,Vn,i⟩ _ (show m<=n9 by omega)
    rw[e3]
    simp(disch:=omega)
    exact⟨⟨E,m3,es++[⟨3,⟨⟨[]⟩⟩,Vn,i⟩],ow3,ob3,k⟩,by dsimp only;omega,⟨by rw[List.length_append,List.length_singleton];exact hr3,by dsimp only;omega,by simp;omega,by dsimp only;omega,he⟩,by simp[FT.Le,Wk],HWk.refl _,fun h=>h⟩
   ·rw[byI_ge hEl,show (digB (-1)||letB (-1))=false from rfl,if_neg (by simp)]at he
    simp only at he
    rw[if_neg h45]at he
    simp(disch:=omega)[hbig,hEl,h45]
    refine effP_ap ?_
    simp(disch:=omega)
    obtain⟨ow3,ob3,m3,e3,hr3,hm3⟩:=row ⟨3,⟨⟨[]⟩⟩,Vn,i⟩ _ (show m<=n7 by omega)
    rw[e3]
    simp(disch:=omega)
    exact⟨⟨E,m3,es++[⟨3,⟨⟨[]⟩⟩,Vn,i⟩],ow3,ob3,k⟩,by dsimp only;omega,⟨by rw[List.length_append,List.length_singleton];exact hr3,by dsimp only;omega,by simp;omega,by dsimp only;omega,he⟩,by simp[FT.Le,Wk],HWk.refl _,fun h=>h⟩
  ·rw[if_neg h48]at hE2
   rw[<-hE2]
   simp(disch:=omega)[hf,hcf,h48,hEs,show i<=E by omega]
   refine(t_value (s.extract i E) hsz hdg).go fun n7 hn7=>?_
   rw[hval]
   by_cases hbig:1000000000<Vn
   ·rw[if_pos hbig]at he
    simp only at he
    simp(disch:=omega)[hbig]
    refine(t_wrong (i:Int)).go fun n8 hn8=>?_
    simp(disch:=omega)[kz,hlp]
    exact errV i n8 he.symm (by omega)
   rw[if_neg hbig]at he
   by_cases hEl:E<s.size
   ·obtain⟨ce,hce,_⟩:=byteG hEl
    rw[byI_of hce]at he
    simp(disch:=omega)[hbig,hEl,hce]
    refine(t_rdigit _).go fun n8 hn8=>?_
    cases hq:digB (ce.toNat:Int)
    case true=>
     rw[hq,Bool.true_or,if_pos rfl]at he
     simp only at he
     simp(disch:=omega)
     refine(t_wrong (E:Int)).go fun n9 hn9=>?_
     simp(disch:=omega)[kz,hlp]
     exact errV E n9 he.symm (by omega)
    simp(disch:=omega)[hEl,hce]
    refine(t_rletter _).go fun n9 hn9=>?_
    cases hq2:letB (ce.toNat:Int)
    case true=>
     rw[hq,hq2,Bool.or_true,if_pos rfl]at he
     simp only at he
     simp(disch:=omega)
     refine(t_wrong (E:Int)).go fun n10 hn10=>?_
     simp(disch:=omega)[kz,hlp]
     exact errV E n10 he.symm (by omega)
    rw[hq,hq2,Bool.or_false,if_neg (by simp)]at he
    simp only at he
    rw[if_neg h45]at he
    simp(disch:=omega)[h45]
    refine effP_ap ?_
    simp(disch:=omega)
    obtain⟨ow3,ob3,m3,e3,hr3,hm3⟩:=row ⟨3,⟨⟨[]⟩⟩,Vn,i⟩ _ (show m<=n9 by omega)
    rw[e3]
    simp(disch:=omega)
    exact⟨⟨E,m3,es++[⟨3,⟨⟨[]⟩⟩,Vn,i⟩],ow3,ob3,k⟩,by dsimp only;omega,⟨by rw[List.length_append,List.length_singleton];exact hr3,by dsimp only;omega,by simp;omega,by dsimp only;omega,he⟩,by simp[FT.Le,Wk],HWk.refl _,fun h=>h⟩
   ·rw[byI_ge hEl,show (digB (-1)||letB (-1))=false from rfl,if_neg (by simp)]at he
    simp only at he
    rw[if_neg h45]at he
    simp(disch:=omega)[hbig,hEl,h45]
    refine effP_ap ?_
    simp(disch:=omega)
    obtain⟨ow3,ob3,m3,e3,hr3,hm3⟩:=row ⟨3,⟨⟨[]⟩⟩,Vn,i⟩ _ (show m<=n7 by omega)
    rw[e3]
    simp(disch:=omega)
    exact⟨⟨E,m3,es++[⟨3,⟨⟨[]⟩⟩,Vn,i⟩],ow3,ob3,k⟩,by dsimp only;omega,⟨by rw[List.length_append,List.length_singleton];exact hr3,by dsimp only;omega,by simp;omega,by dsimp only;omega,he⟩,by simp[FT.Le,Wk],HWk.refl _,fun h=>h⟩
 rw[hg]at he
 by_cases h45:(c.toNat:Int)=45
 case neg=>
  rw[if_neg (by simp[h45])]at he
  unfold markStep at he
  simp(disch:=omega)[h45]
  refine(t_mark s (by omega) i hlt).go fun n6 hn6=>?_
  obtain⟨M,hM⟩:∃M,markL ((sL s).drop i)=M:=⟨_,rfl⟩
  rw[hM]at he ⊢
  have hM2:M=0\/(0<M/\i+M<=s.size):=by
   rw[<-hM]
   exact mark_le hlt
  by_cases hM0:M=0
  ·rw[if_pos hM0]at he
   simp only at he
   simp(disch:=omega)[hM0]
   refine(t_wrong (i:Int)).go fun n8 hn8=>?_
   simp(disch:=omega)[kz,hlp]
   exact errV i n8 he.symm (by omega)
  rw[if_neg hM0]at he
  simp only at he
  obtain⟨E,hE⟩:∃E,i+M=E:=⟨_,rfl⟩
  have hwE:IntKind.wrap .i64 ((i:Int)+(M:Int))=(E:Int):=by rw[wrap_id (by omega) (by omega)];omega
  rw[hE]at he
  have hEs:E<=s.size:=by omega
  simp(disch:=omega)[hM0,hwE,hEs,show i<=E by omega]
  refine effP_ap ?_
  simp(disch:=omega)
  obtain⟨ow3,ob3,m3,e3,hr3,hm3⟩:=row ⟨4,s.extract i E,0,i⟩ _ (show m<=n6 by omega)
  rw[e3]
  simp(disch:=omega)[hwE]
  exact⟨⟨E,m3,es++[⟨4,s.extract i E,0,i⟩],ow3,ob3,k⟩,by dsimp only;omega,⟨by rw[List.length_append,List.length_singleton];exact hr3,by dsimp only;omega,by simp;omega,by dsimp only;omega,he⟩,by simp[FT.Le,Wk],HWk.refl _,fun h=>h⟩
 rw[if_pos (.inr h45)]at he
 unfold numStep numFrom at he
 rw[hb,if_pos h45]at he
 obtain⟨f,hf1⟩:∃f,i+1=f:=⟨_,rfl⟩
 have hwf:IntKind.wrap .i64 ((i:Int)+1)=(f:Int):=by rw[wrap_id (by omega) (by omega)];omega
 rw[hf1]at he
 by_cases hf:f<s.size
 case neg=>
  rw[byI_ge hf,if_pos ⟨h45,.inl (by decide)⟩]at he
  simp only at he
  simp(disch:=omega)[h45,hwf,hf,show s.size<=f by omega]
  refine(t_wrong (i:Int)).go fun n8 hn8=>?_
  simp(disch:=omega)[kz,hlp]
  exact errV i n8 he.symm (by omega)
 obtain⟨cf,hcf,hdf⟩:=byteG hf
 rw[byI_of hcf]at he
 have hfn:¬s.size<=f:=by omega
 by_cases h49:(cf.toNat:Int)<49
 ·rw[if_pos ⟨h45,.inl h49⟩]at he
  simp only at he
  simp(disch:=omega)[h45,hwf,hf,hfn,hcf,h49]
  refine(t_wrong (i:Int)).go fun n8 hn8=>?_
  simp(disch:=omega)[kz,hlp]
  exact errV i n8 he.symm (by omega)
 by_cases h57:57<(cf.toNat:Int)
 ·rw[if_pos ⟨h45,.inr h57⟩]at he
  simp only at he
  simp(disch:=omega)[h45,hwf,hf,hfn,hcf,h49,h57]
  refine(t_wrong (i:Int)).go fun n8 hn8=>?_
  simp(disch:=omega)[kz,hlp]
  exact errV i n8 he.symm (by omega)
 rw[if_neg (by rintro⟨_,h|h⟩<;>omega)]at he
 have hrf:digB (cf.toNat:Int)=true:=by simp[digB];omega
 have h48:¬(cf.toNat:Int)=48:=by omega
 simp(disch:=omega)[h45,hwf,hf,hfn,hcf,h49,h57]
 obtain⟨E,hE⟩:∃E,numEnd s f=E:=⟨_,rfl⟩
 obtain⟨Vn,hVn⟩:∃Vn,numV s f E=Vn:=⟨_,rfl⟩
 have hdg:=num_digits hcf hdf hrf
 have hEf:f<E:=by
  rw[<-hE]
  unfold numEnd
  split
  ·omega
  ·exact endN_lt hdf hrf
 have hEs:E<=s.size:=by
  rw[<-hE]
  unfold numEnd
  split
  ·omega
  ·exact(endN_le (by omega)).2
 rw[hE]at he hdg
 unfold numAt at he
 rw[hVn,hb]at he
 have hEx:sL (s.extract f E)=((sL s).drop f).take (E - f):=by unfold sL;rw[extr_list];rfl
 have hval:valL 0 (sL (s.extract f E))=Vn:=by rw[hEx];exact hVn
 have hsz:(s.extract f E).size<2^40:=by rw[<-sL_len,hEx,List.length_take,List.length_drop,sL_len];omega
 refine(t_rdigits s (by omega) f (by omega)).go fun n6 hn6=>?_
 have hE2:E=endN digB s f:=by rw[<-hE];unfold numEnd;rw[byI_of hcf,if_neg h48]
 rw[<-hE2]
 simp(disch:=omega)[hf,hcf,h48,hEs,show f<=E by omega]
 refine(t_value (s.extract f E) hsz hdg).go fun n7 hn7=>?_
 have hVr:0<=Vn/\Vn<=2^40:=by rw[<-hval];exact valL_range _ _ (by decide) (by decide) hdg
 have hwn:IntKind.wrap .i64 (-Vn)=-Vn:=wrap_id (by omega) (by omega)
 rw[hval]
 by_cases hbig:1000000000<Vn
 ·rw[if_pos hbig]at he
  simp only at he
  simp(disch:=omega)[hbig]
  refine(t_wrong (i:Int)).go fun n8 hn8=>?_
  simp(disch:=omega)[kz,hlp]
  exact errV i n8 he.symm (by omega)
 rw[if_neg hbig]at he
 by_cases hEl:E<s.size
 ·obtain⟨ce,hce,_⟩:=byteG hEl
  rw[byI_of hce]at he
  simp(disch:=omega)[hbig,hEl,hce]
  refine(t_rdigit _).go fun n8 hn8=>?_
  cases hq:digB (ce.toNat:Int)
  case true=>
   rw[hq,Bool.true_or,if_pos rfl]at he
   simp only at he
   simp(disch:=omega)
   refine(t_wrong (E:Int)).go fun n9 hn9=>?_
   simp(disch:=omega)[kz,hlp]
   exact errV E n9 he.symm (by omega)
  simp(disch:=omega)[hEl,hce]
  refine(t_rletter _).go fun n9 hn9=>?_
  cases hq2:letB (ce.toNat:Int)
  case true=>
   rw[hq,hq2,Bool.or_true,if_pos rfl]at he
   simp only at he
   simp(disch:=omega)
   refine(t_wrong (E:Int)).go fun n10 hn10=>?_
   simp(disch:=omega)[kz,hlp]
   exact errV E n10 he.symm (by omega)
  rw[hq,hq2,Bool.or_false,if_neg (by simp)]at he
  simp only at he
  rw[if_pos h45,Int.zero_sub]at he
  simp(disch:=omega)[h45,hwn]
  refine effP_ap ?_
  simp(disch:=omega)
  obtain⟨ow3,ob3,m3,e3,hr3,hm3⟩:=row ⟨3,⟨⟨[]⟩⟩,-Vn,i⟩ _ (show m<=n9 by omega)
  rw[e3]
  simp(disch:=omega)
  exact⟨⟨E,m3,es++[⟨3,⟨⟨[]⟩⟩,-Vn,i⟩],ow3,ob3,k⟩,by dsimp only;omega,⟨by rw[List.length_append,List.length_singleton];exact hr3,by dsimp only;omega,by simp;omega,by dsimp only;omega,he⟩,by simp[FT.Le,Wk],HWk.refl _,fun h=>h⟩
 ·rw[byI_ge hEl,show (digB (-1)||letB (-1))=false from rfl,if_neg (by simp)]at he
  simp only at he
  rw[if_pos h45,Int.zero_sub]at he
  simp(disch:=omega)[hbig,hEl,h45,hwn]
  refine effP_ap ?_
  simp(disch:=omega)
  obtain⟨ow3,ob3,m3,e3,hr3,hm3⟩:=row ⟨3,⟨⟨[]⟩⟩,-Vn,i⟩ _ (show m<=n7 by omega)
  rw[e3]
  simp(disch:=omega)
  exact⟨⟨E,m3,es++[⟨3,⟨⟨[]⟩⟩,-Vn,i⟩],ow3,ob3,k⟩,by dsimp only;omega,⟨by rw[List.length_append,List.length_singleton];exact hr3,by dsimp only;omega,by simp;omega,by dsimp only;omega,he⟩,by simp[FT.Le,Wk],HWk.refl _,fun h=>h⟩
end Go.Abs.Tz
namespace Go.Abs.Tz
open Go Go.Abs Go.Proofs
theorem t_atoiR(s:ByteArray)(hlim:s.size<=281474976710656)(h:Lib.atoiAll s.data.toList=.range):PureT 102 [.str s] (.tup [.int (Lib.atoiSat s.data.toList),.iface 211 .bot]):=by
 refine Pure.of_callsE (fun _ _ _ _ h=>h) (enters_of (by kernel_rfl)) fun G w us hE ha=>?_
 obtain⟨u,rfl,hu⟩:=args_one ha
 obtain rfl:=hu.sc_inv
 obtain⟨_,vs,t,fz,hw,ty,v,hv⟩:=hE.fix (1,_) (List.mem_cons_of_mem _ List.mem_cons_self)
 have hw:w.heap[(1:Nat)]? = some (.cells vs t fz):=hw
 subst hv
 refine(Tryz.strconv_Atoi_range s hlim h (.iface ty v) w (by unfold World.cell?;simp only[hw];rfl) (.inr ⟨ty,v,rfl⟩)).mono ?_
 rintro e w' ⟨N,rfl,_,_,hb⟩
 refine⟨_,rfl,.tup rfl ?_,grown_of_below hb⟩
 intro i c hi
 match i with
 |0=>simp at hi;subst hi;exact .sc _
 |1=>simp at hi;subst hi;exact .iface (.bot _)
 |i+2=>simp at hi
theorem digB_rng{d:UInt8}(h:digB (d.toNat:Int)=true):48<=d.toNat/\d.toNat<=57:=by
 have:48<=(d.toNat:Int)/\(d.toNat:Int)<=57:=by simpa [digB] using h
 omega
theorem valL_top:∀l:List UInt8,(∀d∈l,digB (d.toNat:Int)=true)->valL 1099511627776 l=1099511627776
 |[],_=>rfl
 |c::r,h=>by
  have hc:=digB_rng (h c List.mem_cons_self)
  unfold valL
  rw[if_pos (by omega)]
  exact valL_top r fun d hd=>h d (List.mem_cons_of_mem _ hd)
def satN(n:Nat):Int:=if n<1099511627776 then (n:Int) else 1099511627776
theorem mag_val:∀(l:List UInt8)(acc:Nat),(∀d∈l,digB (d.toNat:Int)=true) ->
  (∃N:Nat,Lib.parseUint10 acc l=.ok N/\valL (satN acc) l=satN N)\/(Lib.parseUint10 acc l=.range/\valL (satN acc) l=1099511627776)
 |[],acc,_=>.inl ⟨acc,rfl,rfl⟩
 |c::r,acc,h=>by
  have hc:=digB_rng (h c List.mem_cons_self)
  have hr:∀d∈r,digB (d.toNat:Int)=true:=fun d hd=>h d (List.mem_cons_of_mem _ hd)
  have hv:valL (satN acc) (c::r)=valL (satN (acc*10+(c.toNat - 48))) r:=by
   conv=>lhs;unfold valL
   congr 1
   unfold satN
   (repeat' split)<;>omega
  rw[hv]
  simp only[Lib.parseUint10]
  rw[if_pos hc]
  by_cases h1:1844674407370955162<=acc
  ·rw[if_pos h1]
   refine .inr ⟨rfl,?_⟩
   have:satN (acc*10+(c.toNat - 48))=1099511627776:=by unfold satN;rw[if_neg (by omega)]
   rw[this]
   exact valL_top r hr
  rw[if_neg h1]
  by_cases h2:18446744073709551616<=acc*10+(c.toNat - 48)
  ·rw[if_pos h2]
   refine .inr ⟨rfl,?_⟩
   have:satN (acc*10+(c.toNat - 48))=1099511627776:=by unfold satN;rw[if_neg (by omega)]
   rw[this]
   exact valL_top r hr
  rw[if_neg h2]
  exact mag_val r _ hr
theorem atoi_pos{l:List UInt8}(hne:l≠[])(h:∀d∈l,digB (d.toNat:Int)=true):
  (valL 0 l<=1000000000->Lib.atoiAll l=.ok (valL 0 l))/\(¬valL 0 l<=1000000000->Lib.atoiAll l=.range\/∃n,Lib.atoiAll l=.ok n/\1000000000<n):=by
 cases l with
 |nil=>exact absurd rfl hne
 |cons c r=>
  have hc:=digB_rng (h c List.mem_cons_self)
  rw[Lib.atoiAll_plain c r (by omega) (by omega)]
  have hm:Lib.parseMag (c::r)=Lib.parseUint10 0 (c::r):=by unfold Lib.parseMag;rw[if_neg (by simp)]
  rw[hm]
  have h0:valL 0 (c::r)=valL (satN 0) (c::r):=rfl
  rw[h0]
  rcases mag_val (c::r) 0 h with⟨N,e1,e2⟩|⟨e1,e2⟩
  ·rw[e1,e2]
   unfold satN Lib.signless
   constructor
   ·intro hle
    split at hle
    ·rename_i hN
     rw[if_pos hN]
     simp only
     rw[if_neg (by omega)]
    ·omega
   ·intro hle
    split at hle
    ·simp only
     rw[if_neg (by omega)]
     exact .inr ⟨_,rfl,by omega⟩
    ·simp only
     split
     ·exact .inl rfl
     ·exact .inr ⟨_,rfl,by omega⟩
  ·rw[e1,e2]
   exact⟨fun h=>absurd h (by decide),fun _=>.inl rfl⟩
theorem atoi_neg{l:List UInt8}(hne:l≠[])(h:∀d∈l,digB (d.toNat:Int)=true):
  (valL 0 l<=1000000000->Lib.atoiAll (45::l)=.ok (0 - valL 0 l))/\(¬valL 0 l<=1000000000->Lib.atoiAll (45::l)=.range\/∃n,Lib.atoiAll (45::l)=.ok n/\n < -1000000000):=by
 rw[Lib.atoiAll_minus]
 have hm:Lib.parseMag l=Lib.parseUint10 0 l:=by unfold Lib.parseMag;rw[if_neg hne]
 rw[hm]
 have h0:valL 0 l=valL (satN 0) l:=rfl
 rw[h0]
 rcases mag_val l 0 h with⟨N,e1,e2⟩|⟨e1,e2⟩
 ·rw[e1,e2]
  unfold satN Lib.signed
  constructor
  ·intro hle
   split at hle
   ·rename_i hN
    rw[if_pos hN]
    simp only
    rw[if_neg (by omega)]
    simp
   ·omega
  ·intro hle
   split at hle
   ·simp only
    rw[if_neg (by omega)]
    exact .inr ⟨_,rfl,by omega⟩
   ·simp only
    split
    ·exact .inl rfl
    ·exact .inr ⟨_,rfl,by omega⟩
 ·rw[e1,e2]
  exact⟨fun h=>absurd h (by decide),fun _=>.inl rfl⟩
def lexT(s:ByteArray):Nat->Nat->List Tok->Except Nat (List Tok)
 |0,_,acc=>.ok acc
 |k+1,i,acc=>if i<s.size then
   match lstep s i with
   |.skip j=>lexT s k j acc
   |.tok r j=>lexT s k j (acc++[⟨r.kind,s.extract i j,i,r.n⟩])
   |.bad e=>.error e
  else .ok acc
theorem lexT_end{s:ByteArray}{k i:Nat}{acc:List Tok}(h:¬i<s.size):lexT s (k+1) i acc=.ok acc:=by
 unfold lexT
 rw[if_neg h]
theorem lexT_go{s:ByteArray}{k i:Nat}{acc:List Tok}(h:i<s.size):lexT s (k+1) i acc=match lstep s i with
   |.skip j=>lexT s k j acc
   |.tok r j=>lexT s k j (acc++[⟨r.kind,s.extract i j,i,r.n⟩])
   |.bad e=>.error e:=by
 conv=>lhs;unfold lexT
 rw[if_pos h]
theorem byI_some{s:ByteArray}{i:Nat}(h:0<=byI s i):i<s.size/\∃c,s.data[i]? = some c/\byI s i=(c.toNat:Int)/\(sL s).drop i=c::(sL s).drop (i+1):=by
 by_cases hi:i<s.size
 ·obtain⟨c,h1,h2⟩:=byteG hi
  exact⟨hi,c,h1,byI_of h1,h2⟩
 ·rw[byI_ge hi]at h
  omega
structure NumPart(s:ByteArray)(i f e:Nat):Prop where
 fi:f=if byI s i=45 then i+1 else i
 dig:digB (byI s f)=true
 ee:e=numEnd s f
theorem num_le{s:ByteArray}{f:Nat}(hd:digB (byI s f)=true):f<numEnd s f/\numEnd s f<=s.size:=by
 have h0:0<=byI s f:=by
  have:48<=byI s f/\byI s f<=57:=by simpa [digB] using hd
  omega
 obtain⟨hf,c,h1,h2,h3⟩:=byI_some h0
 unfold numEnd
 split
 ·omega
 ·rw[h2]at hd
  have:=endN_lt (p:=digB) h3 hd
  have:=(endN_le (p:=digB) (s:=s) (i:=f) (by omega)).2
  omega
theorem numStep_part{s:ByteArray}{i:Nat}(h:digB (byI s i)=true\/byI s i=45):(byI s i=45/\(byI s (i+1)<49\/57<byI s (i+1))/\numStep s i=.bad i) \/
  (¬(byI s i=45/\(byI s (i+1)<49\/57<byI s (i+1)))/\NumPart s i (numFrom s i) (numEnd s (numFrom s i))/\numStep s i=numAt s i (numFrom s i) (numEnd s (numFrom s i))):=by
 unfold numStep
 by_cases hb:byI s i=45/\(byI s (i+1)<49\/57<byI s (i+1))
 ·rw[if_pos hb]
  exact .inl ⟨hb.1,hb.2,rfl⟩
 ·rw[if_neg hb]
  refine .inr ⟨hb,⟨rfl,?_,rfl⟩,rfl⟩
  unfold numFrom
  by_cases h45:byI s i=45
  ·rw[if_pos h45]
   have:49<=byI s (i+1)/\byI s (i+1)<=57:=by
    constructor
    ·apply Classical.byContradiction;intro hh;exact hb ⟨h45,.inl (by omega)⟩
    ·apply Classical.byContradiction;intro hh;exact hb ⟨h45,.inr (by omega)⟩
   simp[digB];omega
  ·rw[if_neg h45]
   exact h.resolve_right h45
theorem num_text{s:ByteArray}{i f e:Nat}(h:NumPart s i f e):∃l:List UInt8,((sL s).drop f).take (e - f)=l/\l≠[]/\(∀d∈l,digB (d.toNat:Int)=true)/\f<e/\e<=s.size/\i<=f/\(s.extract i e).data.toList=if byI s i=45 then 45::l else l:=by
 obtain⟨hlt,hle⟩:=num_le h.dig
 rw[<-h.ee]at hlt hle
 have h0:0<=byI s f:=by
  have:48<=byI s f/\byI s f<=57:=by simpa [digB] using h.dig
  omega
 obtain⟨hf,c,h1,h2,h3⟩:=byI_some h0
 have hd:=h.dig
 rw[h2]at hd
 have hall:=num_digits h1 h3 hd
 rw[<-h.ee]at hall
 unfold sL at hall
 rw[extr_list]at hall
 refine⟨_,rfl,?_,hall,hlt,hle,by rw[h.fi];split<;>omega,?_⟩
 ·rw[h3,show e - f=(e - f - 1)+1 by omega,List.take_succ_cons]
  simp
 ·have hfi:=h.fi
  rw[extr_list]
  by_cases h45:byI s i=45
  ·rw[if_pos h45]at hfi ⊢
   obtain⟨_,c0,g1,g2,g3⟩:=byI_some (s:=s) (i:=i) (by omega)
   have hc0:c0=45:=by
    have:c0.toNat=45:=by omega
    exact UInt8.toNat_inj.1 this
   rw[g3,show e - i=(e - f)+1 by omega,List.take_succ_cons,hc0,hfi]
  ·rw[if_neg h45]at hfi ⊢
   rw[hfi]
theorem num_atoi{s:ByteArray}{i f e:Nat}(h:NumPart s i f e):
  (¬1000000000<numV s f e->Lib.atoiAll (s.extract i e).data.toList=.ok (if byI s i=45 then 0 - numV s f e else numV s f e)/\0<=numV s f e) /\
  (1000000000<numV s f e->Lib.atoiAll (s.extract i e).data.toList=.range\/∃n,Lib.atoiAll (s.extract i e).data.toList=.ok n/\(n < -1000000000\/1000000000<n)):=by
 obtain⟨l,hl,hne,hd,h1,h2,h3,ht⟩:=num_text h
 unfold numV
 rw[hl,ht]
 have hv0:=(valL_range l 0 (Int.le_refl _) (by decide) hd).1
 by_cases h45:byI s i=45
 ·rw[if_pos h45,if_pos h45]
  obtain⟨g1,g2⟩:=atoi_neg hne hd
  refine⟨fun h=>⟨g1 (by omega),hv0⟩,fun h=>?_⟩
  rcases g2 (by omega) with g|⟨n,g,gn⟩
  ·exact .inl g
  ·exact .inr ⟨n,g,.inl gn⟩
 ·rw[if_neg h45,if_neg h45]
  obtain⟨g1,g2⟩:=atoi_pos hne hd
  refine⟨fun h=>⟨g1 (by omega),hv0⟩,fun h=>?_⟩
  rcases g2 (by omega) with g|⟨n,g,gn⟩
  ·exact .inl g
  ·exact .inr ⟨n,g,.inr gn⟩
theorem lstep_lt{s:ByteArray}{i:Nat}(hi:i<s.size):(∀j,lstep s i=.skip j->i<j/\j<=s.size)/\∀r j,lstep s i=.tok r j->i<j/\j<=s.size:=by
 obtain⟨c,hc,hd⟩:=byteG hi
 have hb:=byI_of hc
 unfold lstep
 rw[hb]
 split
 ·exact⟨fun j h=>(by cases h;omega),fun r j h=>(by cases h)⟩
 split
 ·rename_i _ h35
  refine⟨fun j h=>?_,fun r j h=>(by cases h)⟩
  cases h
  have:=endN_lt (p:=notNl) hd (by rw[h35];rfl)
  have:=(endN_le (p:=notNl) (s:=s) (i:=i) (by omega)).2
  omega
 split
 ·rename_i _ _ hl
  unfold wordStep
  split
  ·exact⟨fun j h=>(by cases h),fun r j h=>(by cases h)⟩
  ·refine⟨fun j h=>(by cases h),fun r j h=>?_⟩
   cases h
   have:=endN_lt (p:=wordC) hd (by simp[wordC,hl])
   have:=(endN_le (p:=wordC) (s:=s) (i:=i) (by omega)).2
   omega
 split
 ·rename_i hn
  rw[<-hb]at hn
  rcases numStep_part hn with⟨_,_,h⟩|⟨_,hp,h⟩
  ·rw[h]
   exact⟨fun j h=>(by cases h),fun r j h=>(by cases h)⟩
  ·rw[h]
   obtain⟨l,_,_,_,h1,h2,h3,_⟩:=num_text hp
   unfold numAt
   split
   ·exact⟨fun j h=>(by cases h),fun r j h=>(by cases h)⟩
   split
   ·exact⟨fun j h=>(by cases h),fun r j h=>(by cases h)⟩
   ·refine⟨fun j h=>(by cases h),fun r j h=>?_⟩
    cases h
    omega
 ·unfold markStep
  split
  ·exact⟨fun j h=>(by cases h),fun r j h=>(by cases h)⟩
  ·rename_i hm
   refine⟨fun j h=>(by cases h),fun r j h=>?_⟩
   cases h
   rcases mark_le hi with h0|⟨h1,h2⟩
   ·exact absurd h0 hm
   ·omega
structure PairT(t:Tok)(r:RTok):Prop where
 kind:r.kind=t.kind
 num:t.kind=3->r.n=t.n
 text:t.kind≠3->r.s=t.text
 pos:r.at_=t.at_
 lo:1<=t.kind
 hi:t.kind<=4
 at0:0<=r.at_
 size:t.kind=3->t.text.size<=2^40/\Lib.atoiAll t.text.data.toList=.ok t.n
theorem lstep_pair{s:ByteArray}(hs:s.size<=2^20){i:Nat}(hi:i<s.size){r:RTok}{j:Nat}(h:lstep s i=.tok r j):PairT ⟨r.kind,s.extract i j,i,r.n⟩ r:=by
 obtain⟨hij,hj⟩:=(lstep_lt hi).2 r j h
 obtain⟨c,hc,hd⟩:=byteG hi
 have hb:=byI_of hc
 unfold lstep at h
 split at h
 ·cases h
 split at h
 ·cases h
 split at h
 ·unfold wordStep at h
  split at h
  ·cases h
  ·cases h
   have hk:∀x n,(1<=wKind x n/\wKind x n<=4)/\wKind x n≠3:=by
    intro x n
    unfold wKind
    split
    ·decide
    split<;>decide
   obtain⟨⟨k1,k2⟩,k3⟩:=hk (s.extract i (endN wordC s i)) (byI s i)
   exact⟨rfl,fun h=>absurd h k3,fun _=>rfl,rfl,k1,k2,by dsimp only;omega,fun h=>absurd h k3⟩
 split at h
 ·rename_i hn
  rcases numStep_part hn with⟨_,_,e⟩|⟨_,hp,e⟩
  ·rw[e]at h;cases h
  ·rw[e]at h
   have ha:=num_atoi hp
   unfold numAt at h
   split at h
   ·cases h
   rename_i hnv
   split at h
   ·cases h
   ·cases h
    refine⟨rfl,fun _=>rfl,fun h=>absurd rfl h,rfl,(by decide:(1:Int)<=3),(by decide:(3:Int)<=4),by dsimp only;omega,fun _=>⟨?_,?_⟩⟩
    ·have:(s.extract i (numEnd s (numFrom s i))).size=min (numEnd s (numFrom s i)) s.size - i:=ByteArray.size_extract
     dsimp only
     omega
    ·exact(ha.1 hnv).1
 ·unfold markStep at h
  split at h
  ·cases h
  ·cases h
   exact⟨rfl,fun h=>absurd h (by decide:¬(4:Int)=3),fun _=>rfl,rfl,(by decide:(1:Int)<=4),(by decide:(4:Int)<=4),by dsimp only;omega,fun h=>absurd h (by decide:¬(4:Int)=3)⟩
def PairL(T:List Tok)(R:List RTok):Prop:=T.length=R.length/\∀(i:Nat)(t:Tok)(r:RTok),T[i]? = some t->R[i]? = some r->PairT t r
theorem PairL.nil:PairL [] []:=⟨rfl,fun i t r h=>by simp at h⟩
theorem PairL.snoc{T:List Tok}{R:List RTok}{t:Tok}{r:RTok}(h:PairL T R)(hp:PairT t r):PairL (T++[t]) (R++[r]):=by
 refine⟨by simp[h.1],fun i t' r' h1 h2=>?_⟩
 rcases Nat.lt_trichotomy i T.length with hi|hi|hi
 ·rw[List.getElem?_append_left hi]at h1
  rw[List.getElem?_append_left (by rw[<-h.1];exact hi)]at h2
  exact h.2 i t' r' h1 h2
 ·rw[List.getElem?_append_right (by omega),show i - T.length=0 by omega]at h1
  have:=h.1
  rw[List.getElem?_append_right (by omega),show i - R.length=0 by omega]at h2
  simp at h1 h2
  rw[<-h1,<-h2];exact hp
 ·rw[List.getElem?_eq_none (by simp;omega)]at h1
  cases h1
theorem lex_same{s:ByteArray}(hs:s.size<=2^20):∀(k i:Nat)(T:List Tok)(R:List RTok),PairL T R ->
  (∃e,lexF s k i R=.error e/\lexT s k i T=.error e)\/∃R' T',lexF s k i R=.ok R'/\lexT s k i T=.ok T'/\PairL T' R'/\T'.length<=T.length+k
 |0,i,T,R,h=>.inr ⟨R,T,rfl,rfl,h,Nat.le_refl _⟩
 |k+1,i,T,R,h=>by
  by_cases hi:i<s.size
  ·rw[lexF_go hi,lexT_go hi]
   cases hl:lstep s i with
   |skip j=>
    simp only
    rcases lex_same hs k j T R h with⟨e,h1,h2⟩|⟨R',T',h1,h2,h3,h4⟩
    ·exact .inl ⟨e,h1,h2⟩
    ·exact .inr ⟨R',T',h1,h2,h3,by omega⟩
   |tok r j=>
    simp only
    rcases lex_same hs k j (T++[⟨r.kind,s.extract i j,i,r.n⟩]) (R++[r]) (h.snoc (lstep_pair hs hi hl)) with⟨e,h1,h2⟩|⟨R',T',h1,h2,h3,h4⟩
    ·exact .inl ⟨e,h1,h2⟩
    ·rw[List.length_append,List.length_singleton]at h4
     exact .inr ⟨R',T',h1,h2,h3,by omega⟩
   |bad e=>exact .inl ⟨e,rfl,rfl⟩
  ·rw[lexF_end hi,lexT_end hi]
   exact .inr ⟨R,T,rfl,rfl,h,by omega⟩
theorem lex_rel{s:ByteArray}(hs:s.size<=6000):(∃e,lexF s (s.size+1) 0 []=.error e/\lexT s (s.size+1) 0 []=.error e) \/
  ∃R L,lexF s (s.size+1) 0 []=.ok R/\lexT s (s.size+1) 0 []=.ok L/\RelT L (R++[endT s])/\NumOk L/\L.length<=6001:=by
 rcases lex_same (s:=s) (by omega) (s.size+1) 0 [] [] .nil with⟨e,h1,h2⟩|⟨R,L,h1,h2,h3,h4⟩
 ·exact .inl ⟨e,h1,h2⟩
 ·refine .inr ⟨R,L,h1,h2,?_,fun t ht h=>?_,by simp at h4;omega⟩
  ·have hlen:=h3.1
   simp at h4
   have at_:∀i (h:i<L.length) (h':i<(R++[endT s]).length),PairT L[i] (R++[endT s])[i]:=fun i h h'=>by
    rw[List.getElem_append_left (by omega)]
    exact h3.2 i _ _ (List.getElem?_eq_getElem h) (List.getElem?_eq_getElem (by omega))
   refine⟨by simp[hlen],by simp;omega,fun i h h'=>(at_ i h h').kind,fun i h h'=>(at_ i h h').num,fun i h h'=>(at_ i h h').text,fun i h h'=>(at_ i h h').pos,fun t ht=>?_,fun r hr=>?_,fun h'=>?_⟩
   ·obtain⟨i,hi,rfl⟩:=List.getElem_of_mem ht
    have:=at_ i hi (by simp;omega)
    exact⟨this.lo,this.hi⟩
   ·rcases List.mem_append.1 hr with hr|hr
    ·obtain⟨i,hi,rfl⟩:=List.getElem_of_mem hr
     exact(h3.2 i _ _ (List.getElem?_eq_getElem (by omega)) (List.getElem?_eq_getElem hi)).at0
    ·simp at hr
     rw[hr]
     show (0:Int)<=(s.size:Int)
     omega
   ·rw[List.getElem_append_right (by omega)]
    simp[hlen]
  ·obtain⟨i,hi,rfl⟩:=List.getElem_of_mem ht
   exact(h3.2 i _ _ (List.getElem?_eq_getElem hi) (List.getElem?_eq_getElem (by have:=h3.1;omega))).size h
end Go.Abs.Tz
namespace Go.Abs
open Go
def FT.Small:FT->Nat->Nat->Nat->Prop
 |.nil,_,_,_=>True
 |.nd v l r,a,b,N=>(b<N\/v=.bot)/\FT.Small l (2*a) (a+b) N/\FT.Small r (2*a) (2*a+b) N
theorem FT.small_get:∀(t:FT)(a b N:Nat),t.Small a b N->∀j,N<=a*j+b->t.get j=.bot
 |.nil,_,_,_,_,_,_=>rfl
 |.nd v l r,a,b,N,h,j,hj=>by
  rw[FT.get_node]
  split
  ·rename_i h0
   subst h0
   rcases h.1 with h1|h1
   ·simp at hj;omega
   ·exact h1
  ·rename_i h0
   obtain⟨q,hq⟩:∃q,j / 2=q:=⟨_,rfl⟩
   split
   ·rename_i h1
    refine FT.small_get l (2*a) (a+b) N h.2.1 (j / 2) ?_
    rw[hq]
    have e:j=2*q+1:=by omega
    rw[e,Nat.mul_add,Nat.mul_one,<-Nat.mul_assoc,Nat.mul_comm a 2]at hj
    omega
   ·rename_i h1
    obtain⟨p,hp⟩:∃p,j / 2 - 1=p:=⟨_,rfl⟩
    refine FT.small_get r (2*a) (2*a+b) N h.2.2 (j / 2 - 1) ?_
    rw[hp]
    have e:j=2*p+2:=by omega
    rw[e,Nat.mul_add,<-Nat.mul_assoc,Nat.mul_comm a 2]at hj
    omega
theorem frOf_frF{t:FT}{N:Nat}(h:t.Small 1 0 N):frOf (frF t N)=t.get:=by
 funext k
 unfold frOf frF
 by_cases hk:k<N
 ·simp[List.getD_eq_getElem?_getD,hk]
 ·have:((List.range N).map t.get)[k]? = none:=List.getElem?_eq_none (by simp;omega)
  rw[List.getD_eq_getElem?_getD,this,FT.small_get t 1 0 N h k (by omega)]
  rfl
theorem frF_len(t:FT)(N:Nat):(frF t N).length=N:=by simp[frF]
section
variable{E:Env}{F:Fns}
def rndK(o:Nat)(fo:List LV)(ps:List Nat)(k:Nat)(kv:HP):XP:=fun e _ H=>match e with
 |.normal=>look o H.objs=some (.rcd true fo ps k)/\kv (.bool true) ⟨putO o (.rcd false fo ps k) H.objs,H.next⟩
 |.ret=>look o H.objs=some (.rcd true fo ps k)/\kv (.bool false) ⟨putO o (.lft none) H.objs,H.next⟩
 |.exit id=>look o H.objs=some (.rcd true fo ps k)/\kv (.bool false) ⟨putO o (.lft (some id)) H.objs,H.next⟩
 |.pan _=>False
def begK(E:Env)(F:Fns)(o:Nat)(fo:List LV)(ps:List Nat)(k:Nat)(bb:BCode)(kv:HP):XP:=fun e t H=>match e with
 |.normal=>look o H.objs=some (.rcd false fo ps k)/\runP E F bb t ⟨putO o (.rcd true fo ps k) H.objs,H.next⟩ (rndK o fo ps k kv)
 |_=>False
theorem rndK_n(o:Nat)(fo:List LV)(ps:List Nat)(k:Nat)(kv:HP)(t:FT)(ob:List (Nat×LObj))(n:Nat):rndK o fo ps k kv .normal t ⟨ob,n⟩=(look o ob=some (.rcd true fo ps k)/\kv (.bool true) ⟨putO o (.rcd false fo ps k) ob,n⟩):=propext Iff.rfl
theorem rndK_r(o:Nat)(fo:List LV)(ps:List Nat)(k:Nat)(kv:HP)(t:FT)(ob:List (Nat×LObj))(n:Nat):rndK o fo ps k kv .ret t ⟨ob,n⟩=(look o ob=some (.rcd true fo ps k)/\kv (.bool false) ⟨putO o (.lft none) ob,n⟩):=propext Iff.rfl
theorem begK_n(o:Nat)(fo:List LV)(ps:List Nat)(k:Nat)(bb:BCode)(kv:HP)(t:FT)(ob:List (Nat×LObj))(n:Nat):begK E F o fo ps k bb kv .normal t ⟨ob,n⟩=(look o ob=some (.rcd false fo ps k)/\runP E F bb t ⟨putO o (.rcd true fo ps k) ob,n⟩ (rndK o fo ps k kv)):=propext Iff.rfl
theorem isR_of{o:Nat}{b:Bool}{H:LHeap}{fo:List LV}{ps:List Nat}{k:Nat}(h:look o H.objs=some (.rcd b fo ps k)):isR o b H=true:=by
 cases b<;>simp[isR,h]
theorem busyH_of{o:Nat}{b b':Bool}{H:LHeap}{fo:List LV}{ps:List Nat}{k:Nat}(h:look o H.objs=some (.rcd b fo ps k)):busyH o b' H=⟨putO o (.rcd b' fo ps k) H.objs,H.next⟩:=by
 simp[busyH,h,LHeap.put]
theorem yP_run{o k p N:Nat}{H:LHeap}{t:FT}{v:LV}{ba bb:BCode}{kv:HP}(hs:t.Small 1 0 N)(hp:p<N)(hl:look o H.objs=some (.rcd false (frF t N) [p] k))(hr:F.rng k N ba bb)
  (h:H.Ok->setP t p v fun t0=>runP E F ba t0 H (begK E F o (frF t N) [p] k bb kv)):yP E F o [v] H kv:=by
 intro hH
 refine⟨frF t N,[p],k,ba,bb,XSP (begK E F o (frF t N) [p] k bb kv),XSP (rndK o (frF t N) [p] k kv),hl,by rw[frF_len];exact hr,rfl,by simp[frF_len,hp],?_,?_,?_,?_,?_,?_⟩
 ·have h1:=runP_ok ba (t.set p v) H _ hH (h hH)
  rw[FT.set_get,<-frOf_frF hs]at h1
  exact h1
 ·rintro e fr1 df1 H1 ⟨e1,t1,H2,he,hok,hk⟩
  cases he
  cases e<;>try exact hk.elim
  exact⟨rfl,isR_of hk.1⟩
 ·rintro fr1 df1 H1 ⟨e1,t1,H2,he,hok,hk⟩
  cases he
  have:=runP_ok bb t1 _ _ (by exact Desc.put hok) hk.2
  rw[busyH_of hk.1]
  exact this
 ·rintro e fr2 df2 H2 ⟨e1,t1,H3,he,hok,hk⟩
  cases he
  cases e with
  |pan v=>exact hk.elim
  |normal=>exact⟨trivial,isR_of hk.1⟩
  |ret=>exact⟨trivial,isR_of hk.1⟩
  |exit id=>exact⟨trivial,isR_of hk.1⟩
 ·rintro fr2 df2 H2 ⟨e1,t1,H3,he,hok,hk⟩
  cases he
  rw[busyH_of hk.1]
  exact⟨by exact Desc.put hok,hk.2⟩
 ·rintro j fr2 df2 H2 ⟨e1,t1,H3,he,hok,hk⟩
  cases j with
  |none=>
   cases he
   exact⟨by exact Desc.put hok,hk.2⟩
  |some id=>
   cases he
   exact⟨by exact Desc.put hok,hk.2⟩
end
def rgP(v:LV)(k:FuncId->List LV->Prop):Prop:=∃f cap,v=.fn (.func f) [] cap/\k f cap
def endP(E:Env)(res:List BRes)(t:FT)(H:LHeap)(kv:HP):Prop:=resP E res t H fun v=>∃H'',HWk H H''/\(H.Ok->H''.Ok)/\kv v H''
def earlyK(E:Env)(res:List BRes)(kv:HP):XP:=fun e t H=>e=.ret/\endP E res t H kv
def lastK(E:Env)(res:List BRes)(t7:FT)(m:Nat)(kv:HP):XP:=fun e _ H=>(e=.normal\/e=.ret)/\look m H.objs=some .dfr/\endP E res t7 ⟨delO m H.objs,H.next⟩ kv
def lastP(E:Env)(F:Fns)(r:RFn)(cs:List LV)(m:Nat)(kv:HP)(y:LV)(t7:FT)(H:LHeap):Prop:=argsP cs 0 .nil fun u=>setP u r.dr y fun u=>runP E F r.rest u H (lastK E r.res t7 m kv)
def behK(E:Env)(F:Fns)(r:RFn)(cs:List LV)(m:Nat)(kv:HP):XP:=fun e t7 H=>match e with
 |.normal=>lastP E F r cs m kv (.sc .nilIface) t7 H
 |.ret=>lastP E F r cs m kv (.sc .nilIface) t7 H
 |.pan v=>lastP E F r cs m kv v t7 H
 |.exit _=>False
def behP(E:Env)(F:Fns)(r:RFn)(t4:FT)(m:Nat)(kv:HP)(H:LHeap):Prop:=r.cs.length<=r.ng/\evsP E r.cs t4 fun cs=>setP t4 r.dd (.fn (.func r.g) [] cs) fun t6=>runP E F r.Z t6 H (behK E F r cs m kv)
def afterK(E:Env)(F:Fns)(r:RFn)(t4:FT)(m:Nat)(kv:HP):HP:=fun _ H=>
 (look (m+1) H.objs=some (.rcd false (frF t4 r.n) r.ps r.k)/\behP E F r t4 m kv ⟨delO (m+1) H.objs,H.next⟩) \/
 (look (m+1) H.objs=some (.lft none)/\look m H.objs=some .dfr/\endP E r.res t4 ⟨delO m (delO (m+1) H.objs),H.next⟩ kv)
def rangeP(E:Env)(F:Fns)(r:RFn)(kv:HP)(t4:FT)(H:LHeap):Prop:=evP E r.x t4 fun v=>rgP v fun f cap=>
 cP E F f (.fn (.yield (H.next+1)) [] []::cap) ⟨(H.next+1,.rcd false (frF t4 r.n) r.ps r.k)::(H.next,.dfr)::H.objs,H.next+1+1⟩ (afterK E F r t4 H.next kv) (fun _ _=>False)
section
variable{E:Env}{F:Fns}
theorem earlyK_r(res:List BRes)(kv:HP)(t:FT)(H:LHeap):earlyK E res kv .ret t H=endP E res t H kv:=propext ⟨fun h=>h.2,fun h=>⟨rfl,h⟩⟩
theorem lastK_n(res:List BRes)(t7:FT)(m:Nat)(kv:HP)(t:FT)(ob:List (Nat×LObj))(n:Nat):lastK E res t7 m kv .normal t ⟨ob,n⟩=(look m ob=some .dfr/\endP E res t7 ⟨delO m ob,n⟩ kv):=propext ⟨fun h=>h.2,fun h=>⟨.inl rfl,h⟩⟩
theorem behK_r(r:RFn)(cs:List LV)(m:Nat)(kv:HP)(t:FT)(H:LHeap):behK E F r cs m kv .ret t H=lastP E F r cs m kv (.sc .nilIface) t H:=propext Iff.rfl
theorem behK_p(r:RFn)(cs:List LV)(m:Nat)(kv:HP)(v:LV)(t:FT)(H:LHeap):behK E F r cs m kv (.pan v) t H=lastP E F r cs m kv v t H:=propext Iff.rfl
theorem endP_cc(n m:Nat)(t:FT)(H:LHeap)(kv:HP):endP E [.c n none,.c m none] t H kv=getP t n fun a=>getP t m fun b=>vP (loadL H none a) fun x=>vP (loadL H none b) fun y=>∃H'',HWk H H''/\(H.Ok->H''.Ok)/\kv (.tup [x,y]) H'':=by
 unfold endP resP getP vP
 apply propext
 simp only[resultL,List.mapM_cons,List.mapM_nil,resL]
 cases hx:loadL H none (t.get n) with
 |none=>simp
 |some x=>
  cases hy:loadL H none (t.get m) with
  |none=>simp
  |some y=>simp
theorem look_delne{i m:Nat}(h:i≠m)(l:List (Nat×LObj)):look i (delO m l)=look i l:=by rw[look_del,if_neg h]
end
section
variable{P:Program}{E:Env}{G:Ghost}{w:World}{fr:Fr}{H:LHeap}{N:Nat}{a:Act}{T:Res->Prop}
theorem rf_wp2{nf:Nat}{Q:Exit->Act->World->Prop}{code:Code}{x:BO}{ps:List Nat}{ba bb:BCode}{k f:Nat}{cap:List LV}(hc:cCode P N code=some (.rf x ps ba bb))(hrc:∀d pa a b,code=.rangeFunc d pa a b->E.rc k=(a,b))
  (hI:Inv G w H) (hE:EnvR E G w) (hf:FR G w N fr a) (hx:E.ev fr x=.fn (.func f) [] cap)
  (hcall:CallOk P E f (.fn (.yield (H.next+1)) [] []::cap) ((H.alloc .dfr).alloc (.rcd false (frL fr N) ps k)) T)
  (hT:∀r,T r->∃v H',r=.ret v H'/\(isR (H.next+1) false H'=true\/isL (H.next+1) none H'=true))
  (hK:∀v H' G' w',T (.ret v H')->isR (H.next+1) false H'=true->Inv G' w' (H'.del (H.next+1))->Ext G w G' w'->H.next<G'.n->Q .normal { a with defers:={ target:=.collected (G'.loc H.next),args:=#[] }::a.defers } w')
  (hL:∀v H' G' w',T (.ret v H')->isL (H.next+1) none H'=true->Inv G' w' (H'.del (H.next+1))->Ext G w G' w'->H.next<G'.n->Q .ret { a with defers:={ target:=.collected (G'.loc H.next),args:=#[] }::a.defers } w'):
  code.wpIn (fen none) nf P Q a w:=by
 obtain⟨d,pa,ca,cb,rfl,hd,rfl,_,_⟩:=cCode_rf hc
 have hv:=ev_VR hE hf d x hd
 rw[hx]at hv
 obtain⟨us,vs,hv,hu0,hvs,_,hvr⟩:=hv.fn_inv
 obtain rfl:us=#[]:=Array.eq_empty_of_size_eq_zero (by simpa using hu0)
 have hv:a.eval d=.func (.func f) #[] vs:=hv
 refine wpIn_rangeFunc fun fn _=>?_
 obtain⟨i1,x1⟩:=hI.alloc (.deferred (some [])) .dfr (0,0) (fun hx=>⟨by rw[Ghost.add_loc];exact heap_alloc_new,by rw[Ghost.add_loc];exact hI.hB',by rw[Ghost.add_loc];exact Ghost.add_own _ _ _ _ _⟩)
 have hrck:=hrc _ _ _ _ rfl
 have hEr:=hE.rc
 let L:Loop:={ state:=.ready,pending:=none,fn:=fn,tmps:=a.tmps,params:=pa,assign:=ca,body:=cb,defers:=w.heap.size }
 obtain⟨i2,x2⟩:=i1.alloc (.loop L) (.rcd false (frL fr N) pa.toList k) (0,0) (fun hx=>by
  refine⟨fn,a.tmps,w.heap.size,?_,by rw[Ghost.add_loc];exact i1.hB',by rw[Ghost.add_loc];exact Ghost.add_own _ _ _ _ _,by rw[hf.size];simp[frL],fun i y hi=>?_⟩
  ·rw[Ghost.add_loc]
   have e1:(((G.add H.next w.heap.size (0,0)).add (H.alloc .dfr).next (w.alloc (.deferred (some []))).heap.size (0,0)).rc k)=(ca,cb):=by
    show G.rc k=_
    rw[hEr,hrck]
   rw[e1]
   exact heap_alloc_new
  ·obtain⟨j,hj,rfl⟩:=List.getElem?_eq_some_iff.1 hi
   simp only[frL,List.getElem_map,List.getElem_range]
   exact((hf.slot i).mono x1).mono hx)
 have x12:=x1.trans x2
 have hE2:=hE.mono x12
 generalize hG2:(G.add H.next w.heap.size (0,0)).add (H.alloc .dfr).next (w.alloc (.deferred (some []))).heap.size (0,0)=G2 at i2 x2 x12 hE2
 have hl2:G2.loc (H.next+1)=w.heap.size+1:=by rw[<-hG2];simp[Ghost.add,LHeap.alloc]
 have hn2:G2.n=H.next+2:=by rw[<-hG2];simp[Ghost.add,LHeap.alloc]
 have hargs:ArgsR G2 ((w.alloc (.deferred (some []))).alloc (.loop L)) (.fn (.yield (H.next+1)) [] []::cap) (#[.func (.yield (w.heap.size+1)) #[] #[]]++vs):=by
  have h1:ArgsR G2 ((w.alloc (.deferred (some []))).alloc (.loop L)) [.fn (.yield (H.next+1)) [] []] #[.func (.yield (w.heap.size+1)) #[] #[]]:=by
   refine⟨rfl,fun i y hi=>?_⟩
   match i with
   |0=>
    simp at hi;subst hi
    have:=VR.fn (G:=G2) (w:=(w.alloc (.deferred (some []))).alloc (.loop L)) (f:=.yield (H.next+1)) (a:=[]) (c:=[]) (us:=#[]) (vs:=#[]) (by show _<G2.n;rw[hn2];omega) rfl rfl (fun i x h=>by simp at h) (fun i x h=>by simp at h)
    simpa [fnW,hl2] using this
   |i+1=>simp at hi
  exact h1.append ⟨hvs,fun i y hi=>(hvr i y hi).mono x12⟩
 obtain⟨he,hc2⟩:=hcall
 refine⟨w.heap.size+1,[{ target:=.collected w.heap.size,args:=#[] }],(w.alloc (.deferred (some []))).alloc (.loop L),{ target:=.fn (.func f) vs,args:=#[.func (.yield (w.heap.size+1)) #[] #[]] },(w.alloc (.deferred (some []))).alloc (.loop L),f,
  #[.func (.yield (w.heap.size+1)) #[] #[]]++vs,(w.alloc (.deferred (some []))).alloc (.loop L),run_enterLoop_outer _ _ _ _ _,?_,fun _ _=>trivial,?_,fun h=>(by cases h),?_⟩
 ·simp only[resolve,hv]
  simp[go_sem]
 ·obtain⟨fn',hf',hb',hn'⟩:=he
  simp only[invoke]
  exact call_enter hf' hb' hn' _
 ·refine CallsIn.mono (F:=fen none) (callsIn_wide.2 (hc2 G2 _ _ i2 hE2 hargs)) fun e w' hp=>?_
  cases e with
  |outgrown=>exact hp.elim
  |panicked ch=>
   obtain⟨v,u,H',G',hTT,_⟩:=hp
   obtain⟨_,_,h,_⟩:=hT _ hTT
   cases h
  |returned u=>
   obtain⟨v,H',G',hTT,hv',hI',hx'⟩:=hp
   obtain⟨v1,H1,h,hR⟩:=hT _ hTT
   cases h
   have hloc:G'.loc (H.next+1)=w.heap.size+1:=by rw[hx'.loc _ (by omega),hl2]
   have hlD:G'.loc H.next=w.heap.size:=by
    rw[hx'.loc _ (by omega),<-hG2]
    simp[Ghost.add,LHeap.alloc]
   rcases hR with hR|hR
   ·obtain⟨fo1,ps1,k1,hl,_⟩:=isR_spec (b':=false) hR
    obtain⟨hm,fn1,tmps1,df1,q1,q2,q3,_⟩:=hI'.objs _ _ hl
    have hend:=run_endLoop (P:=P) q1 (by simp)
    rw[hloc]at hend
    obtain⟨y1,y2⟩:=hI'.setDel (ob':=.loop { (rcL G' false fn1 tmps1 ps1 k1 df1) with state:=.exhausted }) hl q1 (by simp) q2 q3
    rw[hloc]at y1 y2
    refine⟨_,_,hend,?_⟩
    have:=hK v H' G' _ hTT hR y2 (x12.trans (hx'.trans y1)) (by have:=hx'.n;omega)
    rw[hlD]at this
    exact this
   ·have hl:=isL_spec hR
    obtain⟨hm,⟨Lp,q1,q4,q5⟩,q2,q3⟩:=hI'.objs _ _ hl
    have hend:=run_endLoop (P:=P) q1 (by rw[q4];simp)
    rw[hloc]at hend
    obtain⟨y1,y2⟩:=hI'.setDel (ob':=.loop { Lp with state:=.exhausted }) hl q1 (by simp) q2 q3
    rw[hloc]at y1 y2
    refine⟨_,_,hend,?_⟩
    have h5:=hL v H' G' _ hTT hR y2 (x12.trans (hx'.trans y1)) (by have:=hx'.n;omega)
    rw[hlD]at h5
    split
    ·rename_i hp
     rw[q5]at hp;cases hp
    ·rename_i c hp
     rw[q5]at hp
     obtain rfl:Code.ret=c:=Option.some.inj hp
     exact wpIn_ret h5
theorem stageP{F:Fns}{c:BCode}{code:Code}{nf:Nat}{t:FT}{K:FT->LHeap->Prop}{R:FT->LHeap->Prop}{next:Act->World->Prop}{Q:Exit->Act->World->Prop}(hmix:P.follows .mixedOrders=true)(hF:FnsOk P E F)
  (hcc:cCode P N code=some c) (hI:Inv G w H) (hE:EnvR E G w) (hf:FR G w N t.get a) (hH:H.Ok) (h:runP E F c t H (seqK K fun e t H=>e=.ret/\R t H))
  (hK:∀t' H' G' w' a',K t' H'->H'.Ok->Inv G' w' H'->FR G' w' N t'.get a'->a'.defers=a.defers->Ext G w G' w'->next a' w')
  (hR:∀t' H' G' w' a',R t' H'->H'.Ok->Inv G' w' H'->FR G' w' N t'.get a'->a'.defers=a.defers->Ext G w G' w'->Q .ret a' w'):code.wpIn (fen none) nf P (Exit.then next Q) a w:=by
 have hs:CodeOk P E c t.get H _:=sound hmix hF (runP_ok c t H _ hH h)
 refine hs.wp none nf N code G w a _ hcc hI hE hf fun e a' w' hp=>?_
 obtain⟨le,fr',df',H',G',hX,he,hI',hf',hd,hx⟩:=hp
 obtain⟨e0,t',H'',hr,hok,hk⟩:=hX
 cases hr
 cases le with
 |normal=>
  cases e<;>try exact he.elim
  exact hK _ _ _ _ _ hk hok hI' hf' hd hx
 |ret=>
  cases e<;>try exact he.elim
  exact hR _ _ _ _ _ hk.2 hok hI' hf' hd hx
 |exit n=>exact absurd hk.1 (by simp)
 |pan v=>exact absurd hk.1 (by simp)
theorem cP_of_rfn{F:Fns}{r:RFn}{f:FuncId}(hmix:P.follows .mixedOrders=true)(hF:FnsOk P E F)(hfn:F.fn f r.fn)(hg:F.fn r.g r.gn)(hrc:∀fn c,P.funcs[f]? = some fn->fn.body=some c->rfOf c=E.rc r.k)
  {args:List LV} {kv kp:HP} (hH:H.Ok)
  (h:args.length<=r.n/\argsP args 0 .nil fun t=>runP E F r.A t H (seqK (fun t1 H1=>runP E F r.I t1 H1 (seqK (fun t2 H2=>runP E F r.B t2 H2 (seqK (fun t3 H3=>runP E F r.C t3 H3 (seqK (fun t4 H4=>∃t5,FT.Le t5 t4/\rangeP E F r kv t5 H4) (earlyK E r.res kv))) (earlyK E r.res kv))) (earlyK E r.res kv))) (earlyK E r.res kv))):
  CallOk P E f args H (CSP kv kp):=by
 obtain⟨fn,hff,hcF,hname⟩:=hF.fn _ _ hfn
 obtain⟨gn,hgf,hgc,hgname⟩:=hF.fn _ _ hg
 obtain⟨c,hb,hcode,hbn,hres⟩:=cFn_inv hcF
 have hrc:=hrc fn c hff hb
 simp only[RFn.fn]at hcode hbn hres
 obtain⟨cA,c1,rfl,eA,hcode⟩:=cCode_seq hcode
 obtain⟨cI,c2,rfl,eI,hcode⟩:=cCode_seq hcode
 obtain⟨cB,c3,rfl,eB,hcode⟩:=cCode_seq hcode
 obtain⟨c4,c5,rfl,e4,e5⟩:=cCode_seq hcode
 obtain⟨cC,cl,rfl,eC,e4⟩:=cCode_seq e4
 obtain⟨cr,rfl,er⟩:=cCode_blk e4
 obtain⟨cD,cZ,rfl,eD,eZ⟩:=cCode_seq e5
 have hrc':∀d pa a b,cr=.rangeFunc d pa a b->E.rc r.k=(a,b):=by
  intro d pa a b e
  subst e
  exact hrc.symm
 obtain⟨hn,h⟩:=h
 obtain⟨t,h,ht0⟩:=argsP_spec h
 have ht:t.get=frOf args:=by
  funext j
  rw[ht0 j]
  simp only[frOf]
  by_cases hj:j<args.length
  ·rw[if_pos (by omega)];simp
  ·rw[if_neg (by omega)]
   have:args[j]? = none:=List.getElem?_eq_none (by omega)
   simp[List.getD_eq_getElem?_getD,this,FT.get_nil]
 refine⟨⟨fn,hff,by simp[hb],hname⟩,fun G w us hI hE ha=>(callsIn_wide (n:=0)).1 (callsIn_of_wp_marks (F:=fen none) (n:=0) hff hb trivial ?_)⟩
 have hf0:FR G w fn.ntmps t.get { tmps:=us++Array.replicate (fn.ntmps - us.size) undef,defers:=[] }:=by
  rw[ht];exact args_FR ha (hbn▸hn)
 have early:∀(t':FT)(H':LHeap)(G':Ghost)(w':World)(a':Act),endP E r.res t' H' kv->H'.Ok->Inv G' w' H'->FR G' w' fn.ntmps t'.get a'->a'.defers=[]->Ext G w G' w'->bodyPostM (fen none) 0 P fn (CallPost G w (CSP kv kp)) .ret a' w':=by
  intro t' H' G' w' a' he hok hI' hf' hd hx
  obtain⟨vr,hvr,H'',k1,k2,k3⟩:=he
  obtain⟨uv,hr1,hr2⟩:=run_results hI' hf' hres hvr
  show LeavesInM (fen none) 0 P fn a'.tmps _ a'.defers .returning w'
  rw[hd]
  exact⟨uv,hr1,vr,_,G',.inl ⟨vr,_,rfl,k2 hok,k3⟩,hr2,hI'.wk k1,hx⟩
 refine wpIn_seq (stageP hmix hF eA hI hE hf0 hH h (fun t1 H1 G1 w1 a1 h ok1 hI1 hf1 hd1 hx1=>?_) fun t1 H1 G1 w1 a1 h ok1 hI1 hf1 hd1 hx1=>early _ _ _ _ _ h ok1 hI1 hf1 hd1 hx1)
 have hE1:=hE.mono hx1
 refine wpIn_seq (stageP hmix hF eI hI1 hE1 hf1 ok1 h (fun t2 H2 G2 w2 a2 h ok2 hI2 hf2 hd2 hx2=>?_) fun t2 H2 G2 w2 a2 h ok2 hI2 hf2 hd2 hx2=>early _ _ _ _ _ h ok2 hI2 hf2 (hd2.trans hd1) (hx1.trans hx2))
 have hE2:=hE1.mono hx2
 refine wpIn_seq (stageP hmix hF eB hI2 hE2 hf2 ok2 h (fun t3 H3 G3 w3 a3 h ok3 hI3 hf3 hd3 hx3=>?_) fun t3 H3 G3 w3 a3 h ok3 hI3 hf3 hd3 hx3=>early _ _ _ _ _ h ok3 hI3 hf3 (hd3.trans (hd2.trans hd1)) ((hx1.trans hx2).trans hx3))
 have hE3:=hE2.mono hx3
 refine wpIn_seq (wpIn_seq (stageP hmix hF eC hI3 hE3 hf3 ok3 h (fun t4 H4 G4 w4 a4 h ok4 hI4 hf4 hd4 hx4=>?_) fun t4 H4 G4 w4 a4 h ok4 hI4 hf4 hd4 hx4=>early _ _ _ _ _ h ok4 hI4 hf4 (hd4.trans (hd3.trans (hd2.trans hd1))) (((hx1.trans hx2).trans hx3).trans hx4)))
 have hE4:=hE3.mono hx4
 have hx04:=((hx1.trans hx2).trans hx3).trans hx4
 have hd04:a4.defers=[]:=hd4.trans (hd3.trans (hd2.trans hd1))
 refine wpIn_block ?_
 obtain⟨t5,hle,h⟩:=h
 have hf4:=hf4.wk hle.fwk
 clear hle
 revert h hf4
 generalize t5=t4
 intro h hf4
 obtain⟨fi,cap,hx,h⟩:=(show rgP (E.ev t4.get r.x) _ from h)
 have hO:=h (show LHeap.Ok ⟨(Nat.succ H4.next,.rcd false (frF t4 r.n) r.ps r.k)::(H4.next,.dfr)::H4.objs,Nat.succ (Nat.succ H4.next)⟩ from ⟨Nat.lt_succ_self _,Nat.lt_succ_self _,ok4⟩)
 have hC:CallOk P E _ _ _ _:=sound hmix hF hO
 have afterT:∀q,CSP (afterK E F r t4 H4.next kv) (fun _ _=>False) q->∃v H',q=.ret v H'/\H'.Ok/\afterK E F r t4 H4.next kv v H':=by
  rintro q (⟨v,H',rfl,hok,hk⟩|⟨v,H',rfl,hok,hk⟩)
  ·exact⟨v,H',rfl,hok,hk⟩
  ·exact hk.elim
 refine rf_wp2 (k:=r.k) (T:=CSP (afterK E F r t4 H4.next kv) fun _ _=>False) er hrc' hI4 hE4 hf4 hx (by rw[<-hbn];exact hC) (fun q hq=>?_) (fun v H5 G5 w5 hT hR hI5 hx5 hlt5=>?_) (fun v H5 G5 w5 hT hR hI5 hx5 hlt5=>?_)
 ·obtain⟨v,H',rfl,_,hk⟩:=afterT q hq
  rcases hk with⟨hk,_⟩|⟨hk,_⟩
  ·exact⟨v,H',rfl,.inl (isR_of hk)⟩
  ·exact⟨v,H',rfl,.inr (by simp[isL,hk])⟩
 rotate_left
 ·
  obtain⟨v',H',he,ok5,hk⟩:=afterT _ hT
  cases he
  have hlk:=isL_spec hR
  rcases hk with⟨hk,_⟩|⟨_,hD,hk⟩
  ·rw[hlk]at hk;cases hk
  have ok5':(H5.del (H4.next+1)).Ok:=Desc.del ok5
  have hD':look H4.next (H5.del (H4.next+1)).objs=some .dfr:=by
   simp only[LHeap.del,look_del]
   rw[if_neg (by omega)]
   exact hD
  obtain⟨hlt5',q1,q2,q3⟩:=hI5.objs _ _ hD'
  obtain⟨y1,y2⟩:=hI5.setDel (ob':=.deferred none) hD' q1 (by simp) q2 q3
  have htd:=run_takeDeferred (P:=P) q1
  obtain⟨vr,hvr,H'',k1,k2,k3⟩:=hk
  have hx05:=(hx04.trans hx5).trans y1
  obtain⟨uv,hr1,hr2⟩:=run_results (a:={ a4 with defers:={ target:=.collected (G5.loc H4.next),args:=#[] }::a4.defers }) y2 (show FR _ _ fn.ntmps t4.get _ from ⟨((hf4.mono hx5).mono y1).size,((hf4.mono hx5).mono y1).slot⟩) hres hvr
  show LeavesInM (fen none) 0 P fn a4.tmps _ ({ target:=.collected (G5.loc H4.next),args:=#[] }::a4.defers) .returning w5
  rw[hd04]
  refine⟨by simp,.inl ⟨_,_,rfl,htd,?_⟩⟩
  exact⟨uv,hr1,vr,_,G5,.inl ⟨vr,_,rfl,k2 (Desc.del ok5'),k3⟩,hr2,y2.wk k1,hx05⟩
 ·obtain⟨v',H',he,ok5,hk⟩:=afterT _ hT
  cases he
  rcases hk with⟨_,hk⟩|⟨hk,_⟩
  rotate_left
  ·obtain⟨_,_,_,hlk,_⟩:=isR_spec (b':=false) hR
   rw[hlk]at hk;cases hk
  have ok5':(H5.del (Nat.succ H4.next)).Ok:=Desc.del ok5
  have hE5:=hE4.mono hx5
  have hx05:=hx04.trans hx5
  show (Code.seq cD cZ).wpIn (fen none) 0 P (bodyPostM (fen none) 0 P fn (CallPost G w (CSP kv kp))) _ _
  obtain⟨hcl,hk⟩:=hk
  have hk:runP E F r.Z (t4.set r.dd (.fn (.func r.g) [] (r.cs.map (E.ev t4.get)))) (H5.del (H4.next+1)) (behK E F r (r.cs.map (E.ev t4.get)) H4.next kv):=hk
  refine wpIn_seq (defer_wp (fr:=t4.get) eD hI5 hE5 ⟨(hf4.mono hx5).size,(hf4.mono hx5).slot⟩ fun a6 w6 G6 vs hf6 hvs hd6 hx6 hI6=>?_)
  have hE6:=hE5.mono hx6
  have hx06:=hx05.trans hx6
  rw[<-FT.set_get]at hf6
  have hs:CodeOk P E r.Z _ (H5.del (H4.next+1)) _:=sound hmix hF (runP_ok _ _ _ _ ok5' hk)
  refine hs.wp none 0 fn.ntmps cZ G6 w6 a6 _ eZ hI6 hE6 hf6 fun e a7 w7 hp=>?_
  obtain⟨le,fr7,df7,H7,G7,hX,he7,hI7,hf7,hd7,hx7⟩:=hp
  obtain⟨e0,t7,H7',hr,ok7,hk⟩:=hX
  cases hr
  have hE7:=hE6.mono hx7
  have hx07:=hx06.trans hx7
  have hdefs:a7.defers=[{ target:=.fn (.func r.g) vs,args:=#[] },{ target:=.collected (G5.loc H4.next),args:=#[] }]:=by rw[hd7,hd6];simp[hd04]
  have hvs7:=(hvs.mono hx7)
  have last:∀(y:LV)(u:FrameMode),u≠.run->((u=.returning/\y=.sc .nilIface)\/∃v,u=.panicking [{ v:=v,recovered:=false }]/\VR G7 w7 y v)->lastP E F r (r.cs.map (E.ev t4.get)) H4.next kv y t7 H7 ->
    LeavesInM (fen none) 0 P fn a7.tmps (CallPost G w (CSP kv kp)) a7.defers u w7:=by
   intro y u hur hu hk
   obtain⟨u1,hk,hu10⟩:=argsP_spec hk
   have hu1:u1.get=frOf (r.cs.map (E.ev t4.get)):=by
    funext j
    rw[hu10 j]
    simp only[frOf]
    by_cases hj:j<(r.cs.map (E.ev t4.get)).length
    ·rw[if_pos (by omega)];simp
    ·rw[if_neg (by omega)]
     have:(r.cs.map (E.ev t4.get))[j]? = none:=List.getElem?_eq_none (by omega)
     simp only[List.getD_eq_getElem?_getD,this,FT.get_nil]
     rfl
   have hk:runP E F r.rest (u1.set r.dr y) H7 (lastK E r.res t7 H4.next kv):=hk
   have hs:CodeOk P E r.rest _ H7 _:=sound hmix hF (runP_ok _ _ _ _ ok7 hk)
   rw[hdefs]
   refine⟨hur,.inr ⟨fun h=>(by cases h),.func r.g,vs,r.g,vs,rfl,?_,fun _ _=>trivial,?_⟩⟩
   ·obtain⟨cg,hgb,_⟩:=cFn_inv hgc
    have:=call_enter (P:=P) (w:=w7) hgf (by simp[hgb]) hgname vs
    simpa [invoke] using this
   ·refine CallsDIn.mono (rec_calls (nf:=0 - 1) hgf hgc (by simpa using hcl) hI7 hE7 hvs7 hu (by rw[<-hu1,<-FT.set_get];exact hs.wp) fun e fr' df' H' hT=>?_) fun e u' w' hq=>?_
    ·obtain⟨e1,t',H'',he,_,hk⟩:=hT
     cases he
     exact hk.1
    ·obtain⟨v,le,fr',df',H8,G8,rfl,hst,hT,hI8,hx8⟩:=hq
     obtain⟨e1,t',H'',he,ok8,hk⟩:=hT
     cases he
     obtain⟨_,hlD,vr,hvr,H9,k1,k2,k3⟩:=hk
     obtain⟨hlt8,q1,q2,q3⟩:=hI8.objs _ _ hlD
     have hloc:G8.loc H4.next=G5.loc H4.next:=by
      have h8:=hx8.loc H4.next
      have h7:=hx7.loc H4.next
      have h6:=hx6.loc H4.next
      have n6:=hx6.n
      have n7:=hx7.n
      rw[h8 (by omega),h7 (by omega),h6 (by omega)]
     obtain⟨y1,y2⟩:=hI8.setDel (ob':=.deferred none) hlD q1 (by simp) q2 q3
     have htd:=run_takeDeferred (P:=P) q1
     rw[hloc]at y1 y2 htd
     simp only
     rw[hst]
     refine⟨by simp,.inl ⟨_,_,rfl,htd,?_⟩⟩
     have hxx:=hx8.trans y1
     obtain⟨uv,hr1,hr2⟩:=run_results y2 (hf7.mono hxx) hres hvr
     have okd:(H8.del H4.next).Ok:=Desc.del ok8
     exact⟨uv,hr1,vr,_,G8,.inl ⟨vr,_,rfl,k2 okd,k3⟩,hr2,y2.wk k1,hx07.trans hxx⟩
  cases le with
  |normal=>
   cases e<;>try exact he7.elim
   exact last _ .returning (by simp) (.inl ⟨rfl,rfl⟩) hk
  |ret=>
   cases e<;>try exact he7.elim
   exact last _ .returning (by simp) (.inl ⟨rfl,rfl⟩) hk
  |exit n=>exact hk.elim
  |pan v=>
   cases e<;>try exact he7.elim
   obtain⟨u,rfl,hv⟩:=he7
   exact last v (.panicking [{ v:=u,recovered:=false }]) (by simp) (.inr ⟨u,rfl,hv⟩) hk
end
end Go.Abs
namespace Go.Abs
open Go
section
variable{E:Env}{F:Fns}
theorem lP_seq{a b:BCode}{t:FT}{H:LHeap}{k:XP}(h:lP E F a t H (seqK (fun t' H'=>lP E F b t' H' k) k)):lP E F (.seq a b) t H k:=by
 intro hH
 refine .seq (h hH) (fun fr df H' hT=>?_) (fun e fr df H' hT hne=>?_)
 ·obtain⟨e,t',H'',he,hok,hk⟩:=hT
  cases he
  exact hk hok
 ·obtain⟨e',t',H'',he,hok,hk⟩:=hT
  cases he
  cases e with
  |normal=>exact absurd rfl hne
  |exit n=>exact⟨_,t',H',rfl,hok,hk⟩
  |ret=>exact⟨_,t',H',rfl,hok,hk⟩
  |pan v=>exact⟨_,t',H',rfl,hok,hk⟩
theorem cP_of_lP{b:BFn}{f:FuncId}{args:List LV}{H:LHeap}{kv kp:HP}(hf:F.fn f b)(hn:args.length<=b.n)
  (h:H.Ok->argsP args 0 .nil fun t=>lP E F b.body t H (finK E b (fun v H'=>∃H'',HWk H' H''/\(H'.Ok->H''.Ok)/\kv v H'') kp)):cP E F f args H kv kp:=by
 intro hH
 obtain⟨t,h1,h2⟩:=argsP_spec (h hH)
 have ht:t.get=frOf args:=by
  funext j
  rw[h2 j]
  simp only[frOf]
  by_cases hj:j<args.length
  ·rw[if_pos (by omega)];simp
  ·rw[if_neg (by omega)]
   have:args[j]? = none:=List.getElem?_eq_none (by omega)
   simp[List.getD_eq_getElem?_getD,this,FT.get_nil]
 have hb:=h1 hH
 rw[ht]at hb
 refine .enter hf hn hb (fun fr df H' hT=>?_) (fun v fr df H' hT=>?_) (fun n fr df H' hT=>?_)
 ·have:∃(t':FT),fr=t'.get/\df=[]/\H'.Ok/\resP E b.res t' H' fun v=>∃H'',HWk H' H''/\(H'.Ok->H''.Ok)/\kv v H'':=by
   rcases hT with⟨e,t',H'',he,hok,hk⟩|⟨e,t',H'',he,hok,hk⟩<;>cases he
   ·exact⟨t',rfl,rfl,hok,hk⟩
   ·exact⟨t',rfl,rfl,hok,hk⟩
  obtain⟨t',rfl,rfl,hok,v,hv,H1,h3,h4,h5⟩:=this
  exact⟨rfl,v,v,H1,hv,.inl rfl,h3,.inl ⟨v,H1,rfl,h4 hok,h5⟩⟩
 ·obtain⟨e,t',H'',he,hok,hk⟩:=hT
  cases he
  exact⟨rfl,v,H',.inl rfl,⟨Nat.le_refl _,fun _ _ h=>h⟩,.inr ⟨v,H',rfl,hok,hk⟩⟩
 ·obtain⟨e,t',H'',he,hok,hk⟩:=hT
  cases he
  cases hk
end
end Go.Abs
namespace Go.Abs
open Go
section
variable{E:Env}{F:Fns}
theorem lP_blk{id:Nat}{c:BCode}{t:FT}{H:LHeap}{k:XP}(h:lP E F c t H (blkK id k)):lP E F (.blk id c) t H k:=by
 intro hH
 refine .blk (h hH) (fun fr df H' hT=>?_) (fun fr df H' hT=>?_) (fun e fr df H' hT hne hid=>?_)
 ·obtain⟨e,t',H'',he,hok,hk⟩:=hT
  cases he
  exact⟨_,t',H',rfl,hok,hk⟩
 ·obtain⟨e,t',H'',he,hok,hk⟩:=hT
  cases he
  exact⟨_,t',H',rfl,hok,by simpa [blkK] using hk⟩
 ·obtain⟨e',t',H'',he,hok,hk⟩:=hT
  cases he
  cases e with
  |normal=>exact absurd rfl hne
  |exit j=>exact⟨_,t',H',rfl,hok,by
    have:j≠id:=fun e=>hid (by rw[e])
    simpa [blkK,this] using hk⟩
  |ret=>exact⟨_,t',H',rfl,hok,hk⟩
  |pan v=>exact⟨_,t',H',rfl,hok,hk⟩
theorem lP_loopL{σ:Type}{c:BCode}{k:XP}(fr:σ->FT)(hp:σ->LHeap)(m:σ->Nat)(I:σ->Prop)
  (h:∀s,I s->(hp s).Ok->lP E F c (fr s) (hp s) (loopK (fun t' H'=>∃s',m s'<m s/\I s'/\FT.Le (fr s') t'/\HWk H' (hp s')/\(H'.Ok->(hp s').Ok)) k)):
  ∀s,I s->lP E F (.loop c) (fr s) (hp s) k:=by
 intro s
 induction hn:m s using Nat.strongRecOn generalizing s with
 |ind n ih=>
  intro hI hH
  refine .loop (h s hI hH hH) (fun fr' df H' hT=>?_) (fun e fr' df H' hT hne=>?_)
  ·obtain⟨e,t',H'',he,hok,hk⟩:=hT
   cases he
   obtain⟨s',h1,h2,h3,h4,h5⟩:=hk
   exact .weak (fun l=>(by simp)) h3.fwk h4 (ih (m s') (hn▸h1) s' rfl h2 (h5 hok))
  ·obtain⟨e',t',H'',he,hok,hk⟩:=hT
   cases he
   cases e with
   |normal=>exact absurd rfl hne
   |exit n=>exact⟨_,t',H',rfl,hok,hk⟩
   |ret=>exact⟨_,t',H',rfl,hok,hk⟩
   |pan v=>exact⟨_,t',H',rfl,hok,hk⟩
theorem lP_enterL{σ:Type}{c:BCode}{k:XP}(fr:σ->FT)(hp:σ->LHeap)(m:σ->Nat)(I:σ->Prop)(s:σ){t:FT}{H:LHeap}
  (hI:I s) (ht:FT.Le (fr s) t) (hh:HWk H (hp s)/\(H.Ok->(hp s).Ok))
  (h:∀s,I s->(hp s).Ok->lP E F c (fr s) (hp s) (loopK (fun t' H'=>∃s',m s'<m s/\I s'/\FT.Le (fr s') t'/\HWk H' (hp s')/\(H'.Ok->(hp s').Ok)) k)):
  lP E F (.loop c) t H k:=
 lP_weak (fun l=>(by simp)) ht hh.1 hh.2 (lP_loopL fr hp m I h s hI)
end
end Go.Abs
namespace Go.Abs.Tz
open Go Go.Abs Go.Proofs
set_option maxRecDepth 20000
set_option linter.unusedSimpArgs false
attribute [local simp ↓] getP_nil getP_node setP_nil setP_node oneP_eq vP_map vP_some vP_none vP_bind eP_some bP_true bP_false gP_yes gP_tf gP_ft gP_tup runP_skip runP_ops runP_drw runP_seq runP_cond runP_blk runP_loop runP_exit runP_ret seqK_n seqK_r seqK_e seqK_p blkK_n blkK_r blkK_e blkK_p loopK_n loopK_r loopK_e loopK_p finK_n finK_r finK_p resP_one resP_two resP_three resP_nil resP_c nxP_nil argsP_nil argsP_cons evP_t evP_c evP_g evsP_nil evsP_cons clP_fn clP_yld clfP_fn pnP_i opsP_nil opsP_d opsP_x opsP_gt opsP_gf opP_cf opP_cl opP_pn opP_nx valP_mv valP_pk valP_eq valP_bn valP_nt valP_ld valP_fa valP_fd valP_ia valP_ix valP_ln valP_srn valP_srl valP_srh valP_srb valP_cv valP_mi valP_mf valP_xt valP_bs valP_bd valP_nc valP_mn valP_lk valP_ta opP_mv opP_pk opP_eq opP_bn opP_nt opP_ld opP_fa opP_fd opP_ia opP_ix opP_ln opP_sr opP_cv opP_mi opP_mf opP_xt opP_bs opP_bd opP_nc opP_mn opP_lk opP_ta opP_al opP_bx opP_st opP_ap opP_mk opP_nb opP_mu opP_rg opP_en pendP_nil pendP_d pendP_g drwP_nil drwP_d drwP_x drwP_gt drwP_gf look_self natOf_nat
attribute [local simp] faL fdL iaL ixL loadL partL lenL eqK eqL natOf eqB_s eqB_i eqB_b bn_add bn_sub bn_lss bn_leq bn_gtr bn_geq bn_adds bn_lsss bn_gtrs bn_leqs bn_geqs sliceL LV.cells LV.whole look_self put_self putO_self put_eq stL fillL termC dopP LHeap.alloc oneI oneS oneB nth0 nth1 nth2 nth3 nth4 nth5 nth6 nth7 nth8 nth9 look_ne putO_ne
theorem t_notNl(n:Int):PureT 97 [U n] (.bool (notNl n)):=by
 refine PureT.of c97 fun H hH=>⟨Nat.le_of_ble_eq_true rfl,?_⟩
 simp[b97,bP_bool,gP_boolt,gP_boolf]
 repeat' (first|apply And.intro|intro _)
 all_goals first|omega|(refine pure0' hH ?_;simp_all [notNl];done)|(refine pure0' hH ?_;simp_all [notNl];omega)
theorem t_wordC(n:Int):PureT 99 [U n] (.bool (wordC n)):=by
 refine PureT.of c99 fun H hH=>⟨Nat.le_of_ble_eq_true rfl,?_⟩
 simp[b99]
 refine(t_letter _).go fun m hm=>?_
 cases h:letB n
 ·simp
  refine(t_digit _).go fun k hk=>?_
  simp
  exact pure0 hH (by simp[wordC,h]) (Nat.le_trans hm hk)
 ·simp
  exact pure0 hH (by simp[wordC,h]) hm
def fiveB(n:Int):Bool:=decide (n=40)||(decide (n=41)||(decide (n=44)||(decide (n=46)||decide (n=61))))
theorem idx_mem(c:UInt8):∀l:List UInt8,(0<=Lib.indexByte l c↔c∈l)
 |[]=>by simp[Lib.indexByte]
 |b::l=>by
  have ih:=idx_mem c l
  have hge:=Lib.indexByte_ge l c
  simp only[Lib.indexByte]
  by_cases hb:b=c
  ·subst hb;simp
  ·have h1:(b==c)=false:=by simpa using hb
   have h2:¬c=b:=fun h=>hb h.symm
   rw[h1]
   simp only[Bool.false_eq_true,if_false,List.mem_cons,h2,false_or]
   rw[<-ih]
   by_cases hm:Lib.indexByte l c=-1
   ·rw[hm];decide
   ·have h3:(Lib.indexByte l c==-1)=false:=by simpa using hm
    rw[h3]
    simp only[Bool.false_eq_true,if_false]
    omega
theorem idx_five(c:UInt8):decide (0<=Lib.indexByte [40,41,44,46,61] ((c.toNat:Int).toNat.toUInt8))=fiveB (c.toNat:Int):=by
 have e:((c.toNat:Int).toNat.toUInt8)=c:=by
  rw[Int.toNat_natCast]
  exact UInt8.ofNat_toNat
 rw[e]
 have hm:=idx_mem c [40,41,44,46,61]
 have hb:∀(b:UInt8)(n:Int),(b.toNat:Int)=n->(c=b↔(c.toNat:Int)=n):=fun b n h=>by
  rw[<-h,<-UInt8.toNat_inj]
  omega
 have e1:=hb 40 40 rfl
 have e2:=hb 41 41 rfl
 have e3:=hb 44 44 rfl
 have e4:=hb 46 46 rfl
 have e5:=hb 61 61 rfl
 simp only[List.mem_cons,List.not_mem_nil,or_false]at hm
 rw[e1,e2,e3,e4,e5]at hm
 unfold fiveB
 by_cases h:0<=Lib.indexByte [40,41,44,46,61] c
 ·rw[decide_eq_true h]
  rcases hm.1 h with q|q|q|q|q<;>rw[q]<;>rfl
 ·rw[decide_eq_false h,decide_eq_false (fun q=>h (hm.2 (.inl q))),decide_eq_false (fun q=>h (hm.2 (.inr (.inl q)))),decide_eq_false (fun q=>h (hm.2 (.inr (.inr (.inl q))))),decide_eq_false (fun q=>h (hm.2 (.inr (.inr (.inr (.inl q)))))),decide_eq_false (fun q=>h (hm.2 (.inr (.inr (.inr (.inr q))))))]
  rfl
theorem mark_of{s:ByteArray}{i:Nat}{c:UInt8}(hd:(sL s).drop i=c::(sL s).drop (i+1)):markL ((sL s).drop i)=if twoMark (c.toNat:Int) (byI s (i+1))=true then 2 else if oneMark (c.toNat:Int)=true then 1 else 0:=by
 by_cases h2:i+1<s.size
 ·obtain⟨d,hdd,hd2⟩:=byteG h2
  rw[hd,hd2,byI_of hdd]
  rfl
 ·have hn:(sL s).drop (i+1)=[]:=List.drop_eq_nil_of_le (by rw[sL_len];omega)
  rw[hd,hn,byI_ge h2]
  have e:twoMark (c.toNat:Int) (-1)=false:=by simp[twoMark]
  rw[e]
  rfl
theorem mark_five{s:ByteArray}{i:Nat}{c:UInt8}(hd:(sL s).drop i=c::(sL s).drop (i+1))(h:fiveB (c.toNat:Int)=true):markL ((sL s).drop i)=1:=by
 rw[mark_of hd]
 unfold fiveB at h
 simp only[Bool.or_eq_true,decide_eq_true_eq]at h
 rcases h with h|h|h|h|h<;>rw[h]<;>simp[twoMark,oneMark]
theorem mark_less{s:ByteArray}{i:Nat}{c:UInt8}(hd:(sL s).drop i=c::(sL s).drop (i+1))(h:(c.toNat:Int)=60\/(c.toNat:Int)=62):markL ((sL s).drop i)=if byI s (i+1)=61 then 2 else 1:=by
 rw[mark_of hd]
 rcases h with h|h<;>rw[h]<;>by_cases h2:byI s (i+1)=61<;>simp[twoMark,oneMark,h2]
theorem mark_not{s:ByteArray}{i:Nat}{c:UInt8}(hd:(sL s).drop i=c::(sL s).drop (i+1))(h:(c.toNat:Int)=33):markL ((sL s).drop i)=if byI s (i+1)=61 then 2 else 0:=by
 rw[mark_of hd,h]
 by_cases h2:byI s (i+1)=61<;>simp[twoMark,oneMark,h2]
theorem mark_none{s:ByteArray}{i:Nat}{c:UInt8}(hd:(sL s).drop i=c::(sL s).drop (i+1))(h5:fiveB (c.toNat:Int)=false)(h60:¬(c.toNat:Int)=60)(h62:¬(c.toNat:Int)=62)(h33:¬(c.toNat:Int)=33):markL ((sL s).drop i)=0:=by
 rw[mark_of hd]
 unfold fiveB at h5
 simp only[Bool.or_eq_false_iff,decide_eq_false_iff_not]at h5
 simp[twoMark,oneMark,h5,h60,h62,h33]
def pTok(k:Nat):BCode:=match b95.body with
 |.seq x0 (.blk _ (.loop (.seq x1 (.blk _ (.seq x2 (.seq x3 (.seq x4 (.seq x5 (.seq x6 (.seq x7 x8))))))))))=> match k with
  |0=>x0|1=>x1|2=>x2|3=>x3|4=>x4|5=>x5|6=>x6|7=>x7|_=>x8
 |_=>.bad
def restTok:BCode:=.seq (pTok 6) (.seq (pTok 7) (pTok 8))
def loopTok:BCode:=.seq (pTok 1) (.blk 1 (.seq (pTok 2) (.seq (pTok 3) (.seq (pTok 4) (.seq (pTok 5) restTok)))))
theorem bodyTok:b95.body=.seq (pTok 0) (.blk 0 (.loop loopTok)):=rfl
abbrev frI(o sb i:Nat):FT:=(.nd (.fn (.yield o) [] []) (.nd (.ptr sb 0) (.nd (.int i) .nil .nil) .nil) .nil)
abbrev frT(o sb i n j:Nat):FT:=(.nd (.fn (.yield o) [] []) (.nd (.ptr sb 0) (.nd (.int i) .nil .nil) (.nd (.ptr n 0) .nil .nil)) (.nd .bot .nil (.nd (.int j) .nil .nil)))
abbrev cellT(k at_:Int):LObj:=.cells [.int k,.str ⟨⟨[]⟩⟩,.int at_]
def SwK(s:ByteArray)(o sb i n:Nat)(ob:List (Nat×LObj))(k:XP):LStep->Prop
 |.skip j=>∀n' t',n+1<=n'->FT.Le (frI o sb j) t'->k (.exit 1) t' ⟨(n,cellT 0 i)::ob,n'⟩
 |.tok r j=>∀n',n+1<=n'->lP E0 F0 restTok (frT o sb i n j) ⟨(n,cellT r.kind i)::ob,n'⟩ k
 |.bad e=>∀j n',i<=j->j<=s.size->n+1<=n'->lP E0 F0 restTok (frT o sb i n j) ⟨(n,cellT 0 e)::ob,n'⟩ k
theorem restTok_ne:∀l,restTok≠.drw l:=fun l h=>by unfold restTok at h;cases h
section
variable{s:ByteArray}{o sb i n:Nat}{ob:List (Nat×LObj)}{k:XP}
theorem SwK.bad{e:Nat}(h:SwK s o sb i n ob k (.bad e)){j n':Nat}(h1:i<=j)(h2:j<=s.size)(h3:n+1<=n'){t:FT}(ht:FT.Le (frT o sb i n j) t):lP E0 F0 restTok t ⟨(n,cellT 0 e)::ob,n'⟩ k:=
 lP_weak restTok_ne ht (HWk.refl _) (fun h=>h) (h j n' h1 h2 h3)
theorem SwK.tok{r:RTok}{j:Nat}(h:SwK s o sb i n ob k (.tok r j)){n':Nat}(h3:n+1<=n'){t:FT}(ht:FT.Le (frT o sb i n j) t):lP E0 F0 restTok t ⟨(n,cellT r.kind i)::ob,n'⟩ k:=
 lP_weak restTok_ne ht (HWk.refl _) (fun h=>h) (h n' h3)
end
set_option maxHeartbeats 4000000 in
theorem sw_ok{s:ByteArray}(hs:s.size<=6000){o sb i n:Nat}{ob:List (Nat×LObj)}(hi:i<s.size){c:UInt8}(hc:s.data[i]? = some c)(hsb:sb<n)(hkz:look sb ob=some (.cells [.str s])){k:XP}(h:SwK s o sb i n ob k (lstep s i)):
  lP E0 F0 (pTok 5) (.nd (.fn (.yield o) [] []) (.nd (.ptr sb 0) (.nd (.int i) .nil .nil) (.nd (.ptr n 0) .nil .nil)) (.nd .bot (.nd (U c.toNat) .nil .nil) (.nd (.int ((i+1:Nat):Int)) .nil .nil))) ⟨(n,cellT 0 i)::ob,n+1⟩ (seqK (fun t' H'=>lP E0 F0 restTok t' H' k) k):=by
 obtain⟨c',hc',hd⟩:=byteG hi
 rw[hc]at hc'
 cases hc'
 have hb:=byI_of hc
 obtain⟨p,hp⟩:∃p,i+1=p:=⟨_,rfl⟩
 have hwi:IntKind.wrap .i64 ((i:Int)+1)=(p:Int):=by rw[wrap_id (by omega) (by omega)];omega
 have hwp2:IntKind.wrap .i64 ((p:Int)+1)=((p+1:Nat):Int):=by rw[wrap_id (by omega) (by omega)];omega
 have hp2':i+2=p+1:=by omega
 rw[hp]
 refine lP_of_run ?_
 unfold lstep at h
 rw[hb]at h
 by_cases h1:(c.toNat:Int)=32\/(c.toNat:Int)=9\/(c.toNat:Int)=10
 ·rw[if_pos h1,hp]at h
  rcases h1 with h1|h1|h1
  ·simp(disch:=omega)[pTok,b95,h1,hwi]
   exact h _ _ (Nat.le_refl _) (by simp[FT.Le,Wk])
  ·simp(disch:=omega)[pTok,b95,h1,hwi]
   exact h _ _ (Nat.le_refl _) (by simp[FT.Le,Wk])
  ·simp(disch:=omega)[pTok,b95,h1,hwi]
   exact h _ _ (Nat.le_refl _) (by simp[FT.Le,Wk])
 rw[if_neg h1]at h
 have n1:¬(c.toNat:Int)=32:=fun h=>h1 (.inl h)
 have n2:¬(c.toNat:Int)=9:=fun h=>h1 (.inr (.inl h))
 have n3:¬(c.toNat:Int)=10:=fun h=>h1 (.inr (.inr h))
 by_cases h2:(c.toNat:Int)=35
 ·rw[if_pos h2]at h
  simp(disch:=omega)[pTok,b95,n1,n2,n3,h2,hkz]
  refine(t_runF s (by omega) i (by omega) 97 notNl t_notNl).go fun n5 hn5=>?_
  simp(disch:=omega)
  exact h _ _ (by omega) (by simp[FT.Le,Wk])
 rw[if_neg h2]at h
 simp(disch:=omega)[pTok,b95,n1,n2,n3,h2,hkz]
 refine(t_letter _).go fun n4 hn4=>?_
 cases hl:letB (c.toNat:Int)
 case true=>
  rw[hl,if_pos rfl]at h
  unfold wordStep at h
  obtain⟨E,hE⟩:∃E,endN wordC s i=E:=⟨_,rfl⟩
  have hEi:=endN_lt (p:=wordC) hd (by simp[wordC,hl])
  have hEs:=(endN_le (p:=wordC) (s:=s) (i:=i) (by omega)).2
  rw[hE]at h hEi hEs
  simp(disch:=omega)[hkz]
  refine(t_runF s (by omega) i (by omega) 99 wordC t_wordC).go fun n5 hn5=>?_
  rw[hE]
  have hsz:(s.extract i E).size=E - i:=by rw[ByteArray.size_extract];omega
  by_cases h24:24<E - i
  ·rw[if_pos h24]at h
   have h24':(24:Int)<((E - i:Nat):Int):=by omega
   simp(disch:=omega)[hkz,hEi,hEs,show i<=E by omega,hsz,h24']
   exact h.bad (j:=E) (by omega) (by omega) (by omega) (by simp[FT.Le,Wk])
  rw[if_neg h24]at h
  have h24':¬(24:Int)<((E - i:Nat):Int):=by omega
  unfold wKind at h
  rw[hb]at h
  cases x1:eqBA (s.extract i E) bIf
  case true=>
   rw[x1,Bool.true_or,if_pos rfl]at h
   simp(disch:=omega)[hkz,hEi,hEs,show i<=E by omega,hsz,h24',x1]
   exact h.tok (by omega) (by simp[FT.Le,Wk])
  cases x2:eqBA (s.extract i E) bNot
  case true=>
   rw[x1,x2,Bool.false_or,if_pos rfl]at h
   simp(disch:=omega)[hkz,hEi,hEs,show i<=E by omega,hsz,h24',x1,x2]
   exact h.tok (by omega) (by simp[FT.Le,Wk])
  rw[x1,x2,Bool.false_or,if_neg (by simp)]at h
  simp(disch:=omega)[hkz,hEi,hEs,show i<=E by omega,hsz,h24',x1,x2]
  refine(t_capital _).go fun n6 hn6=>?_
  by_cases h90:(c.toNat:Int)<=90
  ·rw[if_pos h90]at h
   have hcap:capB (c.toNat:Int)=true:=by
    simp only[letB,smallB,capB,Bool.or_eq_true,Bool.and_eq_true,decide_eq_true_eq]at hl ⊢
    omega
   rw[hcap]
   simp(disch:=omega)
   exact h.tok (by omega) (by simp[FT.Le,Wk])
  ·rw[if_neg h90]at h
   have hcap:capB (c.toNat:Int)=false:=by
    unfold capB
    rw[decide_eq_false h90,Bool.and_false]
   rw[hcap]
   simp(disch:=omega)
   exact h.tok (by omega) (by simp[FT.Le,Wk])
 rw[hl,if_neg (by simp)]at h
 simp(disch:=omega)
 refine(t_digit _).go fun n5 hn5=>?_
 cases hg:digB (c.toNat:Int)
 case true=>
  rw[hg,if_pos (.inl rfl)]at h
  have hnot:¬byI s i=45:=by
   rw[hb]
   have:48<=(c.toNat:Int)/\(c.toNat:Int)<=57:=by simpa [digB] using hg
   omega
  rcases numStep_part (s:=s) (i:=i) (.inl (by rw[hb];exact hg)) with⟨q,_⟩|⟨_,hpart,e⟩
  ·exact absurd q hnot
  rw[e]at h
  have hf:numFrom s i=i:=by unfold numFrom;rw[if_neg hnot]
  obtain⟨f,hfd⟩:∃f,numFrom s i=f:=⟨_,rfl⟩
  obtain⟨E,hE⟩:∃E,numEnd s (numFrom s i)=E:=⟨_,rfl⟩
  rw[hE]at h hpart
  rw[hfd]at h hpart hE
  have hfi:f=i:=by rw[<-hfd,hf]
  obtain⟨_,_,_,_,hfE,hEs,_,_⟩:=num_text hpart
  have hat:=num_atoi hpart
  have hp2:0=0/\(s.extract i E).size=E - i:=⟨rfl,by rw[ByteArray.size_extract];omega⟩
  unfold numAt at h
  by_cases h48:(c.toNat:Int)=48
  ·have hEp:E=p:=by rw[<-hE,hfi];unfold numEnd;rw[hb,if_pos h48];exact hp
   subst hEp
   simp(disch:=omega)[h48,hkz,show i<=E by omega,hEs]
   have hext:=hp2.2
   by_cases hbig:1000000000<numV s f E
   ·rw[if_pos hbig]at h
    rcases hat.2 hbig with hr|⟨v,hr,hv⟩
    ·refine(t_atoiR _ (by rw[hext];omega) hr).go fun n8 hn8=>?_
     simp(disch:=omega)
     exact h.bad (j:=E) (by omega) (by omega) (by omega) (by simp[FT.Le,Wk])
    ·refine(t_atoi _ (by rw[hext];omega) v hr).go fun n8 hn8=>?_
     simp(disch:=omega)
     refine(t_within _ _ _).go fun n9 hn9=>?_
     have hw9:(decide (-1000000000<=v)&&decide (v<=1000000000))=false:=by
      rcases hv with hv|hv
      ·rw[decide_eq_false (by omega),Bool.false_and]
      ·rw[decide_eq_false (show ¬v<=1000000000 by omega),Bool.and_false]
     rw[hw9]
     simp(disch:=omega)
     exact h.bad (j:=E) (by omega) (by omega) (by omega) (by simp[FT.Le,Wk])
   rw[if_neg hbig]at h
   obtain⟨hr,hv0⟩:=hat.1 hbig
   obtain⟨v,hv⟩:∃v,(if byI s i=45 then 0 - numV s f E else numV s f E)=v:=⟨_,rfl⟩
   rw[hv]at hr h
   refine(t_atoi _ (by rw[hext];omega) v hr).go fun n8 hn8=>?_
   simp(disch:=omega)
   refine(t_within _ _ _).go fun n9 hn9=>?_
   have hw9:(decide (-1000000000<=v)&&decide (v<=1000000000))=true:=by
    rw[<-hv]
    split<;>simp<;>omega
   rw[hw9]
   by_cases hEl:E<s.size
   case neg=>
    have e1:byI s E=-1:=byI_ge hEl
    rw[e1,if_neg (by decide)]at h
    simp(disch:=omega)[hkz,hEl]
    exact h.tok (by omega) (by simp[FT.Le,Wk])
   obtain⟨g,hg,_⟩:=byteG hEl
   have e1:=byI_of hg
   rw[e1]at h
   simp(disch:=omega)[hkz,hEl,hg]
   refine(t_digit _).go fun n10 hn10=>?_
   cases hgd:digB (g.toNat:Int)
   case true=>
    rw[hgd,Bool.true_or,if_pos rfl]at h
    simp(disch:=omega)
    exact h.bad (j:=E) (by omega) (by omega) (by omega) (by simp[FT.Le,Wk])
   rw[hgd,Bool.false_or]at h
   simp(disch:=omega)[hkz,hEl,hg]
   refine(t_letter _).go fun n11 hn11=>?_
   cases hgl:letB (g.toNat:Int)
   case true=>
    rw[hgl,if_pos rfl]at h
    simp(disch:=omega)
    exact h.bad (j:=E) (by omega) (by omega) (by omega) (by simp[FT.Le,Wk])
   rw[hgl,if_neg (by simp)]at h
   simp(disch:=omega)
   exact h.tok (by omega) (by simp[FT.Le,Wk])
  ·have hEp:endN digB s p=E:=by
    rw[<-hE,hfi]
    unfold numEnd
    rw[hb,if_neg h48,<-hp]
    unfold endN
    conv=>rhs;rw[hd];unfold runN
    rw[if_pos hg]
    omega
   simp(disch:=omega)[h48,hkz]
   refine(t_runF s (by omega) p (by omega) 100 digB t_digit).go fun n6 hn6=>?_
   rw[hEp]
   simp(disch:=omega)[hkz,show i<=E by omega,hEs]
   have hext:=hp2.2
   by_cases hbig:1000000000<numV s f E
   ·rw[if_pos hbig]at h
    rcases hat.2 hbig with hr|⟨v,hr,hv⟩
    ·refine(t_atoiR _ (by rw[hext];omega) hr).go fun n8 hn8=>?_
     simp(disch:=omega)
     exact h.bad (j:=E) (by omega) (by omega) (by omega) (by simp[FT.Le,Wk])
    ·refine(t_atoi _ (by rw[hext];omega) v hr).go fun n8 hn8=>?_
     simp(disch:=omega)
     refine(t_within _ _ _).go fun n9 hn9=>?_
     have hw9:(decide (-1000000000<=v)&&decide (v<=1000000000))=false:=by
      rcases hv with hv|hv
      ·rw[decide_eq_false (by omega),Bool.false_and]
      ·rw[decide_eq_false (show ¬v<=1000000000 by omega),Bool.and_false]
     rw[hw9]
     simp(disch:=omega)
     exact h.bad (j:=E) (by omega) (by omega) (by omega) (by simp[FT.Le,Wk])
   rw[if_neg hbig]at h
   obtain⟨hr,hv0⟩:=hat.1 hbig
   obtain⟨v,hv⟩:∃v,(if byI s i=45 then 0 - numV s f E else numV s f E)=v:=⟨_,rfl⟩
   rw[hv]at hr h
   refine(t_atoi _ (by rw[hext];omega) v hr).go fun n8 hn8=>?_
   simp(disch:=omega)
   refine(t_within _ _ _).go fun n9 hn9=>?_
   have hw9:(decide (-1000000000<=v)&&decide (v<=1000000000))=true:=by
    rw[<-hv]
    split<;>simp<;>omega
   rw[hw9]
   by_cases hEl:E<s.size
   case neg=>
    have e1:byI s E=-1:=byI_ge hEl
    rw[e1,if_neg (by decide)]at h
    simp(disch:=omega)[hkz,hEl]
    exact h.tok (by omega) (by simp[FT.Le,Wk])
   obtain⟨g,hg,_⟩:=byteG hEl
   have e1:=byI_of hg
   rw[e1]at h
   simp(disch:=omega)[hkz,hEl,hg]
   refine(t_digit _).go fun n10 hn10=>?_
   cases hgd:digB (g.toNat:Int)
   case true=>
    rw[hgd,Bool.true_or,if_pos rfl]at h
    simp(disch:=omega)
    exact h.bad (j:=E) (by omega) (by omega) (by omega) (by simp[FT.Le,Wk])
   rw[hgd,Bool.false_or]at h
   simp(disch:=omega)[hkz,hEl,hg]
   refine(t_letter _).go fun n11 hn11=>?_
   cases hgl:letB (g.toNat:Int)
   case true=>
    rw[hgl,if_pos rfl]at h
    simp(disch:=omega)
    exact h.bad (j:=E) (by omega) (by omega) (by omega) (by simp[FT.Le,Wk])
   rw[hgl,if_neg (by simp)]at h
   simp(disch:=omega)
   exact h.tok (by omega) (by simp[FT.Le,Wk])
 by_cases h45:(c.toNat:Int)=45
 ·rw[hg,if_pos (.inr h45)]at h
  by_cases hpl:p<s.size
  case neg=>
   unfold numStep at h
   rw[hb,hp,byI_ge hpl,if_pos ⟨h45,.inl (by decide)⟩]at h
   simp(disch:=omega)[h45,hkz,hpl]
   refine(t_indexByte ⟨⟨[40,41,44,46,61]⟩⟩ (45:Int)).go fun n7 hn7=>?_
   have hix:Lib.indexByte [40,41,44,46,61] ((45:Int).toNat.toUInt8)=-1:=by decide
   rw[hix]
   simp(disch:=omega)[h45]
   exact h.bad (j:=p) (by omega) (by omega) (by omega) (by simp[FT.Le,Wk])
  obtain⟨d,hdd,_⟩:=byteG hpl
  have hbd:=byI_of hdd
  simp(disch:=omega)[h45,hkz,hpl,hdd]
  refine(t_digit _).go fun n6 hn6=>?_
  by_cases hgood:49<=(d.toNat:Int)/\(d.toNat:Int)<=57
  case neg=>
   unfold numStep at h
   rw[hb,hp,hbd,if_pos ⟨h45,by omega⟩]at h
   cases hgd:digB (d.toNat:Int)
   ·simp(disch:=omega)[h45]
    refine(t_indexByte ⟨⟨[40,41,44,46,61]⟩⟩ (45:Int)).go fun n7 hn7=>?_
    have hix:Lib.indexByte [40,41,44,46,61] ((45:Int).toNat.toUInt8)=-1:=by decide
    rw[hix]
    simp(disch:=omega)[h45]
    exact h.bad (j:=p) (by omega) (by omega) (by omega) (by simp[FT.Le,Wk])
   ·have h48:(d.toNat:Int)=48:=by
     have:48<=(d.toNat:Int)/\(d.toNat:Int)<=57:=by simpa [digB] using hgd
     omega
    simp(disch:=omega)[h45,hkz,hpl,hdd,h48]
    refine(t_indexByte ⟨⟨[40,41,44,46,61]⟩⟩ (45:Int)).go fun n7 hn7=>?_
    have hix:Lib.indexByte [40,41,44,46,61] ((45:Int).toNat.toUInt8)=-1:=by decide
    rw[hix]
    simp(disch:=omega)[h45]
    exact h.bad (j:=p) (by omega) (by omega) (by omega) (by simp[FT.Le,Wk])
  have hgd:digB (d.toNat:Int)=true:=by simp[digB];omega
  have h48:¬(d.toNat:Int)=48:=by omega
  rcases numStep_part (s:=s) (i:=i) (.inr (by rw[hb];exact h45)) with⟨_,q,_⟩|⟨_,hpart,e⟩
  ·rw[hp,hbd]at q;omega
  rw[e]at h
  have hf:numFrom s i=p:=by unfold numFrom;rw[hb,if_pos h45,hp]
  obtain⟨f,hfd⟩:∃f,numFrom s i=f:=⟨_,rfl⟩
  obtain⟨E,hE⟩:∃E,numEnd s (numFrom s i)=E:=⟨_,rfl⟩
  rw[hE]at h hpart
  rw[hfd]at h hpart hE
  have hfi:f=p:=by rw[<-hfd,hf]
  obtain⟨_,_,_,_,hfE,hEs,_,_⟩:=num_text hpart
  have hat:=num_atoi hpart
  have hp2:0=0/\(s.extract i E).size=E - i:=⟨rfl,by rw[ByteArray.size_extract];omega⟩
  have hEp:endN digB s p=E:=by
   rw[<-hE,hfi]
   unfold numEnd
   rw[hbd,if_neg h48]
  unfold numAt at h
  rw[hgd]
  simp(disch:=omega)[h45,hkz,hpl,hdd,h48]
  refine(t_runF s (by omega) p (by omega) 100 digB t_digit).go fun n6 hn6=>?_
  rw[hEp]
  simp(disch:=omega)[hkz,show i<=E by omega,hEs]
  have hext:=hp2.2
  by_cases hbig:1000000000<numV s f E
  ·rw[if_pos hbig]at h
   rcases hat.2 hbig with hr|⟨v,hr,hv⟩
   ·refine(t_atoiR _ (by rw[hext];omega) hr).go fun n8 hn8=>?_
    simp(disch:=omega)
    exact h.bad (j:=E) (by omega) (by omega) (by omega) (by simp[FT.Le,Wk])
   ·refine(t_atoi _ (by rw[hext];omega) v hr).go fun n8 hn8=>?_
    simp(disch:=omega)
    refine(t_within _ _ _).go fun n9 hn9=>?_
    have hw9:(decide (-1000000000<=v)&&decide (v<=1000000000))=false:=by
     rcases hv with hv|hv
     ·rw[decide_eq_false (by omega),Bool.false_and]
     ·rw[decide_eq_false (show ¬v<=1000000000 by omega),Bool.and_false]
    rw[hw9]
    simp(disch:=omega)
    exact h.bad (j:=E) (by omega) (by omega) (by omega) (by simp[FT.Le,Wk])
  rw[if_neg hbig]at h
  obtain⟨hr,hv0⟩:=hat.1 hbig
  obtain⟨v,hv⟩:∃v,(if byI s i=45 then 0 - numV s f E else numV s f E)=v:=⟨_,rfl⟩
  rw[hv]at hr h
  refine(t_atoi _ (by rw[hext];omega) v hr).go fun n8 hn8=>?_
  simp(disch:=omega)
  refine(t_within _ _ _).go fun n9 hn9=>?_
  have hw9:(decide (-1000000000<=v)&&decide (v<=1000000000))=true:=by
   rw[<-hv]
   split<;>simp<;>omega
  rw[hw9]
  by_cases hEl:E<s.size
  case neg=>
   have e1:byI s E=-1:=byI_ge hEl
   rw[e1,if_neg (by decide)]at h
   simp(disch:=omega)[hkz,hEl]
   exact h.tok (by omega) (by simp[FT.Le,Wk])
  obtain⟨g,hg,_⟩:=byteG hEl
  have e1:=byI_of hg
  rw[e1]at h
  simp(disch:=omega)[hkz,hEl,hg]
  refine(t_digit _).go fun n10 hn10=>?_
  cases hgd:digB (g.toNat:Int)
  case true=>
   rw[hgd,Bool.true_or,if_pos rfl]at h
   simp(disch:=omega)
   exact h.bad (j:=E) (by omega) (by omega) (by omega) (by simp[FT.Le,Wk])
  rw[hgd,Bool.false_or]at h
  simp(disch:=omega)[hkz,hEl,hg]
  refine(t_letter _).go fun n11 hn11=>?_
  cases hgl:letB (g.toNat:Int)
  case true=>
   rw[hgl,if_pos rfl]at h
   simp(disch:=omega)
   exact h.bad (j:=E) (by omega) (by omega) (by omega) (by simp[FT.Le,Wk])
  rw[hgl,if_neg (by simp)]at h
  simp(disch:=omega)
  exact h.tok (by omega) (by simp[FT.Le,Wk])
 rw[hg,if_neg (by simp[h45])]at h
 unfold markStep at h
 simp(disch:=omega)[h45]
 refine(t_indexByte ⟨⟨[40,41,44,46,61]⟩⟩ (c.toNat:Int)).go fun n7 hn7=>?_
 have hidx:=idx_five c
 obtain⟨ix,hix⟩:∃ix,Lib.indexByte [40,41,44,46,61] ((c.toNat:Int).toNat.toUInt8)=ix:=⟨_,rfl⟩
 rw[hix]at hidx ⊢
 cases h5:fiveB (c.toNat:Int)
 case true=>
  rw[mark_five hd h5]at h
  rw[h5]at hidx
  have h0:(0:Int)<=ix:=of_decide_eq_true hidx
  rw[if_neg (by decide),hp]at h
  simp(disch:=omega)[h0]
  exact h.tok (by omega) (by simp[FT.Le,Wk])
 rw[h5]at hidx
 have h0:¬(0:Int)<=ix:=of_decide_eq_false hidx
 by_cases h60:(c.toNat:Int)=60
 ·rw[mark_less hd (.inl h60),hp]at h
  by_cases hpl:p<s.size
  case neg=>
   rw[byI_ge hpl,if_neg (by decide),if_neg (by decide),hp]at h
   simp(disch:=omega)[h0,h60,hkz,hpl]
   exact h.tok (by omega) (by simp[FT.Le,Wk])
  obtain⟨d,hdd,_⟩:=byteG hpl
  rw[byI_of hdd]at h
  by_cases h61:(d.toNat:Int)=61
  ·rw[if_pos h61,if_neg (by decide)]at h
   simp(disch:=omega)[h0,h60,hkz,hpl,hdd,h61,hwp2]
   rw[hp2']at h
   exact h.tok (by omega) (by simp[FT.Le,Wk])
  ·rw[if_neg h61,if_neg (by decide),hp]at h
   simp(disch:=omega)[h0,h60,hkz,hpl,hdd,h61]
   exact h.tok (by omega) (by simp[FT.Le,Wk])
 by_cases h62:(c.toNat:Int)=62
 ·rw[mark_less hd (.inr h62),hp]at h
  by_cases hpl:p<s.size
  case neg=>
   rw[byI_ge hpl,if_neg (by decide),if_neg (by decide),hp]at h
   simp(disch:=omega)[h0,h60,h62,hkz,hpl]
   exact h.tok (by omega) (by simp[FT.Le,Wk])
  obtain⟨d,hdd,_⟩:=byteG hpl
  rw[byI_of hdd]at h
  by_cases h61:(d.toNat:Int)=61
  ·rw[if_pos h61,if_neg (by decide)]at h
   simp(disch:=omega)[h0,h60,h62,hkz,hpl,hdd,h61,hwp2]
   rw[hp2']at h
   exact h.tok (by omega) (by simp[FT.Le,Wk])
  ·rw[if_neg h61,if_neg (by decide),hp]at h
   simp(disch:=omega)[h0,h60,h62,hkz,hpl,hdd,h61]
   exact h.tok (by omega) (by simp[FT.Le,Wk])
 by_cases h33:(c.toNat:Int)=33
 ·rw[mark_not hd h33,hp]at h
  by_cases hpl:p<s.size
  case neg=>
   rw[byI_ge hpl,show (if (-1:Int)=61 then 2 else 0)=(0:Nat) from rfl,if_pos rfl]at h
   simp(disch:=omega)[h0,h60,h62,h33,hkz,hpl]
   exact h.bad (j:=p) (by omega) (by omega) (by omega) (by simp[FT.Le,Wk])
  obtain⟨d,hdd,_⟩:=byteG hpl
  rw[byI_of hdd]at h
  by_cases h61:(d.toNat:Int)=61
  ·rw[if_pos h61,if_neg (by decide)]at h
   simp(disch:=omega)[h0,h60,h62,h33,hkz,hpl,hdd,h61,hwp2]
   rw[hp2']at h
   exact h.tok (by omega) (by simp[FT.Le,Wk])
  ·rw[if_neg h61,if_pos rfl]at h
   simp(disch:=omega)[h0,h60,h62,h33,hkz,hpl,hdd,h61]
   exact h.bad (j:=p) (by omega) (by omega) (by omega) (by simp[FT.Le,Wk])
 rw[mark_none hd h5 h60 h62 h33,if_pos rfl]at h
 simp(disch:=omega)[h0,h60,h62,h33]
 exact h.bad (j:=p) (by omega) (by omega) (by omega) (by simp[FT.Le,Wk])
structure Rnds(s:ByteArray)(o sb:Nat)(I:List Tok->List (Nat×LObj)->Nat->Prop)(Bd:Nat->List (Nat×LObj)->Nat->Prop):Prop where
 box:∀es ob n,I es ob n->sb<n/\look sb ob=some (.cells [.str s])
 keep:∀es ob n ob' n',I es ob n->n<=n'->(∀j,j<n->look j ob'=look j ob)->I es ob' n'
 tok:∀es ob0 n0 (t:Tok) ob n (kv:HP),I es ob0 n0->t.kind≠0->es.length<=6000->n0<=n->(∀j,j<n0->look j ob=look j ob0) ->
  (∀ob' n',n<=n'->I (es++[t]) ob' n'->(∀j,n0<=j->j<n->look j ob'=look j ob)->kv (.bool true) ⟨ob',n'⟩)->yP E0 F0 o [tokL t] ⟨ob,n⟩ kv
 bad:∀es ob0 n0 (x:ByteArray) (e:Nat) ob n (kv:HP),I es ob0 n0->n0<=n->(∀j,j<n0->look j ob=look j ob0) ->
  (∀ob' n',n<=n'->Bd e ob' n'->kv (.bool false) ⟨ob',n'⟩)->yP E0 F0 o [.agg [.int 0,.str x,.int e]] ⟨ob,n⟩ kv
structure NNIx where
 i:Nat
 k:Nat
 es:List Tok
 ob:List (Nat×LObj)
 n:Nat
theorem pTok5_ne:∀l,pTok 5≠.drw l:=fun l h=>by
 obtain⟨c,hc⟩:∃c,pTok 5=.blk 2 c:=⟨_,rfl⟩
 rw[hc]at h
 cases h
section
variable{s:ByteArray}{o sb:Nat}{I:List Tok->List (Nat×LObj)->Nat->Prop}{Bd:Nat->List (Nat×LObj)->Nat->Prop}
theorem t_restTok(hR:Rnds s o sb I Bd)(hs:s.size<=6000){es:List Tok}{ob:List (Nat×LObj)}{n:Nat}(hI:I es ob n)(hel:es.length<=6000){i j n':Nat}(hij:i<=j)(hj:j<=s.size)(hn':n+1<=n')(kd m:Int)(hkd:¬kd=0){K:XP}
  (hK:∀t' ob' n'',I (es++[⟨kd,s.extract i j,i,m⟩]) ob' n''->FT.Le (frI o sb j) t'->K .normal t' ⟨ob',n''⟩):lP E0 F0 restTok (frT o sb i n j) ⟨(n,cellT kd i)::ob,n'⟩ K:=by
 obtain⟨hsb,hkz⟩:=hR.box _ _ _ hI
 refine lP_of_run ?_
 simp(disch:=omega)[restTok,pTok,b95,hkz,hij,hj]
 refine hR.tok es ob n ⟨kd,s.extract i j,i,m⟩ _ _ _ hI hkd hel (by omega) (fun x hx=>look_ne (by omega) _ _) fun ob' n2 hn2 hI' hold=>?_
 have hl:look n ob'=some (.cells [.int kd,.str (s.extract i j),.int i]):=by rw[hold n (Nat.le_refl _) (by omega)];exact look_self _ _ _
 simp(disch:=omega)[hl,hkd]
 exact hK _ _ _ hI' (by simp[FT.Le,Wk])
theorem t_restBad(hR:Rnds s o sb I Bd)(hs:s.size<=6000){es:List Tok}{ob:List (Nat×LObj)}{n:Nat}(hI:I es ob n){i j n':Nat}(hij:i<=j)(hj:j<=s.size)(hn':n+1<=n')(e:Nat){K:XP}
  (hK:∀t' ob' n'',Bd e ob' n''->K .ret t' ⟨ob',n''⟩):lP E0 F0 restTok (frT o sb i n j) ⟨(n,cellT 0 e)::ob,n'⟩ K:=by
 obtain⟨hsb,hkz⟩:=hR.box _ _ _ hI
 refine lP_of_run ?_
 simp(disch:=omega)[restTok,pTok,b95,hkz,hij,hj]
 refine hR.bad es ob n (s.extract i j) e _ _ _ hI (by omega) (fun x hx=>look_ne (by omega) _ _) fun ob' n2 hn2 hB=>?_
 simp(disch:=omega)
 exact hK _ _ _ hB
theorem t_tok1(hR:Rnds s o sb I Bd)(hs:s.size<=6000){ob:List (Nat×LObj)}{n:Nat}(hI:I [] ob n){kv kp:HP}
  (h0:∀e,lexT s (s.size+1) 0 []=.error e->∀ob' n',Bd e ob' n'->kv (.tup []) ⟨ob',n'⟩) (h1:∀L,lexT s (s.size+1) 0 []=.ok L->∀ob' n',I L ob' n'->kv (.tup []) ⟨ob',n'⟩):
  cP E0 F0 95 [.fn (.yield o) [] [],.ptr sb 0] ⟨ob,n⟩ kv kp:=by
 refine cP_of_lP c95 (Nat.le_of_ble_eq_true rfl) fun hH=>?_
 obtain⟨V,hV⟩:∃V,lexT s (s.size+1) 0 []=V:=⟨_,rfl⟩
 rw[hV]at h0 h1
 rw[bodyTok]
 simp(disch:=omega)
 refine lP_seq (lP_of_run ?_)
 simp(disch:=omega)[pTok,b95]
 refine lP_blk ?_
 refine lP_enterL (σ:=NNIx) (fun q=>frI o sb q.i) (fun q=>⟨q.ob,q.n⟩) (fun q=>q.k)
  (fun q=>I q.es q.ob q.n/\q.i<=s.size/\q.es.length<=q.i/\s.size - q.i<q.k/\lexT s q.k q.i q.es=V) ⟨0,s.size+1,[],ob,n⟩ ⟨hI,Nat.zero_le _,Nat.le_refl _,by dsimp only;omega,hV⟩ (by simp[FT.Le,Wk]) ⟨HWk.refl _,fun h=>h⟩ ?_
 rintro⟨i,k,es,ob2,m⟩ ⟨hI2,hi,hel,hkk,he⟩ hok
 dsimp only at hI2 hi hel hkk he hok
 obtain⟨hsb,hkz⟩:=hR.box _ _ _ hI2
 obtain⟨k,rfl⟩:∃k2,k=k2+1:=⟨k - 1,by omega⟩
 dsimp only
 unfold loopTok
 refine lP_seq (lP_of_run ?_)
 by_cases hlt:i<s.size
 case neg=>
  rw[lexT_end hlt]at he
  simp(disch:=omega)[pTok,b95,hkz,hlt]
  exact⟨⟨ob2,m⟩,HWk.refl _,fun h=>h,h1 _ he.symm _ _ hI2⟩
 rw[lexT_go hlt]at he
 obtain⟨c,hc,hd⟩:=byteG hlt
 have hwi:IntKind.wrap .i64 ((i:Int)+1)=((i+1:Nat):Int):=by rw[wrap_id (by omega) (by omega)];omega
 simp(disch:=omega)[pTok,b95,hkz,hlt]
 refine lP_blk (lP_seq (lP_of_run ?_))
 simp(disch:=omega)[pTok,b95,hkz,hc]
 refine lP_seq (lP_of_run ?_)
 simp(disch:=omega)[pTok,b95]
 refine lP_seq (lP_of_run ?_)
 simp(disch:=omega)[pTok,b95,hwi]
 refine lP_seq ?_
 have hdsc:=hok
 refine lP_weak pTok5_ne (t':=(.nd (.fn (.yield o) [] []) (.nd (.ptr sb 0) (.nd (.int i) .nil .nil) (.nd (.ptr m 0) .nil .nil)) (.nd .bot (.nd (U c.toNat) .nil .nil) (.nd (.int ((i+1:Nat):Int)) .nil .nil)))) (by simp[FT.Le,Wk]) (HWk.refl _) (fun h=>h) (sw_ok hs hlt hc hsb hkz ?_)
 cases hl:lstep s i with
 |skip j=>
  obtain⟨hij,hj⟩:=(lstep_lt hlt).1 j hl
  rw[hl]at he
  simp only at he
  intro n' t' hn' hle
  simp only[blkK_e,loopK_n,if_true]
  exact⟨⟨j,k,es,(m,cellT 0 i)::ob2,n'⟩,Nat.lt_succ_self _,⟨hR.keep _ _ _ _ _ hI2 (by dsimp only;omega) fun x hx=>look_ne (by omega) _ _,hj,by dsimp only;omega,by dsimp only;omega,he⟩,hle,HWk.refl _,fun h=>h⟩
 |tok r j=>
  obtain⟨hij,hj⟩:=(lstep_lt hlt).2 r j hl
  have hp:=lstep_pair (by omega) hlt hl
  have hk1:=hp.lo
  dsimp only at hk1
  rw[hl]at he
  simp only at he
  intro n' hn'
  refine t_restTok hR hs hI2 (by omega) (by omega) hj hn' r.kind r.n (by omega) fun t' ob' n'' hI' hle=>?_
  simp only[blkK_n,loopK_n]
  exact⟨⟨j,k,es++[⟨r.kind,s.extract i j,i,r.n⟩],ob',n''⟩,Nat.lt_succ_self _,⟨hI',hj,by simp;omega,by dsimp only;omega,he⟩,hle,HWk.refl _,fun h=>h⟩
 |bad e=>
  rw[hl]at he
  simp only at he
  intro j n' hij hj hn'
  refine t_restBad hR hs hI2 hij hj hn' e fun t' ob' n'' hB=>?_
  simp only[blkK_r,loopK_r,finK_r]
  simp(disch:=omega)[b95,resP_nil]
  exact⟨⟨ob',n''⟩,HWk.refl _,fun h=>h,h0 _ he.symm _ _ hB⟩
end
theorem t_tokens(s:ByteArray)(ob:List (Nat×LObj))(n:Nat){kv kp:HP}(hk:kv (.fn (.func 95) [] [.ptr n 0]) ⟨(n,.cells [.str s])::ob,n+1⟩):cP E0 F0 54 [.str s] ⟨ob,n⟩ kv kp:=by
 refine cP_of_fn c54 fun hH=>⟨Nat.le_of_ble_eq_true rfl,?_⟩
 simp(disch:=omega)[b54]
 exact⟨_,HWk.refl _,fun h=>h,hk⟩
def OwnAt(N0:Nat)(own:Own)(len:Nat)(ob:List (Nat×LObj))(n:Nat):Prop:=own=.full\/∃t,own=.tok t/\N0<=t/\t<n/\look t ob=some (.tok len 3)
theorem toks_all(l:List Tok):(l.map tokL).all (fun e=>e.cells.length==3)=true:=by simp[LV.cells]
theorem apL_own{N0:Nat}{own:Own}{es:List Tok}{ob:List (Nat×LObj)}{n:Nat}(hn:N0<=n)(h:OwnAt N0 own es.length ob n)(hl:es.length<=6000)(t:Tok):
  ∃own' ob' n',(∀ow,apL ⟨ob,n⟩ 3 (.sl (es.map tokL) own) (.sl [tokL t] ow)=some (.sl ((es++[t]).map tokL) own',⟨ob',n'⟩))/\n<=n'/\OwnAt N0 own' (es.length+1) ob' n'/\∀j,j<n->j<N0\/(∀t,own≠.tok t\/j≠t)->look j ob'=look j ob:=by
 have hes:=toks_all es
 have hm:es.map tokL++[tokL t]=(es++[t]).map tokL:=by simp
 rcases h with rfl|⟨k,rfl,h1,h2,h3⟩
 ·refine⟨.tok n,(n,.tok (es.length+1) 3)::ob,n+1,fun ow=>?_,Nat.le_succ _,.inr ⟨n,rfl,hn,Nat.lt_succ_self _,look_self _ _ _⟩,fun j hj _=>look_ne (by omega) _ _⟩
  unfold apL
  simp only
  rw[hes]
  simp only[List.all_cons,List.all_nil,Bool.and_true,LV.cells,List.length_cons,List.length_nil,beq_self_eq_true,if_true,List.length_map]
  rw[if_pos ⟨by omega,by omega,rfl⟩,hm]
  rfl
 ·refine⟨.tok k,putO k (.tok (es.length+1) 3) ob,n,fun ow=>?_,Nat.le_refl _,.inr ⟨k,rfl,h1,h2,look_putO h3⟩,fun j hj hne=>look_putO_ne ?_⟩
  ·have hcan:canApp ⟨ob,n⟩ 3 (.tok k) es.length=true:=by simp[canApp,h3]
   unfold apL
   simp only
   rw[hes]
   simp only[List.all_cons,List.all_nil,Bool.and_true,LV.cells,List.length_cons,List.length_nil,beq_self_eq_true,if_true,List.length_map]
   rw[if_pos ⟨by omega,by omega,hcan⟩,hm]
   rfl
  ·rcases hne with h|h
   ·omega
   ·rcases h k with h|h
    ·exact absurd rfl h
    ·exact h
abbrev tF(cap:List LV)(f:FuncId)(n:Nat):FT:=(.nd .bot (.nd (.fn (.func f) [] cap) .nil (.nd (.ptr (n+2) 0) .nil .nil)) (.nd (.ptr n 0) (.nd (.ptr (n+1) 0) .nil .nil) (.nd (.ptr (n+4) 0) .nil (.nd (.fn (.func 95) [] [.ptr (n+5) 0]) .nil .nil))))
theorem tF_small(cap:List LV)(f:FuncId)(n:Nat):(tF cap f n).Small 1 0 39:=by simp[FT.Small]
abbrev rcdO(FO:List LV)(b:Bool):LObj:=.rcd b FO [15] 0
structure RdI(s:ByteArray)(FO:List LV)(n:Nat)(ob0:List (Nat×LObj))(es:List Tok)(ob:List (Nat×LObj))(n':Nat):Prop where
 le:n+8<=n'
 b0:look n ob=some (.cells [.str s])
 ec:look (n+1) ob=some (.cells [.int 0])
 ac:look (n+2) ob=some (.cells [.int 0])
 pc:look (n+4) ob=some (.cells [.ptr (n+3) 0])
 sb:look (n+5) ob=some (.cells [.str s])
 dd:look (n+6) ob=some .dfr
 oo:look (n+7) ob=some (rcdO FO false)
 par:∃own,look (n+3) ob=some (parC es own 0 false)/\OwnAt (n+8) own es.length ob n'
 old:∀j,j<n->look j ob=look j ob0
structure RdB(n:Nat)(ob0:List (Nat×LObj))(e:Nat)(ob:List (Nat×LObj))(n':Nat):Prop where
 le:n+8<=n'
 ec:look (n+1) ob=some (.cells [.int 7])
 ac:look (n+2) ob=some (.cells [.int e])
 dd:look (n+6) ob=some .dfr
 oo:look (n+7) ob=some (.lft none)
 old:∀j,j<n->look j ob=look j ob0
theorem rds_ok(s:ByteArray)(cap:List LV)(f:FuncId)(n:Nat)(ob0:List (Nat×LObj)):Rnds s (n+7) (n+5) (RdI s (frF (tF cap f n) 39) n ob0) (RdB n ob0) where
 box es ob n' h:=⟨by have:=h.le;omega,h.sb⟩
 keep es ob n1 ob' n' h hn hj:=by
  have hl:=h.le
  obtain⟨own,hp,ho⟩:=h.par
  exact⟨by omega,by rw[hj _ (by omega)];exact h.b0,by rw[hj _ (by omega)];exact h.ec,by rw[hj _ (by omega)];exact h.ac,by rw[hj _ (by omega)];exact h.pc,by rw[hj _ (by omega)];exact h.sb,by rw[hj _ (by omega)];exact h.dd,by rw[hj _ (by omega)];exact h.oo,
   ⟨own,by rw[hj _ (by omega)];exact hp,ho.imp (fun h=>h) fun⟨t,h1,h2,h3,h4⟩=>⟨t,h1,h2,by omega,by rw[hj _ h3];exact h4⟩⟩,fun j hjn=>by rw[hj j (by omega)];exact h.old j hjn⟩
 tok es ob1 n1 t ob n2 kv h hkd hel hn hj hk:=by
  have hl:=h.le
  obtain⟨own,hp,ho⟩:=h.par
  have hp:=(hj (n+3) (by omega)).trans hp
  have hpc:=(hj (n+4) (by omega)).trans h.pc
  have hoo:=(hj (n+7) (by omega)).trans h.oo
  have ho2:OwnAt (n+8) own es.length ob n1:=ho.imp (fun h=>h) fun⟨t,h1,h2,h3,h4⟩=>⟨t,h1,h2,h3,by rw[hj _ h3];exact h4⟩
  obtain⟨FO,hFO⟩:∃FO,frF (tF cap f n) 39=FO:=⟨_,rfl⟩
  rw[hFO]at h hoo hk
  refine yP_run (t:=tF cap f n) (N:=39) (p:=15) (k:=0) (ba:=p34 4) (bb:=p34 5) (tF_small cap f n) (by decide) (by rw[hFO];exact hoo) rng34 fun hH=>?_
  rw[hFO]
  have hpo:∀x i,i≠n+7->look i (putO (n+7) x ob)=look i ob:=fun x i hi=>look_putO_ne hi
  have hX:∀x i,i<n2->i≠n+7->look i ((n2,x)::putO (n+7) (rcdO FO true) ob)=look i ob:=fun x i h1 h2=>by rw[look_ne (by omega),look_putO_ne h2]
  have hX7:∀x,look (n+7) ((n2,x)::putO (n+7) (rcdO FO true) ob)=some (rcdO FO true):=fun x=>by rw[look_ne (by omega)];exact look_putO hoo
  have ho3:OwnAt (n+8) own es.length ((n2,.cells (tokC t))::putO (n+7) (rcdO FO true) ob) (n2+1):=ho2.imp (fun h=>h) fun⟨t,h1,h2,h3,h4⟩=>⟨t,h1,h2,by omega,by rw[hX _ _ (by omega) (by omega)];exact h4⟩
  obtain⟨own',ob3,n3,e3,hn3,ho4,hold⟩:=apL_own (by omega) ho3 hel t
  have hpc1:=(hpo (rcdO FO true) (n+4) (by omega)).trans hpc
  have hp1:=(hpo (rcdO FO true) (n+3) (by omega)).trans hp
  simp(disch:=omega)[p34,b25,begK_n,rndK_n,hoo,hkd,hpc1,hp1]
  refine effP_ap ?_
  simp(disch:=omega)
  rw[e3]
  have k3:look (n+3) ob3=some (parC es own 0 false):=by rw[hold _ (by omega) (.inl (by omega)),hX _ _ (by omega) (by omega)];exact hp
  have k4:look (n+4) ob3=some (.cells [.ptr (n+3) 0]):=by rw[hold _ (by omega) (.inl (by omega)),hX _ _ (by omega) (by omega)];exact hpc
  have k7:look (n+7) ob3=some (rcdO FO true):=by rw[hold _ (by omega) (.inl (by omega))];exact hX7 _
  have hlp:∀x,look (n+3) (putO (n+3) x ob3)=some x:=fun x=>look_putO k3
  have k7':∀x,look (n+7) (putO (n+3) x ob3)=some (rcdO FO true):=fun x=>by rw[look_putO_ne (by omega)];exact k7
  simp(disch:=omega)[k3,k4,k7',rndK_n]
  have hown:∀j,n1<=j->∀k,own≠.tok k\/j≠k:=fun j hj k=>by
   rcases ho with h|⟨k',h1,_,h3,_⟩
   ·rw[h];exact .inl (by simp)
   ·by_cases hk:own=.tok k
    ·rw[h1]at hk
     cases hk
     exact .inr (by omega)
    ·exact .inl hk
  have hz:∀(x y:LObj)(j:Nat),j<n2->(j<n+8\/n1<=j)->j≠n+7->j≠n+3->look j (putO (n+7) x (putO (n+3) y ob3))=look j ob:=fun x y j h1 h2 h3 h4=>by
   rw[look_putO_ne h3,look_putO_ne h4,hold j (by omega) (h2.imp (fun h=>h) fun h=>hown j h),hX _ _ h1 h3]
  have kz:∀(x y:LObj)(j:Nat),j<n+8->j≠n+7->j≠n+3->look j (putO (n+7) x (putO (n+3) y ob3))=look j ob1:=fun x y j h1 h3 h4=>by
   rw[hz x y j (by omega) (.inl h1) h3 h4,hj j (by omega)]
  refine hk _ _ (by omega) ⟨by omega,by rw[kz _ _ _ (by omega) (by omega) (by omega)];exact h.b0,by rw[kz _ _ _ (by omega) (by omega) (by omega)];exact h.ec,by rw[kz _ _ _ (by omega) (by omega) (by omega)];exact h.ac,by rw[kz _ _ _ (by omega) (by omega) (by omega)];exact h.pc,
   by rw[kz _ _ _ (by omega) (by omega) (by omega)];exact h.sb,by rw[kz _ _ _ (by omega) (by omega) (by omega)];exact h.dd,look_putO (k7' _),⟨own',?_,?_⟩,fun j hjn=>by rw[kz _ _ _ (by omega) (by omega) (by omega)];exact h.old j hjn⟩ fun j h1 h2=>hz _ _ j h2 (.inr h1) (by omega) (by omega)
  ·rw[look_putO_ne (by omega),hlp]
   simp
  ·rw[List.length_append,List.length_singleton]
   refine ho4.imp (fun h=>h) fun⟨k,h1,h2,h3,h4⟩=>⟨k,h1,h2,h3,?_⟩
   rw[look_putO_ne (by omega),look_putO_ne (by omega)]
   exact h4
 bad es ob1 n1 x e ob n2 kv h hn hj hk:=by
  have hl:=h.le
  have hec:=(hj (n+1) (by omega)).trans h.ec
  have hac:=(hj (n+2) (by omega)).trans h.ac
  have hoo:=(hj (n+7) (by omega)).trans h.oo
  have hdd:=(hj (n+6) (by omega)).trans h.dd
  obtain⟨FO,hFO⟩:∃FO,frF (tF cap f n) 39=FO:=⟨_,rfl⟩
  rw[hFO]at h hoo
  refine yP_run (t:=tF cap f n) (N:=39) (p:=15) (k:=0) (ba:=p34 4) (bb:=p34 5) (tF_small cap f n) (by decide) (by rw[hFO];exact hoo) rng34 fun hH=>?_
  rw[hFO]
  have hpo:∀x i,i≠n+7->look i (putO (n+7) x ob)=look i ob:=fun x i hi=>look_putO_ne hi
  have e1:∀x,look (n+1) (putO (n+7) x ob)=some (.cells [.int 0]):=fun x=>by rw[hpo _ _ (by omega)];exact hec
  have a1:∀x y,look (n+2) (putO (n+1) y (putO (n+7) x ob))=some (.cells [.int 0]):=fun x y=>by rw[look_putO_ne (by omega),hpo _ _ (by omega)];exact hac
  have o1:∀x y z,look (n+7) (putO (n+2) z (putO (n+1) y (putO (n+7) x ob)))=some x:=fun x y z=>by rw[look_putO_ne (by omega),look_putO_ne (by omega)];exact look_putO hoo
  simp(disch:=omega)[p34,b25,begK_n,hoo,e1,a1]
  simp(disch:=omega)[rndK_r,o1]
  have hz:∀x y z u v j,j<n2->j≠n+7->j≠n+2->j≠n+1->look j ((n2,u)::putO (n+7) v (putO (n+2) z (putO (n+1) y (putO (n+7) x ob))))=look j ob:=fun x y z u v j h1 h2 h3 h4=>by
   rw[look_ne (by omega),look_putO_ne h2,look_putO_ne h3,look_putO_ne h4,look_putO_ne h2]
  have e2:∀x y z v,look (n+1) (putO (n+7) v (putO (n+2) z (putO (n+1) y (putO (n+7) x ob))))=some y:=fun x y z v=>by
   rw[look_putO_ne (by omega),look_putO_ne (by omega)];exact look_putO (e1 _)
  have a2:∀x y z v,look (n+2) (putO (n+7) v (putO (n+2) z (putO (n+1) y (putO (n+7) x ob))))=some z:=fun x y z v=>by
   rw[look_putO_ne (by omega)];exact look_putO (a1 _ _)
  refine hk _ _ (by omega) ⟨by omega,by rw[look_ne (by omega),e2],by rw[look_ne (by omega),a2],by rw[hz _ _ _ _ _ _ (by omega) (by omega) (by omega) (by omega)];exact hdd,?_,fun j hjn=>by rw[hz _ _ _ _ _ _ (by omega) (by omega) (by omega) (by omega),hj j (by omega)];exact h.old j hjn⟩
  rw[look_ne (by omega)]
  exact look_putO (o1 _ _ _)
theorem rA:r34.A=p34 0:=rfl
theorem rI:r34.I=p34 1:=rfl
theorem rB:r34.B=p34 2:=rfl
theorem rC:r34.C=p34 3:=rfl
theorem rRes:r34.res=[.c 4 none,.c 5 none]:=rfl
theorem last34(cs:List LV)(m:Nat)(kv:HP)(y:LV)(t7:FT)(H:LHeap):lastP E0 F0 r34 cs m kv y t7 H=argsP cs 0 .nil fun u=>setP u 7 y fun u=>runP E0 F0 p62 u H (lastK E0 [.c 4 none,.c 5 none] t7 m kv):=propext Iff.rfl
def atS(s:ByteArray)(L:List Tok)(e:Nat):Int:=if h:e<L.length then L[e].at_ else (s.size:Int)
set_option maxHeartbeats 1000000 in
theorem t_readS(s:ByteArray)(f:FuncId)(cap:List LV){Rv:List Tok->Bool->List (Nat×LObj)->Prop}{Rp:List Tok->Nat->List (Nat×LObj)->Prop}{n:Nat}{ob:List (Nat×LObj)}{kv kp:HP}
  (hA:6000<s.size->∀ob3 n3,n<=n3->(∀j,j<n->look j ob3=look j ob)->kv (.tup [.int 2,.int 0]) ⟨ob3,n3⟩)
  (hB:s.size<=6000->∀e,lexT s (s.size+1) 0 []=.error e->∀ob3 n3,n<=n3->(∀j,j<n->look j ob3=look j ob)->kv (.tup [.int 7,.int e]) ⟨ob3,n3⟩)
  (hdo:s.size<=6000->∀L,lexT s (s.size+1) 0 []=.ok L->∀own m ob' n',n<=m->m<n'->look m ob'=some (parC L own 0 false)->(∀j,j<n->look j ob'=look j ob)->∀kv' kp':HP,
   (∀b i v ob2 n2,Rv L b ob2->n'<=n2->look m ob2=some (parC L own i b)->(∀j,n<=j->j<n'->j≠m->look j ob2=look j ob')->kv' v ⟨ob2,n2⟩) ->
   (∀e b ob2 n2,Rp L e ob2->n'<=n2->look m ob2=some (parC L own e b)->(∀j,n<=j->j<n'->j≠m->look j ob2=look j ob')->kp' faultV ⟨ob2,n2⟩) ->
   cP E0 F0 f (.ptr m 0::cap) ⟨ob',n'⟩ kv' kp')
  (hk1:s.size<=6000->∀L,lexT s (s.size+1) 0 []=.ok L->∀b ob2,Rv L b ob2->∀ob3 n3,n<=n3->(∀j,j<n->look j ob3=look j ob2)->kv (.tup [.int (if b then 2 else 0),.int 0]) ⟨ob3,n3⟩)
  (hk0:s.size<=6000->∀L,lexT s (s.size+1) 0 []=.ok L->∀e ob2,Rp L e ob2->∀ob3 n3,n<=n3->(∀j,j<n->look j ob3=look j ob2)->kv (.tup [.int 7,.int (atS s L e)]) ⟨ob3,n3⟩):
  cP E0 F0 25 [.str s,.fn (.func f) [] cap] ⟨ob,n⟩ kv kp:=by
 intro hH
 have hOb:Desc ob n:=hH
 refine .prim (cP_of_rfn (P:=Tryz.prog) (E:=E0) (F:=F0) (r:=r34) hmixT fnsT (by rw[r34_fn];exact c25) (by rw[r34_gn];exact c55) rc34 hH ⟨Nat.le_of_ble_eq_true rfl,?_⟩)
 by_cases hbig:6000<s.size
 ·have hbig':(6000:Int)<(s.size:Int):=by omega
  simp(disch:=omega)[rA,rI,p34,b25,hbig']
  simp(disch:=omega)[earlyK_r,rRes,endP_cc]
  refine⟨_,HWk.refl _,fun h=>h,hA hbig _ _ (by omega) fun j hj=>?_⟩
  simp(disch:=omega)[look_ne]
 have hs:s.size<=6000:=by omega
 have hbig':¬(6000:Int)<(s.size:Int):=by omega
 simp(disch:=omega)[rA,rI,p34,b25,hbig']
 simp(disch:=omega)[rB,rC,p34,b25]
 refine t_tokens s _ _ ?_
 simp(disch:=omega)
 refine⟨tF cap f n,by simp[FT.Le,Wk],?_⟩
 refine⟨_,_,rfl,?_⟩
 show cP E0 F0 95 [.fn (.yield (n+7)) [] [],.ptr (n+5) 0] ⟨(n+7,rcdO (frF (tF cap f n) 39) false)::(n+6,.dfr)::(n+5,.cells [.str s])::(n+4,.cells [.ptr (n+3) 0])::(n+3,parC [] .full 0 false)::(n+2,.cells [.int 0])::(n+1,.cells [.int 0])::(n,.cells [.str s])::ob,n+8⟩ (afterK E0 F0 r34 (tF cap f n) (n+6) kv) (fun _ _=>False)
 refine t_tok1 (rds_ok s cap f n ob) hs ⟨Nat.le_refl _,by simp[look],by simp[look],by simp[look],by simp[look],by simp[look],by simp[look],by simp[look],⟨.full,by simp[look],.inl rfl⟩,fun j hj=>by simp(disch:=omega)[look_ne]⟩ (fun e he ob' n' hR=>?_) (fun L hL ob' n' hR=>?_)
 ·have hle:=hR.le
  refine .inr ⟨hR.oo,hR.dd,?_⟩
  rw[rRes,endP_cc]
  simp(disch:=omega)[look_delne,hR.ec,hR.ac]
  exact⟨_,HWk.refl _,fun h=>h,hB hs e he _ _ (by omega) fun j hj=>by rw[look_delne (by omega),look_delne (by omega)];exact hR.old j hj⟩
 have hle:=hR.le
 obtain⟨own,hpar,_⟩:=hR.par
 have hdl:∀j,j≠n+7->look j (delO (n+7) ob')=look j ob':=fun j hj=>look_delne hj _
 refine .inl ⟨hR.oo,show 4<=36 by omega,?_⟩
 have hp4:=(hdl (n+4) (by omega)).trans hR.pc
 have hp3:=(hdl (n+3) (by omega)).trans hpar
 show evsP E0 [T 2,T 4,T 5,T 6] (tF cap f n) fun cs=>setP (tF cap f n) 31 (.fn (.func 55) [] cs) fun t6=>runP E0 F0 (p34 6) t6 ⟨delO (n+7) ob',n'⟩ (behK E0 F0 r34 cs (n+6) kv)
 simp(disch:=omega)[p34,b25,hp4]
 refine hdo hs L hL own (n+3) _ n' (by omega) (by omega) hp3 (fun j hj=>by rw[hdl j (by omega)];exact hR.old j hj) _ _ (fun b i v ob2 n2 hv hn2 hm2 hold=>?_) (fun e b ob2 n2 hv hn2 hm2 hold=>?_)
 ·have ho:∀j,n<=j->j<n'->j≠n+3->j≠n+7->look j ob2=look j ob':=fun j h1 h2 h3 h4=>(hold j h1 h2 h3).trans (hdl j h4)
  have k1:=(ho (n+1) (by omega) (by omega) (by omega) (by omega)).trans hR.ec
  have k2:=(ho (n+2) (by omega) (by omega) (by omega) (by omega)).trans hR.ac
  have k4:=(ho (n+4) (by omega) (by omega) (by omega) (by omega)).trans hR.pc
  have k6:=(ho (n+6) (by omega) (by omega) (by omega) (by omega)).trans hR.dd
  have k2':∀x,look (n+2) (putO (n+1) x ob2)=some (.cells [.int 0]):=fun x=>by rw[look_putO_ne (by omega)];exact k2
  have kd:∀x y,look (n+6) (putO (n+2) y (putO (n+1) x ob2))=some .dfr:=fun x y=>by rw[look_putO_ne (by omega),look_putO_ne (by omega)];exact k6
  have f1:∀x y,look (n+1) (putO (n+2) y (putO (n+1) x ob2))=some x:=fun x y=>by rw[look_putO_ne (by omega)];exact look_putO k1
  have f2:∀x y,look (n+2) (putO (n+2) y (putO (n+1) x ob2))=some y:=fun x y=>look_putO (k2' x)
  have old:∀x y j,j<n->look j (delO (n+6) (putO (n+2) y (putO (n+1) x ob2)))=look j ob2:=fun x y j hj=>by rw[look_delne (by omega),look_putO_ne (by omega),look_putO_ne (by omega)]
  cases b
  ·simp(disch:=omega)[k4,hm2,k1,k2']
   simp(disch:=omega)[behK_r,last34,p62,b55,lastK_n,kd,endP_cc,look_delne,f1,f2]
   exact⟨_,HWk.refl _,fun h=>h,hk1 hs L hL false ob2 hv _ _ (by omega) (old _ _)⟩
  ·simp(disch:=omega)[k4,hm2,k1,k2']
   simp(disch:=omega)[behK_r,last34,p62,b55,lastK_n,kd,endP_cc,look_delne,f1,f2]
   exact⟨_,HWk.refl _,fun h=>h,hk1 hs L hL true ob2 hv _ _ (by omega) (old _ _)⟩
 ·have ho:∀j,n<=j->j<n'->j≠n+3->j≠n+7->look j ob2=look j ob':=fun j h1 h2 h3 h4=>(hold j h1 h2 h3).trans (hdl j h4)
  have k0:=(ho n (by omega) (by omega) (by omega) (by omega)).trans hR.b0
  have k1:=(ho (n+1) (by omega) (by omega) (by omega) (by omega)).trans hR.ec
  have k2:=(ho (n+2) (by omega) (by omega) (by omega) (by omega)).trans hR.ac
  have k4:=(ho (n+4) (by omega) (by omega) (by omega) (by omega)).trans hR.pc
  have k6:=(ho (n+6) (by omega) (by omega) (by omega) (by omega)).trans hR.dd
  have k2':∀x,look (n+2) (putO (n+1) x ob2)=some (.cells [.int 0]):=fun x=>by rw[look_putO_ne (by omega)];exact k2
  have g4:∀x y,look (n+4) (putO (n+2) y (putO (n+1) x ob2))=some (.cells [.ptr (n+3) 0]):=fun x y=>by rw[look_putO_ne (by omega),look_putO_ne (by omega)];exact k4
  have g3:∀x y,look (n+3) (putO (n+2) y (putO (n+1) x ob2))=some (parC L own e b):=fun x y=>by rw[look_putO_ne (by omega),look_putO_ne (by omega)];exact hm2
  have g2:∀x y,look (n+2) (putO (n+2) y (putO (n+1) x ob2))=some y:=fun x y=>look_putO (k2' x)
  have f1:∀x y z,look (n+1) (putO (n+2) z (putO (n+2) y (putO (n+1) x ob2)))=some x:=fun x y z=>by rw[look_putO_ne (by omega),look_putO_ne (by omega)];exact look_putO k1
  have f2:∀x y z,look (n+2) (putO (n+2) z (putO (n+2) y (putO (n+1) x ob2)))=some z:=fun x y z=>look_putO (g2 _ _)
  have e1:∀x y,look (n+1) (putO (n+2) y (putO (n+1) x ob2))=some x:=fun x y=>by rw[look_putO_ne (by omega)];exact look_putO k1
  have kd:∀x y,look (n+6) (putO (n+2) y (putO (n+1) x ob2))=some .dfr:=fun x y=>by rw[look_putO_ne (by omega),look_putO_ne (by omega)];exact k6
  have kd':∀x y z,look (n+6) (putO (n+2) z (putO (n+2) y (putO (n+1) x ob2)))=some .dfr:=fun x y z=>by rw[look_putO_ne (by omega),kd]
  by_cases hlt:e<L.length
  ·have hat:atS s L e=L[e].at_:=by unfold atS;rw[dif_pos hlt]
   have hv2:=hk0 hs L hL e ob2 hv
   rw[hat]at hv2
   simp(disch:=omega)[behK_p,last34,p62,b55,k0,k1,k2',g4,g3,g2,hlt]
   simp(disch:=omega)[lastK_n,kd',endP_cc,look_delne,f1,f2]
   exact⟨_,HWk.refl _,fun h=>h,hv2 _ _ (by omega) fun j hj=>by rw[look_delne (by omega),look_ne (by omega),look_putO_ne (by omega),look_putO_ne (by omega),look_putO_ne (by omega)]⟩
  ·have hat:atS s L e=(s.size:Int):=by unfold atS;rw[dif_neg hlt]
   have hv2:=hk0 hs L hL e ob2 hv
   rw[hat]at hv2
   simp(disch:=omega)[behK_p,last34,p62,b55,k0,k1,k2',g4,g3,hlt]
   simp(disch:=omega)[lastK_n,kd,endP_cc,look_delne,e1,g2]
   exact⟨_,HWk.refl _,fun h=>h,hv2 _ _ (by omega) fun j hj=>by rw[look_delne (by omega),look_ne (by omega),look_putO_ne (by omega),look_putO_ne (by omega)]⟩
theorem strip_read(a:Atom)(ow:Own)(e x:Int):Wk (.agg [.str a.pred,.sl (a.args.map termL) ow,.int e,.int x]) (.agg [.str a.pred,argsL a.args,.int e,.int x]):=by
 refine .inr (.inl ?_)
 simp[LV.strip,stripL,stripL_map,List.map_map,Function.comp_def]
def oneAtom(L:List Tok):Except Nat Atom:=match atomP L 0 with
 |.error e=>.error e
 |.ok (a,j)=>if j<L.length then .error j else .ok a
section
variable{s:ByteArray}{L:List Tok}{R:List RTok}
set_option maxHeartbeats 1000000 in
theorem t_rParseAtom(hs:s.size<=6000)(hx:lexF s (s.size+1) 0 []=.ok R)(hR:RelT L (R++[endT s]))(H:LHeap){kv kp:HP}
  (hk0:∀e,oneAtom L=.error e->∀n',H.next<=n'->kv (.agg [.str ⟨⟨[]⟩⟩,argsL [],.int 7,.int (atR (R++[endT s]) e)]) ⟨H.objs,n'⟩)
  (hk1:∀a,oneAtom L=.ok a->3<a.args.length->∀n',H.next<=n'->kv (.agg [.str ⟨⟨[]⟩⟩,argsL [],.int 2,.int 0]) ⟨H.objs,n'⟩)
  (hk2:∀a,oneAtom L=.ok a->¬3<a.args.length->∀n',H.next<=n'->kv (.agg [.str a.pred,argsL a.args,.int 0,.int 0]) ⟨H.objs,n'⟩):
  cP E0 F0 9 [.str s] H kv kp:=by
 refine cP_of_fnB c9 fun hH=>⟨Nat.le_of_ble_eq_true rfl,?_⟩
 obtain⟨ob,n⟩:=H
 dsimp only at hk0 hk1 hk2
 have hOb:Desc ob n:=hH
 have h6:¬(6000:Int)<(s.size:Int):=by omega
 have fin:∀(a:Atom)(ow:Own)(e x:Int)(ob':List (Nat×LObj))(m':Nat),n<=m'->(∀n',n<=n'->kv (.agg [.str a.pred,argsL a.args,.int e,.int x]) ⟨ob,n'⟩)->(∀j,j<n->look j ob'=look j ob) ->
   ∃v',Wk (.agg [.str a.pred,.sl (a.args.map termL) ow,.int e,.int x]) v'/\∃H'',HWk ⟨ob',m'⟩ H''/\(LHeap.Ok ⟨ob',m'⟩->H''.Ok)/\kv v' H'':=fun a ow e x ob' m' hm' h ho=>
  ⟨_,strip_read a ow e x,⟨ob,m'⟩,hwk_old hH ho (Nat.le_refl _),fun _=>hOb.mono hm',h m' hm'⟩
 obtain⟨Q,hQ⟩:∃Q,R++[endT s]=Q:=⟨_,rfl⟩
 simp(disch:=omega)[b9,h6]
 refine t_lex s (by omega) _ (fun e he n1 hn1=>?_) (fun R2 he n1 hn1=>?_)
 ·rw[hx]at he;cases he
 rw[hx]at he
 cases he
 rw[hQ]at hR hk0 ⊢
 dsimp only at hn1
 simp(disch:=omega)
 refine t_ratomJ hR (Nat.zero_le _) (own:=.no) (b:=false) (by simp(disch:=omega)[look_ne,look_self]) fun a k1 bad1 b1 hj1 hk1l n2 hn2=>?_
 simp(disch:=omega)[putO_self]
 rcases hj1 with⟨hb1,ha1,hbb⟩|⟨hb1,e1,he1,hbe1⟩
 case inr=>
  have hne:¬bad1<0:=by omega
  have hone:oneAtom L=.error e1:=by unfold oneAtom;rw[he1]
  have hv:=hk0 e1 hone
  rw[<-hbe1]at hv
  simp(disch:=omega)[hne,hb1]
  exact fin atom0 .full 7 bad1 _ _ (by omega) hv fun j hj=>by rw[look_ne (by omega),look_ne (by omega),look_ne (by omega),look_ne (by omega)]
 subst hb1
 simp(disch:=omega)
 refine t_now hR.lim (hR.lt hk1l) (own:=.no) (bad:=-1) (b:=b1) (by simp(disch:=omega)[look_ne,look_self]) fun n3 hn3=>?_
 have hkd:=hR.kAt hk1l
 by_cases hlt:k1<L.length
 ·have h5:¬(Q[k1]'(hR.lt hk1l)).kind=5:=by
   have:=hR.kinds _ (List.getElem_mem hlt)
   rw[hR.kind k1 hlt (hR.lt hk1l)]
   omega
  have hone:oneAtom L=.error k1:=by unfold oneAtom;rw[ha1];simp only;rw[if_pos hlt]
  have hv:=hk0 k1 hone
  have hge:=hR.at0 hk1l
  have hne:¬atR Q k1<0:=by omega
  simp(disch:=omega)[h5]
  refine t_fail0 hR.lim (hR.lt hk1l) (own:=.no) (b:=b1) (by simp(disch:=omega)[look_ne,look_self]) fun n4 hn4=>?_
  rw[atR_of (hR.lt hk1l)]
  simp(disch:=omega)[hge,hne]
  exact fin atom0 .full 7 (atR Q k1) _ _ (by omega) hv fun j hj=>by rw[look_ne (by omega),look_ne (by omega),look_ne (by omega),look_ne (by omega)]
 have h5:(Q[k1]'(hR.lt hk1l)).kind=5:=by rw[hkd,if_neg hlt]
 have hone:oneAtom L=.ok a:=by unfold oneAtom;rw[ha1];simp only;rw[if_neg hlt]
 rw[Bool.false_or]at hbb
 by_cases h3:3<a.args.length
 ·rw[decide_eq_true h3]at hbb
  subst hbb
  simp(disch:=omega)[h5]
  exact fin atom0 .full 2 0 _ _ (by omega) (hk1 a hone h3) fun j hj=>by rw[look_ne (by omega),look_ne (by omega),look_ne (by omega),look_ne (by omega)]
 ·rw[decide_eq_false h3]at hbb
  subst hbb
  simp(disch:=omega)[h5]
  exact fin a .no 0 0 _ _ (by omega) (hk2 a hone h3) fun j hj=>by rw[look_ne (by omega),look_ne (by omega),look_ne (by omega),look_ne (by omega)]
end
section
variable{L:List Tok}{own:Own}{b:Bool}{m o n:Nat}{ob:List (Nat×LObj)}
theorem t_pa1(hL:L.length<=2^20)(hN:NumOk L)(hmo:m≠o)(hl:look m ob=some (parC L own 0 b)){x0:LObj}(c1 c2:LV)(hx0:x0=.cells [c1,c2])(ho:look o ob=some x0){kv kp:HP}
  (hk0:∀e,oneAtom L=.error e->∀x b' n',n<=n'->kp faultV ⟨putO o x (putO m (parC L own e b') ob),n'⟩)
  (hk1:∀a,oneAtom L=.ok a->∀n',n<=n'->kv (.tup []) ⟨putO o (.cells [.str a.pred,argsL a.args]) (putO m (parC L own L.length (b||decide (3<a.args.length))) ob),n'⟩):
  cP E0 F0 31 [.ptr m 0,.ptr o 0] ⟨ob,n⟩ kv kp:=by
 refine cP_of_fn c31 fun hH=>⟨Nat.le_of_ble_eq_true rfl,?_⟩
 have hlp:∀x,look m (putO m x ob)=some x:=fun x=>look_putO hl
 have hop:∀x,look o (putO m x ob)=some (.cells [c1,c2]):=fun x=>by rw[look_putO_ne (Ne.symm hmo),ho,hx0]
 have hmp:∀x y,look m (putO o y (putO m x ob))=some x:=fun x y=>by rw[look_putO_ne hmo];exact hlp x
 simp(disch:=omega)[b31]
 refine t_atom hL hN (Nat.zero_le _) hl (fun e he n1 hn1=>?_) (fun a j he n1 hn1=>?_)
 ·have hone:oneAtom L=.error e:=by unfold oneAtom;rw[he]
  have:=hk0 e hone x0 b n1 hn1
  rw[putO_same (by rw[hop,hx0])]at this
  simp(disch:=omega)
  exact this
 obtain⟨_,hjl⟩:=(atomP_le (Nat.zero_le _)).1 a j he
 by_cases hlt:j<L.length
 ·have hone:oneAtom L=.error j:=by unfold oneAtom;rw[he];simp only;rw[if_pos hlt]
  simp(disch:=omega)[hlp,hop,hmp,hlt]
  exact hk0 j hone _ _ n1 hn1
 ·have hone:oneAtom L=.ok a:=by unfold oneAtom;rw[he];simp only;rw[if_neg hlt]
  obtain rfl:j=L.length:=by omega
  simp(disch:=omega)[hlp,hop,hmp,hlt]
  exact⟨⟨_,n1⟩,HWk.refl _,fun h=>h,hk1 a hone n1 hn1⟩
end
def parseF(L:List Tok):Nat->Nat->List Clause->Except Nat (List Clause)
 |0,_,acc=>.ok acc
 |k+1,i,acc=>if i<L.length then
   match clauseP L i with
   |.error e=>.error e
   |.ok (c,j)=>parseF L k j (acc++[c])
  else .ok acc
theorem parseF_end{L:List Tok}{k i:Nat}{acc:List Clause}(h:¬i<L.length):parseF L (k+1) i acc=.ok acc:=by
 unfold parseF
 rw[if_neg h]
theorem parseF_bad{L:List Tok}{k i e:Nat}{acc:List Clause}(h:i<L.length)(hc:clauseP L i=.error e):parseF L (k+1) i acc=.error e:=by
 unfold parseF
 rw[if_pos h,hc]
theorem parseF_go{L:List Tok}{k i j:Nat}{c:Clause}{acc:List Clause}(h:i<L.length)(hc:clauseP L i=.ok (c,j)):parseF L (k+1) i acc=parseF L k j (acc++[c]):=by
 conv=>lhs;unfold parseF
 rw[if_pos h,hc]
theorem strip_clausesR(l:List Clause)(e a:Int)(ow:Own):Wk (.agg [.sl (l.map clauseL) ow,.int e,.int a]) (.agg [clausesL l,.int e,.int a]):=by
 refine .inr (.inl ?_)
 simp[LV.strip,stripL,stripL_map,List.map_map,Function.comp_def]
section
variable{L:List Tok}{R:List RTok}{own:Own}{i:Nat}{b:Bool}{m n:Nat}{ob:List (Nat×LObj)}
theorem t_rclauseJ(hR:RelT L R)(hi:i<=L.length)(hl:look m ob=some (rparC R own i (-1) b)){kv kp:HP}
  (hk:∀c k1 bad1 b1,((bad1=-1/\clauseP L i=.ok (c,k1)/\b1=(b||clBig c))\/(0<=bad1/\∃e,clauseP L i=.error e/\bad1=atR R e))->k1<=L.length->∀n',n<=n'->kv (clauseL c) ⟨putO m (rparC R own k1 bad1 b1) ob,n'⟩):
  cP E0 F0 30 [.ptr m 0] ⟨ob,n⟩ kv kp:=
 t_rclause hR hi hl (fun e he a j' b' n' hj' hn'=>hk a j' _ b' (.inr ⟨hR.at0 ((clauseP_le hi).2 e he),e,he,rfl⟩) hj' n' hn') fun a j he n' hn'=>hk a j (-1) _ (.inl ⟨rfl,he,rfl⟩) ((clauseP_le hi).1 a j he).2 n' hn'
end
structure NNIs where
 i:Nat
 n:Nat
 es:List Clause
 ow:Own
 ob:List (Nat×LObj)
 bad:Int
 b:Bool
 k:Nat
section
variable{s:ByteArray}{L:List Tok}{R:List RTok}
set_option maxHeartbeats 1000000 in
theorem t_rParse(hs:s.size<=6000)(hx:lexF s (s.size+1) 0 []=.ok R)(hR:RelT L (R++[endT s]))(H:LHeap){kv kp:HP}
  (hk0:∀e,parseF L (L.length+1) 0 []=.error e->∀n',H.next<=n'->kv (.agg [clausesL [],.int 7,.int (atR (R++[endT s]) e)]) ⟨H.objs,n'⟩)
  (hk1:∀l,parseF L (L.length+1) 0 []=.ok l->(l.any clBig||decide (40<l.length))=true->∀n',H.next<=n'->kv (.agg [clausesL [],.int 2,.int 0]) ⟨H.objs,n'⟩)
  (hk2:∀l,parseF L (L.length+1) 0 []=.ok l->(l.any clBig||decide (40<l.length))=false->∀n',H.next<=n'->kv (.agg [clausesL l,.int 0,.int 0]) ⟨H.objs,n'⟩):
  cP E0 F0 7 [.str s] H kv kp:=by
 refine cP_of_fnB c7 fun hH=>⟨Nat.le_of_ble_eq_true rfl,?_⟩
 obtain⟨ob,n⟩:=H
 dsimp only at hk0 hk1 hk2
 have hOb:Desc ob n:=hH
 have h6:¬(6000:Int)<(s.size:Int):=by omega
 have fin:∀(l:List Clause)(ow:Own)(e x:Int)(ob':List (Nat×LObj))(m':Nat),n<=m'->(∀n',n<=n'->kv (.agg [clausesL l,.int e,.int x]) ⟨ob,n'⟩)->(∀j,j<n->look j ob'=look j ob) ->
   ∃v',Wk (.agg [.sl (l.map clauseL) ow,.int e,.int x]) v'/\∃H'',HWk ⟨ob',m'⟩ H''/\(LHeap.Ok ⟨ob',m'⟩->H''.Ok)/\kv v' H'':=fun l ow e x ob' m' hm' h ho=>
  ⟨_,strip_clausesR l e x ow,⟨ob,m'⟩,hwk_old hH ho (Nat.le_refl _),fun _=>hOb.mono hm',h m' hm'⟩
 obtain⟨Q,hQ⟩:∃Q,R++[endT s]=Q:=⟨_,rfl⟩
 simp(disch:=omega)[b7,h6]
 refine t_lex s (by omega) _ (fun e he n1 hn1=>?_) (fun R2 he n1 hn1=>?_)
 ·rw[hx]at he;cases he
 rw[hx]at he
 cases he
 rw[hQ]at hR hk0 ⊢
 dsimp only at hn1
 have hlim:=hR.lim
 have hlen:=hR.len
 obtain⟨V,hV⟩:∃V,parseF L (L.length+1) 0 []=V:=⟨_,rfl⟩
 rw[hV]at hk0 hk1 hk2
 simp(disch:=omega)
 refine lP_enter (σ:=NNIs) (fun q=>(.nd .bot (.nd .bot .nil (.nd (.sl (q.es.map clauseL) q.ow) .nil .nil)) (.nd (.ptr n 0) (.nd (.ptr (n1+1) 0) .nil .nil) .nil))) (fun q=>⟨q.ob,q.n⟩) (fun q=>if q.bad<0 then L.length+1 - q.i else 0)
  (fun q=>RowT ⟨(n1+1,rparC Q .no q.i q.bad q.b)::(n1,.cells [.sl (Q.map rtokL) .no,.int 0,.int 0])::(n,.cells [Nl,.int 0,.int 0])::ob,n1+1+1⟩ 3 q.es.length q.ow q.ob q.n/\q.i<=L.length/\q.es.length<=2^21/\((q.bad=-1/\q.es.length<=q.i/\L.length - q.i<q.k/\parseF L q.k q.i q.es=V/\q.es.any clBig=q.b)\/(0<=q.bad/\∃e,V=.error e/\q.bad=atR Q e)))
  ⟨0,n1+1+1,[],.full,(n1+1,rparC Q .no 0 (-1) false)::(n1,.cells [.sl (Q.map rtokL) .no,.int 0,.int 0])::(n,.cells [Nl,.int 0,.int 0])::ob,-1,false,L.length+1⟩ ⟨.inl ⟨rfl,rfl,Nat.le_refl _⟩,Nat.zero_le _,by simp,.inl ⟨rfl,Nat.le_refl _,by dsimp only;omega,hV,rfl⟩⟩ (by simp[FT.Le,Wk]) ⟨HWk.refl _,fun h=>h⟩ ?_
 rintro⟨i,m,es,ow,ob2,bad,b,k⟩ ⟨hr,hi,hel,he⟩ hok
 dsimp only at hr hi hel he hok
 have hold:=hr.old
 dsimp only at hold
 have kc:look (n1+1) ob2=some (rparC Q .no i bad b):=by rw[hold.2 (n1+1) (by omega)];exact look_self _ _ _
 have kz:look n ob2=some (.cells [Nl,.int 0,.int 0]):=by rw[hold.2 n (by omega),look_ne (by omega),look_ne (by omega)];exact look_self _ _ _
 have hlp:∀x,look n (putO n x ob2)=some x:=fun x=>look_putO kz
 have ko:∀(x:LObj)(j:Nat),j<n->look j (putO n x ob2)=look j ob:=fun x j hj=>by rw[look_putO_ne (by omega),hold.2 j (by omega),look_ne (by omega),look_ne (by omega),look_ne (by omega)]
 rcases he with⟨hbad,hel2,hkk,he,hbb⟩|⟨hbad,e,hVe,hbe⟩
 case inr=>
  have hne:¬bad<0:=by omega
  have hv:=hk0 e hVe
  rw[<-hbe]at hv
  simp(disch:=omega)[kc,kz,hlp,hne,hbad]
  exact fin [] .full 7 bad _ _ (by omega) hv (ko _)
 subst hbad
 obtain⟨k,rfl⟩:∃k2,k=k2+1:=⟨k - 1,by omega⟩
 simp(disch:=omega)[kc]
 refine t_now hR.lim (hR.lt hi) kc fun n3 hn3=>?_
 have hkd:=hR.kAt hi
 by_cases hlt:i<L.length
 case neg=>
  have h5:(Q[i]'(hR.lt hi)).kind=5:=by rw[hkd,if_neg hlt]
  rw[parseF_end hlt]at he
  subst he
  have hl1:=hk1 es rfl
  have hl2:=hk2 es rfl
  rw[hbb]at hl1 hl2
  cases b
  ·rw[Bool.false_or]at hl1 hl2
   by_cases h40:40<es.length
   ·have h40':(40:Int)<(es.length:Int):=by omega
    simp(disch:=omega)[h5,kc,kz,hlp,h40']
    exact fin [] .full 2 0 _ _ (by omega) (hl1 (decide_eq_true h40)) (ko _)
   ·have h40':¬(40:Int)<(es.length:Int):=by omega
    simp(disch:=omega)[h5,kc,kz,hlp,h40']
    exact fin es ow 0 0 _ _ (by omega) (hl2 (decide_eq_false h40)) (ko _)
  ·simp(disch:=omega)[h5,kc,kz,hlp]
   exact fin [] .full 2 0 _ _ (by omega) (hl1 rfl) (ko _)
 have h5:¬(Q[i]'(hR.lt hi)).kind=5:=by
  have:=hR.kinds _ (List.getElem_mem hlt)
  rw[hR.kind i hlt (hR.lt hi)]
  omega
 simp(disch:=omega)[h5]
 refine t_rclauseJ hR hi kc fun c k3 bad4 b4 hj4 hk3l n8 hn8=>?_
 have hinv4:(bad4=-1/\i<k3/\parseF L k k3 (es++[c])=V/\(es++[c]).any clBig=b4)\/(0<=bad4/\∃e,V=.error e/\bad4=atR Q e):=by
  rcases hj4 with⟨e1,e2,e3⟩|⟨e1,e,e2,e3⟩
  ·rw[parseF_go hlt e2]at he
   exact .inl ⟨e1,((clauseP_le hi).1 _ _ e2).1,he,by rw[e3,<-hbb];simp⟩
  ·rw[parseF_bad hlt e2]at he
   exact .inr ⟨e1,e,he.symm,e3⟩
 have hr3:=(hr.put (j:=n1+1) (x:=rparC Q .no k3 bad4 b4) (by dsimp only;omega)).mono (show m<=n8 by omega)
 dsimp only at hr3
 rw[putO_self]at hr3
 simp(disch:=omega)
 refine effP_ap ?_
 simp(disch:=omega)
 obtain⟨ow3,ob3,m3,e3,hr4,hm3⟩:=row_apY (sz:=3) (es:=es.map clauseL) (Y:=[clauseL c]) (by omega) (clauses_all es) rfl (by simp;omega) (by rw[List.length_map];exact hr3)
 rw[List.length_map,List.length_singleton]at hr4
 have e4:es.map clauseL++[clauseL c]=(es++[c]).map clauseL:=by simp
 rw[e4]at e3
 rw[e3]
 simp(disch:=omega)
 refine⟨⟨k3,m3,es++[c],ow3,ob3,bad4,b4,k⟩,?_,⟨by rw[List.length_append,List.length_singleton];exact hr4,by dsimp only;omega,by simp;omega,?_⟩,by simp[FT.Le,Wk],HWk.refl _,fun h=>h⟩
 ·rcases hinv4 with⟨r1,r2,_,_⟩|⟨r1,_⟩
  ·dsimp only
   rw[r1,if_pos (by decide)]
   omega
  ·dsimp only
   rw[if_neg (by omega)]
   omega
 ·rcases hinv4 with⟨r1,r2,r3,r4⟩|h
  ·exact .inl ⟨r1,by simp;omega,by dsimp only;omega,r3,r4⟩
  ·exact .inr h
end
theorem putO_comm{i j:Nat}{x y:LObj}(h:i≠j):∀l:List (Nat×LObj),putO i x (putO j y l)=putO j y (putO i x l)
 |[]=>rfl
 |(k,z)::r=>by
  have ih:=putO_comm (x:=x) (y:=y) h r
  by_cases h1:i=k
  ·subst h1
   rw[putO_ne (Ne.symm h),putO_self,putO_self,putO_ne (Ne.symm h)]
  ·by_cases h2:j=k
   ·subst h2
    rw[putO_self,putO_ne h1,putO_ne h1,putO_self]
   ·rw[putO_ne h2,putO_ne h1,putO_ne h1,putO_ne h2,ih]
structure NNIu where
 i:Nat
 n:Nat
 es:List Clause
 ow:Own
 ob:List (Nat×LObj)
 b:Bool
 k:Nat
section
variable{L:List Tok}{own:Own}{b:Bool}{m o n:Nat}{ob:List (Nat×LObj)}
set_option maxHeartbeats 1000000 in
theorem t_p1(hL:L.length<=2^20)(hN:NumOk L)(hmo:m≠o)(hl:look m ob=some (parC L own 0 b))(ho:look o ob=some (.cells [Nl])){kv kp:HP}
  (hk0:∀e,parseF L (L.length+1) 0 []=.error e->∀ob' b' n',n<=n'->(∀j,j<n->j≠o->j≠m->look j ob'=look j ob)->look m ob'=some (parC L own e b')->kp faultV ⟨ob',n'⟩)
  (hk1:∀l,parseF L (L.length+1) 0 []=.ok l->∀ow ob' n',n<=n'->(∀j,j<n->j≠o->j≠m->look j ob'=look j ob)->look m ob'=some (parC L own L.length ((b||l.any clBig)||decide (40<l.length)))->look o ob'=some (.cells [.sl (l.map clauseL) ow])->kv (.tup []) ⟨ob',n'⟩):
  cP E0 F0 26 [.ptr m 0,.ptr o 0] ⟨ob,n⟩ kv kp:=by
 refine cP_of_fn c26 fun hH=>⟨Nat.le_of_ble_eq_true rfl,?_⟩
 have hm:m<n:=hH.look hl
 have hon:o<n:=hH.look ho
 obtain⟨V,hV⟩:∃V,parseF L (L.length+1) 0 []=V:=⟨_,rfl⟩
 rw[hV]at hk0 hk1
 have hom:=Ne.symm hmo
 have hini:putO o (.cells [.sl (([]:List Clause).map clauseL) .full]) (putO m (parC L own 0 b) ob)=ob:=by rw[putO_same hl];exact putO_same ho
 simp(disch:=omega)[b26]
 refine lP_enter (σ:=NNIu) (fun q=>(.nd (.ptr m 0) (.nd (.ptr o 0) .nil .nil) .nil)) (fun q=>⟨q.ob,q.n⟩) (fun q=>L.length+1 - q.i)
  (fun q=>RowT ⟨putO o (.cells [.sl (q.es.map clauseL) q.ow]) (putO m (parC L own q.i q.b) ob),n⟩ 3 q.es.length q.ow q.ob q.n/\q.i<=L.length/\q.es.length<=q.i/\L.length - q.i<q.k/\parseF L q.k q.i q.es=V/\(b||q.es.any clBig)=q.b)
  ⟨0,n,[],.full,ob,b,L.length+1⟩ ⟨.inl ⟨rfl,hini.symm,Nat.le_refl _⟩,Nat.zero_le _,Nat.le_refl _,by dsimp only;omega,hV,by simp⟩ (by simp[FT.Le,Wk]) ⟨HWk.refl _,fun h=>h⟩ ?_
 rintro⟨i,n2,es,ow,ob2,b2,k⟩ ⟨hr,hi,hel,hkk,he,hbb⟩ hok
 dsimp only at hr hi hel hkk he hbb hok
 have hold:=hr.old
 dsimp only at hold
 have hlp:∀x,look m (putO m x ob)=some x:=fun x=>look_putO hl
 have kc:look m ob2=some (parC L own i b2):=by rw[hold.2 m hm,look_putO_ne hmo];exact hlp _
 have kz:look o ob2=some (.cells [.sl (es.map clauseL) ow]):=by rw[hold.2 o hon];exact look_putO (show look o (putO m (parC L own i b2) ob)=some (.cells [Nl]) by rw[look_putO_ne hom];exact ho)
 have kp2:∀x,look m (putO m x ob2)=some x:=fun x=>look_putO kc
 have kz2:∀x,look o (putO m x ob2)=some (.cells [.sl (es.map clauseL) ow]):=fun x=>by rw[look_putO_ne hom];exact kz
 have ko:∀(x:LObj)(j:Nat),j<n->j≠o->j≠m->look j (putO m x ob2)=look j ob:=fun x j hj h1 h2=>by rw[look_putO_ne h2,hold.2 j hj,look_putO_ne h1,look_putO_ne h2]
 obtain⟨k,rfl⟩:∃k2,k=k2+1:=⟨k - 1,by omega⟩
 by_cases hlt:i<L.length
 case neg=>
  obtain rfl:i=L.length:=by omega
  rw[parseF_end hlt]at he
  subst he
  have hv:=hk1 es rfl ow
  rw[hbb]at hv
  cases b2
  ·simp(disch:=omega)[kc,kz,kp2,kz2,hlt]
   exact⟨⟨_,n2⟩,HWk.refl _,fun h=>h,hv _ n2 (by omega) (ko _) (by rw[kp2];simp;omega) (kz2 _)⟩
  ·simp(disch:=omega)[kc,kz,kp2,kz2,hlt]
   exact⟨⟨_,n2⟩,HWk.refl _,fun h=>h,hv _ n2 (by omega) (ko _) (by rw[kp2];simp) (kz2 _)⟩
 simp(disch:=omega)[kc,kz,hlt]
 refine t_clause hL hN hi kc (fun e ht b' n8 hn8=>?_) (fun c j ht n8 hn8=>?_)
 ·rw[parseF_bad hlt ht]at he
  simp(disch:=omega)
  exact hk0 e he.symm _ b' n8 (by omega) (ko _) (kp2 _)
 rw[parseF_go hlt ht]at he
 obtain⟨hs1,hsl⟩:=(clauseP_le hi).1 c j ht
 obtain⟨b4,hb4⟩:∃b4,(b2||clBig c)=b4:=⟨_,rfl⟩
 rw[hb4]
 have hr3:=(hr.put (j:=m) (x:=parC L own j b4) hm).mono (show n2<=n8 by omega)
 dsimp only at hr3
 rw[putO_comm hmo,putO_putO]at hr3
 simp(disch:=omega)[kz2]
 refine effP_ap ?_
 simp(disch:=omega)
 obtain⟨ow3,ob3,m3,e3,hr4,hm3⟩:=row_apY (sz:=3) (es:=es.map clauseL) (Y:=[clauseL c]) (by omega) (clauses_all es) rfl (by simp;omega) (by rw[List.length_map];exact hr3)
 rw[List.length_map,List.length_singleton]at hr4
 have hold4:=hr4.old
 dsimp only at hold4
 have ka4:look o ob3=some (.cells [.sl (es.map clauseL) ow]):=by rw[hold4.2 o hon];exact look_putO (show look o (putO m (parC L own j b4) ob)=some (.cells [Nl]) by rw[look_putO_ne hom];exact ho)
 have e4:es.map clauseL++[clauseL c]=(es++[c]).map clauseL:=by simp
 rw[e4]at e3
 have hr5:=hr4.put (j:=o) (x:=.cells [.sl ((es++[c]).map clauseL) ow3]) hon
 dsimp only at hr5
 rw[putO_putO]at hr5
 rw[e3]
 simp(disch:=omega)[ka4]
 exact⟨⟨j,m3,es++[c],ow3,putO o (.cells [.sl ((es++[c]).map clauseL) ow3]) ob3,b4,k⟩,by dsimp only;omega,⟨by rw[List.length_append,List.length_singleton];exact hr5,by dsimp only;omega,by simp;omega,by dsimp only;omega,he,by rw[<-hb4,<-hbb];simp[Bool.or_assoc]⟩,by simp[FT.Le,Wk],by simp;exact HWk.refl _,by simp⟩
end
end Go.Abs.Tz
