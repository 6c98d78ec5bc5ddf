/- Part of the proof that for every row of clauses, every atom and every source the law CustomTexts returns true. Conditions: none. -/
import Derived.Test.YtjdooijejbmbnaaGreatDoorPartG
import Derived.Test.YtjdooijejbmbnaaGreatDoorPartH
import Derived.Lib.AtoiErrMem
import Derived.Test.YtjdooijejbmbnaaGreatDoorPartC
import Derived.RangeFuncRecord
import Derived.RecoverIn
import Derived.Lib.Builder
import Derived.Test.YtjdooijejbmbnaaGreatDoorProg
import Derived.KernelRfl
import Derived.WalkKit
import Derived.Lib.Walk
import Derived.Lib.AppendStr
import Derived.Lib.UnsafeStr
import Derived.Laws.Externs
import Derived.Lib.Hide
import Derived.RegionTactic
set_option linter.unusedVariables false
set_option linter.unusedSimpArgs false
set_option linter.unusedSectionVars false
namespace Go.Abs.Tz
open Go Go.Abs Go.Proofs
def entersB(P:Program)(f:FuncId):Bool:=match P.funcs[f]? with
 |some fn=>fn.body.isSome&&fn.name != "runtime.NumGoroutine"
 |none=>false
theorem enters_of{P:Program}{f:FuncId}(h:entersB P f=true):Enters P f:=by
 unfold entersB at h
 split at h
 ·rename_i fn hf
  simp only[Bool.and_eq_true,bne_iff_ne,ne_eq]at h
  exact⟨fn,hf,h.1,h.2⟩
 ·cases h
theorem PureT.of_calls{f:FuncId}{args:List LV}{v:LV}(he:entersB Tryz.prog f=true)
  (h:∀(G:Ghost)(w:World)(us:Array Value),ArgsR G w args us->Calls Tryz.prog f us w fun e w'=>∃u,e=.returned u/\VR G w' v u/\w.grownBy w' none):PureT f args v:=
 Pure.of_calls (fun _ _ _ _ h=>h) (enters_of he) h
theorem args_one{G:Ghost}{w:World}{x:LV}{us:Array Value}(h:ArgsR G w [x] us):∃u,us=#[u]/\VR G w x u:=by
 obtain⟨h1,h2⟩:=h
 obtain⟨l⟩:=us
 match l,h1 with
 |[u],_=>exact⟨u,rfl,h2 0 x rfl⟩
theorem args_two{G:Ghost}{w:World}{x y:LV}{us:Array Value}(h:ArgsR G w [x,y] us):∃u v,us=#[u,v]/\VR G w x u/\VR G w y v:=by
 obtain⟨h1,h2⟩:=h
 obtain⟨l⟩:=us
 match l,h1 with
 |[u,v],_=>exact⟨u,v,rfl,h2 0 x rfl,h2 1 y rfl⟩
theorem grown_of_below{w w':World}(h:RowKit.Below w.heap.size w w'):w.grownBy w' none:=⟨h.os,h.tape,h.output,h.size,fun k hk _=>h.block k hk⟩
theorem t_bitsLen(x:Int)(h0:0<=x)(h1:x<=18446744073709551615):PureT 91 [.sc (.int .u64 x)] (.int (Lib.bitLen x.toNat)):=by
 refine PureT.of_calls (by kernel_rfl) fun G w us ha=>?_
 obtain⟨u,rfl,hu⟩:=args_one ha
 obtain rfl:=hu.sc_inv
 refine(Tryz.bits_Len x w h0 h1).mono ?_
 rintro e w' ⟨rfl,rfl⟩
 exact⟨_,rfl,.sc _,grownBy_refl _⟩
theorem t_indexByte(s:ByteArray)(c:Int):PureT 104 [.str s,U c] (.int (Lib.indexByte s.data.toList c.toNat.toUInt8)):=by
 refine PureT.of_calls (by kernel_rfl) fun G w us ha=>?_
 obtain⟨u,v,rfl,hu,hv⟩:=args_two ha
 obtain rfl:=hu.sc_inv
 obtain rfl:=hv.sc_inv
 refine(Tryz.strings_IndexByte s c w).mono ?_
 rintro e w' ⟨rfl,rfl⟩
 exact⟨_,rfl,.sc _,grownBy_refl _⟩
theorem grown_grow(w:World)(k:Nat)(os:Array Obj):w.grownBy (Go.Sort.grow (w.drewN k) os) none:=
 ⟨rfl,rfl,rfl,by show w.heap.size<=(w.heap++os).size;rw[Array.size_append];omega,fun j hj _=>Array.getElem?_append_left hj⟩
theorem pow_tab{G:Ghost}{w:World}(h:EnvR E0 G w){name:String}(hn:Tryz.prog.globalNamed name=some 3):Lib.TabIs Tryz.prog w name .u64 Lib.pow10Tab:=by
 obtain⟨_,vs,t,fz,hw,rfl⟩:=h.fix _ (List.mem_cons_self)
 unfold Lib.TabIs World.var?
 rw[hn]
 simp only[Option.bind_some]
 rw[hw]
theorem t_itoaG(n:Int)(h0:-9223372036854775808<=n)(h1:n<=9223372036854775807):PureT 110 [.int n] (.str ⟨(Lib.itoa n).toArray⟩):=by
 refine Pure.of_callsE (fun _ _ _ _ h=>h) (enters_of (by kernel_rfl)) fun G w us hE ha=>?_
 obtain⟨u,rfl,hu⟩:=args_one ha
 obtain rfl:=hu.sc_inv
 refine(Tryz.strconv_Itoa n h0 h1 w (pow_tab hE (by kernel_rfl))).mono ?_
 rintro e w' ⟨rfl,k,os,rfl⟩
 exact⟨_,rfl,.sc _,grown_grow w k os⟩
theorem t_itoa(i:Nat)(h:i<100):PureT 110 [.int i] (.str ⟨(Lib.decDigits i).toArray⟩):=by
 refine PureT.of_calls (by kernel_rfl) fun G w us ha=>?_
 obtain⟨u,rfl,hu⟩:=args_one ha
 obtain rfl:=hu.sc_inv
 refine(Tryz.strconv_Itoa_small i h w).mono ?_
 rintro e w' ⟨rfl,rfl⟩
 exact⟨_,rfl,.sc _,grownBy_refl _⟩
theorem t_join(xs:List ByteArray)(own:Own)(sep:ByteArray)(hN:xs.length<=140737488355328)(hlen:(Lib.join (xs.map (·.data.toList)) sep.data.toList).length<=140737488355328):
  PureT 77 [.sl (xs.map fun x=>.str x) own,.str sep] (.str ⟨(Lib.join (xs.map (·.data.toList)) sep.data.toList).toArray⟩):=by
 refine PureT.of_calls (by kernel_rfl) fun G w us ha=>?_
 obtain⟨u,v,rfl,hu,hv⟩:=args_two ha
 obtain rfl:=hv.sc_inv
 obtain⟨base,cap,rfl,hcap,_,hc⟩:=hu.sl_inv
 rw[List.length_map]at hcap ⊢
 have none_case:xs=[]->Calls Tryz.prog 77 #[.slice base xs.length cap,.string sep] w fun e w'=>∃u,e=.returned u/\VR G w' (.str ⟨(Lib.join (xs.map (·.data.toList)) sep.data.toList).toArray⟩) u/\w.grownBy w' none:=by
  rintro rfl
  refine(Tryz.strings_Join_none base cap sep w).mono ?_
  rintro e w' ⟨rfl,rfl⟩
  exact⟨_,rfl,.sc _,grownBy_refl _⟩
 rcases hc with⟨h1,_,_⟩|⟨b,off,sz,xv,rfl,hsz,hx,hr⟩
 ·exact none_case (by simpa using h1)
 ·cases hxs:xs with
  |nil=>rw[<-hxs];exact none_case hxs
  |cons x0 r=>
   rw[<-hxs]
   have h0:xs[0]? = some x0:=by rw[hxs];rfl
   have hg:∀(j:Nat) x,xs[j]? = some x->(xs.map fun x=>LV.str x)[j]? = some (.str x):=fun j x h=>by rw[List.getElem?_map,h];rfl
   have hz:sz=1:=(hsz 0 (.str x0) (hg 0 x0 h0)).symm
   subst hz
   have hcell:∀(j:Nat) x,xs[j]? = some x->w.cell? ⟨b,off+j,none⟩=some (.string x):=by
    intro j x hj
    obtain⟨_,h2,_⟩:=hx j (.str x) 0 (.str x) (hg j x hj) rfl
    have h3:=(hr j (.str x) 0 (.str x) (hg j x hj) rfl).sc_inv
    rw[h3]at h2
    simpa using h2
   have hbk:b<w.heap.size:=by
    have:=hcell 0 x0 h0
    unfold World.cell? at this
    cases ho:w.heap[b]? with
    |none=>simp[ho]at this
    |some o=>exact(Array.getElem?_eq_some_iff.1 ho).1
   refine(Tryz.strings_Join b off cap xs sep w hcell hbk hN hcap hlen).mono ?_
   rintro e w' ⟨rfl,hw⟩
   exact⟨_,rfl,.sc _,grown_of_below hw⟩
theorem t_atoi(s:ByteArray)(hmax:s.size<=9223372036854775806)(v:Int)(h:Lib.atoiAll s.data.toList=.ok v):PureT 102 [.str s] (.tup [.int v,.sc .nilIface]):=by
 refine PureT.of_calls (by kernel_rfl) fun G w us ha=>?_
 obtain⟨u,rfl,hu⟩:=args_one ha
 obtain rfl:=hu.sc_inv
 refine(Tryz.strconv_Atoi_ok s hmax v h w).mono ?_
 rintro e w' ⟨rfl,hw⟩
 refine⟨_,rfl,.tup rfl ?_,?_⟩
 ·intro i c hi
  match i with
  |0=>simp at hi;subst hi;exact .sc _
  |1=>simp at hi;subst hi;exact .sc _
  |i+2=>simp at hi
 ·rcases hw with rfl|⟨t,rfl⟩
  ·exact grownBy_refl _
  ·exact grown_of_below (Lib.bytesWorld_below w 5 t)
end Go.Abs.Tz
namespace Go.Abs.Tz
open Go Go.Abs Go.Proofs
set_option maxRecDepth 20000
set_option linter.unusedSimpArgs false
attribute [local simp ↓] getP_nil getP_node setP_nil setP_node oneP_eq vP_map vP_some vP_none vP_bind eP_some bP_true bP_false gP_yes gP_tf gP_ft gP_tup runP_skip runP_ops runP_drw runP_seq runP_cond runP_blk runP_loop runP_exit runP_ret seqK_n seqK_r seqK_e seqK_p blkK_n blkK_r blkK_e blkK_p loopK_n loopK_r loopK_e loopK_p finK_n finK_r finK_p resP_one resP_two resP_three resP_nil resP_c nxP_nil argsP_nil argsP_cons evP_t evP_c evP_g evsP_nil evsP_cons clP_fn clP_yld clfP_fn pnP_i opsP_nil opsP_d opsP_x opsP_gt opsP_gf opP_cf opP_cl opP_pn opP_nx valP_mv valP_pk valP_eq valP_bn valP_nt valP_ld valP_fa valP_fd valP_ia valP_ix valP_ln valP_srn valP_srl valP_srh valP_srb valP_cv valP_mi valP_mf valP_xt valP_bs valP_bd valP_nc valP_mn valP_lk valP_ta opP_mv opP_pk opP_eq opP_bn opP_nt opP_ld opP_fa opP_fd opP_ia opP_ix opP_ln opP_sr opP_cv opP_mi opP_mf opP_xt opP_bs opP_bd opP_nc opP_mn opP_lk opP_ta opP_al opP_bx opP_st opP_ap opP_mk opP_nb opP_mu opP_rg opP_en pendP_nil pendP_d pendP_g drwP_nil drwP_d drwP_x drwP_gt drwP_gf look_self natOf_nat
attribute [local simp] faL fdL iaL ixL loadL partL lenL eqK eqL natOf eqB_s eqB_i eqB_b bn_add bn_sub bn_lss bn_leq bn_gtr bn_geq bn_adds bn_lsss bn_gtrs bn_leqs bn_geqs sliceL LV.cells LV.whole look_self put_self putO_self put_eq stL fillL termC dopP LHeap.alloc oneI oneS oneB nth0 nth1 nth2 nth3 nth4 nth5 nth6 nth7 nth8 nth9 look_ne putO_ne
def l17:BCode:=match b21.body with
 |.seq _ (.seq _ (.seq _ (.seq _ (.seq l _))))=>l
 |_=>.bad
def s17:BCode:=match b21.body with
 |.seq _ (.seq _ (.seq _ (.seq _ (.seq _ (.seq s _)))))=>s
 |_=>.bad
def r17:BCode:=match b21.body with
 |.seq _ (.seq _ (.seq _ (.seq _ (.seq _ (.seq _ r)))))=>r
 |_=>.bad
def ap2L(H:LHeap)(sz:Nat)(a x:LV):Option (LV×LHeap):=match srcL H sz a,rowL H sz x with
 |some (cs,H0,n),some (ms,m)=>
  if m=0 then some (a,H)
  else if n+m<=2^30/\sz<=2^10 then some (.asl H0.next 0 (n+m),H0.alloc (.arr sz (cs++ms)))
  else none
 |_,_=>none
theorem effP_ap2{E:Env}{sz:Nat}{a x:BO}{t:FT}{H:LHeap}{k:HP}(h:evP E a t fun u=>evP E x t fun v=>eP (ap2L H sz u v) k):effP E (.ap sz a x) t H k:=.inr h
theorem ap2_nil(l:List (Nat×LObj))(m:Nat)(x:Strat)(ow:Own):ap2L ⟨l,m⟩ 3 (.sl [] .full) (.sl [stratL x] ow)=some (.asl m 0 1,⟨(m,arrS [x])::l,m+1⟩):=rfl
theorem ap2_arr{l:List (Nat×LObj)}{m o:Nat}{A:List Strat}(x:Strat)(ow:Own)(hl:look o l=some (arrS A))(hA:A.length<=2^20):
  ap2L ⟨l,m⟩ 3 (.asl o 0 A.length) (.sl [stratL x] ow)=some (.asl m 0 (A.length+1),⟨(m,arrS (A++[x]))::delO o l,m+1⟩):=by
 have h1:(A.flatMap stratC).length=A.length*3:=flat_len stratC_len A
 have h2:srcL ⟨l,m⟩ 3 (.asl o 0 A.length)=some (A.flatMap stratC,⟨delO o l,m⟩,A.length):=by
  simp only[srcL,hl]
  rw[if_pos ⟨trivial,by rw[h1];exact Nat.le_refl _⟩,<-h1,List.take_length]
  rfl
 have h3:rowL ⟨l,m⟩ 3 (.sl [stratL x] ow)=some (stratC x,1):=rfl
 unfold ap2L
 rw[h2,h3]
 simp only
 rw[if_neg (by omega),if_pos ⟨by omega,by omega⟩]
 simp[LHeap.alloc,List.flatMap_append,stratL,LV.cells]
def v6(N:Nat):List Strat->LV
 |[]=>.sl [] .full
 |x::r=>.asl (N+2*(r.length+1)) 0 (r.length+1)
def hpS(N:Nat)(A:List Strat)(r:List (Nat×LObj)):List (Nat×LObj):=match A with
 |[]=>r
 |A=>(N+2*A.length,arrS A)::r
theorem v6_ne{N:Nat}{A:List Strat}(h:A≠[]):v6 N A=.asl (N+2*A.length) 0 A.length:=by
 cases A with
 |nil=>exact absurd rfl h
 |cons a A=>rfl
theorem hpS_ne{N:Nat}{A:List Strat}{r:List (Nat×LObj)}(h:A≠[]):hpS N A r=(N+2*A.length,arrS A)::r:=by
 cases A with
 |nil=>exact absurd rfl h
 |cons a A=>rfl
structure NNS where
 left:List Nat
 cur:Option Nat
 acc:List Strat
abbrev entS(x:Strat):LV×LV:=(.agg [.str x.pred,.int x.args],.int x.level)
theorem strLoop(o:Nat)(A0:List Strat)(H:LHeap)(hl:look o H.objs=some (.map (A0.map entS)))(hA0:A0.length<=2^20):
  lP E0 F0 l17 (.nd .bot .nil (.nd .bot (.nd (.map o) .nil .nil) (.nd (.sl [] .full) .nil .nil))) H (fun e t' H'=>e=.normal/\∃A:List Strat,A.Perm A0/\FT.Le (.nd .bot .nil (.nd .bot .nil (.nd (v6 H.next A) .nil .nil))) t'/\HWk H' ⟨hpS H.next A H.objs,H.next+2*A.length+1⟩/\(H'.Ok->LHeap.Ok ⟨hpS H.next A H.objs,H.next+2*A.length+1⟩)):=by
 refine lP_of_run ?_
 obtain⟨ob,N⟩:=H
 dsimp only at hl ⊢
 simp(disch:=omega)[l17,b21,rgL,hl]
 refine lP_enter (σ:=NNS) (fun q=>(.nd .bot .nil (.nd .bot (.nd (.map o) .nil .nil) (.nd (v6 N q.acc) (.nd .bot (.nd (.ptr N 0) .nil .nil) .nil) .nil))))
  (fun q=>⟨hpS N q.acc ((N,.iter o q.left q.cur A0.length)::ob),N+2*q.acc.length+1⟩) (fun q=>q.left.length)
  (fun q=>(q.acc++q.left.filterMap fun k=>A0[k]?).Perm A0) ⟨List.range A0.length,none,[]⟩ ?_ (by simp[FT.Le,Wk,v6]) ⟨HWk.refl _,fun h=>h⟩ ?_
 ·dsimp only
  rw[range_filterMap]
  exact .refl _
 rintro⟨left,cur,acc⟩ hT hok
 dsimp only at hT hok
 by_cases ha:acc=[]
 ·subst ha
  simp only[hpS,List.length_nil,Nat.mul_zero,Nat.add_zero]at hok
  have hlt:o<N:=by
   have h2:LHeap.Ok ⟨ob,N⟩:=hok.2
   exact h2.look hl
  simp only[v6,hpS,List.length_nil,Nat.mul_zero,Nat.add_zero]
  simp(disch:=omega)
  by_cases hl0:left=[]
  ·refine⟨N,o,left,cur,A0.length,rfl,by simp[look_self],.inl ⟨hl0,.inr ⟨_,by rw[look_ne (by omega)];exact hl,by simp⟩,?_⟩⟩
   subst hl0
   simp(disch:=omega)
   have hB:LHeap.Ok ⟨ob,N⟩:=hok.2
   exact⟨[],by simpa using hT,by simp[FT.Le,Wk],backK hB⟩
  ·refine⟨N,o,left,cur,A0.length,rfl,by simp[look_self],.inr ⟨hl0,_,by rw[look_ne (by omega)];exact hl,by simp,fun j k e hj hk=>?_⟩⟩
   obtain⟨v,hv,rfl⟩:∃v,A0[k]? = some v/\e=entS v:=by
    simp only[List.getElem?_map]at hk
    obtain⟨v,h1,h2⟩:=Option.map_eq_some_iff.1 hk
    exact⟨v,h1,h2.symm⟩
   have hjl:j<left.length:=(List.getElem?_eq_some_iff.1 hj).1
   simp(disch:=omega)[enL,hl,hv]
   refine effP_ap2 ?_
   simp(disch:=omega)[ap2_nil]
   have hfe:(left.filterMap (fun k=>A0[k]?)).Perm (v::(left.eraseIdx j).filterMap (fun k=>A0[k]?)):=by
    have:=(perm_erase left j k hj).filterMap (fun k=>A0[k]?)
    rwa [List.filterMap_cons_some hv]at this
   have hB:Desc ((N,LObj.iter o (left.eraseIdx j) (some k) A0.length)::ob) (N+1):=⟨Nat.lt_succ_self _,hok.2⟩
   exact⟨⟨left.eraseIdx j,some k,[v]⟩,by dsimp only;rw[List.length_eraseIdx_of_lt hjl];omega,hfe.symm.trans (by simpa using hT),by simp[FT.Le,Wk],hwk_mid hB (fun _ _ h=>h),fun _=>⟨Nat.lt_succ_self _,hB.mono (by simp only[List.length_cons,List.length_nil];omega)⟩⟩
 ·rw[hpS_ne ha]at hok
  obtain⟨K,hK⟩:∃K,acc.length=K:=⟨_,rfl⟩
  have hKA:K<=A0.length:=by
   have:=hT.length_eq
   rw[List.length_append]at this
   omega
  have hlt:o<N:=by
   have h2:LHeap.Ok ⟨ob,N⟩:=hok.2.2
   exact h2.look hl
  have hK1:0<K:=by rw[<-hK];exact List.length_pos_iff.2 ha
  simp only[v6_ne ha,hpS_ne ha]
  rw[hK]at hok ⊢
  obtain⟨M,hM⟩:∃M,N+2*K=M:=⟨_,rfl⟩
  rw[hM]at hok ⊢
  have hNM:N<M:=by omega
  simp(disch:=omega)
  by_cases hl0:left=[]
  ·refine⟨N,o,left,cur,A0.length,rfl,by rw[look_ne (by omega)];simp[look_self],.inl ⟨hl0,.inr ⟨_,by rw[look_ne (by omega),look_ne (by omega)];exact hl,by simp⟩,?_⟩⟩
   subst hl0
   simp(disch:=omega)
   have hA:acc.Perm A0:=by simpa using hT
   exact⟨acc,hA,by simp[FT.Le,Wk,v6_ne ha,hM,hK],by rw[hpS_ne ha,hK,hM];exact hwk_mid hok.2.2 (fun _ _ h=>h),by rw[hpS_ne ha,hK,hM];exact fun _=>⟨Nat.lt_succ_self _,hok.2.2.mono (by omega)⟩⟩
  ·refine⟨N,o,left,cur,A0.length,rfl,by rw[look_ne (by omega)];simp[look_self],.inr ⟨hl0,_,by rw[look_ne (by omega),look_ne (by omega)];exact hl,by simp,fun j k e hj hk=>?_⟩⟩
   obtain⟨v,hv,rfl⟩:∃v,A0[k]? = some v/\e=entS v:=by
    simp only[List.getElem?_map]at hk
    obtain⟨v,h1,h2⟩:=Option.map_eq_some_iff.1 hk
    exact⟨v,h1,h2.symm⟩
   have hjl:j<left.length:=(List.getElem?_eq_some_iff.1 hj).1
   simp(disch:=omega)[enL,hl,hv]
   refine effP_ap2 ?_
   simp(disch:=omega)
   have hap:=ap2_arr (o:=M) (m:=M+1+1) (l:=(M+1,.cells [.str v.pred,.int v.args])::(M,arrS acc)::(N,.iter o (left.eraseIdx j) (some k) A0.length)::ob) v .full (by rw[look_ne (by omega)];simp[look_self]) (A:=acc) (by omega)
   rw[hK]at hap
   rw[hap]
   refine⟨_,_,rfl,?_⟩
   have hfe:(left.filterMap (fun k=>A0[k]?)).Perm (v::(left.eraseIdx j).filterMap (fun k=>A0[k]?)):=by
    have:=(perm_erase left j k hj).filterMap (fun k=>A0[k]?)
    rwa [List.filterMap_cons_some hv]at this
   have hne:acc++[v]≠[]:=by simp
   have hln:(acc++[v]).length=K+1:=by simp[hK]
   have hMM:N+2*(K+1)=M+1+1:=by omega
   have hB:Desc ((N,LObj.iter o (left.eraseIdx j) (some k) A0.length)::ob) (N+1):=⟨Nat.lt_succ_self _,hok.2.2⟩
   refine⟨⟨left.eraseIdx j,some k,acc++[v]⟩,by dsimp only;rw[List.length_eraseIdx_of_lt hjl];omega,?_,by simp[FT.Le,Wk,v6_ne hne,hMM,hK],?_,?_⟩
   ·dsimp only
    rw[List.append_assoc]
    exact(List.Perm.append_left acc hfe.symm).trans hT
   ·dsimp only
    rw[hpS_ne hne,hln,hMM]
    refine⟨Nat.le_refl _,fun i z hz=>?_⟩
    simp only[look]at hz ⊢
    split at hz
    ·rename_i hi;rw[if_pos hi];exact hz
    ·rename_i hi
     have hlt2:i<N+1:=hB.look (o:=z) (by simp only[look];exact hz)
     rw[if_neg hi,look_del,if_neg (by omega)]
     simp only[look]
     rw[if_neg (by omega),if_neg (by omega)]
     exact hz
   ·dsimp only
    rw[hpS_ne hne,hln,hMM]
    exact fun _=>⟨Nat.lt_succ_self _,hB.mono (by omega)⟩
theorem t_pdqS(A:List Strat)(o:Nat)(ob:List (Nat×LObj))(nx:Nat)(lim:Int)(hlo:look o ob=some (arrS A))(hA:A.length<=12){kv kp:HP}
  (hk:kv (.tup []) ⟨putO o (arrS (isortN ltS (A.length - 1) 1 A)) ob,nx⟩):
  cP E0 F0 90 [.asl o 0 A.length,.int 0,.int A.length,.int lim,.fn (.func 49) [] []] ⟨ob,nx⟩ kv kp:=by
 refine cP_of_fn c90 fun hH=>⟨Nat.le_of_ble_eq_true rfl,?_⟩
 simp(disch:=omega)[b90,wrap_id]
 refine lP_unroll ?_
 have h12:(A.length:Int)<=12:=by omega
 simp(disch:=omega)[wrap_id,h12]
 refine t_insert A o ob nx hlo (by omega) ?_
 simp(disch:=omega)[resP_nil]
 exact keep hk
theorem wrap_u{n:Nat}(h:n<=12):IntKind.wrap .u64 (n:Int)=n:=by
 have e:IntKind.u64.bits=64:=rfl
 have e2:IntKind.u64.signed=false:=rfl
 simp only[IntKind.wrap,e,e2,Bool.false_and]
 rw[if_neg (by decide)]
 omega
theorem t_sortS(A:List Strat)(o:Nat)(ob:List (Nat×LObj))(nx:Nat)(hlo:look o ob=some (arrS A))(hA:A.length<=12){kv kp:HP}
  (hk:kv (.tup []) ⟨putO o (arrS (isortN ltS (A.length - 1) 1 A)) ob,nx⟩):
  cP E0 F0 48 [.asl o 0 A.length,.fn (.func 49) [] []] ⟨ob,nx⟩ kv kp:=by
 refine cP_of_fn c48 fun hH=>⟨Nat.le_of_ble_eq_true rfl,?_⟩
 simp(disch:=omega)[b48,wrap_id,wrap_u hA]
 refine(t_bitsLen _ (by omega) (by omega)).x (.sc _) ?_
 simp(disch:=omega)
 refine t_pdqS A o ob nx _ hlo hA ?_
 simp(disch:=omega)[resP_nil]
 exact keep hk
end Go.Abs.Tz
set_option maxRecDepth 20000
namespace Go.Abs.Tz
open Go Go.Abs Go.Proofs
noncomputable def tabL:List (FuncId×FnI):=[
 (69,⟨b69,5,false,false,false⟩),
 (56,⟨b56,6,false,false,false⟩),
 (70,⟨b70,7,false,false,false⟩),
 (32,⟨b32,7,false,false,false⟩),
 (57,⟨b57,5,false,false,false⟩),
 (27,⟨b27,6,false,false,false⟩),
 (58,⟨b58,4,false,false,false⟩),
 (106,⟨b106,6,false,false,false⟩),
 (105,⟨b105,5,false,false,false⟩),
 (51,⟨b51,5,false,false,false⟩),
 (52,⟨b52,5,false,false,false⟩),
 (50,⟨b50,5,false,false,false⟩),
 (92,⟨b92,3,false,false,false⟩),
 (93,⟨b93,3,false,false,false⟩),
 (119,⟨b119,5,false,false,false⟩),
 (118,⟨b118,6,false,false,false⟩),
 (86,⟨b86,5,false,false,false⟩),
 (138,⟨b138,6,false,false,false⟩),
 (47,⟨b47,4,false,false,false⟩),
 (137,⟨b137,4,false,false,false⟩),
 (113,⟨b113,5,false,true,false⟩),
 (76,⟨b76,4,false,false,false⟩),
 (39,⟨b39,6,false,false,false⟩),
 (84,⟨b84,6,false,true,false⟩),
 (114,⟨b114,7,true,true,false⟩),
 (82,⟨b82,5,false,true,false⟩),
 (83,⟨b83,6,false,true,false⟩),
 (43,⟨b43,7,false,true,false⟩),
 (80,⟨b80,6,false,false,false⟩),
 (78,⟨b78,6,false,false,false⟩),
 (42,⟨b42,5,false,false,false⟩),
 (74,⟨b74,6,false,false,false⟩),
 (37,⟨b37,5,false,false,false⟩),
 (5,⟨b5,8,false,false,false⟩),
 (6,⟨b6,5,false,false,false⟩),
 (8,⟨b8,5,false,false,false⟩),
 (11,⟨b11,4,false,false,false⟩),
 (14,⟨b14,6,false,false,false⟩),
 (16,⟨b16,1,false,false,false⟩),
 (17,⟨b17,6,false,false,false⟩),
 (18,⟨b18,4,false,false,false⟩),
 (19,⟨b19,4,false,false,false⟩),
 (20,⟨b20,7,false,false,false⟩),
 (21,⟨b21,6,true,false,true⟩),
 (22,⟨b22,5,false,false,false⟩),
 (23,⟨b23,5,false,false,false⟩),
 (24,⟨b24,5,false,false,false⟩),
 (25,⟨b25,6,false,true,false⟩),
 (26,⟨b26,5,false,true,false⟩),
 (31,⟨b31,5,false,true,false⟩),
 (36,⟨b36,7,false,false,false⟩),
 (40,⟨b40,6,false,false,false⟩),
 (44,⟨b44,5,true,false,true⟩),
 (45,⟨b45,5,false,false,false⟩),
 (46,⟨b46,5,false,true,false⟩),
 (54,⟨b54,3,false,true,false⟩),
 (55,⟨b55,6,false,false,false⟩),
 (72,⟨b72,4,false,false,false⟩),
 (73,⟨b73,4,false,false,false⟩),
 (79,⟨b79,4,false,false,false⟩),
 (81,⟨b81,6,false,true,false⟩),
 (85,⟨b85,4,false,false,false⟩),
 (87,⟨b87,3,false,false,false⟩),
 (89,⟨b89,7,false,true,false⟩),
 (95,⟨b95,8,false,false,false⟩),
 (96,⟨b96,5,false,false,false⟩),
 (97,⟨b97,3,false,false,false⟩),
 (98,⟨b98,4,false,false,false⟩),
 (99,⟨b99,4,false,false,false⟩),
 (100,⟨b100,4,false,false,false⟩),
 (101,⟨b101,4,false,false,false⟩),
 (103,⟨b103,4,false,false,false⟩),
 (112,⟨b112,4,false,false,false⟩),
 (115,⟨b115,6,false,false,false⟩),
 (117,⟨b117,8,false,false,false⟩),
 (120,⟨b120,4,false,false,false⟩),
 (121,⟨b121,3,false,false,false⟩),
 (141,⟨b141,6,false,false,false⟩),
 (143,⟨b143,8,false,false,false⟩),
 (144,⟨b144,7,false,false,false⟩),
 (145,⟨b145,8,false,false,false⟩),
 (146,⟨b146,5,false,false,false⟩),
 (162,⟨b162,6,false,false,false⟩),
 (171,⟨b171,6,false,false,false⟩)]
def lookT:List (FuncId×FnI)->FuncId->Option FnI
 |[],_=>none
 |(g,i)::r,f=>match Nat.beq g f with
  |true=>some i
  |false=>lookT r f
def allT:List (FuncId×FnI)->Prop
 |[]=>True
 |(g,i)::r=>certB Tryz.prog g=some i.b/\allT r
theorem lookT_ok:∀{l:List (FuncId×FnI)},allT l->∀f i,lookT l f=some i->F0.fn f i.b
 |[],_,_,_,h=>by cases h
 |(g,j)::r,h,f,i,hl=>by
  unfold lookT at hl
  split at hl
  ·rename_i he
   cases hl
   rw[<-Nat.eq_of_beq_eq_true he];exact h.1
  ·exact lookT_ok h.2 f i hl
theorem tabL_ok:allT tabL:=⟨c69,c56,c70,c32,c57,c27,c58,c106,c105,c51,c52,c50,c92,c93,c119,c118,c86,c138,c47,c137,c113,c76,c39,c84,c114,c82,c83,c43,c80,c78,c42,c74,c37,c5,c6,c8,c11,c14,c16,c17,c18,c19,c20,c21,c22,c23,c24,c25,c26,c31,c36,c40,c44,c45,c46,c54,c55,c72,c73,c79,c81,c85,c87,c89,c95,c96,c97,c98,c99,c100,c101,c103,c112,c115,c117,c120,c121,c141,c143,c144,c145,c146,c162,c171,trivial⟩
end Go.Abs.Tz
namespace Go.Abs.Tz
open Go Go.Abs Go.Proofs
theorem clone_calls(b off n c:Nat)(zs:List Int)(w:World)(hz:zs.length=n)(hbig:n<=2^40)(hc:∀j z,zs[j]? = some z->w.cell? ⟨b,off+j,none⟩=some (.int .i64 z)):
  Calls Tryz.prog 116 #[.slice (some ⟨b,off,none⟩) n c] w fun e w'=>∃v,e=.returned v/\w.grownBy w' none /\
   ((v=.slice none 0 0/\zs=[])\/∃g cap,v=.slice (some (at_ g 0)) zs.length cap/\w.heap.size<=g/\g<w'.heap.size/\zs.length<=cap/\∀i z,zs[i]? = some z->w'.cell? (at_ g i)=some (.int .i64 z)):=by
 refine(Tryz.slices_Clone_int b off n c zs w (by omega) (by omega) (fun j hj=>?_)).mono ?_
 ·rw[hc j zs[j] (List.getElem?_eq_getElem hj),List.getD_eq_getElem?_getD,List.getElem?_eq_getElem hj];rfl
 ·rintro e w' ⟨v',rfl,⟨hl,hr⟩,hne,hw⟩
  refine⟨v',rfl,grown_of_below hw,?_⟩
  rcases hr with⟨h1,_⟩|⟨g,cap,cur,h1,h2,h3,h4,h5,h6,h7⟩
  ·exact absurd h1 hne
  ·subst hz
   refine .inr ⟨g,cap,h1,h2,(Array.getElem?_eq_some_iff.1 h3).1,h4,fun i z hi=>?_⟩
   have hil:i<zs.length:=(List.getElem?_eq_some_iff.1 hi).1
   have h8:(cur.toList.take (zs.length*1))[i]? = some (.int .i64 z):=by
    rw[h7,List.take_length,List.getElem?_map,hi];rfl
   rw[List.getElem?_take,if_pos (by omega)]at h8
   have h9:cur[i]? = some (.int .i64 z):=by simpa using h8
   unfold World.cell?
   simp only[h3]
   simpa using h9
theorem t_clone_asl(H:LHeap)(o len:Nat)(cs:List LV)(zs:List Int)(hl:look o H.objs=some (.arr 1 cs))(hlen:len<=cs.length)(hz:cs.take len=zs.map fun z=>.int z)(hbig:len<=2^40)
  {kv kp:HP} (hk:kv (.sl (zs.map fun z=>.int z) .no) H):cP E0 F0 116 [.asl o 0 len] H kv kp:=by
 intro hH
 refine .prim (callOk_row (zs:=zs) (enters_of (by kernel_rfl)) (.inl ⟨_,H,rfl,hH,hk⟩) fun G w us hI ha=>?_)
 obtain⟨u,rfl,hu⟩:=args_one ha
 obtain⟨hon,cap,hcap,_,rfl⟩:=hu.asl_inv
 obtain⟨_,vs,el,fz,h1,h2,h3,⟨h4,_,_⟩,h5,h6,h7⟩:=hI.objs o _ hl
 have hzl:zs.length=len:=by
  have:=congrArg List.length hz
  simpa [List.length_take,Nat.min_eq_left hlen] using this.symm
 rw[Nat.zero_mul]
 refine clone_calls (G.loc o) 0 len cap zs w hzl hbig fun j z hj=>?_
 have hjl:j<len:=by rw[<-hzl];exact(List.getElem?_eq_some_iff.1 hj).1
 have hcj:cs[j]? = some (.int z):=by
  have:(cs.take len)[j]? = some (.int z):=by rw[hz,List.getElem?_map,hj];rfl
  rwa [List.getElem?_take,if_pos hjl]at this
 have hv:=(h7 j _ hcj).1.sc_inv
 have hjv:j<vs.size:=by omega
 unfold World.cell?
 simp only[h1,Nat.zero_add]
 rw[Array.getD_eq_getD_getElem?,Array.getElem?_eq_getElem hjv]at hv
 simp only[Option.getD_some]at hv
 rw[Array.getElem?_eq_getElem hjv,hv]
 rfl
theorem t_clone_sl(zs:List Int)(own:Own)(hbig:zs.length<=2^40)(H:LHeap){kv kp:HP}(hk:kv (.sl (zs.map fun z=>.int z) .no) H):cP E0 F0 116 [.sl (zs.map fun z=>.int z) own] H kv kp:=by
 intro hH
 refine .prim (callOk_row (zs:=zs) (enters_of (by kernel_rfl)) (.inl ⟨_,H,rfl,hH,hk⟩) fun G w us hI ha=>?_)
 obtain⟨u,rfl,hu⟩:=args_one ha
 obtain⟨base,cap,rfl,hcap,_,hc⟩:=hu.sl_inv
 rw[List.length_map]at hcap ⊢
 have hg:∀(j:Nat) z,zs[j]? = some z->(zs.map fun z=>LV.int z)[j]? = some (.int z):=fun j z h=>by rw[List.getElem?_map,h];rfl
 rcases hc with⟨h1,rfl,_⟩|⟨b,off,sz,xv,rfl,hsz,hx,hr⟩
 ·have:zs=[]:=by simpa using h1
  subst this
  cases base with
  |none=>
   refine(Tryz.slices_Clone_int_nil 0 0 w).mono ?_
   rintro e w' ⟨rfl,rfl⟩
   exact⟨_,rfl,grownBy_refl _,.inl ⟨rfl,rfl⟩⟩
  |some a=>
   refine(Tryz.slices_Clone_int_zero a 0 w).mono ?_
   rintro e w' ⟨v',rfl,⟨hl,hr⟩,hne,hw⟩
   refine⟨v',rfl,grown_of_below hw,?_⟩
   rcases hr with⟨h1,_⟩|⟨g,cap,cur,h1,h2,h3,h4,h5,h6,h7⟩
   ·exact absurd h1 hne
   ·exact .inr ⟨g,cap,h1,h2,(Array.getElem?_eq_some_iff.1 h3).1,h4,fun i z hi=>by simp at hi⟩
 ·refine clone_calls b off zs.length cap zs w rfl hbig fun j z hj=>?_
  have hz1:sz=1:=(hsz j _ (hg j z hj)).symm
  subst hz1
  obtain⟨_,h2,_⟩:=hx j _ 0 _ (hg j z hj) rfl
  have h3:=(hr j _ 0 _ (hg j z hj) rfl).sc_inv
  rw[h3]at h2
  simpa using h2
end Go.Abs.Tz
namespace Go.Abs.Tz
open Go Go.Abs Go.Proofs
def decS(v:LV):Option ByteArray:=match v with|.sc (.string s)=>some s|_=>none
def decI(v:LV):Option Int:=match v with|.sc (.int .i64 n)=>some n|_=>none
def decT3(a b c:LV):Option Term:=match decI a,decI b,decS c with
 |some k,some n,some s=>some ⟨k,n,s⟩
 |_,_,_=>none
def decT(v:LV):Option Term:=match v with|.agg [a,b,c]=>decT3 a b c|_=>none
def decTs:List LV->Option (List Term)
 |[]=>some []
 |v::r=>match decT v,decTs r with
  |some t,some l=>some (t::l)
  |_,_=>none
def decA2(p a:LV):Option Atom:=match decS p,a with
 |some s,.sl es _=>match decTs es with
  |some l=>some ⟨s,l⟩
  |none=>none
 |_,_=>none
def decA(v:LV):Option Atom:=match v with|.agg [p,a]=>decA2 p a|_=>none
def decL(v:LV):Option Lit:=match v with
 |.agg [k,p,a,a1,a2,a3,b1,b2,b3]=>match decI k,decA2 p a,decT3 a1 a2 a3,decT3 b1 b2 b3 with
  |some k,some x,some y,some z=>some ⟨k,x,y,z⟩
  |_,_,_,_=>none
 |_=>none
def decLs:List LV->Option (List Lit)
 |[]=>some []
 |v::r=>match decL v,decLs r with
  |some t,some l=>some (t::l)
  |_,_=>none
def decC(v:LV):Option Clause:=match v with
 |.agg [p,a,b]=>match decA2 p a,b with
  |some h,.sl es _=>match decLs es with
   |some l=>some ⟨h,l⟩
   |none=>none
  |_,_=>none
 |_=>none
theorem decS_ok{v:LV}{s:ByteArray}(h:decS v=some s):v=.str s:=by
 unfold decS at h;split at h
 ·cases h;rfl
 ·cases h
theorem decI_ok{v:LV}{n:Int}(h:decI v=some n):v=.int n:=by
 unfold decI at h;split at h
 ·cases h;rfl
 ·cases h
theorem decT3_ok{a b c:LV}{t:Term}(h:decT3 a b c=some t):[a,b,c]=termC t:=by
 unfold decT3 at h;split at h
 ·rename_i h1 h2 h3
  cases h
  rw[decI_ok h1,decI_ok h2,decS_ok h3]
 ·cases h
theorem decT_ok{v:LV}{t:Term}(h:decT v=some t):v=termL t:=by
 unfold decT at h;split at h
 ·rw[decT3_ok h]
 ·cases h
theorem decTs_ok:∀{l:List LV}{ts:List Term},decTs l=some ts->l=ts.map termL
 |[],ts,h=>by cases h;rfl
 |v::r,ts,h=>by
  unfold decTs at h;split at h
  ·rename_i h1 h2
   cases h
   rw[decT_ok h1,decTs_ok h2];rfl
  ·cases h
theorem strip_terms:∀l:List Term,stripL (l.map termL)=l.map termL
 |[]=>rfl
 |t::r=>by rw[List.map_cons,stripL,strip_terms r];rfl
theorem decA2_ok{p a:LV}{x:Atom}(h:decA2 p a=some x):p=.str x.pred/\a.strip=argsL x.args:=by
 unfold decA2 at h;split at h
 ·rename_i h1
  split at h
  ·rename_i h2
   cases h
   refine⟨decS_ok h1,?_⟩
   rw[decTs_ok h2,LV.strip,strip_terms]
  ·cases h
 ·cases h
theorem decA_ok{v:LV}{x:Atom}(h:decA v=some x):v.strip=atomL x:=by
 unfold decA at h;split at h
 ·obtain⟨h1,h2⟩:=decA2_ok h
  rw[LV.strip,stripL,stripL,stripL,h1,h2];rfl
 ·cases h
theorem decL_ok{v:LV}{x:Lit}(h:decL v=some x):v.strip=litL x/\v.strip.strip=litL x:=by
 unfold decL at h;split at h
 ·split at h
  ·rename_i h1 h2 h3 h4
   cases h
   obtain⟨h5,h6⟩:=decA2_ok h2
   have h7:=decT3_ok h3
   have h8:=decT3_ok h4
   simp only[List.cons.injEq,and_true]at h7 h8
   obtain⟨rfl,rfl,rfl⟩:=h7
   obtain⟨rfl,rfl,rfl⟩:=h8
   have h9:=decI_ok h1
   subst h9
   subst h5
   constructor
   ·simp only[LV.strip,stripL,h6]
   ·simp only[LV.strip,stripL,h6,argsL,strip_terms]
  ·cases h
 ·cases h
theorem decLs_ok:∀{l:List LV}{ts:List Lit},decLs l=some ts->stripL l=ts.map litL
 |[],ts,h=>by cases h;rfl
 |v::r,ts,h=>by
  unfold decLs at h;split at h
  ·rename_i h1 h2
   cases h
   rw[stripL,(decL_ok h1).1,decLs_ok h2];rfl
  ·cases h
theorem decC_ok{v:LV}{c:Clause}(h:decC v=some c):v.strip=clauseL c:=by
 unfold decC at h;split at h
 ·split at h
  ·rename_i h1
   split at h
   ·rename_i h2
    cases h
    obtain⟨h3,h4⟩:=decA2_ok h1
    subst h3
    simp only[LV.strip,stripL,h4,decLs_ok h2]
   ·cases h
  ·cases h
 ·cases h
def sizeOk(s:ByteArray):Bool:=Nat.ble s.size 1000000
def okT(t:Term):Bool:=sizeOk t.s
def okA(a:Atom):Bool:=sizeOk a.pred&&(Nat.ble a.args.length 1000000&&a.args.all okT)
def okC(c:Clause):Bool:=okA c.head&&(Nat.ble c.body.length 1000000&&c.body.all fun l=>okA l.atom)
theorem okA_ok{a:Atom}(h:okA a=true):a.ok:=by
 simp only[okA,sizeOk,Bool.and_eq_true]at h
 obtain⟨h1,h2,h3⟩:=h
 have h1':=Nat.le_of_ble_eq_true h1
 have h2':=Nat.le_of_ble_eq_true h2
 refine⟨by omega,by omega,fun t ht=>?_⟩
 have:=List.all_eq_true.1 h3 t ht
 have h4:=Nat.le_of_ble_eq_true (show Nat.ble t.s.size 1000000=true from this)
 unfold Term.ok
 omega
theorem okC_ok{c:Clause}(h:okC c=true):c.ok:=by
 simp only[okC,Bool.and_eq_true]at h
 obtain⟨h1,h2,h3⟩:=h
 have h2':=Nat.le_of_ble_eq_true h2
 exact⟨okA_ok h1,by omega,fun l hl=>okA_ok (List.all_eq_true.1 h3 l hl)⟩
theorem prim_of{f:FuncId}{args:List LV}{H:LHeap}{kv kp:HK}(h:cP E0 F0 f args H (fun v H'=>kv v H'=true) (fun v H'=>kp v H'=true))(hH:H.Ok):Out E0 F0 (.call f args H) (CS kv kp):=
 .mono (h hH) fun r hr=>hr
theorem prim_strip{f:FuncId}{args args':List LV}{H:LHeap}{kv kp:HK}(hs:args'=stripL args)(h:cP E0 F0 f args' H (fun v H'=>kv v H'=true) (fun v H'=>kp v H'=true))(hH:H.Ok):Out E0 F0 (.call f args H) (CS kv kp):=by
 subst hs
 refine .weakArgs (by rw[stripL_length]) (fun k=>?_) ⟨Nat.le_refl _,fun _ _ h=>h⟩ (prim_of h hH)
 simp only[frOf,List.getD_eq_getElem?_getD,stripL_get]
 cases args[k]? with
 |none=>exact .inl rfl
 |some v=>exact .inr (.inl rfl)
abbrev PrimF:=List LV->LHeap->HK->HK->Bool
def primSafe:PrimF:=fun args H kv _=>match args with
 |[c]=>match decC c with
  |some c=>whenB (okC c) (kv (.sc (.bool (safeB c))) H)
  |none=>false
 |_=>false
theorem primSafe_ok{args:List LV}{H:LHeap}{kv kp:HK}(hH:H.Ok)(h:primSafe args H kv kp=true):Out E0 F0 (.call 53 args H) (CS kv kp):=by
 unfold primSafe at h
 split at h
 ·rename_i c
  split at h
  ·rename_i x hx
   obtain⟨h1,h2⟩:=whenB_spec h
   refine prim_strip (args':=[clauseL x]) (by rw[stripL,stripL,decC_ok hx]) ?_ hH
   exact(t_safe x (okC_ok h1)).x (.sc _) h2
  ·cases h
 ·cases h
theorem primX{f:FuncId}{args:List LV}{v:LV}(h:PureT f args v)(hv:Bel 0 v){H:LHeap}{kv kp:HK}(hH:H.Ok)(hk:kv v H=true):Out E0 F0 (.call f args H) (CS kv kp):=prim_of (h.x hv hk) hH
noncomputable def primLen:PrimF:=fun args H kv _=>match args with
 |[.sc (.int .u64 x)]=>whenB (leF 0 x) (whenB (leF x 18446744073709551615) (kInt .i64 (Lib.bitLen x.toNat) fun v=>kv v H))
 |_=>false
theorem primLen_ok{args:List LV}{H:LHeap}{kv kp:HK}(hH:H.Ok)(h:primLen args H kv kp=true):Out E0 F0 (.call 91 args H) (CS kv kp):=by
 unfold primLen at h
 split at h
 ·rename_i x
  obtain⟨h1,h2⟩:=whenB_spec h
  obtain⟨h3,h4⟩:=whenB_spec h2
  rw[leF_eq]at h1 h3
  rw[kInt_eq]at h4
  exact primX (t_bitsLen x (of_decide_eq_true h1) (of_decide_eq_true h3)) (.sc _) hH h4
 ·cases h
noncomputable def primIdx:PrimF:=fun args H kv _=>match args with
 |[.sc (.string s),.sc (.int .u8 c)]=>kInt .i64 (Lib.indexByte s.data.toList c.toNat.toUInt8) fun v=>kv v H
 |_=>false
theorem primIdx_ok{args:List LV}{H:LHeap}{kv kp:HK}(hH:H.Ok)(h:primIdx args H kv kp=true):Out E0 F0 (.call 104 args H) (CS kv kp):=by
 unfold primIdx at h
 split at h
 ·rw[kInt_eq]at h
  exact primX (t_indexByte _ _) (.sc _) hH h
 ·cases h
def primItoa:PrimF:=fun args H kv _=>match args with
 |[.sc (.int .i64 (.ofNat n))]=>whenB (Nat.ble n 99) (kv (.sc (.string ⟨(Lib.decDigits n).toArray⟩)) H)
 |_=>false
theorem primItoa_ok{args:List LV}{H:LHeap}{kv kp:HK}(hH:H.Ok)(h:primItoa args H kv kp=true):Out E0 F0 (.call 110 args H) (CS kv kp):=by
 unfold primItoa at h
 split at h
 ·rename_i n
  obtain⟨h1,h2⟩:=whenB_spec h
  have:=Nat.le_of_ble_eq_true h1
  exact primX (t_itoa n (by omega)) (.sc _) hH h2
 ·cases h
def decSs:List LV->Option (List ByteArray)
 |[]=>some []
 |v::r=>match decS v,decSs r with
  |some t,some l=>some (t::l)
  |_,_=>none
theorem decSs_ok:∀{l:List LV}{ts:List ByteArray},decSs l=some ts->l=ts.map fun x=>.str x
 |[],ts,h=>by cases h;rfl
 |v::r,ts,h=>by
  unfold decSs at h;split at h
  ·rename_i h1 h2
   cases h
   rw[decS_ok h1,decSs_ok h2];rfl
  ·cases h
def primJoin:PrimF:=fun args H kv _=>match args with
 |[.sl es _,.sc (.string sep)]=>match decSs es with
  |some xs=>whenB (Nat.ble xs.length 1000000) (whenB (Nat.ble (Lib.join (xs.map (·.data.toList)) sep.data.toList).length 1000000) (kv (.sc (.string ⟨(Lib.join (xs.map (·.data.toList)) sep.data.toList).toArray⟩)) H))
  |none=>false
 |_=>false
theorem primJoin_ok{args:List LV}{H:LHeap}{kv kp:HK}(hH:H.Ok)(h:primJoin args H kv kp=true):Out E0 F0 (.call 77 args H) (CS kv kp):=by
 unfold primJoin at h
 split at h
 ·split at h
  ·rename_i h0
   obtain⟨h1,h2⟩:=whenB_spec h
   obtain⟨h3,h4⟩:=whenB_spec h2
   have h1':=Nat.le_of_ble_eq_true h1
   have h3':=Nat.le_of_ble_eq_true h3
   rw[decSs_ok h0]
   exact primX (t_join _ _ _ (by omega) (by omega)) (.sc _) hH h4
  ·cases h
 ·cases h
noncomputable def primAtoi:PrimF:=fun args H kv _=>match args with
 |[.sc (.string s)]=>match Lib.atoiAll s.data.toList with
  |.ok v=>whenB (sizeOk s) (forceI v fun v=>kv (.tup [.sc (.int .i64 v),.sc .nilIface]) H)
  |_=>false
 |_=>false
theorem primAtoi_ok{args:List LV}{H:LHeap}{kv kp:HK}(hH:H.Ok)(h:primAtoi args H kv kp=true):Out E0 F0 (.call 102 args H) (CS kv kp):=by
 unfold primAtoi at h
 split at h
 ·split at h
  ·rename_i h0
   obtain⟨h1,h2⟩:=whenB_spec h
   rw[forceI_eq]at h2
   have h1':=Nat.le_of_ble_eq_true (show Nat.ble _ 1000000=true from h1)
   refine primX (t_atoi _ (by omega) _ h0) (.tup fun i c hi=>?_) hH h2
   match i with
   |0=>simp at hi;subst hi;exact .sc _
   |1=>simp at hi;subst hi;exact .sc _
   |i+2=>simp at hi
  ·cases h
 ·cases h
def decE:List (LV×LV)->Option Bind
 |[]=>some []
 |(k,v)::r=>match decS k,decT v,decE r with
  |some k,some v,some l=>some ((k,v)::l)
  |_,_,_=>none
theorem decE_ok:∀{l:List (LV×LV)}{E:Bind},decE l=some E->l=encE E
 |[],E,h=>by cases h;rfl
 |(k,v)::r,E,h=>by
  unfold decE at h;split at h
  ·rename_i h1 h2 h3
   cases h
   rw[decS_ok h1,decT_ok h2,decE_ok h3];rfl
  ·cases h
def nodupB:Bind->Bool
 |[]=>true
 |(k,_)::r=>(findB k r).isNone&&nodupB r
theorem nodupB_ok:∀{E:Bind},nodupB E=true->(keysB E).Nodup
 |[],_=>by simp[keysB]
 |(k,v)::r,h=>by
  simp only[nodupB,Bool.and_eq_true]at h
  simp only[keysB,List.map_cons,List.nodup_cons]
  exact⟨findB_none (by simpa using h.1),nodupB_ok h.2⟩
def noIter(o:Nat):List (Nat×LObj)->Bool
 |[]=>true
 |(_,.iter m _ _ _)::r=>match Nat.beq m o with
  |true=>false
  |false=>noIter o r
 |_::r=>noIter o r
theorem noIter_ok{o:Nat}:∀{l:List (Nat×LObj)},noIter o l=true->∀i m l' k n,look i l=some (.iter m l' k n)->m≠o
 |[],_,_,_,_,_,_,h=>by cases h
 |(j,x)::r,h,i,m,l',k,n,hl=>by
  simp only[look]at hl
  have hr:noIter o r=true:=by
   unfold noIter at h
   split at h<;>first|(rename_i he;cases he;done)|skip
   ·rename_i he
    cases he
    split at h
    ·cases h
    ·exact h
   ·rename_i he
    cases he
    exact h
  split at hl
  ·simp only[Option.some.injEq]at hl
   subst hl
   unfold noIter at h
   split at h
   ·cases h
   ·rename_i he
    intro e
    rw[e,Nat.beq_refl]at he
    cases he
  ·exact noIter_ok hr i m l' k n hl
def bindOut(H:LHeap)(kv:HK)(r:Option Bind):Bool:=match r with
 |none=>kv (.sc (.map none)) H
 |some R=>kv (.map (Nat.add H.next 2)) ⟨(Nat.add H.next 2,.um (encE R))::H.objs,Nat.add H.next 3⟩
def primBind:PrimF:=fun args H kv _=>match args with
 |[p,a,m]=>match decA p,decA a with
  |some p,some a=>whenB (okA p&&okA a) (match m with
   |.sc (.map none)=>bindOut H kv (bindKA [] p a)
   |.map o=>match look o H.objs with
    |some (.um es)=>match decE es with
     |some K=>whenB (nodupB K&&noIter o H.objs) (bindOut H kv (bindKA K p a))
     |none=>false
    |some (.map es)=>match decE es with
     |some K=>whenB (nodupB K&&noIter o (H.put o (.um es)).objs) (bindOut (H.put o (.um es)) kv (bindKA K p a))
     |none=>false
    |_=>false
   |_=>false)
  |_,_=>false
 |_=>false
theorem from_map{f:FuncId}{args:List LV}{H:LHeap}{o:Nat}{es:List (LV×LV)}{S:Res->Prop}(hl:look o H.objs=some (.map es))(h:Out E0 F0 (.call f args (H.put o (.um es))) S):Out E0 F0 (.call f args H) S:=by
 have h1:CallOk Tryz.prog E0 f args (H.put o (.um es)) S:=sound hmixT fnsT h
 exact .prim ⟨h1.1,fun G w us hI hE ha=>h1.2 G w us (hI.toUm hl (.refl _)) hE ha⟩
theorem primBind_ok{args:List LV}{H:LHeap}{kv kp:HK}(hH:H.Ok)(h:primBind args H kv kp=true):Out E0 F0 (.call 88 args H) (CS kv kp):=by
 unfold primBind at h
 split at h
 ·rename_i p a m
  split at h
  ·rename_i x y hx hy
   obtain⟨h1,h2⟩:=whenB_spec h
   simp only[Bool.and_eq_true]at h1
   have hx':=okA_ok h1.1
   have hy':=okA_ok h1.2
   split at h2
   ·refine prim_strip (args':=[atomL x,atomL y,.sc (.map none)]) (by rw[stripL,stripL,stripL,stripL,decA_ok hx,decA_ok hy];rfl) ?_ hH
    refine t_bindN x y hx' hy' H (fun hb=>?_) (fun R hb=>?_)
    ·rw[hb]at h2;exact h2
    ·rw[hb]at h2;exact h2
   ·rename_i o
    split at h2
    ·rename_i es hes
     split at h2
     ·rename_i K hK
      obtain⟨h3,h4⟩:=whenB_spec h2
      simp only[Bool.and_eq_true]at h3
      rw[decE_ok hK]at hes
      refine prim_strip (args':=[atomL x,atomL y,.map o]) (by rw[stripL,stripL,stripL,stripL,decA_ok hx,decA_ok hy];rfl) ?_ hH
      refine t_bindM x y hx' hy' H o K hes (noIter_ok h3.2) (nodupB_ok h3.1) (fun hb=>?_) (fun R hb=>?_)
      ·rw[hb]at h4;exact h4
      ·rw[hb]at h4;exact h4
     ·cases h2
    ·rename_i es hes
     split at h2
     ·rename_i K hK
      obtain⟨h3,h4⟩:=whenB_spec h2
      simp only[Bool.and_eq_true]at h3
      have hl1:look o (H.put o (.um es)).objs=some (.um (encE K)):=by rw[<-decE_ok hK];exact look_putO hes
      refine from_map hes ?_
      refine prim_strip (args':=[atomL x,atomL y,.map o]) (by rw[stripL,stripL,stripL,stripL,decA_ok hx,decA_ok hy];rfl) ?_ (Desc.put hH)
      refine t_bindM x y hx' hy' _ o K hl1 (noIter_ok h3.2) (nodupB_ok h3.1) (fun hb=>?_) (fun R hb=>?_)
      ·rw[hb]at h4;exact h4
      ·rw[hb]at h4;exact h4
     ·cases h2
    ·cases h2
   ·cases h2
  ·cases h
 ·cases h
def decIs:List LV->Option (List Int)
 |[]=>some []
 |v::r=>match decI v,decIs r with
  |some t,some l=>some (t::l)
  |_,_=>none
theorem decIs_ok:∀{l:List LV}{ts:List Int},decIs l=some ts->l=ts.map fun x=>.int x
 |[],ts,h=>by cases h;rfl
 |v::r,ts,h=>by
  unfold decIs at h;split at h
  ·rename_i h1 h2
   cases h
   rw[decI_ok h1,decIs_ok h2];rfl
  ·cases h
def primClone:PrimF:=fun args H kv _=>match args with
 |[.asl o 0 len]=>match look o H.objs with
  |some (.arr 1 cs)=>match decIs (cs.take len) with
   |some zs=>whenB (Nat.ble len cs.length&&Nat.ble len 1000000) (kv (.sl (zs.map fun z=>.int z) .no) H)
   |none=>false
  |_=>false
 |[.sl es own]=>match decIs es with
  |some zs=>whenB (Nat.ble zs.length 1000000) (kv (.sl (zs.map fun z=>.int z) .no) H)
  |none=>false
 |_=>false
theorem primClone_ok{args:List LV}{H:LHeap}{kv kp:HK}(hH:H.Ok)(h:primClone args H kv kp=true):Out E0 F0 (.call 116 args H) (CS kv kp):=by
 unfold primClone at h
 split at h
 ·split at h
  ·rename_i hl
   split at h
   ·rename_i hz
    obtain⟨h1,h2⟩:=whenB_spec h
    simp only[Bool.and_eq_true]at h1
    have h3:=Nat.le_of_ble_eq_true h1.1
    have h4:=Nat.le_of_ble_eq_true h1.2
    exact prim_of (t_clone_asl H _ _ _ _ hl h3 (decIs_ok hz) (by omega) h2) hH
   ·cases h
  ·cases h
 ·split at h
  ·rename_i hz
   obtain⟨h1,h2⟩:=whenB_spec h
   have h4:=Nat.le_of_ble_eq_true h1
   rw[decIs_ok hz]
   exact prim_of (t_clone_sl _ _ (by omega) H h2) hH
  ·cases h
 ·cases h
end Go.Abs.Tz
namespace Go.Abs.Tz
open Go Go.Abs Go.Proofs
noncomputable def prim1(f:FuncId):Option PrimF:=match f with
 |53=>some primSafe
 |91=>some primLen
 |104=>some primIdx
 |110=>some primItoa
 |77=>some primJoin
 |102=>some primAtoi
 |88=>some primBind
 |116=>some primClone
 |_=>none
theorem prim1_ok(f:FuncId)(p:PrimF)(h:prim1 f=some p)(args:List LV)(H:LHeap)(kv kp:HK)(hH:H.Ok)(hp:p args H kv kp=true):Out E0 F0 (.call f args H) (CS kv kp):=by
 unfold prim1 at h
 split at h
 ·cases h;exact primSafe_ok hH hp
 ·cases h;exact primLen_ok hH hp
 ·cases h;exact primIdx_ok hH hp
 ·cases h;exact primItoa_ok hH hp
 ·cases h;exact primJoin_ok hH hp
 ·cases h;exact primAtoi_ok hH hp
 ·cases h;exact primBind_ok hH hp
 ·cases h;exact primClone_ok hH hp
 ·cases h
noncomputable def C1:Cfg:=⟨E0,lookT tabL,prim1,fun _=>none⟩
theorem C1_ok:CfgOk C1 F0:=⟨fun f i h=>lookT_ok tabL_ok f i h,prim1_ok,fun _ _ _ _ _ h=>by cases h⟩
end Go.Abs.Tz
namespace Go.Abs.Tz
open Go Go.Abs Go.Proofs
def decM:List (LV×LV)->Option (List (LV×Int))
 |[]=>some []
 |(k,v)::r=>match decI v,decM r with
  |some n,some l=>some ((k,n)::l)
  |_,_=>none
theorem decM_ok:∀{l:List (LV×LV)}{ms:List (LV×Int)},decM l=some ms->l=ms.map fun e=>(e.1,.int e.2)
 |[],ms,h=>by cases h;rfl
 |(k,v)::r,ms,h=>by
  unfold decM at h;split at h
  ·rename_i h1 h2
   cases h
   rw[decI_ok h1,decM_ok h2];rfl
  ·cases h
noncomputable def i42:FnI:=⟨b43,7,false,true,false⟩
def p42(k:Nat):BCode:=match k,b43.body with
 |0,.seq x _=>x
 |1,.seq _ (.seq x _)=>x
 |2,.seq _ (.seq _ (.seq x _))=>x
 |3,.seq _ (.seq _ (.seq _ (.seq x _)))=>x
 |_,_=>.bad
theorem body42:b43.body=.seq (p42 0) (.seq (p42 1) (.seq (p42 2) (.seq (p42 3) (.seq l42 r42)))):=rfl
noncomputable def run42(C:Cfg)(n:Nat):CodeF:=fun t H k=>
 match t.get 6,t.get 9 with
 |.map o,.sc (.int .i64 top)=>match look o H.objs with
  |some (.map es)=>match decM es with
   |some ms=>(FT.full 7).setK 0 (t.get 0) fun t1=>t1.setK 6 (.map o) fun t2=>t2.setK 7 (t.get 7) fun t3=>forceI (maxI top (ms.map (·.2))) fun m=>t3.setK 9 (.sc (.int .i64 m)) fun t4=>
     evalC C n false r42 t4 ⟨H.objs,Nat.succ H.next⟩ k
   |none=>false
  |_=>false
 |_,_=>false
theorem run42_ok{C:Cfg}(hE:C.E=E0)(hC:CfgOk C F0)(n:Nat):CodeFOk C.E F0 (.seq l42 r42) (run42 C n):=by
 intro t H k hH h
 unfold run42 at h
 split at h
 ·rename_i o top h6 h9
  split at h
  ·rename_i es hes
   split at h
   ·rename_i ms hms
    obtain⟨t1,h,e1⟩:=FT.setK_spec h
    obtain⟨t2,h,e2⟩:=FT.setK_spec h
    obtain⟨t3,h,e3⟩:=FT.setK_spec h
    rw[forceI_eq]at h
    obtain⟨t4,h,e4⟩:=FT.setK_spec h
    rw[e3,e2,e1,FT.full_get]at e4
    rw[decM_ok hms]at hes
    have hml:=maxLoop (t.get 0) (t.get 7) o ms top H hes hH
    have fr:∀x:LV,((.nd (t.get 0) (.nd .bot (.nd .bot (.nd (t.get 7) .nil .nil) .nil) (.nd .bot (.nd (x) .nil .nil) .nil)) (.nd .bot .nil (.nd (.map o) .nil .nil))):FT).get=upd (upd (upd (upd (fun _=>.bot) 0 (t.get 0)) 6 (.map o)) 7 (t.get 7)) 9 x:=by
     intro x
     rw[<-FT.one_get 0 (t.get 0),<-FT.set_get,<-FT.set_get,<-FT.set_get]
     simp[FT.set,FT.one]
    rw[hE]
    refine .seq (.weak (fun l=>(by simp[l42,b43])) (fun j=>?_) ⟨Nat.le_refl _,fun _ _ h=>h⟩ hml) (fun fr' df H' hT=>?_) (fun e fr' df H' hT hne=>?_)
    ·rw[fr]
     simp only[upd]
     by_cases hj9:j=9
     ·subst hj9;exact .inl (by rw[if_pos rfl,h9])
     ·rw[if_neg hj9]
      by_cases hj7:j=7
      ·subst hj7;exact .inl (by rw[if_pos rfl])
      ·rw[if_neg hj7]
       by_cases hj6:j=6
       ·subst hj6;exact .inl (by rw[if_pos rfl,h6])
       ·rw[if_neg hj6]
        by_cases hj0:j=0
        ·subst hj0;exact .inl (by rw[if_pos rfl])
        ·rw[if_neg hj0];exact .inr (.inr rfl)
    ·obtain⟨e,t',H'',he,hok,hn,hle,hwk,hok'⟩:=hT
     cases he
     have hb:=evalC_ok hC n false r42 t4 ⟨H.objs,Nat.succ H.next⟩ k (hok' hok) h
     rw[hE,e4,<-fr]at hb
     exact .weak (fun l=>(by simp[r42,b43])) hle.fwk hwk hb
    ·obtain⟨e',t',H'',he,hok,hn,_⟩:=hT
     cases he
     exact absurd hn hne
   ·cases h
  ·cases h
 ·cases h
noncomputable def prim42(C:Cfg)(n:Nat):PrimF:=fun args H kv kp=>
 enterF (fun _ _=>cSeq (evalC C n false (p42 0)) (cSeq (evalC C n false (p42 1)) (cSeq (evalC C n false (p42 2)) (cSeq (evalC C n false (p42 3)) (run42 C n))))) i42 args H kv kp
theorem prim42_ok{C:Cfg}(hE:C.E=E0)(hC:CfgOk C F0)(n:Nat){args:List LV}{H:LHeap}{kv kp:HK}(hH:H.Ok)(h:prim42 C n args H kv kp=true):Out C.E F0 (.call 43 args H) (CS kv kp):=by
 refine enterF_ok (C:=C) (i:=i42) ?_ (show F0.fn _ _ from c43) hH h
 show CodeFOk C.E F0 b43.body _
 rw[body42]
 exact(evalC_ok hC n false _).seq ((evalC_ok hC n false _).seq ((evalC_ok hC n false _).seq ((evalC_ok hC n false _).seq (run42_ok hE hC n))))
noncomputable def prim2(f:FuncId):Option PrimF:=match f with
 |43=>some (prim42 C1 1000000)
 |f=>prim1 f
noncomputable def C2:Cfg:=⟨E0,lookT tabL,prim2,fun _=>none⟩
theorem C2_ok:CfgOk C2 F0:=⟨fun f i h=>lookT_ok tabL_ok f i h,fun f p h args H kv kp hH hp=>by
 simp only[C2,prim2]at h
 split at h
 ·cases h;exact prim42_ok rfl C1_ok _ hH hp
 ·exact prim1_ok _ _ h _ _ _ _ hH hp,fun _ _ _ _ _ h=>by cases h⟩
end Go.Abs.Tz
namespace Go.Abs
open Go
section
variable{P:Program}{N:Nat}{code:Code}{o:Oper}
theorem cCode_rf{x:BO}{ps:List Nat}{ba bb:BCode}(h:cCode P N code=some (.rf x ps ba bb)):∃d pa a b,code=.rangeFunc d pa a b/\cO d=some x/\pa.toList=ps/\cCode P N a=some ba/\cCode P N b=some bb:=by
 cases code with
 |region id ops d=>rcases region_not h with⟨_,h⟩|⟨_,h⟩|h<;>cases h
 |rangeFunc d pa a b=>
  simp only[cCode,Option.bind_eq_bind,Option.bind_eq_some_iff,Option.some.injEq]at h
  obtain⟨d',h1,a',h2,b',h3,h4⟩:=h
  cases h4
  exact⟨d,pa,a,b,rfl,h1,rfl,h2,h3⟩
 |seq a b=>simp[cCode,Option.bind_eq_some_iff]at h
 |cond c a b=>simp[cCode,Option.bind_eq_some_iff]at h
 |_=>simp[cCode]at h
theorem inv_rc(h:cOp P o=some .rc):∃c,o.op=.call c/\c.callee=.builtin .recover/\c.args.toList=[]:=by
 unfold cOp at h
 split at h
 all_goals ((repeat' split at h)<;>simp[Option.map_eq_some_iff,Option.bind_eq_some_iff]at h)
 all_goals exact⟨_,by assumption,rfl,by assumption⟩
end
section
variable{G:Ghost}{w:World}{H:LHeap}
theorem Inv.setDel(hI:Inv G w H){m:Nat}{lo:LObj}{ob ob':Obj}(hl:look m H.objs=some lo)(h:w.heap[G.loc m]? = some ob)(hne:∀vs el fz,ob≠.cells vs el fz)(hB:¬(G.B (G.loc m)).isSome)
  (hown:G.own (G.loc m) 0=.obj m):Ext G w G (w.putObj (G.loc m) ob')/\Inv G (w.putObj (G.loc m) ob') (H.del m):=by
 have hx:Ext G w G (w.putObj (G.loc m) ob'):=ext_setObj h hne hB rfl (Nat.le_refl _) (fun _ _=>rfl) (fun _ _=>rfl) (fun _ _=>rfl) (fun _ _ h=>h) w.drawn
 have hd:∀i x,look i (H.del m).objs=some x->i≠m/\look i H.objs=some x:=fun i x hy=>by
  simp only[LHeap.del,look_del]at hy
  split at hy
  ·cases hy
  ·rename_i hi;exact⟨hi,hy⟩
 refine⟨hx,Inv.step (fun i=>i=m) hI hx (turn_setObj h hne w.drawn) hI.n (fun b x hb=>hI.free b x (by simpa using hb)) hI.old (fun i x hi hh=>(hd i x hh).2)
  (fun _ _ _ _ _ h=>h) (fun i hi ho hc=>?_) (fun _ _ _ _=>⟨fun h=>h,fun h=>h⟩) (fun _ _ _=>rfl) (fun j es' hj hh=>?_) (fun i x hi hh=>absurd hi (hd i x hh).1)⟩
 ·rw[hc,hown]at ho
  simp at ho
  exact hi ho.symm
 ·obtain⟨hjm,hh⟩:=hd j _ hh
  obtain⟨_,ents,clock,q1,_,q3,_⟩:=hI.objs j _ hh
  have:G.loc j≠G.loc m:=by
   intro e
   rw[e,hown]at q3
   simp at q3
   exact hjm q3.symm
  refine⟨es',hh,Nat.le_refl _,fun _ ents' clock' hp=>?_⟩
  have e2:(w.putObj (G.loc m) ob').heap[G.loc j]? = w.heap[G.loc j]?:=World.putObj_heap_other this
  rw[e2]at hp
  exact⟨ents',clock',hp,rfl,fun _=>rfl⟩
end
def frL(fr:Fr)(N:Nat):List LV:=(List.range N).map fr
section
variable{P:Program}{E:Env}{G:Ghost}{w:World}{fr:Fr}{H:LHeap}{N:Nat}{a:Act}{T:Res->Prop}
theorem rf_wp{nf:Nat}{Q:Exit->Act->World->Prop}{code:Code}{x:BO}{ps:List Nat}{ba bb:BCode}{k f:Nat}{cap:List LV}(hc:cCode P N code=some (.rf x ps ba bb))(hrc:∀d pa a b,code=.rangeFunc d pa a b->E.rc k=(a,b))
  (hI:Inv G w H) (hE:EnvR E G w) (hf:FR G w N fr a) (hx:E.ev fr x=.fn (.func f) [] cap)
  (hcall:CallOk P E f (.fn (.yield (H.next+1)) [] []::cap) ((H.alloc .dfr).alloc (.rcd false (frL fr N) ps k)) T)
  (hT:∀r,T r->∃v H',r=.ret v H'/\isR (H.next+1) false H'=true)
  (hK:∀v H' G' w',T (.ret v H')->Inv G' w' (H'.del (H.next+1))->Ext G w G' w'->H.next<G'.n->Q .normal { a with defers:={ target:=.collected (G'.loc H.next),args:=#[] }::a.defers } w'):
  code.wpIn (fen none) nf P Q a w:=by
 obtain⟨d,pa,ca,cb,rfl,hd,rfl,_,_⟩:=cCode_rf hc
 have hv:=ev_VR hE hf d x hd
 rw[hx]at hv
 obtain⟨us,vs,hv,hu0,hvs,_,hvr⟩:=hv.fn_inv
 obtain rfl:us=#[]:=Array.eq_empty_of_size_eq_zero (by simpa using hu0)
 have hv:a.eval d=.func (.func f) #[] vs:=hv
 refine wpIn_rangeFunc fun fn _=>?_
 obtain⟨i1,x1⟩:=hI.alloc (.deferred (some [])) .dfr (0,0) (fun hx=>⟨by rw[Ghost.add_loc];exact heap_alloc_new,by rw[Ghost.add_loc];exact hI.hB',by rw[Ghost.add_loc];exact Ghost.add_own _ _ _ _ _⟩)
 have hrck:=hrc _ _ _ _ rfl
 have hEr:=hE.rc
 let L:Loop:={ state:=.ready,pending:=none,fn:=fn,tmps:=a.tmps,params:=pa,assign:=ca,body:=cb,defers:=w.heap.size }
 obtain⟨i2,x2⟩:=i1.alloc (.loop L) (.rcd false (frL fr N) pa.toList k) (0,0) (fun hx=>by
  refine⟨fn,a.tmps,w.heap.size,?_,by rw[Ghost.add_loc];exact i1.hB',by rw[Ghost.add_loc];exact Ghost.add_own _ _ _ _ _,by rw[hf.size];simp[frL],fun i y hi=>?_⟩
  ·rw[Ghost.add_loc]
   have e1:(((G.add H.next w.heap.size (0,0)).add (H.alloc .dfr).next (w.alloc (.deferred (some []))).heap.size (0,0)).rc k)=(ca,cb):=by
    show G.rc k=_
    rw[hEr,hrck]
   rw[e1]
   exact heap_alloc_new
  ·obtain⟨j,hj,rfl⟩:=List.getElem?_eq_some_iff.1 hi
   simp only[frL,List.getElem_map,List.getElem_range]
   exact((hf.slot i).mono x1).mono hx)
 have x12:=x1.trans x2
 have hE2:=hE.mono x12
 generalize hG2:(G.add H.next w.heap.size (0,0)).add (H.alloc .dfr).next (w.alloc (.deferred (some []))).heap.size (0,0)=G2 at i2 x2 x12 hE2
 have hl2:G2.loc (H.next+1)=w.heap.size+1:=by rw[<-hG2];simp[Ghost.add,LHeap.alloc]
 have hn2:G2.n=H.next+2:=by rw[<-hG2];simp[Ghost.add,LHeap.alloc]
 have hargs:ArgsR G2 ((w.alloc (.deferred (some []))).alloc (.loop L)) (.fn (.yield (H.next+1)) [] []::cap) (#[.func (.yield (w.heap.size+1)) #[] #[]]++vs):=by
  have h1:ArgsR G2 ((w.alloc (.deferred (some []))).alloc (.loop L)) [.fn (.yield (H.next+1)) [] []] #[.func (.yield (w.heap.size+1)) #[] #[]]:=by
   refine⟨rfl,fun i y hi=>?_⟩
   match i with
   |0=>
    simp at hi;subst hi
    have:=VR.fn (G:=G2) (w:=(w.alloc (.deferred (some []))).alloc (.loop L)) (f:=.yield (H.next+1)) (a:=[]) (c:=[]) (us:=#[]) (vs:=#[]) (by show _<G2.n;rw[hn2];omega) rfl rfl (fun i x h=>by simp at h) (fun i x h=>by simp at h)
    simpa [fnW,hl2] using this
   |i+1=>simp at hi
  exact h1.append ⟨hvs,fun i y hi=>(hvr i y hi).mono x12⟩
 obtain⟨he,hc2⟩:=hcall
 refine⟨w.heap.size+1,[{ target:=.collected w.heap.size,args:=#[] }],(w.alloc (.deferred (some []))).alloc (.loop L),{ target:=.fn (.func f) vs,args:=#[.func (.yield (w.heap.size+1)) #[] #[]] },(w.alloc (.deferred (some []))).alloc (.loop L),f,
  #[.func (.yield (w.heap.size+1)) #[] #[]]++vs,(w.alloc (.deferred (some []))).alloc (.loop L),run_enterLoop_outer _ _ _ _ _,?_,fun _ _=>trivial,?_,fun h=>(by cases h),?_⟩
 ·simp only[resolve,hv]
  simp[go_sem]
 ·obtain⟨fn',hf',hb',hn'⟩:=he
  simp only[invoke]
  exact call_enter hf' hb' hn' _
 ·refine CallsIn.mono (F:=fen none) (callsIn_wide.2 (hc2 G2 _ _ i2 hE2 hargs)) fun e w' hp=>?_
  cases e with
  |outgrown=>exact hp.elim
  |panicked ch=>
   obtain⟨v,u,H',G',hTT,_⟩:=hp
   obtain⟨_,_,h,_⟩:=hT _ hTT
   cases h
  |returned u=>
   obtain⟨v,H',G',hTT,hv',hI',hx'⟩:=hp
   obtain⟨v1,H1,h,hR⟩:=hT _ hTT
   cases h
   obtain⟨fo1,ps1,k1,hl,_⟩:=isR_spec (b':=false) hR
   obtain⟨hm,fn1,tmps1,df1,q1,q2,q3,_⟩:=hI'.objs _ _ hl
   have hloc:G'.loc (H.next+1)=w.heap.size+1:=by rw[hx'.loc _ (by omega),hl2]
   have hlD:G'.loc H.next=w.heap.size:=by
    rw[hx'.loc _ (by omega),<-hG2]
    simp[Ghost.add,LHeap.alloc]
   have hend:=run_endLoop (P:=P) q1 (by simp)
   rw[hloc]at hend
   obtain⟨y1,y2⟩:=hI'.setDel (ob':=.loop { (rcL G' false fn1 tmps1 ps1 k1 df1) with state:=.exhausted }) hl q1 (by simp) q2 q3
   rw[hloc]at y1 y2
   refine⟨_,_,hend,?_⟩
   have:=hK v H' G' _ hTT y2 (x12.trans (hx'.trans y1)) (by have:=hx'.n;omega)
   rw[hlD]at this
   exact this
theorem rec_calls{f:FuncId}{fn:Func}{nf d n:Nat}{rest:BCode}{args:List LV}{us:Array Value}{u:FrameMode}{y:LV}(hfn:P.funcs[f]? = some fn)(hc:cFn P fn=some ⟨.seq (.ops [⟨some d,none,.rc⟩]) rest,n,[]⟩)
  (hlen:args.length<=n) (hI:Inv G w H) (hE:EnvR E G w) (ha:ArgsR G w args us) (hu:(u=.returning/\y=.sc .nilIface)\/∃v,u=.panicking [{ v:=v,recovered:=false }]/\VR G w y v)
  (hrest:CodeWp P E rest (upd (frOf args) d y) H T) (hT:∀e fr' df' H',T (.code e fr' df' H')->e=.normal\/e=.ret):
  CallsDIn (fen none) nf P f us u w fun e u' w'=>∃v le fr' df' H' G',e=.returned v/\settle u'=.returning/\T (.code le fr' df' H')/\Inv G' w' H'/\Ext G w G' w':=by
 obtain⟨c,hb,hcode,hbn,hres⟩:=cFn_inv hc
 simp only at hcode hbn hres
 obtain⟨c1,c2,rfl,e1,e2⟩:=cCode_seq hcode
 obtain⟨id,ops,rfl,hm⟩:=cCode_ops e1
 obtain⟨o,ol,hol,ho,hnil⟩:=mapM_cons_inv hm
 obtain rfl:=mapM_nil_inv hnil
 obtain⟨k1,k2,k3,k4⟩:=cI_inv ho
 obtain⟨cc,hoc,hcal,hca⟩:=inv_rc (k1 (by simp))
 have hg:o.guard=none:=by
  rcases k4 with⟨h,_⟩|⟨_,_,_,_,_,h⟩
  ·exact h
  ·cases h
 have hops:ops=#[o]:=by
  apply Array.toList_inj.1
  simpa using hol
 subst hops
 simp only at k2
 have hca:cc.args=#[]:=Array.toList_inj.1 (by simpa using hca)
 have hrun:∀ρ w,(execOp ρ o).run P w=.ok .recover w:=by
  intro ρ w
  simp[execOp,hoc,resolve,hcal,hca,invoke,builtin,go_sem]
 have hF:=args_FR (n:=fn.ntmps) ha (hbn▸hlen)
 refine callsDIn_of_wpSIn hfn hb trivial fun c₀ cs hc₀=>?_
 refine wpSIn_seq (wpSIn_region ?_)
 have fin:∀(v:Value)(cs':List Frame)(u':FrameMode),VR G w y v->cs'={ c₀ with mode:=u' }::cs->settle u'=.returning ->
   c2.wpSIn (fen none) nf P (bodyPostS P fn c₀ cs fun e u' w'=>∃v le fr' df' H' G',e=.returned v/\settle u'=.returning/\T (.code le fr' df' H')/\Inv G' w' H'/\Ext G w G' w')
    (({ tmps:=us++Array.replicate (fn.ntmps - us.size) undef,defers:=[] }:Act).put o.dst v) cs' w:=by
  intro v cs' u' hv hcs hst
  refine wpSIn_of_wpIn rfl ?_
  have hd:(some d:Option Nat).all (fun x=>decide (x<fn.ntmps))=true:=by rw[<-k2]at k3;exact k3
  rw[<-k2]
  refine hrest none nf fn.ntmps c2 G w _ _ e2 hI hE (hF.put hd hv) fun e a' w' hp=>?_
  obtain⟨le,fr',df',H',G',hTT,he,hI',hf',hdf,hx⟩:=hp
  have hle:=hT _ _ _ _ hTT
  obtain⟨r,hr,_⟩:=run_results (v:=.tup []) hI' hf' hres rfl
  rw[put_defers]at hdf
  rcases hle with rfl|rfl<;>(cases e<;>try exact he.elim)<;>exact⟨hdf,u',hcs,r,hr,r,_,fr',df',H',G',rfl,hst,hTT,hI',hx⟩
 show wpOpsSIn _ _ _ _ _ [0] _ _ _
 have hw:∀yl,Region.wanted o yl=true:=by intro yl;simp[Region.wanted,hg]
 have e0:(#[o]:Array Oper)[0]? = some o:=rfl
 simp only[wpOpsSIn,e0]
 refine⟨fun _ _=>trivial,?_⟩
 rw[if_pos (hw _)]
 rw[hrun]
 rcases hu with⟨rfl,rfl⟩|⟨v,rfl,hv⟩
 ·have:recoverD (c₀::cs)=none:=by simp[recoverD,hc₀]
  simp only[this]
  exact fin .nilIface _ .returning (.sc _) (by rw[<-hc₀]) rfl
 ·have:recoverD (c₀::cs)=some (v,{ c₀ with mode:=.panicking [{ v:=v,recovered:=true }] }::cs):=by simp[recoverD,hc₀]
  simp only[this]
  exact fin v _ (.panicking [{ v:=v,recovered:=true }]) hv rfl rfl
end
end Go.Abs
namespace Go.Abs
open Go
def rfOf:Code->Code×Code
 |.seq _ (.seq _ (.seq _ (.seq (.seq _ (.block _ (.rangeFunc _ _ a b))) _)))=>(a,b)
 |_=>(.skip,.skip)
structure RFn where
 A:BCode
 I:BCode
 B:BCode
 C:BCode
 id:Nat
 x:BO
 ps:List Nat
 ba:BCode
 bb:BCode
 k:Nat
 dd:Nat
 g:FuncId
 cs:List BO
 Z:BCode
 n:Nat
 res:List BRes
 dep:Nat
 dr:Nat
 rest:BCode
 ng:Nat
 depg:Nat
def RFn.fn(r:RFn):BFn:=⟨.seq r.A (.seq r.I (.seq r.B (.seq (.seq r.C (.blk r.id (.rf r.x r.ps r.ba r.bb))) (.seq (.ops [⟨some r.dd,none,.mf (.func r.g) [] r.cs⟩,⟨none,none,.df (.t r.dd) []⟩]) r.Z)))),r.n,r.res⟩
def RFn.gn(r:RFn):BFn:=⟨.seq (.ops [⟨some r.dr,none,.rc⟩]) r.rest,r.ng,[]⟩
def isNR(e:LExit):Bool:=match e with
 |.normal=>true
 |.ret=>true
 |_=>false
theorem isNR_spec{e:LExit}(h:isNR e=true):e=.normal\/e=.ret:=by cases e<;>simp_all [isNR]
def isDfr(o:Nat)(H:LHeap):Bool:=match look o H.objs with
 |some .dfr=>true
 |_=>false
theorem isDfr_spec{o:Nat}{H:LHeap}(h:isDfr o H=true):look o H.objs=some .dfr:=by
 unfold isDfr at h;split at h
 ·assumption
 ·cases h
noncomputable def frF(t:FT)(N:Nat):List LV:=(List.range N).map t.get
noncomputable def lastF(r:RFn)(run:BCode->CodeF)(t:FT)(cl:List LV)(m n0:Nat)(kv:HK)(y:LV)(H:LHeap):Bool:=
 FT.args cl 0 (FT.full r.depg) fun u=>u.setK r.dr y fun u=>run r.rest u H fun e _ H=>whenB (isNR e) (whenB (isDfr m H) (isOk (resultL (H.del m) t.get r.res) fun v=>kv v (gcH n0 (H.del m))))
noncomputable def behindF(E:Env)(r:RFn)(run:BCode->CodeF)(m n0:Nat)(kv:HK):CodeF->FT->LHeap->Bool:=fun z t H=>
 whenB (Nat.ble r.cs.length r.ng) (t.setK r.dd (.fn (.func r.g) [] (evsF E r.cs t)) fun t1=>z t1 H fun e t2 H2=>match e with
  |.normal=>lastF r run t2 (evsF E r.cs t) m n0 kv (.sc .nilIface) H2
  |.ret=>lastF r run t2 (evsF E r.cs t) m n0 kv (.sc .nilIface) H2
  |.pan v=>lastF r run t2 (evsF E r.cs t) m n0 kv v H2
  |.exit _=>false)
noncomputable def rangeF(r:RFn)(call:CallF)(v:LV)(t:FT)(H:LHeap)(k:Nat->LHeap->Bool):Bool:=match v with
 |.fn (.func f) [] cap=>forceN H.next fun m=>forceN (Nat.succ m) fun m1=>call f (.fn (.yield m1) [] []::cap) ⟨(m1,.rcd false (frF t r.n) r.ps r.k)::(m,.dfr)::H.objs,Nat.succ m1⟩ (fun _ H2=>whenB (isR m1 false H2) (k m (H2.del m1))) (fun _ _=>false)
 |_=>false
noncomputable def primR(E:Env)(run:BCode->CodeF)(call:CallF)(r:RFn)(args:List LV)(H:LHeap)(kv:HK):Bool:=
 whenB (Nat.ble args.length r.n) (FT.args args 0 (FT.full r.dep) fun t=>run r.A t H fun e t1 H1=>whenB (isN e) (run r.I t1 H1 fun e t2 H2=>whenB (isN e) (run r.B t2 H2 fun e t3 H3=>whenB (isN e) (run r.C t3 H3 fun e t4 H4=>whenB (isN e)
  (rangeF r call (ev E r.x t4) t4 H4 fun m H5=>behindF E r run m H.next kv (run r.Z) t4 H5)))))
section
variable{P:Program}{E:Env}{F:Fns}
theorem stage{c:BCode}{rr:CodeF}{code:Code}{N nf:Nat}{G:Ghost}{w:World}{a:Act}{t:FT}{H:LHeap}{K:FT->LHeap->Bool}{next:Act->World->Prop}{Q:Exit->Act->World->Prop}(hmix:P.follows .mixedOrders=true)(hF:FnsOk P E F)
  (hev:CodeFOk E F c rr) (hcc:cCode P N code=some c) (hI:Inv G w H) (hE:EnvR E G w) (hf:FR G w N t.get a) (hH:H.Ok) (h:rr t H (fun e t1 H1=>whenB (isN e) (K t1 H1))=true)
  (hK:∀t' H' G' w' a',K t' H'=true->H'.Ok->Inv G' w' H'->FR G' w' N t'.get a'->a'.defers=a.defers->Ext G w G' w'->next a' w'):code.wpIn (fen none) nf P (Exit.then next Q) a w:=by
 have hs:CodeOk P E c t.get H _:=sound hmix hF (hev t H _ hH h)
 refine hs.wp none nf N code G w a _ hcc hI hE hf fun e a' w' hp=>?_
 obtain⟨le,fr',df',H',G',hX,he,hI',hf',hd,hx⟩:=hp
 obtain⟨e0,t',H'',hr,hok,hk⟩:=hX
 cases hr
 obtain⟨hn,hk⟩:=whenB_spec hk
 obtain rfl:=isN_spec hn
 cases e<;>try exact he.elim
 exact hK _ _ _ _ _ hk hok hI' hf' hd hx
theorem ArgsR.mono{G G':Ghost}{w w':World}{vs:List LV}{us:Array Value}(hx:Ext G w G' w')(h:ArgsR G w vs us):ArgsR G' w' vs us:=⟨h.1,fun i x hi=>(h.2 i x hi).mono hx⟩
theorem defer_wp{N nf d:Nat}{code:Code}{g:FuncId}{cs:List BO}{G:Ghost}{w:World}{H:LHeap}{fr:Fr}{a:Act}{next:Act->World->Prop}{Q:Exit->Act->World->Prop}
  (hc:cCode P N code=some (.ops [⟨some d,none,.mf (.func g) [] cs⟩,⟨none,none,.df (.t d) []⟩])) (hI:Inv G w H) (hE:EnvR E G w) (hf:FR G w N fr a)
  (hK:∀a' w' G' vs,FR G' w' N (upd fr d (.fn (.func g) [] (cs.map (E.ev fr)))) a'->ArgsR G' w' (cs.map (E.ev fr)) vs->a'.defers={ target:=.fn (.func g) vs,args:=#[] }::a.defers->Ext G w G' w'->Inv G' w' H->next a' w'):
  code.wpIn (fen none) nf P (Exit.then next Q) a w:=by
 obtain⟨id,ops,rfl,hm⟩:=cCode_ops hc
 obtain⟨o,ol,hol,ho,hm⟩:=mapM_cons_inv hm
 obtain⟨o2,ol2,rfl,ho2,hm⟩:=mapM_cons_inv hm
 obtain rfl:=mapM_nil_inv hm
 refine wpIn_region_list ?_
 rw[hol]
 obtain⟨h1,h2,h3,h4⟩:=cI_inv ho
 obtain⟨k1,k2,k3,k4⟩:=cI_inv ho2
 unfold wpListIn
 rw[if_pos (wanted_sound (fr:=fr) ho rfl fun d u _=>hf.slot d)]
 obtain⟨v,w',G',hy,hv,hx,hI'⟩:=valB_sound (fr:=fr) (x:=.fn (.func g) [] (cs.map (E.ev fr))) hI (ev_VR hE hf) (fun _=>rfl) (h1 (by simp)) rfl
 refine hy.wpIn ?_
 have hf':FR G' w' N (upd fr d (.fn (.func g) [] (cs.map (E.ev fr)))) (a.put o.dst v):=by
  have h2':o.dst=some d:=h2.symm
  rw[h2']at h3 ⊢
  exact(hf.mono hx).put (d:=some d) h3 hv
 unfold wpListIn
 rw[if_pos (wanted_sound (fr:=upd fr d (.fn (.func g) [] (cs.map (E.ev fr)))) ho2 rfl fun d u _=>hf'.slot d)]
 obtain⟨c,y,hoc,hcal,hy2,hca⟩:=inv_df (k1 (by simp))
 have hca:c.args=#[]:=by
  apply Array.toList_inj.1
  cases hl:c.args.toList with
  |nil=>rfl
  |cons b bl=>
   rw[hl,List.mapM_cons]at hca
   cases hb:cO b with
   |none=>simp[hb]at hca
   |some x=>cases hbl:bl.mapM cO<;>simp[hb,hbl]at hca
 have hvy:=ev_VR (hE.mono hx) hf' y (.t d) hy2
 have e1:E.ev (upd fr d (.fn (.func g) [] (cs.map (E.ev fr)))) (.t d)=.fn (.func g) [] (cs.map (E.ev fr)):=by simp[Env.ev,upd]
 rw[e1]at hvy
 obtain⟨us,vs,hvv,hu0,hvs,_,hvr⟩:=hvy.fn_inv
 obtain rfl:us=#[]:=Array.eq_empty_of_size_eq_zero (by simpa using hu0)
 have hvv:(a.put o.dst v).eval y=.func (.func g) #[] vs:=hvv
 have hrun:(o2.semAt none (a.put o.dst v).eval).run P w'=.ok (.defer { target:=.fn (.func g) vs,args:=#[] }) w':=by
  rw[Oper.semAt_none]
  simp only[execOp,hoc,resolve,hcal,hvv,Deferred.ofValue,Sem.run_bind,Sem.run_pure,Result.andThen_ok,hca]
  simp
 refine⟨fun _ _=>trivial,?_⟩
 rw[show (fen none).round=none from rfl,hrun,Oper.uponIn_defer]
 have k2':o2.dst=none:=k2.symm
 rw[k2']
 exact hK _ _ G' vs ⟨hf'.size,hf'.slot⟩ ⟨hvs,hvr⟩ (by show _::(a.put o.dst v).defers=_;rw[put_defers]) hx hI'
theorem primR_ok{run:BCode->CodeF}{call:CallF}{r:RFn}{f:FuncId}(hmix:P.follows .mixedOrders=true)(hF:FnsOk P E F)(hfn:F.fn f r.fn)(hg:F.fn r.g r.gn)(hrc:∀fn c,P.funcs[f]? = some fn->fn.body=some c->rfOf c=E.rc r.k)
  (hev:∀c,CodeFOk E F c (run c)) (hcall:CallFOk E F call) {args:List LV} {H:LHeap} {kv kp:HK} (hH:H.Ok) (h:primR E run call r args H kv=true):CallOk P E f args H (CS kv kp):=by
 obtain⟨fn,hf,hcF,hname⟩:=hF.fn _ _ hfn
 obtain⟨gn,hgf,hgc,hgname⟩:=hF.fn _ _ hg
 obtain⟨c,hb,hcode,hbn,hres⟩:=cFn_inv hcF
 have hrc:=hrc fn c hf hb
 simp only[RFn.fn]at hcode hbn hres
 obtain⟨cA,c1,rfl,eA,hcode⟩:=cCode_seq hcode
 obtain⟨cI,c2,rfl,eI,hcode⟩:=cCode_seq hcode
 obtain⟨cB,c3,rfl,eB,hcode⟩:=cCode_seq hcode
 obtain⟨c4,c5,rfl,e4,e5⟩:=cCode_seq hcode
 obtain⟨cC,cl,rfl,eC,e4⟩:=cCode_seq e4
 obtain⟨cr,rfl,er⟩:=cCode_blk e4
 obtain⟨cD,cZ,rfl,eD,eZ⟩:=cCode_seq e5
 have hrc':∀d pa a b,cr=.rangeFunc d pa a b->E.rc r.k=(a,b):=by
  intro d pa a b e
  subst e
  exact hrc.symm
 obtain⟨hn,h⟩:=whenB_spec h
 obtain⟨t,h,ht⟩:=FT.args_fr h
 refine⟨⟨fn,hf,by simp[hb],hname⟩,fun G w us hI hE ha=>(callsIn_wide (n:=0)).1 (callsIn_of_wp_marks (F:=fen none) (n:=0) hf hb trivial ?_)⟩
 have hf0:FR G w fn.ntmps t.get { tmps:=us++Array.replicate (fn.ntmps - us.size) undef,defers:=[] }:=by
  rw[ht];exact args_FR ha (hbn▸Nat.le_of_ble_eq_true hn)
 refine wpIn_seq (stage hmix hF (hev _) eA hI hE hf0 hH h fun t1 H1 G1 w1 a1 h ok1 hI1 hf1 hd1 hx1=>?_)
 have hE1:=hE.mono hx1
 refine wpIn_seq (stage hmix hF (hev _) eI hI1 hE1 hf1 ok1 h fun t2 H2 G2 w2 a2 h ok2 hI2 hf2 hd2 hx2=>?_)
 have hE2:=hE1.mono hx2
 refine wpIn_seq (stage hmix hF (hev _) eB hI2 hE2 hf2 ok2 h fun t3 H3 G3 w3 a3 h ok3 hI3 hf3 hd3 hx3=>?_)
 have hE3:=hE2.mono hx3
 refine wpIn_seq (wpIn_seq (stage hmix hF (hev _) eC hI3 hE3 hf3 ok3 h fun t4 H4 G4 w4 a4 h ok4 hI4 hf4 hd4 hx4=>?_))
 have hE4:=hE3.mono hx4
 have hx04:=((hx1.trans hx2).trans hx3).trans hx4
 have hd04:a4.defers=[]:=hd4.trans (hd3.trans (hd2.trans hd1))
 refine wpIn_block ?_
 unfold rangeF at h
 split at h
 ·rename_i fi cap hx
  rw[ev_eq]at hx
  rw[forceN_eq,forceN_eq]at h
  have hO:=hcall _ _ _ _ _ (show LHeap.Ok ⟨(Nat.succ H4.next,.rcd false (frF t4 r.n) r.ps r.k)::(H4.next,.dfr)::H4.objs,Nat.succ (Nat.succ H4.next)⟩ from ⟨Nat.lt_succ_self _,Nat.lt_succ_self _,ok4⟩) h
  have hC:CallOk P E _ _ _ _:=sound hmix hF hO
  refine rf_wp (k:=r.k) (T:=CS (fun _ H2=>whenB (isR (Nat.succ H4.next) false H2) (behindF E r run H4.next H.next kv (run r.Z) t4 (H2.del (Nat.succ H4.next)))) fun _ _=>false) er hrc' hI4 hE4 hf4 hx (by rw[<-hbn];exact hC) (fun q hq=>?_) (fun v H5 G5 w5 hT hI5 hx5 hlt5=>?_)
  ·rcases hq with⟨v,H',rfl,_,hk⟩|⟨v,H',rfl,_,hk⟩
   ·exact⟨v,H',rfl,(whenB_spec hk).1⟩
   ·cases hk
  rcases hT with⟨v',H',he,ok5,hk⟩|⟨v',H',he,_,hk⟩
  rotate_left
  ·cases hk
  cases he
  obtain⟨_,hk⟩:=whenB_spec hk
  have ok5':(H5.del (Nat.succ H4.next)).Ok:=Desc.del ok5
  have hE5:=hE4.mono hx5
  have hx05:=hx04.trans hx5
  show (Code.seq cD cZ).wpIn (fen none) 0 P (bodyPostM (fen none) 0 P fn (CallPost G w (CS kv kp))) _ _
  unfold behindF at hk
  obtain⟨hcl,hk⟩:=whenB_spec hk
  obtain⟨t6,hk,ht6⟩:=FT.setK_spec hk
  rw[evsF_eq]at hk ht6
  refine wpIn_seq (defer_wp (fr:=t4.get) eD hI5 hE5 ⟨(hf4.mono hx5).size,(hf4.mono hx5).slot⟩ fun a6 w6 G6 vs hf6 hvs hd6 hx6 hI6=>?_)
  have hE6:=hE5.mono hx6
  have hx06:=hx05.trans hx6
  rw[<-ht6]at hf6
  have hs:CodeOk P E r.Z t6.get (H5.del (Nat.succ H4.next)) _:=sound hmix hF (hev _ t6 _ _ ok5' hk)
  refine hs.wp none 0 fn.ntmps cZ G6 w6 a6 _ eZ hI6 hE6 hf6 fun e a7 w7 hp=>?_
  obtain⟨le,fr7,df7,H7,G7,hX,he7,hI7,hf7,hd7,hx7⟩:=hp
  obtain⟨e0,t7,H7',hr,ok7,hk⟩:=hX
  cases hr
  have hE7:=hE6.mono hx7
  have hx07:=hx06.trans hx7
  have hdefs:a7.defers=[{ target:=.fn (.func r.g) vs,args:=#[] },{ target:=.collected (G5.loc H4.next),args:=#[] }]:=by rw[hd7,hd6];simp[hd04]
  have hvs7:=(hvs.mono hx7)
  have last:∀(y:LV)(u:FrameMode),u≠.run->((u=.returning/\y=.sc .nilIface)\/∃v,u=.panicking [{ v:=v,recovered:=false }]/\VR G7 w7 y v)->lastF r run t7 (r.cs.map (E.ev t4.get)) H4.next H.next kv y H7=true ->
    LeavesInM (fen none) 0 P fn a7.tmps (CallPost G w (CS kv kp)) a7.defers u w7:=by
   intro y u hur hu hk
   unfold lastF at hk
   obtain⟨u1,hk,hu1⟩:=FT.args_fr hk
   obtain⟨u2,hk,hu2⟩:=FT.setK_spec hk
   rw[hu1]at hu2
   have hs:CodeOk P E r.rest u2.get H7 _:=sound hmix hF (hev _ u2 _ _ ok7 hk)
   rw[hdefs]
   refine⟨hur,.inr ⟨fun h=>(by cases h),.func r.g,vs,r.g,vs,rfl,?_,fun _ _=>trivial,?_⟩⟩
   ·obtain⟨cg,hgb,_⟩:=cFn_inv hgc
    have:=call_enter (P:=P) (w:=w7) hgf (by simp[hgb]) hgname vs
    simpa [invoke] using this
   ·refine CallsDIn.mono (rec_calls (nf:=0 - 1) hgf hgc (by simpa using Nat.le_of_ble_eq_true hcl) hI7 hE7 hvs7 hu (by rw[<-hu2];exact hs.wp) fun e fr' df' H' hT=>?_) fun e u' w' hq=>?_
    ·obtain⟨e1,t',H'',he,_,hk⟩:=hT
     cases he
     exact isNR_spec (whenB_spec hk).1
    ·obtain⟨v,le,fr',df',H8,G8,rfl,hst,hT,hI8,hx8⟩:=hq
     obtain⟨e1,t',H'',he,ok8,hk⟩:=hT
     cases he
     obtain⟨_,hk⟩:=whenB_spec hk
     obtain⟨hD,hk⟩:=whenB_spec hk
     obtain⟨vr,hvr,hk⟩:=isOk_spec hk
     have hlD:=isDfr_spec hD
     obtain⟨hlt8,q1,q2,q3⟩:=hI8.objs _ _ hlD
     have hloc:G8.loc H4.next=G5.loc H4.next:=by
      have h8:=hx8.loc H4.next
      have h7:=hx7.loc H4.next
      have h6:=hx6.loc H4.next
      have n6:=hx6.n
      have n7:=hx7.n
      rw[h8 (by omega),h7 (by omega),h6 (by omega)]
     obtain⟨y1,y2⟩:=hI8.setDel (ob':=.deferred none) hlD q1 (by simp) q2 q3
     have htd:=run_takeDeferred (P:=P) q1
     rw[hloc]at y1 y2 htd
     simp only
     rw[hst]
     refine⟨by simp,.inl ⟨_,_,rfl,htd,?_⟩⟩
     have hxx:=hx8.trans y1
     obtain⟨uv,hr1,hr2⟩:=run_results y2 (hf7.mono hxx) hres hvr
     have okd:(H8.del H4.next).Ok:=Desc.del ok8
     have hgc8:=gcH_ok okd H.next
     exact⟨uv,hr1,vr,_,G8,.inl ⟨vr,_,rfl,hgc8.1,hk⟩,hr2,y2.wk hgc8.2,hx07.trans hxx⟩
  cases le with
  |normal=>
   cases e<;>try exact he7.elim
   exact last _ .returning (by simp) (.inl ⟨rfl,rfl⟩) hk
  |ret=>
   cases e<;>try exact he7.elim
   exact last _ .returning (by simp) (.inl ⟨rfl,rfl⟩) hk
  |exit n=>cases hk
  |pan v=>
   cases e<;>try exact he7.elim
   obtain⟨u,rfl,hv⟩:=he7
   exact last v (.panicking [{ v:=u,recovered:=false }]) (by simp) (.inr ⟨u,rfl,hv⟩) hk
 ·cases h
end
end Go.Abs
namespace Go.Abs.Tz
open Go Go.Abs Go.Proofs
def p34(k:Nat):BCode:=match k,b25.body with
 |0,.seq a _=>a
 |1,.seq _ (.seq a _)=>a
 |2,.seq _ (.seq _ (.seq a _))=>a
 |3,.seq _ (.seq _ (.seq _ (.seq (.seq a _) _)))=>a
 |4,.seq _ (.seq _ (.seq _ (.seq (.seq _ (.blk _ (.rf _ _ a _))) _)))=>a
 |5,.seq _ (.seq _ (.seq _ (.seq (.seq _ (.blk _ (.rf _ _ _ a))) _)))=>a
 |6,.seq _ (.seq _ (.seq _ (.seq _ (.seq _ a))))=>a
 |_,_=>.bad
def p62:BCode:=match b55.body with
 |.seq _ a=>a
 |_=>.bad
def r34:RFn:=⟨p34 0,p34 1,p34 2,p34 3,0,T 14,[15],p34 4,p34 5,0,31,55,[T 2,T 4,T 5,T 6],p34 6,39,[.c 4 none,.c 5 none],6,7,p62,36,6⟩
theorem r34_fn:r34.fn=b25:=rfl
theorem r34_gn:r34.gn=b55:=rfl
theorem rc34(fn:Func)(c:Code)(hf:Tryz.prog.funcs[25]? = some fn)(hb:fn.body=some c):rfOf c=E0.rc 0:=by
 simp only[E0,rcT,hf,hb,Option.bind_some,Option.getD_some]
theorem rng34:F0.rng 0 39 (p34 4) (p34 5):=by
 obtain⟨fn,hf,hcF,_⟩:=fnsT.fn 25 r34.fn (by rw[r34_fn];exact c25)
 obtain⟨c,hb,hcode,hbn,_⟩:=cFn_inv hcF
 have hrc:=rc34 fn c hf hb
 simp only[RFn.fn]at hcode hbn
 obtain⟨cA,c1,rfl,eA,hcode⟩:=cCode_seq hcode
 obtain⟨cI,c2,rfl,eI,hcode⟩:=cCode_seq hcode
 obtain⟨cB,c3,rfl,eB,hcode⟩:=cCode_seq hcode
 obtain⟨c4,c5,rfl,e4,e5⟩:=cCode_seq hcode
 obtain⟨cC,cl,rfl,eC,e4⟩:=cCode_seq e4
 obtain⟨cr,rfl,er⟩:=cCode_blk e4
 obtain⟨d,pa,a,b,rfl,_,_,h1,h2⟩:=cCode_rf er
 show cCode Tryz.prog 39 (E0.rc 0).1=_/\cCode Tryz.prog 39 (E0.rc 0).2=_
 rw[<-hrc,show (39:Nat)=fn.ntmps from hbn]
 exact⟨h1,h2⟩
noncomputable def C3:Cfg:=⟨E0,lookT tabL,prim2,fun k=>match k with
 |0=>some (p34 4,p34 5,39,6)
 |_=>none⟩
theorem C3_ok:CfgOk C3 F0:=⟨C2_ok.tab,C2_ok.prim,fun k ba bb N d h=>by
 simp only[C3]at h
 split at h
 ·cases h;exact rng34
 ·cases h⟩
noncomputable def prim34(n:Nat):PrimF:=fun args H kv _=>primR E0 (evalC C3 n false) (callF C3 (evalC C3 n)) r34 args H kv
theorem prim34_ok(n:Nat){args:List LV}{H:LHeap}{kv kp:HK}(hH:H.Ok)(h:prim34 n args H kv kp=true):Out E0 F0 (.call 25 args H) (CS kv kp):=
 .prim (primR_ok (P:=Tryz.prog) (E:=E0) (F:=F0) (r:=r34) (f:=25) hmixT fnsT (by rw[r34_fn];exact c25) (by rw[r34_gn];exact c55) rc34 (fun c=>evalC_ok C3_ok n false c) (callF_ok C3_ok (evalC_ok C3_ok n)) hH h)
noncomputable def prim3(f:FuncId):Option PrimF:=match f with
 |25=>some (prim34 1000000)
 |f=>prim2 f
noncomputable def C4:Cfg:=⟨E0,lookT tabL,prim3,C3.rng⟩
theorem C4_ok:CfgOk C4 F0:=⟨C3_ok.tab,fun f p h args H kv kp hH hp=>by
 simp only[C4,prim3]at h
 split at h
 ·cases h;exact prim34_ok _ hH hp
 ·exact C2_ok.prim _ _ h _ _ _ _ hH hp,C3_ok.rng⟩
end Go.Abs.Tz
namespace Go.Abs
open Go
def bytesV(l:List UInt8):List Value:=l.map fun b=>.int .u8 b.toNat
section
variable{P:Program}{G:Ghost}{w w':World}{H:LHeap}
theorem run_str_cells(s:ByteArray)(w:World):(Builtin.firstCells 1 s.size (.string s)).run P w=.ok (bytesV s.data.toList).toArray w:=by
 have h:s.extract 0 s.size=s:=by simp
 simp only[Builtin.firstCells,h,Sem.run_pure,Result.ok.injEq,and_true]
 apply Array.toList_inj.1
 simp[bytesV]
theorem run_appstr_grow{base:Option Addr}{t u elem:TypeId}{ty:TypeId}{sLen sCap:Nat}{s:ByteArray}{L:List Value}{zv:Value}{ti:TypeInfo}
  (ht:P.underlying t=some (.slice elem)) (hu:P.underlying u=some .string) (hs:sizeO P elem=some 1) (hti:P.info? elem=some ti) (hby:ti.bytes<=8)
  (hz:∀w:World,(zeroValue elem).run P w=.ok zv w) (hbig:sLen+s.size<=2^40) (hcap:sCap<sLen+s.size)
  (hold:∀w',(∀k,k<w.heap.size->w'.heap[k]? = w.heap[k]?)->(Builtin.firstCells 1 sLen (.slice base sLen sCap)).run P w'=.ok L.toArray w'):
  ∃newCap rest,sLen+s.size<=newCap/\rest.size=(newCap - (sLen+s.size))*zv.cells.size /\
   (Builtin.append_ #[t,u] ty #[.slice base sLen sCap,.string s]).run P w =
    .ok (.slice (some (at_ w.heap.size 0)) (sLen+s.size) newCap) (w.drew.alloc (.cells (L.toArray++(bytesV s.data.toList).toArray++rest) elem)):=by
 have hnc:=nextcap_le (sLen+s.size) sCap hcap
 have hbig2:¬Builtin.nextslicecap (sLen+s.size) sCap*ti.bytes > 2^48:=by
  have h1:Builtin.nextslicecap (sLen+s.size) sCap*ti.bytes<=(2*(sLen+s.size)+400)*8:=Nat.mul_le_mul hnc hby
  omega
 refine⟨(Question.appendCap (sLen+s.size) sCap elem).cut (w.tape w.drawn (.appendCap (sLen+s.size) sCap elem)),Builtin.zeroCells zv.cells ((Question.appendCap (sLen+s.size) sCap elem).cut (w.tape w.drawn (.appendCap (sLen+s.size) sCap elem)) - (sLen+s.size)),cut_appendCap _ _ _ _,by simp[Builtin.zeroCells],?_⟩
 have h1:=hold w.drew (fun k _=>rfl)
 have h2:=run_str_cells (P:=P) s w.drew
 have hnot:¬(sLen+s.size<=sCap):=by omega
 have hi64:¬(((sLen+s.size:Nat):Int) > IntKind.i64.max/\(False\/ti.bytes=0)):=by
  have:IntKind.i64.max=9223372036854775807:=rfl
  omega
 have hforced:(Question.appendCap (sLen+s.size) sCap elem).forced=false:=rfl
 simp only[Builtin.append_,List.getElem?_toArray,List.getElem?_cons_zero,List.getElem?_cons_succ,Sem.run_bind,run_underlying ht,run_underlying hu,run_size hs,Result.andThen_ok,Sem.run_pure,Builtin.lenOf,
  Bool.false_eq_true,if_false,if_neg hnot,run_info hti,Bool.not_false,if_true]
 rw[if_neg hi64]
 simp only[Sem.run_bind,run_info hti,Result.andThen_ok]
 rw[if_neg hbig2]
 simp only[Sem.run_bind,run_choose_drew,hforced,Bool.false_eq_true,if_false,Result.andThen_ok,run_info hti,run_askRoom,h1,h2,hz,newRow,run_newObj_alloc,Sem.run_pure]
 rfl
theorem run_appstr_fits{t u elem:TypeId}{ty:TypeId}{sLen sCap b off:Nat}{s:ByteArray}
  (ht:P.underlying t=some (.slice elem)) (hu:P.underlying u=some .string) (hs:sizeO P elem=some 1) (hcap:sLen+s.size<=sCap)
  (hst:(storeCells (at_ b (off+sLen*1)) (bytesV s.data.toList)).run P w=.ok () w'):
  (Builtin.append_ #[t,u] ty #[.slice (some (at_ b off)) sLen sCap,.string s]).run P w=.ok (.slice (some (at_ b off)) (sLen+s.size) sCap) w':=by
 have h2:=run_str_cells (P:=P) s w
 simp only[Builtin.append_,List.getElem?_toArray,List.getElem?_cons_zero,List.getElem?_cons_succ,Sem.run_bind,run_underlying ht,run_underlying hu,run_size hs,Result.andThen_ok,Sem.run_pure,Builtin.lenOf,
  Bool.false_eq_true,if_false,if_pos hcap,Bool.not_false,if_true,h2,at_add,hst]
theorem run_appstr_none{t u elem:TypeId}{ty:TypeId}{s:ByteArray}
  (ht:P.underlying t=some (.slice elem)) (hu:P.underlying u=some .string) (hs:sizeO P elem=some 1) (h0:s.size=0):
  (Builtin.append_ #[t,u] ty #[.slice none 0 0,.string s]).run P w=.ok (.slice none 0 0) w:=by
 have h2:=run_str_cells (P:=P) s w
 rw[h0]at h2
 simp only[Builtin.append_,List.getElem?_toArray,List.getElem?_cons_zero,List.getElem?_cons_succ,Sem.run_bind,run_underlying ht,run_underlying hu,run_size hs,Result.andThen_ok,Sem.run_pure,Builtin.lenOf,
  Bool.false_eq_true,if_false,Bool.not_false,if_true,h2,h0]
 rfl
def RowOf(w:World)(te:TypeId)(l:List UInt8)(v:Value)(g cap:Nat)(cur:Array Value):Prop:=
 v=.slice (some (at_ g 0)) l.length cap/\w.heap[g]? = some (.cells cur te)/\l≠[]/\l.length<=cap/\cur.size=cap/\∀(i:Nat)(b:UInt8),l[i]? = some b->cur[i]? = some (.int .u8 b.toNat)
def BufM(w:World)(te:TypeId)(l:List UInt8)(v:Value):Prop:=(v=.slice none 0 0/\l=[])\/∃g cap cur,RowOf w te l v g cap cur
def BufNext(w w':World)(te:TypeId)(v:Value)(l:List UInt8)(v':Value):Prop:=
 (v'=.slice none 0 0/\v=v'/\l=[]/\∀k,k<w.heap.size->w'.heap[k]? = w.heap[k]?) \/
 ∃g cap cur,RowOf w' te l v' g cap cur/\(g=w.heap.size\/∃cur0 n,w.heap[g]? = some (.cells cur0 te)/\cur0.size=cap/\v=.slice (some (at_ g 0)) n cap)/\∀k,k<w.heap.size->k≠g->w'.heap[k]? = w.heap[k]?
structure SameOut(w w':World):Prop where
 os:w'.os=w.os
 tape:w'.tape=w.tape
 output:w'.output=w.output
 size:w.heap.size<=w'.heap.size
theorem get_bytes{l:List UInt8}{i:Nat}{b:UInt8}(h:l[i]? = some b):(bytesV l)[i]? = some (.int .u8 b.toNat):=by
 simp[bytesV,h]
theorem buf_append{t u te:TypeId}{ty:TypeId}{s:ByteArray}{zv:Value}{ti:TypeInfo}{l:List UInt8}{v:Value}
  (ht:P.underlying t=some (.slice te)) (hu:P.underlying u=some .string) (hs:sizeO P te=some 1) (hti:P.info? te=some ti) (hby:ti.bytes<=8)
  (hz:∀w:World,(zeroValue te).run P w=.ok zv w) (hzs:zv.cells.size=1) (hB:BufM w te l v) (hbig:l.length+s.size<=2^40):
  ∃v' w',(Builtin.append_ #[t,u] ty #[v,.string s]).run P w=.ok v' w'/\SameOut w w'/\BufNext w w' te v (l++s.data.toList) v':=by
 have hsz:s.size=s.data.toList.length:=(Array.length_toList).symm
 have hnew:∀(L:List Value)(rest:Array Value)(newCap:Nat),L.length=l.length->(∀(i:Nat)(b:UInt8),l[i]? = some b->L[i]? = some (.int .u8 b.toNat))->l.length+s.size<=newCap->rest.size=(newCap - (l.length+s.size))*zv.cells.size->0<s.size ->
   SameOut w (w.drew.alloc (.cells (L.toArray++(bytesV s.data.toList).toArray++rest) te)) /\
   BufNext w (w.drew.alloc (.cells (L.toArray++(bytesV s.data.toList).toArray++rest) te)) te v (l++s.data.toList) (.slice (some (at_ w.heap.size 0)) (l.length+s.size) newCap):=by
  intro L rest newCap hL hc h1 h2 h3
  rw[hzs,Nat.mul_one]at h2
  refine⟨⟨rfl,rfl,rfl,by simp⟩,.inr ⟨w.heap.size,newCap,_,⟨by rw[List.length_append,hsz],heap_alloc_new (w:=w.drew),?_,by rw[List.length_append,<-hsz];exact h1,?_,fun i b hb=>?_⟩,.inl rfl,fun k hk _=>heap_alloc_lt (w:=w.drew) hk⟩⟩
  ·intro e
   have:=congrArg List.length e
   rw[List.length_append,<-hsz,List.length_nil]at this
   omega
  ·simp only[Array.size_append,List.size_toArray,hL,bytesV,List.length_map,h2]
   rw[<-hsz]
   exact Nat.add_sub_of_le h1
  ·have hlt:=lt_of_get hb
   rw[List.length_append]at hlt
   rw[Array.getElem?_append_left (by simp only[Array.size_append,List.size_toArray,hL,bytesV,List.length_map];exact hlt)]
   rcases Nat.lt_or_ge i l.length with hi|hi
   ·rw[List.getElem?_append_left hi]at hb
    rw[Array.getElem?_append_left (by simpa [hL] using hi)]
    simpa using hc i b hb
   ·rw[List.getElem?_append_right hi]at hb
    rw[Array.getElem?_append_right (by simpa [hL] using hi)]
    simp only[List.size_toArray,hL]
    simpa using get_bytes hb
 rcases hB with⟨rfl,rfl⟩|⟨g,cap,cur,hv,hg,hne,hle,hcs,hcur⟩
 ·by_cases h0:s.size=0
  ·refine⟨_,w,run_appstr_none ht hu hs h0,⟨rfl,rfl,rfl,Nat.le_refl _⟩,.inl ⟨rfl,rfl,?_,fun _ _=>rfl⟩⟩
   rw[hsz]at h0
   exact List.eq_nil_of_length_eq_zero h0
  ·obtain⟨newCap,rest,r1,r2,r3⟩:=run_appstr_grow (P:=P) (w:=w) (ty:=ty) (base:=none) (sLen:=0) (sCap:=0) (L:=[]) ht hu hs hti hby hz (by omega) (by omega) (fun w' _=>by simp[Builtin.firstCells])
   obtain⟨k1,k2⟩:=hnew [] rest newCap rfl (fun i b h=>by simp at h) (by simpa using r1) (by simpa using r2) (by omega)
   exact⟨_,_,r3,k1,by simpa using k2⟩
 ·subst hv
  have hL:(bytesV l).length=l.length:=by simp[bytesV]
  have hcell:∀(j:Nat)(v:Value),(bytesV l)[j]? = some v->w.cell? (at_ g (0+j))=some v:=by
   intro j v hj
   simp only[bytesV,List.getElem?_map]at hj
   obtain⟨b,hb,rfl⟩:=Option.map_eq_some_iff.1 hj
   rw[cell?_cells hg,Nat.zero_add]
   exact hcur j b hb
  by_cases hfit:l.length+s.size<=cap
  ·have hml:(bytesV s.data.toList).length=s.size:=by rw[hsz,bytesV,List.length_map]
   have hst:=run_storeCells_cells (P:=P) g (0+l.length*1) (bytesV s.data.toList) 0 w (fun j hj=>by
     rw[cell?_cells hg,Array.getElem?_eq_getElem (by omega)];rfl) (fun j _=>by
     unfold World.frozen?;rw[hg];simp) (fun v hv=>by
     simp only[bytesV,List.mem_map]at hv
     obtain⟨b,_,rfl⟩:=hv;rfl)
   obtain⟨q1,q2,q3,q4,q5,cur',q6,q7,q8⟩:=setCells_spec g (bytesV s.data.toList) (0+l.length*1+0) w cur te (0,0) hg
   refine⟨_,_,run_appstr_fits ht hu hs hfit hst,⟨q3,q4,q5,Nat.le_of_eq q2.symm⟩,.inr ⟨g,cap,cur',⟨by rw[List.length_append,hsz],q6,?_,by rw[List.length_append,<-hsz];exact hfit,by rw[q7];exact hcs,fun i b hb=>?_⟩,.inr ⟨cur,_,hg,hcs,rfl⟩,fun k _ hk=>q1 k hk⟩⟩
   ·intro e;exact hne (List.append_eq_nil_iff.1 e).1
   ·have hlt:=lt_of_get hb
    rw[List.length_append]at hlt
    rw[q8]
    rcases Nat.lt_or_ge i l.length with hi|hi
    ·rw[if_neg (by omega)]
     rw[List.getElem?_append_left hi]at hb
     exact hcur i b hb
    ·rw[List.getElem?_append_right hi]at hb
     rw[if_pos ⟨by omega,by rw[hml];omega,by omega⟩]
     have:=get_bytes hb
     rw[show i - (0+l.length*1+0)=i - l.length by omega]
     exact this
  ·obtain⟨newCap,rest,r1,r2,r3⟩:=run_appstr_grow (P:=P) (w:=w) (ty:=ty) (base:=some (at_ g 0)) (sLen:=l.length) (sCap:=cap) (L:=bytesV l) ht hu hs hti hby hz hbig (by omega) (fun w' hw=>by
     refine run_firstCells_some _ _ _ _ _ _ _ (by simp[bytesV]) (fun j v hj=>?_)
     rw[at_add,cell?_of_block (hw g (lt_of_heap hg))]
     exact hcell j v hj)
   obtain⟨k1,k2⟩:=hnew (bytesV l) rest newCap hL (fun i b h=>get_bytes h) r1 r2 (by omega)
   exact⟨_,_,r3,k1,k2⟩
theorem Inv.bld_write(hI:Inv G w H){o:Nat}{tb te:TypeId}{l m:List UInt8}(hl:look o H.objs=some (.bld tb te l)){w':World}(hc:SameOut w w'){v v':Value}(gb:Option Nat)
  (hv:∃p,w.heap[G.loc o]? = some (.cells #[p,v] tb)) (hb':w'.heap[G.loc o]? = some (.cells #[.pointer (some (at_ (G.loc o) 0)),v'] tb))
  (hg0:gb=none->v'=.slice none 0 0/\m=[]) (hg1:∀g,gb=some g->g≠G.loc o/\∃cap cur,RowOf w' te m v' g cap cur/\(g=w.heap.size\/∃cur0 n,w.heap[g]? = some (.cells cur0 te)/\cur0.size=cap/\v=.slice (some (at_ g 0)) n cap))
  (hrow:∀k,k<w.heap.size->gb≠some k->k≠G.loc o->w'.heap[k]? = w.heap[k]?):
  ∃G',Ext G w G' w'/\Inv G' w' (H.put o (.bld tb te m))/\G'.n=G.n:=by
 obtain⟨ho,p,v0,h1,h2,h3,h4,h5⟩:=hI.objs o _ hl
 obtain⟨p',hv⟩:=hv
 rw[h1]at hv
 have hvv:v0=v:=by
  simp only[Option.some.injEq,Obj.cells.injEq]at hv
  have:=congrArg (fun a=>a[1]?) hv.1
  simpa using this
 subst hvv
 have hlook:=fun j=>look_put (j:=j) (ob':=.bld tb te m) hl
 have hold:∀g,gb=some g->g=w.heap.size\/((∀x,G.own g x=.obj o)/\¬(G.B g).isSome):=by
  intro g hg
  obtain⟨_,cap,cur,_,h⟩:=hg1 g hg
  rcases h with h|⟨cur0,n,_,_,hv0⟩
  ·exact .inl h
  ·right
   rcases h5 with⟨h5,_⟩|⟨g',cap',cur',q1,_,_,q4,q5,_⟩
   ·rw[hv0]at h5;cases h5
   ·rw[hv0]at q1
    simp only[Value.slice.injEq,Option.some.injEq,Addr.mk.injEq,and_true]at q1
    obtain⟨rfl,_⟩:=q1
    exact⟨q5,q4⟩
 let G':Ghost:=⟨G.B,G.n,G.loc,G.asz,G.tk,fun k x=>if gb=some k then .obj o else G.own k x,G.rc⟩
 have hgown:∀k x (lab:Lab),G.own k x=lab->lab≠.free->lab≠.obj o->gb≠some k:=by
  intro k x lab h hf hob hg
  rcases hold k hg with rfl|⟨hg,_⟩
  ·rw[hI.free _ x (Nat.le_refl _)]at h;exact hf h.symm
  ·rw[hg]at h;exact hob h.symm
 have hlne:∀k x (lab:Lab),G.own k x=lab->lab≠.obj o->k≠G.loc o:=by
  rintro k x lab h hob rfl
  rw[h3]at h;exact hob h.symm
 have hBg:∀k,(G.B k).isSome->gb≠some k/\k≠G.loc o/\k<w.heap.size:=by
  intro k hk
  have hlt:=hI.hB k hk
  refine⟨fun hg=>?_,fun e=>h2 (e▸hk),hlt⟩
  rcases hold k hg with rfl|⟨_,hg⟩
  ·omega
  ·exact hg hk
 have hx:Ext G w G' w':=by
  refine⟨hc.os,hc.tape,hc.output,hc.size,rfl,fun k hk=>hrow k (hBg k hk).2.2 (hBg k hk).1 (hBg k hk).2.1,Nat.le_refl _,fun _ _=>rfl,fun _ _=>rfl,fun k x hcl=>⟨?_,fun u hu=>?_⟩,fun t _ m b c h=>⟨m,b,c,h,Nat.le_refl _,fun _=>⟨rfl,rfl⟩⟩,rfl⟩
  ·show (if gb=some k then Lab.obj o else G.own k x)=.cl
   rw[if_neg (hgown k x _ hcl (by simp) (by simp))];exact hcl
  ·rw[cell?_of_block (hrow k (own_lt hI hcl (by simp)) (hgown k x _ hcl (by simp) (by simp)) (hlne k x _ hcl (by simp)))];exact hu
 refine⟨G',hx,?_,rfl⟩
 have hll:G.loc o<w.heap.size:=lt_of_heap h1
 refine Inv.step (fun i=>i=o) hI hx (W:=fun k _=>k=G.loc o\/gb=some k) (V:=fun _=>False) ⟨fun k vs el fz hk=>?_,fun k ob hk hne _=>?_⟩ hI.n (fun b x hb=>?_) (fun b x hb=>?_) (fun i x hi h=>by rw[hlook,if_neg hi]at h;exact h)
  (fun i k x hi hk hW=>?_) (fun _ _ _ h=>h) (fun i k x hi=>⟨fun h=>?_,fun h=>?_⟩) (fun _ _ _=>rfl) ?_ ?_
 ·have hkl:=lt_of_heap hk
  by_cases e1:k=G.loc o
  ·subst e1
   rw[h1]at hk
   simp only[Option.some.injEq,Obj.cells.injEq]at hk
   obtain⟨rfl,rfl,rfl⟩:=hk
   exact⟨_,hb',rfl,fun x hx=>absurd (.inl rfl) hx⟩
  ·by_cases e2:gb=some k
   ·obtain⟨_,cap,cur,hrw,hod⟩:=hg1 k e2
    rcases hod with e|⟨cur0,n,q1,q2,q3⟩
    ·omega
    ·rw[q1]at hk
     simp only[Option.some.injEq,Obj.cells.injEq]at hk
     obtain⟨rfl,rfl,rfl⟩:=hk
     exact⟨cur,hrw.2.1,by rw[hrw.2.2.2.2.1,q2],fun x hx=>absurd (.inr e2) hx⟩
   ·exact⟨vs,by rw[hrow k hkl e2 e1];exact hk,rfl,fun _ _=>rfl⟩
 ·have hkl:=lt_of_heap hk
  have e1:k≠G.loc o:=by rintro rfl;rw[h1]at hk;cases hk;exact hne _ _ _ rfl
  by_cases e2:gb=some k
  ·obtain⟨_,cap,cur,hrw,hod⟩:=hg1 k e2
   rcases hod with e|⟨cur0,n,q1,q2,q3⟩
   ·omega
   ·rw[q1]at hk;cases hk;exact absurd rfl (hne _ _ _)
  ·rw[hrow k hkl e2 e1];exact hk
 ·show (if gb=some b then Lab.obj o else G.own b x)=.free
  rw[if_neg]
  ·exact hI.free b x (Nat.le_trans hc.size hb)
  ·intro hg
   obtain⟨_,cap,cur,hrw,_⟩:=hg1 b hg
   have:=lt_of_heap hrw.2.1
   omega
 ·show (if gb=some b then Lab.obj o else G.own b x)=.free
  rw[if_neg (hBg b hb).1];exact hI.old b x hb
 ·rcases hW with rfl|hW
  ·rw[h3]at hk;cases hk;exact hi rfl
  ·exact hgown _ x _ hk (by simp) (by simp;exact fun e=>hi e) hW
 ·show (if gb=some k then Lab.obj o else G.own k x)=_
  rw[if_neg (hgown k x _ h (by simp) (by simp;exact fun e=>hi e))];exact h
 ·show (if gb=some k then Lab.obj o else G.own k x)=_
  rw[if_neg (hgown k x _ h (by simp) (by simp))];exact h
 ·intro q es' hq he'
  have hqo:q≠o:=by rintro rfl;rw[hlook,if_pos rfl]at he';cases he'
  rw[hlook,if_neg hqo]at he'
  obtain⟨_,ents,clock,q1,_,q3,_⟩:=hI.objs q _ he'
  refine⟨es',he',Nat.le_refl _,fun _ ents' clock' hh=>?_⟩
  rw[hrow _ (lt_of_heap q1) (hgown _ 0 _ q3 (by simp) (by simp;exact fun e=>hqo e)) (hlne _ 0 _ q3 (by simp;exact fun e=>hqo e))]at hh
  exact⟨ents',clock',hh,rfl,fun _=>rfl⟩
 ·rintro i x rfl h
  rw[hlook,if_pos rfl]at h
  cases h
  refine⟨ho,.pointer (some (at_ (G.loc i) 0)),v',hb',h2,fun x=>?_,.inr rfl,?_⟩
  ·show (if gb=some (G.loc i) then Lab.obj i else G.own (G.loc i) x)=_
   split
   ·rfl
   ·exact h3 x
  ·cases hgb:gb with
   |none=>exact .inl (hg0 hgb)
   |some g=>
    obtain⟨hgl,cap,cur,⟨r1,r2,r3,r4,r5,r6⟩,hod⟩:=hg1 g hgb
    refine .inr ⟨g,cap,cur,r1,r2,hgl,?_,fun x=>?_,r3,r4,r5,r6⟩
    ·rcases hold g hgb with rfl|⟨_,h⟩
     ·exact hI.hB'
     ·exact h
    ·show (if gb=some g then Lab.obj i else G.own g x)=_
     rw[if_pos hgb]
theorem Inv.bld_read(hI:Inv G w H){o:Nat}{tb te:TypeId}{l:List UInt8}(hl:look o H.objs=some (.bld tb te l)){w':World}(hc:SameOut w w')(hs:w'.heap.size=w.heap.size){g:Nat}{n cap:Nat}{p:Value}
  (hv:w.heap[G.loc o]? = some (.cells #[p,.slice (some (at_ g 0)) n cap] tb)) (hrow:∀k,k≠g->w'.heap[k]? = w.heap[k]?):Ext G w G w'/\Inv G w' (H.del o):=by
 obtain⟨ho,p0,v0,h1,h2,h3,h4,h5⟩:=hI.objs o _ hl
 rw[h1]at hv
 simp only[Option.some.injEq,Obj.cells.injEq]at hv
 have hvv:v0=.slice (some (at_ g 0)) n cap:=by
  have:=congrArg (fun a=>a[1]?) hv.1
  simpa using this
 subst hvv
 obtain⟨hgB,hgo⟩:¬(G.B g).isSome/\∀x,G.own g x=.obj o:=by
  rcases h5 with⟨h5,_⟩|⟨g',cap',cur',q1,_,_,q4,q5,_⟩
  ·cases h5
  ·simp only[Value.slice.injEq,Option.some.injEq,Addr.mk.injEq,and_true]at q1
   obtain⟨rfl,_⟩:=q1
   exact⟨q4,q5⟩
 have hne:∀{k x:Nat}{lab:Lab},G.own k x=lab->lab≠.obj o->k≠g:=by
  rintro k x lab h hob rfl
  rw[hgo]at h;exact hob h.symm
 have hx:Ext G w G w':=⟨hc.os,hc.tape,hc.output,hc.size,rfl,fun k hk=>hrow k (fun e=>hgB (e▸hk)),Nat.le_refl _,fun _ _=>rfl,fun _ _=>rfl,
  fun k x hcl=>⟨hcl,fun u hu=>by rw[cell?_of_block (hrow k (hne hcl (by simp)))];exact hu⟩,fun t _ m b c h=>⟨m,b,c,h,Nat.le_refl _,fun _=>⟨rfl,rfl⟩⟩,rfl⟩
 refine⟨hx,hI.n,fun b hb=>hs▸hI.hB b hb,fun b x hb=>hI.free b x (by omega),hI.old,fun i x hi=>?_⟩
 have hio:i≠o:=by
  rintro rfl
  simp[LHeap.del,look_del]at hi
 have hi':look i H.objs=some x:=by simpa [LHeap.del,look_del,hio] using hi
 obtain⟨k1,k2⟩:=hI.objs i x hi'
 refine⟨k1,?_⟩
 have hfz:∀k,k≠g->∀x,w'.frozen? (at_ k x)=w.frozen? (at_ k x):=fun k hk x=>by simp only[World.frozen?,hrow k hk]
 have mapc:∀es,MapR G w i es->MapR G w' i es:=by
  rintro es ⟨ents,clock,a,b,c,d,e,f⟩
  exact⟨ents,clock,by rw[hrow _ (hne c (by simp;exact fun e=>hio e))];exact a,b,c,d,fun j kv en h1 h2=>⟨(e j kv en h1 h2).1.mono hx,(e j kv en h1 h2).2.mono hx⟩,f⟩
 have hdel:∀m y,look m (H.del o).objs=some y->look m H.objs=some y:=fun m y hy=>by
  simp only[LHeap.del,look_del]at hy
  split at hy
  ·cases hy
  ·exact hy
 cases x with
 |cells cs=>
  obtain⟨vs,el,fz,a,b,c,d,e,f⟩:=k2
  have hk:=hne (d 0) (by simp;exact fun e=>hio e)
  exact⟨vs,el,fz,by rw[hrow _ hk];exact a,b,c,d,fun x=>by rw[hfz _ hk];exact e x,fun j y hy=>⟨(f j y hy).1.mono hx,(f j y hy).2⟩⟩
 |arr sz cs=>
  obtain⟨vs,el,fz,a,b,c,c',d,e,f⟩:=k2
  have hk:=hne (d 0) (by simp;exact fun e=>hio e)
  exact⟨vs,el,fz,by rw[hrow _ hk];exact a,b,c,c',d,fun x=>by rw[hfz _ hk];exact e x,fun j y hy=>⟨(f j y hy).1.mono hx,(f j y hy).2⟩⟩
 |map es=>exact mapc es k2
 |um es=>
  obtain⟨es0,hp,k2⟩:=k2
  exact⟨es0,hp,mapc es0 k2⟩
 |iter m left cur nn=>
  obtain⟨a,b,c⟩:=k2
  have hk:=hne b (by simp;exact fun e=>hio e)
  refine⟨a,b,?_⟩
  split
  ·rename_i he;rw[if_pos he]at c
   obtain⟨c1,c2,c3,si,se,st,c4⟩:=c
   exact⟨c1,c2,c3,si,se,st,by rw[hrow _ hk];exact c4⟩
  ·rename_i he;rw[if_neg he]at c
   obtain⟨seen,stepped,c1,c2,c3,c4,c5⟩:=c
   refine⟨seen,stepped,by rw[hrow _ hk];exact c1,c2,c3,fun es hl=>c4 es (hdel _ _ hl),fun es hl hn ents clock hh=>?_⟩
   have hl':=hdel _ _ hl
   obtain⟨_,_,_,_,_,q3,_⟩:=hI.objs m _ hl'
   have hmo:m≠o:=by
    rintro rfl
    simp[LHeap.del,look_del]at hl
   rw[hrow _ (hne q3 (by simp;exact fun e=>hmo e))]at hh
   exact c5 es hl' hn ents clock hh
 |tok nn sz=>
  obtain⟨base,cp,a,b,c⟩:=k2
  refine⟨base,cp,a,b,fun hz0 hlt=>?_⟩
  obtain⟨b2,off,vs,el,fz,q1,q2,q3,q4,q5,q6⟩:=c hz0 hlt
  by_cases hk:b2=g
  ·subst hk
   have hsz:nn*sz<cp*sz:=Nat.mul_lt_mul_of_pos_right hlt hz0
   have:=q6 (off+nn*sz) (Nat.le_refl _) (by omega)
   rw[hgo]at this;cases this
  ·exact⟨b2,off,vs,el,fz,q1,by rw[hrow _ hk];exact q2,q3,q4,fun x=>by rw[hfz _ hk];exact q5 x,q6⟩
 |dfr=>
  obtain⟨a,b,c⟩:=k2
  exact⟨by rw[hrow _ (hne c (by simp;exact fun e=>hio e))];exact a,b,c⟩
 |lft j=>
  obtain⟨⟨L,a,d⟩,b,c⟩:=k2
  exact⟨⟨L,by rw[hrow _ (hne c (by simp;exact fun e=>hio e))];exact a,d⟩,b,c⟩
 |rcd busy fo ps k=>
  obtain⟨fn,tmps,df,a,b,c,d,e⟩:=k2
  exact⟨fn,tmps,df,by rw[hrow _ (hne c (by simp;exact fun e=>hio e))];exact a,b,c,d,fun i x hi=>(e i x hi).mono hx⟩
 |bld tb' te' l'=>
  obtain⟨p',v',a,b,c,d,e⟩:=k2
  have hk:=hne (c 0) (by simp;exact fun e=>hio e)
  refine⟨p',v',by rw[hrow _ hk];exact a,b,c,d,?_⟩
  rcases e with e|⟨g',cap',cur',q1,q2,q3,q4,q5,q6⟩
  ·exact .inl e
  ·have hk':=hne (q5 0) (by simp;exact fun e=>hio e)
   exact .inr ⟨g',cap',cur',q1,by rw[hrow _ hk'];exact q2,q3,q4,q5,q6⟩
end
end Go.Abs
namespace Go.Proofs
open Go Go.RowKit Go.Abs
set_option maxHeartbeats 1000000
set_option maxRecDepth 100000
theorem Tz.infoB:∃j,Tryz.prog.info? 97=some j/\j.size=2:=by
 refine⟨_,rfl,?_⟩
 kernel_rfl
theorem Tz.liesB:liesAt Tryz.prog Tryz.prog.depth 97 (2 / Tryz.prog.cellsOf 97) 0 97 1=true:=by kernel_rfl
theorem Tz.cc_used(b:Nat)(w:World)(h0:w.cell? ⟨b,0,none⟩=some (.pointer (some ⟨b,0,none⟩))):
  Calls Tryz.prog 75 #[.pointer (some ⟨b,0,none⟩)] w fun e w'=>e=.returned (.tuple #[])/\w'=w:=by
 obtain⟨j,hj,hjs⟩:=Tz.infoB
 go_enter Tryz.func75,Tryz.ntmps75
 go_wp2
 rw[Lib.run_neq_ptr_same w _ Tryz.underlying94 hj]
 go_wp2
 go_end0
 exact⟨rfl,rfl⟩
theorem Tz.cc_fresh(b:Nat)(w:World)(h0:w.cell? ⟨b,0,none⟩=some (.pointer none))(hsh:w.shape? b=some (97,2))(hfz:w.frozen? ⟨b,0,none⟩=false):
  Calls Tryz.prog 75 #[.pointer (some ⟨b,0,none⟩)] w fun e w'=>e=.returned (.tuple #[])/\w'=w.setCell ⟨b,0,none⟩ (.pointer (some ⟨b,0,none⟩)):=by
 obtain⟨j,hj,hjs⟩:=Tz.infoB
 go_enter Tryz.func75,Tryz.ntmps75
 go_wp2
 rw[Lib.run_to_unsafe w ⟨b,0,none⟩ Tryz.underlying94 Tryz.underlying170 hj (by rw[hjs];decide) hsh (Nat.zero_lt_succ 1)]
 simp only[Result.andThen]
 rw[Oper.upon_value]
 go_wp2
 rw[run_callFunc_extern Tryz.func109 (by kernel_rfl) (by kernel_rfl) (by kernel_rfl) (e:=Extern.AbiNoEscape.same) (by kernel_rfl)]
 rw[Lib.run_noEscape]
 simp only[Result.andThen]
 rw[Oper.upon_value]
 go_wp2
 rw[Lib.run_from_unsafe w ⟨b,0,none⟩ Tryz.underlying170 Tryz.underlying94 hj hsh Tz.liesB]
 simp only[Result.andThen]
 rw[Oper.upon_value]
 go_wp2
 go_end0
 exact⟨rfl,rfl⟩
theorem Tz.wp_append{ops:Array Oper}{rest:List Oper}{o:Oper}{a:Act}{w:World}{Q:Exit->Act->World->Prop}(hgd:o.guard=none)(sl x:Operand)
  (ho:o.op=.call { callee:=.builtin .append,args:=#[sl,x],argTypes:=#[95,9] }) (l:List UInt8) (v:Value) (hs:a.eval sl=v) (s:ByteArray) (hx:a.eval x=.string s) (hB:BufM w 5 l v) (hbig:l.length+s.size<=2^40)
  (h:∀v' w',SameOut w w'->BufNext w w' 5 v (l++s.data.toList) v'->wpList Tryz.prog ops Q rest (a.put o.dst v') w'):wpList Tryz.prog ops Q (o::rest) a w:=by
 refine wpList_plain hgd fun K hK=>?_
 have hu9:Tryz.prog.underlying 9=some .string:=Tryz.underlying9
 have hu:Tryz.prog.underlying 95=some (.slice 5):=Tryz.underlying95
 have hs5:sizeO Tryz.prog 5=some 1:=by kernel_rfl
 have hz5:∀w:World,(zeroValue 5).run Tryz.prog w=.ok (.int .u8 0) w:=Tryz.zeroValue5
 obtain⟨ti,hti,hby⟩:∃ti,Tryz.prog.info? 5=some ti/\ti.bytes=1:=⟨_,rfl,by kernel_rfl⟩
 obtain⟨v',w',hr,hc,hn⟩:=buf_append (P:=Tryz.prog) (ty:=o.type) (w:=w) hu hu9 hs5 hti (by rw[hby];decide) hz5 rfl hB hbig
 unfold Oper.wp execOp
 simp only[ho,resolve,invoke,builtin,Sem.run_bind,Sem.run_pure,Result.andThen_ok,List.map_toArray,List.map_cons,List.map_nil,hs,hx,hr]
 exact hK _ _ (h v' w' hc hn)
def Tz.Wrote(b:Nat)(v:Value)(m:List UInt8)(w w':World):Prop:=∃v' gb,SameOut w w'/\w'.heap[b]? = some (.cells #[.pointer (some ⟨b,0,none⟩),v'] 97)/\(gb=none->v'=.slice none 0 0/\m=[]) /\
 (∀g,gb=some g->g≠b/\∃cap cur,RowOf w' 5 m v' g cap cur/\(g=w.heap.size\/∃cur0 n,w.heap[g]? = some (.cells cur0 5)/\cur0.size=cap/\v=.slice (some (at_ g 0)) n cap)) /\
 ∀k,k<w.heap.size->gb≠some k->k≠b->w'.heap[k]? = w.heap[k]?
theorem Tz.heap_set{w:World}{b i:Nat}{v:Value}{cs:Array Value}{t:TypeId}(h:w.heap[b]? = some (.cells cs t)):(w.setCell ⟨b,i,none⟩ v).heap[b]? = some (.cells (cs.setIfInBounds i v) t):=by
 simp[World.setCell,Array.getElem?_modify,h]
theorem Tz.heap_set_ne{w:World}{b i k:Nat}{v:Value}(h:k≠b):(w.setCell ⟨b,i,none⟩ v).heap[k]? = w.heap[k]?:=by
 simp[World.setCell,Array.getElem?_modify,h.symm]
theorem Tz.heap_set_size{w:World}{a:Addr}{v:Value}:(w.setCell a v).heap.size=w.heap.size:=by simp[World.setCell]
theorem Tz.writes(b:Nat)(p v:Value)(l:List UInt8)(s:ByteArray)(w:World)(hb:w.heap[b]? = some (.cells #[p,v] 97))(hp:p=.pointer none\/p=.pointer (some ⟨b,0,none⟩))(hB:BufM w 5 l v)(hbig:l.length+s.size<=2^40):
  Calls Tryz.prog 38 #[.pointer (some ⟨b,0,none⟩),.string s] w fun e w'=>e=.returned (.tuple #[.int .i64 s.size,.nilIface])/\Tz.Wrote b v (l++s.data.toList) w w':=by
 have hcc:Calls Tryz.prog 75 #[.pointer (some ⟨b,0,none⟩)] w fun e w'=>e=.returned (.tuple #[])/\w'.heap[b]? = some (.cells #[.pointer (some ⟨b,0,none⟩),v] 97)/\w'.heap.size=w.heap.size/\SameOut w w'/\∀k,k≠b->w'.heap[k]? = w.heap[k]?:=by
  rcases hp with rfl|rfl
  ·refine(Tz.cc_fresh b w (by simp[World.cell?,hb]) (by simp[World.shape?,hb]) (by simp[World.frozen?,hb])).mono ?_
   rintro e w' ⟨rfl,rfl⟩
   exact⟨rfl,by rw[Tz.heap_set hb];rfl,Tz.heap_set_size,⟨rfl,rfl,rfl,Nat.le_of_eq Tz.heap_set_size.symm⟩,fun k hk=>Tz.heap_set_ne hk⟩
  ·refine(Tz.cc_used b w (by simp[World.cell?,hb])).mono ?_
   rintro e w' ⟨rfl,rfl⟩
   exact⟨rfl,hb,rfl,⟨rfl,rfl,rfl,Nat.le_refl _⟩,fun _ _=>rfl⟩
 have Hcc:=Lib.hid hcc
 have Hbig:=Lib.hid hbig
 have HB:=Lib.hid hB
 have Hb:=Lib.hid hb
 have Hp:=Lib.hid hp
 clear hcc hbig hB hb hp
 go_enter Tryz.func38,Tryz.ntmps38
 go_wp2_with (go_at_call 75;refine Hcc.out.mono ?_)
 rintro e w1 ⟨rfl,h1,hs1,hc1,hk1⟩
 have hB:=HB.out
 have hb:=Hb.out
 have hbig:=Hbig.out
 have c1:w1.cell? ⟨b,1,none⟩=some v:=by simp[World.cell?,h1]
 have hB1:BufM w1 5 l v:=by
  rcases hB with hB|⟨g,cap,cur,r1,r2,r3⟩
  ·exact .inl hB
  ·refine .inr ⟨g,cap,cur,r1,?_,r3⟩
   rw[hk1 g (fun e=>by subst e;rw[hb]at r2;cases r2)]
   exact r2
 have HB1:=Lib.hid hB1
 have H1:=Lib.hid h1
 have Hs1:=Lib.hid hs1
 have Hc1:=Lib.hid hc1
 have Hk1:=Lib.hid hk1
 clear hB1 h1 hs1 hc1 hk1 hB hb hbig Hcc
 go_wp2_with (at_builtin;refine Tz.wp_append rfl _ _ rfl l _ rfl s rfl HB1.out Hbig.out ?_)
 intro v' w2 hc2 hn2
 have h1:=H1.out
 have hs1:=Hs1.out
 have hc1:=Hc1.out
 have hk1:=Hk1.out
 have hb:=Hb.out
 have hbl:b<w1.heap.size:=(Array.getElem?_eq_some_iff.1 h1).1
 obtain⟨gb,hg0,hg1,hg2⟩:∃gb:Option Nat,(gb=none->v'=.slice none 0 0/\l++s.data.toList=[]) /\
   (∀g,gb=some g->g≠b/\∃cap cur,RowOf w2 5 (l++s.data.toList) v' g cap cur/\(g=w.heap.size\/∃cur0 n,w.heap[g]? = some (.cells cur0 5)/\cur0.size=cap/\v=.slice (some (at_ g 0)) n cap)) /\
   ∀k,k<w1.heap.size->gb≠some k->w2.heap[k]? = w1.heap[k]?:=by
  rcases hn2 with⟨a1,a2,a3,a4⟩|⟨g,cap,cur,a1,a2,a3⟩
  ·exact⟨none,fun _=>⟨a1,a3⟩,fun g h=>(by cases h),fun k hk _=>a4 k hk⟩
  ·have hgb:g≠b:=by
    rcases a2 with rfl|⟨cur0,n,q,_⟩
    ·omega
    ·rintro rfl;rw[h1]at q;cases q
   refine⟨some g,fun h=>(by cases h),fun g' h=>?_,fun k hk hne=>a3 k hk (fun e=>hne (by rw[e]))⟩
   cases h
   refine⟨hgb,cap,cur,a1,?_⟩
   rcases a2 with rfl|⟨cur0,n,q,q2,q3⟩
   ·exact .inl hs1
   ·exact .inr ⟨cur0,n,by rw[<-hk1 g hgb];exact q,q2,q3⟩
 have hb2:w2.heap[b]? = some (.cells #[.pointer (some ⟨b,0,none⟩),v] 97):=by
  rw[hg2 b hbl (fun e=>(hg1 b e).1 rfl)];exact h1
 have d1:w2.cell? ⟨b,1,none⟩=some v:=by simp[World.cell?,hb2]
 have f1:w2.frozen? ⟨b,1,none⟩=false:=by simp[World.frozen?,hb2]
 obtain⟨ao,n',cap',hv'⟩:∃ao n' cap',v'=.slice ao n' cap':=by
  cases hgb:gb with
  |none=>exact⟨_,_,_,(hg0 hgb).1⟩
  |some g=>obtain⟨_,cap,cur,hr,_⟩:=hg1 g hgb;exact⟨_,_,_,hr.1⟩
 have hfin:Tz.Wrote b v (l++s.data.toList) w (w2.setCell ⟨b,1,none⟩ v'):=by
  refine⟨v',gb,⟨hc2.os.trans hc1.os,hc2.tape.trans hc1.tape,hc2.output.trans hc1.output,by rw[Tz.heap_set_size];exact Nat.le_trans hc1.size hc2.size⟩,by rw[Tz.heap_set hb2];rfl,hg0,fun g hg=>?_,fun k hk hne hkb=>?_⟩
  ·obtain⟨q1,cap,cur,⟨r1,r2,r3⟩,q2⟩:=hg1 g hg
   exact⟨q1,cap,cur,⟨r1,by rw[Tz.heap_set_ne q1];exact r2,r3⟩,q2⟩
  ·rw[Tz.heap_set_ne hkb,hg2 k (by omega) hne,hk1 k hkb]
 subst hv'
 have Hfin:=Lib.hid hfin
 clear hg0 hg1 hg2 hn2 hk1 hc1 hc2 hs1 h1 hb hb2 hfin hbl gb
 go_wp2
 go_ret2
 exact⟨rfl,Hfin.out⟩
theorem Tz.reads(b g cap:Nat)(p v:Value)(l:List UInt8)(cur:Array Value)(w:World)(hb:w.heap[b]? = some (.cells #[p,v] 97))(hr:RowOf w 5 l v g cap cur)(h63:l.length<=9223372036854775807):
  Calls Tryz.prog 41 #[.pointer (some ⟨b,0,none⟩)] w fun e w'=>e=.returned (.string ⟨l.toArray⟩)/\SameOut w w'/\w'.heap.size=w.heap.size/\∀k,k≠g->w'.heap[k]? = w.heap[k]?:=by
 obtain⟨rfl,hg,h0,hle,hcs,hcur⟩:=hr
 have hl:0<l.length:=List.length_pos_iff.2 h0
 have c1:w.drew.cell? ⟨b,1,none⟩=some (.slice (some ⟨g,0,none⟩) l.length cap):=by
  have:w.drew.heap[b]? = some (.cells #[p,.slice (some ⟨g,0,none⟩) l.length cap] 97):=hb
  simp[World.cell?,this]
 have hSD:(Builtin.unsafeSliceData_ #[95] 139 #[.slice (some ⟨g,0,none⟩) l.length cap]).run Tryz.prog w.drew=.ok (.pointer (some ⟨g,0,none⟩)) w.drew:=
  Lib.run_unsafeSliceData_row _ _ _ _ _ _ (by omega)
 have hwf:∀j x,l[j]? = some x->j<l.length:=fun j x h=>(List.getElem?_eq_some_iff.1 h).1
 have hUS:(Builtin.unsafeString_ #[139,3] 9 #[.pointer (some ⟨g,0,none⟩),.int .i64 l.length]).run Tryz.prog w.drew=.ok (.string ⟨l.toArray⟩) (w.drew.freeze ⟨g,0,none⟩ l.length):=by
  refine Lib.run_unsafeString_row w.drew 139 3 9 5 Tryz.underlying139 (by kernel_rfl) g cur.size (by have hg':w.drew.heap[g]? = some (.cells cur 5):=hg;simp[World.shape?,hg']) l h0 (by omega) h63 ?_
  intro j x hx
  have hj:=hcur j x hx
  have hg':w.drew.heap[g]? = some (.cells cur 5):=hg
  have ha:(⟨g,0,none⟩:Addr).add j=⟨g,j,none⟩:=by rw[at_add,Nat.zero_add]
  rw[ha]
  simp[World.cell?,hg',hj]
 have hfin:SameOut w (w.drew.freeze ⟨g,0,none⟩ l.length)/\(w.drew.freeze ⟨g,0,none⟩ l.length).heap.size=w.heap.size/\∀k,k≠g->(w.drew.freeze ⟨g,0,none⟩ l.length).heap[k]? = w.heap[k]?:=by
  have hne:¬l.length=0:=by omega
  have hsz:(w.drew.freeze ⟨g,0,none⟩ l.length).heap.size=w.heap.size:=by simp[World.freeze,hne]
  refine⟨⟨?_,?_,?_,Nat.le_of_eq hsz.symm⟩,hsz,fun k hk=>?_⟩
  ·simp[World.freeze,hne];rfl
  ·simp[World.freeze,hne]
  ·simp[World.freeze,hne];rfl
  ·simp only[World.freeze,hne,if_false]
   rw[Array.getElem?_modify,if_neg (fun e=>hk e.symm)]
   rfl
 have Hfin:=Lib.hid hfin
 clear hfin hcur hwf hcs hg hb h0
 go_enter Tryz.func41,Tryz.ntmps41
 go_wp2
 go_region
 all_goals (go_wp2;go_ret;exact⟨rfl,Hfin.out⟩)
theorem Tz.reads0(b:Nat)(p:Value)(w:World)(hb:w.heap[b]? = some (.cells #[p,.slice none 0 0] 97)):
  Calls Tryz.prog 41 #[.pointer (some ⟨b,0,none⟩)] w fun e w'=>e=.returned (.string .empty)/\w.grownBy w' none:=by
 have c1:w.drew.cell? ⟨b,1,none⟩=some (.slice none 0 0):=by
  have:w.drew.heap[b]? = some (.cells #[p,.slice none 0 0] 97):=hb
  simp[World.cell?,this]
 have hSD:(Builtin.unsafeSliceData_ #[95] 139 #[.slice none 0 0]).run Tryz.prog w.drew=.ok (.pointer none) w.drew:=Lib.run_unsafeSliceData_nil _ _ _ _ _
 have hUS:(Builtin.unsafeString_ #[139,3] 9 #[.pointer none,.int .i64 0]).run Tryz.prog w.drew=.ok (.string .empty) w.drew:=Lib.run_unsafeString_none _ _ _ _ _
 have hfin:w.grownBy w.drew none:=⟨rfl,rfl,rfl,Nat.le_refl _,fun _ _ _=>rfl⟩
 have Hfin:=Lib.hid hfin
 clear hfin hb
 go_enter Tryz.func41,Tryz.ntmps41
 go_wp2
 go_region
 all_goals (go_wp2;go_ret;exact⟨rfl,Hfin.out⟩)
end Go.Proofs
namespace Go.Abs.Tz
open Go Go.Abs Go.Proofs
theorem args2{G:Ghost}{w:World}{a b:LV}{us:Array Value}(h:ArgsR G w [a,b] us):∃u v,us=#[u,v]/\VR G w a u/\VR G w b v:=by
 obtain⟨h1,h2⟩:=h
 have h3:=h2 0 a rfl
 have h4:=h2 1 b rfl
 refine⟨_,_,?_,h3,h4⟩
 apply Array.ext
 ·rw[h1];rfl
 ·intro i hi1 hi2
  match i,hi2 with
  |0,_=>simp[Array.getD,h1]
  |1,_=>simp[Array.getD,h1]
theorem args1{G:Ghost}{w:World}{a:LV}{us:Array Value}(h:ArgsR G w [a] us):∃u,us=#[u]/\VR G w a u:=by
 obtain⟨h1,h2⟩:=h
 have h3:=h2 0 a rfl
 refine⟨_,?_,h3⟩
 apply Array.ext
 ·rw[h1];rfl
 ·intro i hi1 hi2
  match i,hi2 with
  |0,_=>simp[Array.getD,h1]
theorem enters_T(f:FuncId){b:BFn}(h:certB Tryz.prog f=some b):Enters Tryz.prog f:=by
 obtain⟨fn,h1,h2,h3⟩:=fnsT.fn f b h
 obtain⟨c,h4,_⟩:=cFn_inv h2
 exact⟨fn,h1,by rw[h4];rfl,h3⟩
theorem t_write{H:LHeap}{o:Nat}{l:List UInt8}(s:ByteArray)(hl:look o H.objs=some (.bld 97 5 l))(hbig:l.length+s.size<=2^40){kv kp:HP}
  (hk:kv (.tup [.int s.size,.sc .nilIface]) (H.put o (.bld 97 5 (l++s.data.toList)))):cP E0 F0 38 [.ptr o 0,.str s] H kv kp:=by
 intro hH
 refine .prim ⟨enters_T _ c38,fun G w us hI hE ha=>?_⟩
 obtain⟨u,v,rfl,hu,hv⟩:=args2 ha
 obtain⟨ho,rfl⟩:=hu.ptr_inv
 obtain rfl:=hv.sc_inv
 obtain⟨_,p,v,h1,h2,h3,h4,h5⟩:=hI.objs o _ hl
 have hB:BufM w 5 l v:=by
  rcases h5 with h5|⟨g,cap,cur,q1,q2,_,_,_,q3⟩
  ·exact .inl h5
  ·exact .inr ⟨g,cap,cur,q1,q2,q3⟩
 refine(Tz.writes (G.loc o) p v l s w h1 h4 hB hbig).mono fun e w' hp=>?_
 obtain⟨rfl,v',gb,hc,hb',hg0,hg1,hrow⟩:=hp
 obtain⟨G',hx,hI',hn⟩:=Inv.bld_write hI hl hc gb ⟨p,h1⟩ hb' hg0 hg1 hrow
 refine⟨_,_,G',.inl ⟨_,_,rfl,Desc.put hH,hk⟩,.tup rfl fun i c hi=>?_,hI',hx⟩
 match i,hi with
 |0,hi=>simp at hi;subst hi;exact .sc _
 |1,hi=>simp at hi;subst hi;exact .sc _
 |i+2,hi=>simp at hi
theorem t_read{H:LHeap}{o:Nat}{l:List UInt8}(hl:look o H.objs=some (.bld 97 5 l))(h0:l≠[])(hbig:l.length<=2^40){kv kp:HP}
  (hk:kv (.str ⟨l.toArray⟩) (H.del o)):cP E0 F0 41 [.ptr o 0] H kv kp:=by
 intro hH
 refine .prim ⟨enters_T _ c41,fun G w us hI hE ha=>?_⟩
 obtain⟨u,rfl,hu⟩:=args1 ha
 obtain⟨ho,rfl⟩:=hu.ptr_inv
 obtain⟨_,p,v,h1,h2,h3,h4,h5⟩:=hI.objs o _ hl
 rcases h5 with⟨_,h5⟩|⟨g,cap,cur,q1,q2,_,_,_,q3⟩
 ·exact absurd h5 h0
 refine(Tz.reads (G.loc o) g cap p v l cur w h1 ⟨q1,q2,q3⟩ (by omega)).mono fun e w' hp=>?_
 obtain⟨rfl,hc,hs,hrow⟩:=hp
 subst q1
 obtain⟨hx,hI'⟩:=Inv.bld_read hI hl hc hs h1 hrow
 exact⟨_,_,G,.inl ⟨_,_,rfl,Desc.del hH,hk⟩,.sc _,hI',hx⟩
theorem t_read0{H:LHeap}{o:Nat}(hl:look o H.objs=some (.bld 97 5 [])){kv kp:HP}(hk:kv (.str ⟨⟨[]⟩⟩) H):cP E0 F0 41 [.ptr o 0] H kv kp:=by
 intro hH
 refine .prim ⟨enters_T _ c41,fun G w us hI hE ha=>?_⟩
 obtain⟨u,rfl,hu⟩:=args1 ha
 obtain⟨ho,rfl⟩:=hu.ptr_inv
 obtain⟨_,p,v,h1,h2,h3,h4,h5⟩:=hI.objs o _ hl
 have hv:v=.slice none 0 0:=by
  rcases h5 with⟨h5,_⟩|⟨g,cap,cur,q1,q2,_,_,_,q3,_⟩
  ·exact h5
  ·exact absurd rfl q3
 subst hv
 refine(Tz.reads0 (G.loc o) p w h1).mono fun e w' hp=>?_
 obtain⟨rfl,hg⟩:=hp
 obtain⟨hx,hI'⟩:=hI.grown hg
 exact⟨_,_,G,.inl ⟨_,_,rfl,hH,hk⟩,.sc _,hI',hx⟩
end Go.Abs.Tz
namespace Go.Abs.Tz
open Go Go.Abs Go.Proofs
noncomputable def forceL(l:List UInt8):(List UInt8->Bool)->Bool:=@List.rec UInt8 (fun _=>(List UInt8->Bool)->Bool) (fun k=>k []) (fun b _ ih k=>ih fun t=>k (b::t)) l
theorem forceL_eq(l:List UInt8)(k:List UInt8->Bool):forceL l k=k l:=by
 induction l generalizing k with
 |nil=>rfl
 |cons b l ih=>exact ih _
noncomputable def lenF(l:List UInt8):(Nat->Bool)->Bool:=@List.rec UInt8 (fun _=>(Nat->Bool)->Bool) (fun k=>k 0) (fun _ _ ih k=>ih fun n=>forceN (Nat.succ n) k) l
theorem lenF_eq(l:List UInt8)(k:Nat->Bool):lenF l k=k l.length:=by
 induction l generalizing k with
 |nil=>rfl
 |cons b l ih=>
  show lenF l (fun n=>forceN (Nat.succ n) k)=_
  rw[ih,forceN_eq];rfl
noncomputable def primWrite:PrimF:=fun args H kv _=>match args with
 |[.ptr o j,.sc (.string s)]=>(match look o H.objs with
  |some (.bld tb te l)=>whenB (Nat.beq j 0) (whenB (Nat.beq tb 97) (whenB (Nat.beq te 5) (lenF l fun n=>lenF s.data.toList fun m=>whenB (Nat.ble (Nat.add n m) 1099511627776)
    (forceL (l++s.data.toList) fun l'=>kv (.tup [.sc (.int .i64 (Int.ofNat m)),.sc .nilIface]) (H.put o (.bld tb te l'))))))
  |_=>false)
 |_=>false
theorem primWrite_ok{args:List LV}{H:LHeap}{kv kp:HK}(hH:H.Ok)(h:primWrite args H kv kp=true):Out E0 F0 (.call 38 args H) (CS kv kp):=by
 unfold primWrite at h
 split at h
 ·rename_i o j s
  split at h
  ·rename_i tb te l hl
   obtain⟨h1,h⟩:=whenB_spec h
   obtain⟨h2,h⟩:=whenB_spec h
   obtain⟨h3,h⟩:=whenB_spec h
   rw[lenF_eq,lenF_eq]at h
   obtain⟨h4,hk⟩:=whenB_spec h
   rw[forceL_eq]at hk
   obtain rfl:=Nat.eq_of_beq_eq_true h1
   obtain rfl:=Nat.eq_of_beq_eq_true h2
   obtain rfl:=Nat.eq_of_beq_eq_true h3
   have h4:=Nat.le_of_ble_eq_true h4
   have hs:s.data.toList.length=s.size:=rfl
   refine prim_of (t_write s hl (by rw[<-hs];exact h4) ?_) hH
   rw[<-hs];exact hk
  ·cases h
 ·cases h
noncomputable def primRead:PrimF:=fun args H kv _=>match args with
 |[.ptr o j]=>(match look o H.objs with
  |some (.bld tb te l)=>whenB (Nat.beq j 0) (whenB (Nat.beq tb 97) (whenB (Nat.beq te 5) (lenF l fun n=>whenB (Nat.ble 1 n) (whenB (Nat.ble n 1099511627776) (kv (.sc (.string ⟨⟨l⟩⟩)) (H.del o))))))
  |_=>false)
 |_=>false
theorem primRead_ok{args:List LV}{H:LHeap}{kv kp:HK}(hH:H.Ok)(h:primRead args H kv kp=true):Out E0 F0 (.call 41 args H) (CS kv kp):=by
 unfold primRead at h
 split at h
 ·rename_i o j
  split at h
  ·rename_i tb te l hl
   obtain⟨h1,h⟩:=whenB_spec h
   obtain⟨h2,h⟩:=whenB_spec h
   obtain⟨h3,h⟩:=whenB_spec h
   rw[lenF_eq]at h
   obtain⟨h4,h⟩:=whenB_spec h
   obtain⟨h5,hk⟩:=whenB_spec h
   obtain rfl:=Nat.eq_of_beq_eq_true h1
   obtain rfl:=Nat.eq_of_beq_eq_true h2
   obtain rfl:=Nat.eq_of_beq_eq_true h3
   have h4:=Nat.le_of_ble_eq_true h4
   exact prim_of (t_read hl (fun e=>by rw[e]at h4;simp at h4) (Nat.le_of_ble_eq_true h5) hk) hH
  ·cases h
 ·cases h
noncomputable def prim4(f:FuncId):Option PrimF:=match f with
 |38=>some primWrite
 |41=>some primRead
 |f=>prim3 f
noncomputable def C5:Cfg:=⟨E0,lookT tabL,prim4,C3.rng⟩
theorem C5_ok:CfgOk C5 F0:=⟨C3_ok.tab,fun f p h args H kv kp hH hp=>by
 simp only[C5,prim4]at h
 split at h
 ·cases h;exact primWrite_ok hH hp
 ·cases h;exact primRead_ok hH hp
 ·exact C4_ok.prim _ _ h _ _ _ _ hH hp,C3_ok.rng⟩
end Go.Abs.Tz
namespace Go.Abs.Tz
open Go Go.Abs Go.Proofs
set_option maxRecDepth 20000
set_option linter.unusedSimpArgs false
attribute [local simp ↓] getP_nil getP_node setP_nil setP_node oneP_eq vP_map vP_some vP_none vP_bind eP_some bP_true bP_false gP_yes gP_tf gP_ft gP_tup runP_skip runP_ops runP_drw runP_seq runP_cond runP_blk runP_loop runP_exit runP_ret seqK_n seqK_r seqK_e seqK_p blkK_n blkK_r blkK_e blkK_p loopK_n loopK_r loopK_e loopK_p finK_n finK_r finK_p resP_one resP_two resP_three resP_nil resP_c nxP_nil argsP_nil argsP_cons evP_t evP_c evP_g evsP_nil evsP_cons clP_fn clP_yld clfP_fn pnP_i opsP_nil opsP_d opsP_x opsP_gt opsP_gf opP_cf opP_cl opP_pn opP_nx valP_mv valP_pk valP_eq valP_bn valP_nt valP_ld valP_fa valP_fd valP_ia valP_ix valP_ln valP_srn valP_srl valP_srh valP_srb valP_cv valP_mi valP_mf valP_xt valP_bs valP_bd valP_nc valP_mn valP_lk valP_ta opP_mv opP_pk opP_eq opP_bn opP_nt opP_ld opP_fa opP_fd opP_ia opP_ix opP_ln opP_sr opP_cv opP_mi opP_mf opP_xt opP_bs opP_bd opP_nc opP_mn opP_lk opP_ta opP_al opP_bx opP_st opP_ap opP_mk opP_nb opP_mu opP_rg opP_en pendP_nil pendP_d pendP_g drwP_nil drwP_d drwP_x drwP_gt drwP_gf look_self natOf_nat
attribute [local simp] faL fdL iaL ixL loadL partL lenL eqK eqL natOf eqB_s eqB_i eqB_b bn_add bn_sub bn_lss bn_leq bn_gtr bn_geq bn_adds bn_lsss bn_gtrs bn_leqs bn_geqs sliceL LV.cells LV.whole look_self put_self putO_self put_eq stL fillL termC dopP LHeap.alloc oneI oneS oneB nth0 nth1 nth2 nth3 nth4 nth5 nth6 nth7 nth8 nth9 look_ne putO_ne
theorem strSort(A:List Strat)(m:Nat)(ob:List (Nat×LObj))(hA:A.length<=12):
  lP E0 F0 s17 (.nd .bot .nil (.nd .bot .nil (.nd (.asl m 0 A.length) .nil .nil))) ⟨(m,arrS A)::ob,m+1⟩ (fun e t' H'=>e=.normal/\FT.Le (.nd .bot .nil (.nd .bot .nil (.nd (.asl m 0 A.length) .nil .nil))) t'/\HWk H' ⟨(m,arrS (isortN ltS (A.length - 1) 1 A))::ob,m+1⟩/\(H'.Ok->LHeap.Ok ⟨(m,arrS (isortN ltS (A.length - 1) 1 A))::ob,m+1⟩)):=by
 refine lP_of_run ?_
 simp(disch:=omega)[s17,b21]
 refine t_sortS A m ((m,arrS A)::ob) (m+1) (by simp[look]) hA ?_
 simp[FT.Le,Wk,putO,HWk.refl]
def blF:List UInt8->List UInt8->Bool
 |_,[]=>false
 |[],_::_=>true
 |a::x,b::y=>match Nat.blt a.toNat b.toNat with
  |true=>true
  |false=>match Nat.beq a.toNat b.toNat with
   |true=>blF x y
   |false=>false
theorem blF_eq:∀x y:List UInt8,blF x y=Op.bytesLess x y
 |[],[]=>rfl
 |_::_,[]=>rfl
 |[],_::_=>rfl
 |a::x,b::y=>by
  unfold blF Op.bytesLess
  rw[<-blF_eq x y]
  by_cases h:a.toNat<b.toNat
  ·have h1:Nat.blt a.toNat b.toNat=true:=by simpa [Nat.blt_eq] using h
   have h2:a<b:=UInt8.lt_iff_toNat_lt.2 h
   rw[h1];simp[h2]
  ·have h1:Nat.blt a.toNat b.toNat=false:=by
    cases hb:Nat.blt a.toNat b.toNat with
    |false=>rfl
    |true=>exact absurd (by simpa [Nat.blt_eq] using hb) h
   have h2:¬a<b:=fun e=>h (UInt8.lt_iff_toNat_lt.1 e)
   rw[h1]
   by_cases he:a=b
   ·subst he;simp[h2]
   ·have h3:Nat.beq a.toNat b.toNat=false:=by
     cases hb:Nat.beq a.toNat b.toNat with
     |false=>rfl
     |true=>exact absurd (UInt8.toNat_inj.1 (Nat.eq_of_beq_eq_true hb)) he
    rw[h3];simp[h2,he]
def ltK(x y:Strat):Bool:=match blF x.pred.data.toList y.pred.data.toList with
 |true=>true
 |false=>match bEq x.pred.data.toList y.pred.data.toList with
  |true=>ltF x.args y.args
  |false=>false
theorem ltK_eq:ltK=ltS:=by
 funext x y
 rw[Bool.eq_iff_iff,ltS_iff]
 unfold ltK keyLt
 have e1:blF x.pred.data.toList y.pred.data.toList=lessB x.pred y.pred:=by rw[blF_eq,lessB_eq,ByteArray.toList_eq,ByteArray.toList_eq]
 have e2:bEq x.pred.data.toList y.pred.data.toList=true↔x.pred=y.pred:=by
  rw[bEq_eq,beq_iff_eq]
  constructor
  ·intro h;exact toList_inj (by rw[ByteArray.toList_eq,ByteArray.toList_eq];exact h)
  ·intro h;rw[h]
 rw[e1]
 cases h:lessB x.pred y.pred with
 |true=>simp
 |false=>
  cases h2:bEq x.pred.data.toList y.pred.data.toList with
  |true=>simp[e2.1 h2,ltF_eq]
  |false=>
   have:¬x.pred=y.pred:=fun e=>by rw[e2.2 e]at h2;cases h2
   simp[this]
def decSt:List (LV×LV)->Option (List Strat)
 |[]=>some []
 |(.agg [p,a],v)::r=>match decS p,decI a,decI v,decSt r with
  |some p,some a,some n,some l=>some (⟨p,a,n⟩::l)
  |_,_,_,_=>none
 |_::_=>none
theorem decSt_ok:∀{l:List (LV×LV)}{A:List Strat},decSt l=some A->l=A.map entS
 |[],A,h=>by cases h;rfl
 |(.agg [p,a],v)::r,A,h=>by
  unfold decSt at h;split at h
  ·rename_i h1 h2 h3 h4
   cases h
   rw[decS_ok h1,decI_ok h2,decI_ok h3,decSt_ok h4];rfl
  ·cases h
 |(.sc _,_)::_,_,h|(.tup _,_)::_,_,h|(.sl _ _,_)::_,_,h|(.asl _ _ _,_)::_,_,h|(.ptr _ _,_)::_,_,h|(.cptr _ _,_)::_,_,h|(.map _,_)::_,_,h|(.fn _ _ _,_)::_,_,h|(.iface _ _,_)::_,_,h|(.bot,_)::_,_,h=>by simp[decSt]at h
 |(.agg [],_)::_,_,h|(.agg [_],_)::_,_,h|(.agg (_::_::_::_),_)::_,_,h=>by simp[decSt]at h
def distS:List Strat->Bool
 |[]=>true
 |x::r=>match r.all fun y=>match ltK x y with|true=>true|false=>ltK y x with
  |true=>distS r
  |false=>false
theorem distS_ok:∀{A:List Strat},distS A=true->A.Pairwise fun x y=>ltS x y=true\/ltS y x=true
 |[],_=>.nil
 |x::r,h=>by
  unfold distS at h
  split at h
  ·rename_i h1
   refine List.pairwise_cons.2 ⟨fun y hy=>?_,distS_ok h⟩
   have:=List.all_eq_true.1 h1 y hy
   rw[ltK_eq]at this
   split at this
   ·rename_i h2;exact .inl h2
   ·exact .inr this
  ·cases h
noncomputable def forceS(A:List Strat):(List LV->Bool)->Bool:=@List.rec Strat (fun _=>(List LV->Bool)->Bool) (fun k=>k [])
 (fun x _ ih k=>ih fun t=>@Strat.rec (fun _=>Bool) (fun p a l=>forceI a fun a=>forceI l fun l=>k (.sc (.string p)::.sc (.int .i64 a)::.sc (.int .i64 l)::t)) x) A
theorem forceS_eq(A:List Strat)(k:List LV->Bool):forceS A k=k (A.flatMap stratC):=by
 induction A generalizing k with
 |nil=>rfl
 |cons x A ih=>
  obtain⟨p,a,l⟩:=x
  show forceS A (fun t=>forceI a fun a=>forceI l fun l=>k (.sc (.string p)::.sc (.int .i64 a)::.sc (.int .i64 l)::t))=_
  rw[ih,forceI_eq,forceI_eq]
  rfl
def p17(k:Nat):BCode:=match k,b21.body with
 |0,.seq x _=>x
 |1,.seq _ (.seq x _)=>x
 |2,.seq _ (.seq _ (.seq x _))=>x
 |3,.seq _ (.seq _ (.seq _ (.seq x _)))=>x
 |_,_=>.bad
theorem body17:b21.body=.seq (p17 0) (.seq (p17 1) (.seq (p17 2) (.seq (p17 3) (.seq l17 (.seq s17 r17))))):=rfl
noncomputable def i17:FnI:=⟨b21,6,false,false,true⟩
def isNl(v:LV):Bool:=match v with
 |.sl [] .full=>true
 |_=>false
theorem isNl_spec{v:LV}(h:isNl v=true):v=.sl [] .full:=by
 unfold isNl at h;split at h
 ·rfl
 ·cases h
noncomputable def run17(C:Cfg)(n:Nat):CodeF:=fun t H k=>
 match t.get 4 with
 |.map o=>(match look o H.objs with
  |some (.map es)=>isOk (decSt es) fun A0=>forceN A0.length fun c=>whenB (Nat.ble 1 c) (whenB (Nat.ble c 12) (whenB (isNl (t.get 6)) (whenB (distS A0)
    (forceS (isortN ltK (Nat.sub c 1) 1 A0) fun B=>forceN (H.next+2*c) fun m=>(FT.full 6).setK 6 (.asl m 0 c) fun t1=>evalC C n false r17 t1 ⟨(m,.arr 3 B)::H.objs,m+1⟩ k))))
  |_=>false)
 |_=>false
theorem run17_ok{C:Cfg}(hE:C.E=E0)(hC:CfgOk C F0)(n:Nat):CodeFOk C.E F0 (.seq l17 (.seq s17 r17)) (run17 C n):=by
 intro t H k hH h
 unfold run17 at h
 split at h
 ·rename_i o h4
  split at h
  ·rename_i es hes
   obtain⟨A0,hd,h⟩:=isOk_spec h
   rw[forceN_eq]at h
   obtain⟨hc1,h⟩:=whenB_spec h
   obtain⟨hc2,h⟩:=whenB_spec h
   obtain⟨h6,h⟩:=whenB_spec h
   obtain⟨hdist,h⟩:=whenB_spec h
   rw[forceS_eq,forceN_eq,ltK_eq]at h
   obtain⟨t1,h,e1⟩:=FT.setK_spec h
   rw[FT.full_get]at e1
   have hc1:=Nat.le_of_ble_eq_true hc1
   have hc2:=Nat.le_of_ble_eq_true hc2
   have h6:=isNl_spec h6
   rw[decSt_ok hd]at hes
   have hml:=strLoop o A0 H hes (by omega) hH
   have fr6:∀x:LV,((.nd .bot .nil (.nd .bot .nil (.nd (x) .nil .nil))):FT).get=upd (fun _=>.bot) 6 x:=by
    intro x
    rw[<-FT.one_get 6 x]
    simp[FT.one]
   have fr46:((.nd .bot .nil (.nd .bot (.nd (.map o) .nil .nil) (.nd (.sl [] .full) .nil .nil))):FT).get=upd (upd (fun _=>.bot) 4 (.map o)) 6 (.sl [] .full):=by
    rw[<-FT.one_get 4 (.map o),<-FT.set_get]
    simp[FT.set,FT.one]
   rw[hE]
   refine .seq (.weak (fun l=>(by simp[l17,b21])) (fun j=>?_) ⟨Nat.le_refl _,fun _ _ h=>h⟩ hml) (fun fr' df H' hT=>?_) (fun e fr' df H' hT hne=>?_)
   ·rw[fr46]
    simp only[upd]
    by_cases hj6:j=6
    ·subst hj6;exact .inl (by rw[if_pos rfl,h6])
    ·rw[if_neg hj6]
     by_cases hj4:j=4
     ·subst hj4;exact .inl (by rw[if_pos rfl,h4])
     ·rw[if_neg hj4];exact .inr (.inr rfl)
   ·obtain⟨e,t',H'',he,hok,hn,A,hA,hle,hwk,hok'⟩:=hT
    cases he
    have hlen:=hA.length_eq
    have hne:A≠[]:=by
     rintro rfl
     simp at hlen;omega
    rw[v6_ne hne]at hle
    rw[hpS_ne hne]at hwk hok'
    have hss:=strSort A (H.next+2*A.length) H.objs (by omega) (hok' hok)
    refine .weak (fun l=>(by simp)) hle.fwk hwk (.seq hss (fun fr2 df2 H2 hT2=>?_) (fun e fr2 df2 H2 hT2 hne2=>?_))
    ·obtain⟨e,t2,H2',he,hok2,hn2,hle2,hwk2,hok2'⟩:=hT2
     cases he
     rw[sorted_one hA (distS_ok hdist),hlen]at hwk2 hok2'
     have hb:=evalC_ok hC n false r17 t1 _ k (hok2' hok2) h
     rw[hE,e1,<-fr6]at hb
     rw[hlen]at hle2
     exact .weak (fun l=>(by simp[r17,b21])) hle2.fwk hwk2 hb
    ·obtain⟨e',t2,H2',he,hok2,hn2,_⟩:=hT2
     cases he
     exact absurd hn2 hne2
   ·obtain⟨e',t',H'',he,hok,hn,_⟩:=hT
    cases he
    exact absurd hn hne
  ·cases h
 ·cases h
noncomputable def prim17(C:Cfg)(n:Nat):PrimF:=fun args H kv kp=>
 enterF (fun _ _=>cSeq (evalC C n false (p17 0)) (cSeq (evalC C n false (p17 1)) (cSeq (evalC C n false (p17 2)) (cSeq (evalC C n false (p17 3)) (run17 C n))))) i17 args H kv kp
theorem prim17_ok{C:Cfg}(hE:C.E=E0)(hC:CfgOk C F0)(n:Nat){args:List LV}{H:LHeap}{kv kp:HK}(hH:H.Ok)(h:prim17 C n args H kv kp=true):Out C.E F0 (.call 21 args H) (CS kv kp):=by
 refine enterF_ok (C:=C) (i:=i17) ?_ (show F0.fn _ _ from c21) hH h
 show CodeFOk C.E F0 b21.body _
 rw[body17]
 exact(evalC_ok hC n false _).seq ((evalC_ok hC n false _).seq ((evalC_ok hC n false _).seq ((evalC_ok hC n false _).seq (run17_ok hE hC n))))
noncomputable def prim5(f:FuncId):Option PrimF:=match f with
 |21=>some (prim17 C5 1000000)
 |f=>prim4 f
noncomputable def C6:Cfg:=⟨E0,lookT tabL,prim5,C3.rng⟩
theorem C6_ok:CfgOk C6 F0:=⟨C3_ok.tab,fun f p h args H kv kp hH hp=>by
 simp only[C6,prim5]at h
 split at h
 ·cases h;exact prim17_ok rfl C5_ok _ hH hp
 ·exact C5_ok.prim _ _ h _ _ _ _ hH hp,C3_ok.rng⟩
end Go.Abs.Tz
namespace Go.Abs
open Go
mutual
def belB:LV->Bool
 |.sc _=>true
 |.agg cs=>belBs cs
 |.tup cs=>belBs cs
 |.sl es .no=>belBs es
 |_=>false
def belBs:List LV->Bool
 |[]=>true
 |v::r=>match belB v with
  |true=>belBs r
  |false=>false
end
theorem bel_cells{n:Nat}{e:LV}(h:Bel n e)(j:Nat)(c:LV)(hc:e.cells[j]? = some c):Bel n c:=by
 have one:e.cells=[e]->Bel n c:=by
  intro he
  rw[he]at hc
  cases j with
  |zero=>simp at hc;subst hc;exact h
  |succ j=>simp at hc
 cases e with
 |agg cs=>cases h with|agg h=>exact h j c hc
 |_=>exact one rfl
mutual
theorem belB_ok:∀{v:LV},belB v=true->Bel 0 v
 |.sc _,_=>.sc _
 |.agg cs,h=>.agg fun i c hc=>belBs_ok (l:=cs) (by rw[belB]at h;exact h) i c hc
 |.tup cs,h=>.tup fun i c hc=>belBs_ok (l:=cs) (by rw[belB]at h;exact h) i c hc
 |.sl es .no,h=>.sl (fun i e j c he hc=>bel_cells (belBs_ok (l:=es) (by rw[belB]at h;exact h) i e he) j c hc) (fun t ht=>by cases ht)
 |.sl _ .full,h|.sl _ (.tok _),h|.asl _ _ _,h|.ptr _ _,h|.cptr _ _,h|.map _,h|.fn _ _ _,h|.iface _ _,h|.bot,h=>by simp[belB]at h
theorem belBs_ok:∀{l:List LV},belBs l=true->∀(i:Nat)(c:LV),l[i]? = some c->Bel 0 c
 |[],_,i,c,hc=>by simp at hc
 |v::r,h,i,c,hc=>by
  rw[belBs]at h
  split at h
  ·rename_i hv
   cases i with
   |zero=>simp at hc;subst hc;exact belB_ok hv
   |succ i=>exact belBs_ok h i c (by simpa using hc)
  ·cases h
end
theorem VR.cl0{G G':Ghost}{w:World}{x:LV}{v:Value}(hcl:∀b y,G.Cl b y->G'.Cl b y)(h:VR G w x v):Bel 0 x->VR G' w x v:=by
 induction h with
 |sc v=>exact fun _=>.sc v
 |bot v=>exact fun _=>.bot v
 |agg hs _ h1 ih=>intro hb;cases hb with|agg hb=>exact .agg hs (fun i c hc=>ih i c hc (hb i c hc)) h1
 |tup hs _ ih=>intro hb;cases hb with|tup hb=>exact .tup hs (fun i c hc=>ih i c hc (hb i c hc))
 |@sl es own b off sz cap xs hc hz hx _ ho ih=>
  intro hb
  cases hb with
  |sl hb ho'=>
   refine .sl hc hz (fun i e j c h1 h2=>⟨hcl _ _ (hx i e j c h1 h2).1,(hx i e j c h1 h2).2⟩) (fun i e j c h1 h2=>ih i e j c h1 h2 (hb i e j c h1 h2)) ?_
   cases own with
   |no=>exact trivial
   |full=>exact ho
   |tok t=>exact absurd (ho' t rfl) (by omega)
 |@sln own ho=>
  intro hb
  cases hb with
  |sl _ ho'=>
   refine .sln ?_
   cases own with
   |no=>exact trivial
   |full=>exact ho
   |tok t=>exact absurd (ho' t rfl) (by omega)
 |sle a=>exact fun _=>.sle a
 |asl ho hl hc=>intro hb;cases hb with|asl hb=>exact absurd hb (by omega)
 |ptr ho=>intro hb;cases hb with|ptr hb=>exact absurd hb (by omega)
 |cptr hx _ ih=>intro hb;cases hb with|cptr hb=>exact .cptr (fun j c h=>⟨hcl _ _ (hx j c h).1,(hx j c h).2⟩) (fun j c h=>ih j c h (hb j c h))
 |map ho=>intro hb;cases hb with|map hb=>exact absurd hb (by omega)
 |@fn f a c us vs hf h1 h2 _ _ ih1 ih2=>
  intro hb
  cases hb with
  |fn hbf hb1 hb2=>
   have e:fnW G f=fnW G' f:=by
    cases f<;>first|rfl|exact absurd hbf (by simp[fnOk])
   rw[e]
   refine .fn ?_ h1 h2 (fun i x h=>ih1 i x h (hb1 i x h)) (fun i x h=>ih2 i x h (hb2 i x h))
   cases f<;>first|trivial|exact absurd hbf (by simp[fnOk])
 |iface _ ih=>intro hb;cases hb with|iface hb=>exact .iface (ih hb)
def Ghost.clean(G:Ghost)(own:Nat->Nat->Lab)(n:Nat):Ghost:=⟨G.B,n,G.loc,G.asz,G.tk,fun b x=>match own b x with
 |.cl=>.cl
 |_=>.free,G.rc⟩
theorem Ghost.clean_cl{G:Ghost}{own:Nat->Nat->Lab}{n b x:Nat}(h:own b x=.cl):(G.clean own n).own b x=.cl:=by simp only[Ghost.clean,h]
theorem Ghost.clean_free{G:Ghost}{own:Nat->Nat->Lab}{n b x:Nat}(h:own b x=.free):(G.clean own n).own b x=.free:=by simp only[Ghost.clean,h]
theorem CallOk.home{P:Program}{E:Env}{f:FuncId}{args:List LV}{v:LV}{S:Res->Prop}(hg:∀g,E.glob g=.bot)(h:CallOk P E f args ⟨[],1⟩ fun r=>∃v' H',r=.ret v' H'/\v'.strip=v)
  (hb:Bel 0 v) (hba:∀(i:Nat)(x:LV),args[i]? = some x->Bel 0 x) (m:Nat) (hS:S (.ret v ⟨[],m⟩)):CallOk P E f args ⟨[],m⟩ S:=by
 refine⟨h.1,fun G w us hI hE ha=>?_⟩
 have hI0:Inv (G.clean G.own 0) w ⟨[],1⟩:=
  ⟨Nat.zero_le _,hI.hB,fun b x hh=>Ghost.clean_free (hI.free b x hh),fun b x hh=>Ghost.clean_free (hI.old b x hh),fun o x hx=>by simp[look]at hx⟩
 have hE0:EnvR E (G.clean G.own 0) w:=⟨fun g=>by rw[hg];exact .bot _,hE.rc,hE.fix⟩
 have ha0:ArgsR (G.clean G.own 0) w args us:=⟨ha.1,fun i x hi=>VR.cl0 (G:=G) (G':=G.clean G.own 0) (fun b y hc=>Or.imp (fun h=>h) (fun h=>Ghost.clean_cl h) (show G.B b=some true\/G.own b y=.cl from hc)) (ha.2 i x hi) (hba i x hi)⟩
 refine(h.2 _ w us hI0 hE0 ha0).mono fun e w' hp=>?_
 cases e with
 |outgrown=>exact hp.elim
 |panicked ch=>
  obtain⟨_,_,_,_,⟨_,_,hn,_⟩,_⟩:=hp
  cases hn
 |returned u=>
  obtain⟨v',H',G1,⟨_,_,hn,hv⟩,hV,hI1,hx⟩:=hp
  cases hn
  have hV1:VR G1 w' v u:=by rw[<-hv];exact hV.strip
  refine⟨v,⟨[],m⟩,G.clean G1.own G.n,hS,VR.cl0 (G:=G1) (G':=G.clean G1.own G.n) (fun b y hc=>Or.imp (fun h=>by rw[hx.hB]at h;exact h) (fun h=>Ghost.clean_cl h) (show G1.B b=some true\/G1.own b y=.cl from hc)) hV1 hb,
   ⟨hI.n,fun b hh=>hI1.hB b (by rw[hx.hB];exact hh),fun b x hh=>Ghost.clean_free (hI1.free b x hh),fun b x hh=>Ghost.clean_free (hI1.old b x (by rw[hx.hB];exact hh)),fun o x hh=>by simp[look]at hh⟩,
   hx.os,hx.tape,hx.output,hx.size,rfl,hx.block,Nat.le_refl _,fun _ _=>rfl,fun _ _=>rfl,fun b x hc=>?_,fun t _ m b c h=>⟨m,b,c,h,Nat.le_refl _,fun _=>⟨rfl,rfl⟩⟩,rfl⟩
  obtain⟨q1,q2⟩:=hx.cl b x (Ghost.clean_cl hc)
  exact⟨Ghost.clean_cl q1,q2⟩
end Go.Abs
namespace Go.Abs.Tz
open Go Go.Abs Go.Proofs
def t0S:Term:=⟨0,0,⟨⟨[]⟩⟩⟩
def exText:ByteArray:=⟨⟨[108,111,115,116,40,83,41,32,105,102,32,115,116,111,110,101,40,83,44,32,78,41,44,32,110,111,116,32,115,101,101,110,40,83,41,44,32,78,32,60,32,51,46,10,98,111,117,110,100,40,83,41,32,105,102,32,115,116,111,110,101,40,83,44,32,78,41,44,32,110,111,116,32,108,111,115,116,40,83,41,46,10,110,101,97,114,40,88,44,32,89,41,32,105,102,32,110,101,120,116,40,88,44,32,89,41,46,10,110,101,97,114,40,88,44,32,90,41,32,105,102,32,110,101,97,114,40,88,44,32,89,41,44,32,110,101,120,116,40,89,44,32,90,41,44,32,88,32,33,61,32,90,46,10]⟩⟩
def exCl:List Clause:=[⟨⟨⟨⟨[108,111,115,116]⟩⟩,[⟨3,0,⟨⟨[83]⟩⟩⟩]⟩,[⟨1,⟨⟨⟨[115,116,111,110,101]⟩⟩,[⟨3,0,⟨⟨[83]⟩⟩⟩,⟨3,0,⟨⟨[78]⟩⟩⟩]⟩,t0S,t0S⟩,⟨2,⟨⟨⟨[115,101,101,110]⟩⟩,[⟨3,0,⟨⟨[83]⟩⟩⟩]⟩,t0S,t0S⟩,⟨5,⟨⟨⟨[]⟩⟩,[]⟩,⟨3,0,⟨⟨[78]⟩⟩⟩,⟨1,3,⟨⟨[]⟩⟩⟩⟩]⟩,
 ⟨⟨⟨⟨[98,111,117,110,100]⟩⟩,[⟨3,0,⟨⟨[83]⟩⟩⟩]⟩,[⟨1,⟨⟨⟨[115,116,111,110,101]⟩⟩,[⟨3,0,⟨⟨[83]⟩⟩⟩,⟨3,0,⟨⟨[78]⟩⟩⟩]⟩,t0S,t0S⟩,⟨2,⟨⟨⟨[108,111,115,116]⟩⟩,[⟨3,0,⟨⟨[83]⟩⟩⟩]⟩,t0S,t0S⟩]⟩,
 ⟨⟨⟨⟨[110,101,97,114]⟩⟩,[⟨3,0,⟨⟨[88]⟩⟩⟩,⟨3,0,⟨⟨[89]⟩⟩⟩]⟩,[⟨1,⟨⟨⟨[110,101,120,116]⟩⟩,[⟨3,0,⟨⟨[88]⟩⟩⟩,⟨3,0,⟨⟨[89]⟩⟩⟩]⟩,t0S,t0S⟩]⟩,
 ⟨⟨⟨⟨[110,101,97,114]⟩⟩,[⟨3,0,⟨⟨[88]⟩⟩⟩,⟨3,0,⟨⟨[90]⟩⟩⟩]⟩,[⟨1,⟨⟨⟨[110,101,97,114]⟩⟩,[⟨3,0,⟨⟨[88]⟩⟩⟩,⟨3,0,⟨⟨[89]⟩⟩⟩]⟩,t0S,t0S⟩,⟨1,⟨⟨⟨[110,101,120,116]⟩⟩,[⟨3,0,⟨⟨[89]⟩⟩⟩,⟨3,0,⟨⟨[90]⟩⟩⟩]⟩,t0S,t0S⟩,⟨4,⟨⟨⟨[]⟩⟩,[]⟩,⟨3,0,⟨⟨[88]⟩⟩⟩,⟨3,0,⟨⟨[90]⟩⟩⟩⟩]⟩]
def exBase:List Atom:=[⟨⟨⟨[115,116,111,110,101]⟩⟩,[⟨1,1,⟨⟨[]⟩⟩⟩,⟨1,2,⟨⟨[]⟩⟩⟩]⟩,
 ⟨⟨⟨[115,116,111,110,101]⟩⟩,[⟨1,2,⟨⟨[]⟩⟩⟩,⟨1,5,⟨⟨[]⟩⟩⟩]⟩,
 ⟨⟨⟨[115,116,111,110,101]⟩⟩,[⟨1,3,⟨⟨[]⟩⟩⟩,⟨1,0,⟨⟨[]⟩⟩⟩]⟩,
 ⟨⟨⟨[115,101,101,110]⟩⟩,[⟨1,3,⟨⟨[]⟩⟩⟩]⟩,
 ⟨⟨⟨[110,101,120,116]⟩⟩,[⟨1,1,⟨⟨[]⟩⟩⟩,⟨1,2,⟨⟨[]⟩⟩⟩]⟩,
 ⟨⟨⟨[110,101,120,116]⟩⟩,[⟨1,2,⟨⟨[]⟩⟩⟩,⟨1,3,⟨⟨[]⟩⟩⟩]⟩,
 ⟨⟨⟨[110,101,120,116]⟩⟩,[⟨1,3,⟨⟨[]⟩⟩⟩,⟨1,1,⟨⟨[]⟩⟩⟩]⟩]
def openCl:List Clause:=[⟨⟨⟨⟨[112]⟩⟩,[⟨3,0,⟨⟨[88]⟩⟩⟩]⟩,[⟨2,⟨⟨⟨[113]⟩⟩,[⟨3,0,⟨⟨[88]⟩⟩⟩]⟩,t0S,t0S⟩]⟩]
def cycCl:List Clause:=[⟨⟨⟨⟨[112]⟩⟩,[]⟩,[⟨2,⟨⟨⟨[113]⟩⟩,[]⟩,t0S,t0S⟩]⟩,⟨⟨⟨⟨[113]⟩⟩,[]⟩,[⟨1,⟨⟨⟨[112]⟩⟩,[]⟩,t0S,t0S⟩]⟩]
def exStr:List Strat:=[⟨⟨⟨[98,111,117,110,100]⟩⟩,1,2⟩,⟨⟨⟨[108,111,115,116]⟩⟩,1,1⟩,⟨⟨⟨[110,101,97,114]⟩⟩,2,0⟩,⟨⟨⟨[110,101,120,116]⟩⟩,2,0⟩,⟨⟨⟨[115,101,101,110]⟩⟩,1,0⟩,⟨⟨⟨[115,116,111,110,101]⟩⟩,2,0⟩]
def vCl(l:List Clause):LV:=.sl (l.map clauseL) .no
def vAt(l:List Atom):LV:=.sl (l.map atomL) .no
def vRows(l:List Strat):LV:=.sl (l.map stratL) .no
def vI(n:Int):LV:=.sc (.int .i64 n)
noncomputable def aParse:List LV:=[.str exText]
noncomputable def vParse:LV:=.tup [vCl exCl,vI 0,vI 0]
noncomputable def aPrint:List LV:=[vCl exCl]
noncomputable def vPrint:LV:=.tup [.str exText,vI 0]
noncomputable def aGiven:List LV:=[]
noncomputable def vGiven:LV:=vAt exBase
noncomputable def aLost:List LV:=[vCl exCl,vAt exBase,atomL ⟨⟨⟨[108,111,115,116]⟩⟩,[⟨3,0,⟨⟨[83]⟩⟩⟩]⟩]
noncomputable def vLost:LV:=.tup [vAt [⟨⟨⟨[108,111,115,116]⟩⟩,[⟨1,1,⟨⟨[]⟩⟩⟩]⟩],vI 0]
noncomputable def aBound:List LV:=[vCl exCl,vAt exBase,atomL ⟨⟨⟨[98,111,117,110,100]⟩⟩,[⟨3,0,⟨⟨[83]⟩⟩⟩]⟩]
noncomputable def vBound:LV:=.tup [vAt [⟨⟨⟨[98,111,117,110,100]⟩⟩,[⟨1,2,⟨⟨[]⟩⟩⟩]⟩,⟨⟨⟨[98,111,117,110,100]⟩⟩,[⟨1,3,⟨⟨[]⟩⟩⟩]⟩],vI 0]
noncomputable def aNear:List LV:=[vCl exCl,vAt exBase,atomL ⟨⟨⟨[110,101,97,114]⟩⟩,[⟨1,1,⟨⟨[]⟩⟩⟩,⟨3,0,⟨⟨[88]⟩⟩⟩]⟩]
noncomputable def vNear:LV:=.tup [vAt [⟨⟨⟨[110,101,97,114]⟩⟩,[⟨1,1,⟨⟨[]⟩⟩⟩,⟨1,2,⟨⟨[]⟩⟩⟩]⟩,⟨⟨⟨[110,101,97,114]⟩⟩,[⟨1,1,⟨⟨[]⟩⟩⟩,⟨1,3,⟨⟨[]⟩⟩⟩]⟩],vI 0]
noncomputable def aRel:List LV:=[vCl exCl,.str ⟨⟨[98,111,117,110,100]⟩⟩,vI 1]
noncomputable def vRel:LV:=.tup [.sl [vI 0,vI 1] .no,vI 0]
noncomputable def aStr:List LV:=[vCl exCl]
noncomputable def vStr:LV:=.tup [vRows exStr,vI 0]
noncomputable def aOpen:List LV:=[.str ⟨⟨[112,40,88,41,32,105,102,32,110,111,116,32,113,40,88,41,46]⟩⟩]
noncomputable def vOpen:LV:=.tup [vCl openCl,vI 0,vI 0]
noncomputable def aCyc:List LV:=[.str ⟨⟨[112,32,105,102,32,110,111,116,32,113,46,32,113,32,105,102,32,112,46]⟩⟩]
noncomputable def vCyc:LV:=.tup [vCl cycCl,vI 0,vI 0]
noncomputable def runs(f:FuncId)(args:List LV)(v:LV):Bool:=callE C6 1000000 f args ⟨[],1⟩ (fun u _=>eqLV u.strip v) (fun _ _=>false)
def HomeT(f:FuncId)(args:List LV)(v:LV):Prop:=∀(m:Nat)(S:Res->Prop),S (.ret v ⟨[],m⟩)->CallOk Tryz.prog E0 f args ⟨[],m⟩ S
theorem home_of{f:FuncId}{args:List LV}{v:LV}(h:runs f args v=true)(hb:belB v=true)(ha:belBs args=true):HomeT f args v:=by
 intro m S hS
 have hO:=callE_ok C6_ok (show LHeap.Ok ⟨[],1⟩ from trivial) h
 have hC:CallOk Tryz.prog E0 f args ⟨[],1⟩ _:=sound hmixT fnsT hO
 refine CallOk.home (fun _=>rfl) (hC.weaken fun r hr=>?_) (belB_ok hb) (belBs_ok ha) m hS
 rcases hr with⟨u,H,rfl,_,hk⟩|⟨u,H,rfl,_,hk⟩
 ·exact⟨u,H,rfl,eqLV_spec hk⟩
 ·cases hk
end Go.Abs.Tz
