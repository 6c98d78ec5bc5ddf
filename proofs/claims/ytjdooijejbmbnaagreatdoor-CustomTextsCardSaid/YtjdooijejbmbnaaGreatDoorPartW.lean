/- Part of the proof that for every row of clauses, every atom and every source the law CustomTexts returns true. Conditions: none. -/
import Derived.Test.YtjdooijejbmbnaaGreatDoorPartV
import Derived.Test.YtjdooijejbmbnaaGreatDoorPartI
import Derived.Test.YtjdooijejbmbnaaGreatDoorPartG
import Derived.Test.YtjdooijejbmbnaaGreatDoorPartT
import Derived.Test.YtjdooijejbmbnaaGreatDoorRunz
import Derived.Test.YtjdooijejbmbnaaGreatDoorRows
import Derived.ProofKit
import Derived.Deep.Slices
import Derived.Deep.Strs
import Derived.Lib.LaidTab
import Derived.LaidSub
import Derived.Stop.LaidErr
set_option linter.unusedVariables false
set_option linter.unusedSimpArgs false
set_option linter.unusedSectionVars false
namespace Go.Abs.Tz
open Go Go.Abs Go.Proofs
set_option maxRecDepth 20000
set_option linter.unusedSimpArgs false
attribute [local simp ↓] getP_nil getP_node setP_nil setP_node oneP_eq vP_map vP_some vP_none vP_bind eP_some bP_true bP_false gP_yes gP_tf gP_ft gP_tup runP_skip runP_ops runP_drw runP_seq runP_cond runP_blk runP_loop runP_exit runP_ret seqK_n seqK_r seqK_e seqK_p blkK_n blkK_r blkK_e blkK_p loopK_n loopK_r loopK_e loopK_p finK_n finK_r finK_p resP_one resP_two resP_three resP_nil resP_c nxP_nil argsP_nil argsP_cons evP_t evP_c evP_g evsP_nil evsP_cons clP_fn clP_yld clfP_fn pnP_i opsP_nil opsP_d opsP_x opsP_gt opsP_gf opP_cf opP_cl opP_pn opP_nx valP_mv valP_pk valP_eq valP_bn valP_nt valP_ld valP_fa valP_fd valP_ia valP_ix valP_ln valP_srn valP_srl valP_srh valP_srb valP_cv valP_mi valP_mf valP_xt valP_bs valP_bd valP_nc valP_mn valP_lk valP_ta opP_mv opP_pk opP_eq opP_bn opP_nt opP_ld opP_fa opP_fd opP_ia opP_ix opP_ln opP_sr opP_cv opP_mi opP_mf opP_xt opP_bs opP_bd opP_nc opP_mn opP_lk opP_ta opP_al opP_bx opP_st opP_ap opP_mk opP_nb opP_mu opP_rg opP_en pendP_nil pendP_d pendP_g drwP_nil drwP_d drwP_x drwP_gt drwP_gf look_self natOf_nat
attribute [local simp] faL fdL iaL ixL loadL partL lenL eqK eqL natOf eqB_s eqB_i eqB_b bn_add bn_sub bn_lss bn_leq bn_gtr bn_geq bn_adds bn_lsss bn_gtrs bn_leqs bn_geqs sliceL LV.cells LV.whole look_self put_self putO_self put_eq stL fillL termC dopP LHeap.alloc oneI oneS oneB nth0 nth1 nth2 nth3 nth4 nth5 nth6 nth7 nth8 nth9 look_ne putO_ne
theorem t_notNl(n:Int):PureT 97 [U n] (.bool (notNl n)):=by
 refine PureT.of c97 fun H hH=>⟨Nat.le_of_ble_eq_true rfl,?_⟩
 simp[b97,bP_bool,gP_boolt,gP_boolf]
 repeat' (first|apply And.intro|intro _)
 all_goals first|omega|(refine pure0' hH ?_;simp_all [notNl];done)|(refine pure0' hH ?_;simp_all [notNl];omega)
theorem t_wordC(n:Int):PureT 99 [U n] (.bool (wordC n)):=by
 refine PureT.of c99 fun H hH=>⟨Nat.le_of_ble_eq_true rfl,?_⟩
 simp[b99]
 refine(t_letter _).go fun m hm=>?_
 cases h:letB n
 ·simp
  refine(t_digit _).go fun k hk=>?_
  simp
  exact pure0 hH (by simp[wordC,h]) (Nat.le_trans hm hk)
 ·simp
  exact pure0 hH (by simp[wordC,h]) hm
def fiveB(n:Int):Bool:=decide (n=40)||(decide (n=41)||(decide (n=44)||(decide (n=46)||decide (n=61))))
theorem idx_mem(c:UInt8):∀l:List UInt8,(0<=Lib.indexByte l c↔c∈l)
 |[]=>by simp[Lib.indexByte]
 |b::l=>by
  have ih:=idx_mem c l
  have hge:=Lib.indexByte_ge l c
  simp only[Lib.indexByte]
  by_cases hb:b=c
  ·subst hb;simp
  ·have h1:(b==c)=false:=by simpa using hb
   have h2:¬c=b:=fun h=>hb h.symm
   rw[h1]
   simp only[Bool.false_eq_true,if_false,List.mem_cons,h2,false_or]
   rw[<-ih]
   by_cases hm:Lib.indexByte l c=-1
   ·rw[hm];decide
   ·have h3:(Lib.indexByte l c==-1)=false:=by simpa using hm
    rw[h3]
    simp only[Bool.false_eq_true,if_false]
    omega
theorem idx_five(c:UInt8):decide (0<=Lib.indexByte [40,41,44,46,61] ((c.toNat:Int).toNat.toUInt8))=fiveB (c.toNat:Int):=by
 have e:((c.toNat:Int).toNat.toUInt8)=c:=by
  rw[Int.toNat_natCast]
  exact UInt8.ofNat_toNat
 rw[e]
 have hm:=idx_mem c [40,41,44,46,61]
 have hb:∀(b:UInt8)(n:Int),(b.toNat:Int)=n->(c=b↔(c.toNat:Int)=n):=fun b n h=>by
  rw[<-h,<-UInt8.toNat_inj]
  omega
 have e1:=hb 40 40 rfl
 have e2:=hb 41 41 rfl
 have e3:=hb 44 44 rfl
 have e4:=hb 46 46 rfl
 have e5:=hb 61 61 rfl
 simp only[List.mem_cons,List.not_mem_nil,or_false]at hm
 rw[e1,e2,e3,e4,e5]at hm
 unfold fiveB
 by_cases h:0<=Lib.indexByte [40,41,44,46,61] c
 ·rw[decide_eq_true h]
  rcases hm.1 h with q|q|q|q|q<;>rw[q]<;>rfl
 ·rw[decide_eq_false h,decide_eq_false (fun q=>h (hm.2 (.inl q))),decide_eq_false (fun q=>h (hm.2 (.inr (.inl q)))),decide_eq_false (fun q=>h (hm.2 (.inr (.inr (.inl q))))),decide_eq_false (fun q=>h (hm.2 (.inr (.inr (.inr (.inl q)))))),decide_eq_false (fun q=>h (hm.2 (.inr (.inr (.inr (.inr q))))))]
  rfl
theorem mark_of{s:ByteArray}{i:Nat}{c:UInt8}(hd:(sL s).drop i=c::(sL s).drop (i+1)):markL ((sL s).drop i)=if twoMark (c.toNat:Int) (byI s (i+1))=true then 2 else if oneMark (c.toNat:Int)=true then 1 else 0:=by
 by_cases h2:i+1<s.size
 ·obtain⟨d,hdd,hd2⟩:=byteG h2
  rw[hd,hd2,byI_of hdd]
  rfl
 ·have hn:(sL s).drop (i+1)=[]:=List.drop_eq_nil_of_le (by rw[sL_len];omega)
  rw[hd,hn,byI_ge h2]
  have e:twoMark (c.toNat:Int) (-1)=false:=by simp[twoMark]
  rw[e]
  rfl
theorem mark_five{s:ByteArray}{i:Nat}{c:UInt8}(hd:(sL s).drop i=c::(sL s).drop (i+1))(h:fiveB (c.toNat:Int)=true):markL ((sL s).drop i)=1:=by
 rw[mark_of hd]
 unfold fiveB at h
 simp only[Bool.or_eq_true,decide_eq_true_eq]at h
 rcases h with h|h|h|h|h<;>rw[h]<;>simp[twoMark,oneMark]
theorem mark_less{s:ByteArray}{i:Nat}{c:UInt8}(hd:(sL s).drop i=c::(sL s).drop (i+1))(h:(c.toNat:Int)=60\/(c.toNat:Int)=62):markL ((sL s).drop i)=if byI s (i+1)=61 then 2 else 1:=by
 rw[mark_of hd]
 rcases h with h|h<;>rw[h]<;>by_cases h2:byI s (i+1)=61<;>simp[twoMark,oneMark,h2]
theorem mark_not{s:ByteArray}{i:Nat}{c:UInt8}(hd:(sL s).drop i=c::(sL s).drop (i+1))(h:(c.toNat:Int)=33):markL ((sL s).drop i)=if byI s (i+1)=61 then 2 else 0:=by
 rw[mark_of hd,h]
 by_cases h2:byI s (i+1)=61<;>simp[twoMark,oneMark,h2]
theorem mark_none{s:ByteArray}{i:Nat}{c:UInt8}(hd:(sL s).drop i=c::(sL s).drop (i+1))(h5:fiveB (c.toNat:Int)=false)(h60:¬(c.toNat:Int)=60)(h62:¬(c.toNat:Int)=62)(h33:¬(c.toNat:Int)=33):markL ((sL s).drop i)=0:=by
 rw[mark_of hd]
 unfold fiveB at h5
 simp only[Bool.or_eq_false_iff,decide_eq_false_iff_not]at h5
 simp[twoMark,oneMark,h5,h60,h62,h33]
def pTok(k:Nat):BCode:=match b95.body with
 |.seq x0 (.blk _ (.loop (.seq x1 (.blk _ (.seq x2 (.seq x3 (.seq x4 (.seq x5 (.seq x6 (.seq x7 x8))))))))))=> match k with
  |0=>x0|1=>x1|2=>x2|3=>x3|4=>x4|5=>x5|6=>x6|7=>x7|_=>x8
 |_=>.bad
def restTok:BCode:=.seq (pTok 6) (.seq (pTok 7) (pTok 8))
def loopTok:BCode:=.seq (pTok 1) (.blk 1 (.seq (pTok 2) (.seq (pTok 3) (.seq (pTok 4) (.seq (pTok 5) restTok)))))
theorem bodyTok:b95.body=.seq (pTok 0) (.blk 0 (.loop loopTok)):=rfl
abbrev frI(o sb i:Nat):FT:=(.nd (.fn (.yield o) [] []) (.nd (.ptr sb 0) (.nd (.int i) .nil .nil) .nil) .nil)
abbrev frT(o sb i n j:Nat):FT:=(.nd (.fn (.yield o) [] []) (.nd (.ptr sb 0) (.nd (.int i) .nil .nil) (.nd (.ptr n 0) .nil .nil)) (.nd .bot .nil (.nd (.int j) .nil .nil)))
abbrev cellT(k at_:Int):LObj:=.cells [.int k,.str ⟨⟨[]⟩⟩,.int at_]
def SwK(s:ByteArray)(o sb i n:Nat)(ob:List (Nat×LObj))(k:XP):LStep->Prop
 |.skip j=>∀n' t',n+1<=n'->FT.Le (frI o sb j) t'->k (.exit 1) t' ⟨(n,cellT 0 i)::ob,n'⟩
 |.tok r j=>∀n',n+1<=n'->lP E0 F0 restTok (frT o sb i n j) ⟨(n,cellT r.kind i)::ob,n'⟩ k
 |.bad e=>∀j n',i<=j->j<=s.size->n+1<=n'->lP E0 F0 restTok (frT o sb i n j) ⟨(n,cellT 0 e)::ob,n'⟩ k
theorem restTok_ne:∀l,restTok≠.drw l:=fun l h=>by unfold restTok at h;cases h
section
variable{s:ByteArray}{o sb i n:Nat}{ob:List (Nat×LObj)}{k:XP}
theorem SwK.bad{e:Nat}(h:SwK s o sb i n ob k (.bad e)){j n':Nat}(h1:i<=j)(h2:j<=s.size)(h3:n+1<=n'){t:FT}(ht:FT.Le (frT o sb i n j) t):lP E0 F0 restTok t ⟨(n,cellT 0 e)::ob,n'⟩ k:=
 lP_weak restTok_ne ht (HWk.refl _) (fun h=>h) (h j n' h1 h2 h3)
theorem SwK.tok{r:RTok}{j:Nat}(h:SwK s o sb i n ob k (.tok r j)){n':Nat}(h3:n+1<=n'){t:FT}(ht:FT.Le (frT o sb i n j) t):lP E0 F0 restTok t ⟨(n,cellT r.kind i)::ob,n'⟩ k:=
 lP_weak restTok_ne ht (HWk.refl _) (fun h=>h) (h n' h3)
end
set_option maxHeartbeats 4000000 in
theorem sw_ok{s:ByteArray}(hs:s.size<=6000){o sb i n:Nat}{ob:List (Nat×LObj)}(hi:i<s.size){c:UInt8}(hc:s.data[i]? = some c)(hsb:sb<n)(hkz:look sb ob=some (.cells [.str s])){k:XP}(h:SwK s o sb i n ob k (lstep s i)):
  lP E0 F0 (pTok 5) (.nd (.fn (.yield o) [] []) (.nd (.ptr sb 0) (.nd (.int i) .nil .nil) (.nd (.ptr n 0) .nil .nil)) (.nd .bot (.nd (U c.toNat) .nil .nil) (.nd (.int ((i+1:Nat):Int)) .nil .nil))) ⟨(n,cellT 0 i)::ob,n+1⟩ (seqK (fun t' H'=>lP E0 F0 restTok t' H' k) k):=by
 obtain⟨c',hc',hd⟩:=byteG hi
 rw[hc]at hc'
 cases hc'
 have hb:=byI_of hc
 obtain⟨p,hp⟩:∃p,i+1=p:=⟨_,rfl⟩
 have hwi:IntKind.wrap .i64 ((i:Int)+1)=(p:Int):=by rw[wrap_id (by omega) (by omega)];omega
 have hwp2:IntKind.wrap .i64 ((p:Int)+1)=((p+1:Nat):Int):=by rw[wrap_id (by omega) (by omega)];omega
 have hp2':i+2=p+1:=by omega
 rw[hp]
 refine lP_of_run ?_
 unfold lstep at h
 rw[hb]at h
 by_cases h1:(c.toNat:Int)=32\/(c.toNat:Int)=9\/(c.toNat:Int)=10
 ·rw[if_pos h1,hp]at h
  rcases h1 with h1|h1|h1
  ·simp(disch:=omega)[pTok,b95,h1,hwi]
   exact h _ _ (Nat.le_refl _) (by simp[FT.Le,Wk])
  ·simp(disch:=omega)[pTok,b95,h1,hwi]
   exact h _ _ (Nat.le_refl _) (by simp[FT.Le,Wk])
  ·simp(disch:=omega)[pTok,b95,h1,hwi]
   exact h _ _ (Nat.le_refl _) (by simp[FT.Le,Wk])
 rw[if_neg h1]at h
 have n1:¬(c.toNat:Int)=32:=fun h=>h1 (.inl h)
 have n2:¬(c.toNat:Int)=9:=fun h=>h1 (.inr (.inl h))
 have n3:¬(c.toNat:Int)=10:=fun h=>h1 (.inr (.inr h))
 by_cases h2:(c.toNat:Int)=35
 ·rw[if_pos h2]at h
  simp(disch:=omega)[pTok,b95,n1,n2,n3,h2,hkz]
  refine(t_runF s (by omega) i (by omega) 97 notNl t_notNl).go fun n5 hn5=>?_
  simp(disch:=omega)
  exact h _ _ (by omega) (by simp[FT.Le,Wk])
 rw[if_neg h2]at h
 simp(disch:=omega)[pTok,b95,n1,n2,n3,h2,hkz]
 refine(t_letter _).go fun n4 hn4=>?_
 cases hl:letB (c.toNat:Int)
 case true=>
  rw[hl,if_pos rfl]at h
  unfold wordStep at h
  obtain⟨E,hE⟩:∃E,endN wordC s i=E:=⟨_,rfl⟩
  have hEi:=endN_lt (p:=wordC) hd (by simp[wordC,hl])
  have hEs:=(endN_le (p:=wordC) (s:=s) (i:=i) (by omega)).2
  rw[hE]at h hEi hEs
  simp(disch:=omega)[hkz]
  refine(t_runF s (by omega) i (by omega) 99 wordC t_wordC).go fun n5 hn5=>?_
  rw[hE]
  have hsz:(s.extract i E).size=E - i:=by rw[ByteArray.size_extract];omega
  by_cases h24:24<E - i
  ·rw[if_pos h24]at h
   have h24':(24:Int)<((E - i:Nat):Int):=by omega
   simp(disch:=omega)[hkz,hEi,hEs,show i<=E by omega,hsz,h24']
   exact h.bad (j:=E) (by omega) (by omega) (by omega) (by simp[FT.Le,Wk])
  rw[if_neg h24]at h
  have h24':¬(24:Int)<((E - i:Nat):Int):=by omega
  unfold wKind at h
  rw[hb]at h
  cases x1:eqBA (s.extract i E) bIf
  case true=>
   rw[x1,Bool.true_or,if_pos rfl]at h
   simp(disch:=omega)[hkz,hEi,hEs,show i<=E by omega,hsz,h24',x1]
   exact h.tok (by omega) (by simp[FT.Le,Wk])
  cases x2:eqBA (s.extract i E) bNot
  case true=>
   rw[x1,x2,Bool.false_or,if_pos rfl]at h
   simp(disch:=omega)[hkz,hEi,hEs,show i<=E by omega,hsz,h24',x1,x2]
   exact h.tok (by omega) (by simp[FT.Le,Wk])
  rw[x1,x2,Bool.false_or,if_neg (by simp)]at h
  simp(disch:=omega)[hkz,hEi,hEs,show i<=E by omega,hsz,h24',x1,x2]
  refine(t_capital _).go fun n6 hn6=>?_
  by_cases h90:(c.toNat:Int)<=90
  ·rw[if_pos h90]at h
   have hcap:capB (c.toNat:Int)=true:=by
    simp only[letB,smallB,capB,Bool.or_eq_true,Bool.and_eq_true,decide_eq_true_eq]at hl ⊢
    omega
   rw[hcap]
   simp(disch:=omega)
   exact h.tok (by omega) (by simp[FT.Le,Wk])
  ·rw[if_neg h90]at h
   have hcap:capB (c.toNat:Int)=false:=by
    unfold capB
    rw[decide_eq_false h90,Bool.and_false]
   rw[hcap]
   simp(disch:=omega)
   exact h.tok (by omega) (by simp[FT.Le,Wk])
 rw[hl,if_neg (by simp)]at h
 simp(disch:=omega)
 refine(t_digit _).go fun n5 hn5=>?_
 cases hg:digB (c.toNat:Int)
 case true=>
  rw[hg,if_pos (.inl rfl)]at h
  have hnot:¬byI s i=45:=by
   rw[hb]
   have:48<=(c.toNat:Int)/\(c.toNat:Int)<=57:=by simpa [digB] using hg
   omega
  rcases numStep_part (s:=s) (i:=i) (.inl (by rw[hb];exact hg)) with⟨q,_⟩|⟨_,hpart,e⟩
  ·exact absurd q hnot
  rw[e]at h
  have hf:numFrom s i=i:=by unfold numFrom;rw[if_neg hnot]
  obtain⟨f,hfd⟩:∃f,numFrom s i=f:=⟨_,rfl⟩
  obtain⟨E,hE⟩:∃E,numEnd s (numFrom s i)=E:=⟨_,rfl⟩
  rw[hE]at h hpart
  rw[hfd]at h hpart hE
  have hfi:f=i:=by rw[<-hfd,hf]
  obtain⟨_,_,_,_,hfE,hEs,_,_⟩:=num_text hpart
  have hat:=num_atoi hpart
  have hp2:0=0/\(s.extract i E).size=E - i:=⟨rfl,by rw[ByteArray.size_extract];omega⟩
  unfold numAt at h
  by_cases h48:(c.toNat:Int)=48
  ·have hEp:E=p:=by rw[<-hE,hfi];unfold numEnd;rw[hb,if_pos h48];exact hp
   subst hEp
   simp(disch:=omega)[h48,hkz,show i<=E by omega,hEs]
   have hext:=hp2.2
   by_cases hbig:1000000000<numV s f E
   ·rw[if_pos hbig]at h
    rcases hat.2 hbig with hr|⟨v,hr,hv⟩
    ·refine(t_atoiR _ (by rw[hext];omega) hr).go fun n8 hn8=>?_
     simp(disch:=omega)
     exact h.bad (j:=E) (by omega) (by omega) (by omega) (by simp[FT.Le,Wk])
    ·refine(t_atoi _ (by rw[hext];omega) v hr).go fun n8 hn8=>?_
     simp(disch:=omega)
     refine(t_within _ _ _).go fun n9 hn9=>?_
     have hw9:(decide (-1000000000<=v)&&decide (v<=1000000000))=false:=by
      rcases hv with hv|hv
      ·rw[decide_eq_false (by omega),Bool.false_and]
      ·rw[decide_eq_false (show ¬v<=1000000000 by omega),Bool.and_false]
     rw[hw9]
     simp(disch:=omega)
     exact h.bad (j:=E) (by omega) (by omega) (by omega) (by simp[FT.Le,Wk])
   rw[if_neg hbig]at h
   obtain⟨hr,hv0⟩:=hat.1 hbig
   obtain⟨v,hv⟩:∃v,(if byI s i=45 then 0 - numV s f E else numV s f E)=v:=⟨_,rfl⟩
   rw[hv]at hr h
   refine(t_atoi _ (by rw[hext];omega) v hr).go fun n8 hn8=>?_
   simp(disch:=omega)
   refine(t_within _ _ _).go fun n9 hn9=>?_
   have hw9:(decide (-1000000000<=v)&&decide (v<=1000000000))=true:=by
    rw[<-hv]
    split<;>simp<;>omega
   rw[hw9]
   by_cases hEl:E<s.size
   case neg=>
    have e1:byI s E=-1:=byI_ge hEl
    rw[e1,if_neg (by decide)]at h
    simp(disch:=omega)[hkz,hEl]
    exact h.tok (by omega) (by simp[FT.Le,Wk])
   obtain⟨g,hg,_⟩:=byteG hEl
   have e1:=byI_of hg
   rw[e1]at h
   simp(disch:=omega)[hkz,hEl,hg]
   refine(t_digit _).go fun n10 hn10=>?_
   cases hgd:digB (g.toNat:Int)
   case true=>
    rw[hgd,Bool.true_or,if_pos rfl]at h
    simp(disch:=omega)
    exact h.bad (j:=E) (by omega) (by omega) (by omega) (by simp[FT.Le,Wk])
   rw[hgd,Bool.false_or]at h
   simp(disch:=omega)[hkz,hEl,hg]
   refine(t_letter _).go fun n11 hn11=>?_
   cases hgl:letB (g.toNat:Int)
   case true=>
    rw[hgl,if_pos rfl]at h
    simp(disch:=omega)
    exact h.bad (j:=E) (by omega) (by omega) (by omega) (by simp[FT.Le,Wk])
   rw[hgl,if_neg (by simp)]at h
   simp(disch:=omega)
   exact h.tok (by omega) (by simp[FT.Le,Wk])
  ·have hEp:endN digB s p=E:=by
    rw[<-hE,hfi]
    unfold numEnd
    rw[hb,if_neg h48,<-hp]
    unfold endN
    conv=>rhs;rw[hd];unfold runN
    rw[if_pos hg]
    omega
   simp(disch:=omega)[h48,hkz]
   refine(t_runF s (by omega) p (by omega) 100 digB t_digit).go fun n6 hn6=>?_
   rw[hEp]
   simp(disch:=omega)[hkz,show i<=E by omega,hEs]
   have hext:=hp2.2
   by_cases hbig:1000000000<numV s f E
   ·rw[if_pos hbig]at h
    rcases hat.2 hbig with hr|⟨v,hr,hv⟩
    ·refine(t_atoiR _ (by rw[hext];omega) hr).go fun n8 hn8=>?_
     simp(disch:=omega)
     exact h.bad (j:=E) (by omega) (by omega) (by omega) (by simp[FT.Le,Wk])
    ·refine(t_atoi _ (by rw[hext];omega) v hr).go fun n8 hn8=>?_
     simp(disch:=omega)
     refine(t_within _ _ _).go fun n9 hn9=>?_
     have hw9:(decide (-1000000000<=v)&&decide (v<=1000000000))=false:=by
      rcases hv with hv|hv
      ·rw[decide_eq_false (by omega),Bool.false_and]
      ·rw[decide_eq_false (show ¬v<=1000000000 by omega),Bool.and_false]
     rw[hw9]
     simp(disch:=omega)
     exact h.bad (j:=E) (by omega) (by omega) (by omega) (by simp[FT.Le,Wk])
   rw[if_neg hbig]at h
   obtain⟨hr,hv0⟩:=hat.1 hbig
   obtain⟨v,hv⟩:∃v,(if byI s i=45 then 0 - numV s f E else numV s f E)=v:=⟨_,rfl⟩
   rw[hv]at hr h
   refine(t_atoi _ (by rw[hext];omega) v hr).go fun n8 hn8=>?_
   simp(disch:=omega)
   refine(t_within _ _ _).go fun n9 hn9=>?_
   have hw9:(decide (-1000000000<=v)&&decide (v<=1000000000))=true:=by
    rw[<-hv]
    split<;>simp<;>omega
   rw[hw9]
   by_cases hEl:E<s.size
   case neg=>
    have e1:byI s E=-1:=byI_ge hEl
    rw[e1,if_neg (by decide)]at h
    simp(disch:=omega)[hkz,hEl]
    exact h.tok (by omega) (by simp[FT.Le,Wk])
   obtain⟨g,hg,_⟩:=byteG hEl
   have e1:=byI_of hg
   rw[e1]at h
   simp(disch:=omega)[hkz,hEl,hg]
   refine(t_digit _).go fun n10 hn10=>?_
   cases hgd:digB (g.toNat:Int)
   case true=>
    rw[hgd,Bool.true_or,if_pos rfl]at h
    simp(disch:=omega)
    exact h.bad (j:=E) (by omega) (by omega) (by omega) (by simp[FT.Le,Wk])
   rw[hgd,Bool.false_or]at h
   simp(disch:=omega)[hkz,hEl,hg]
   refine(t_letter _).go fun n11 hn11=>?_
   cases hgl:letB (g.toNat:Int)
   case true=>
    rw[hgl,if_pos rfl]at h
    simp(disch:=omega)
    exact h.bad (j:=E) (by omega) (by omega) (by omega) (by simp[FT.Le,Wk])
   rw[hgl,if_neg (by simp)]at h
   simp(disch:=omega)
   exact h.tok (by omega) (by simp[FT.Le,Wk])
 by_cases h45:(c.toNat:Int)=45
 ·rw[hg,if_pos (.inr h45)]at h
  by_cases hpl:p<s.size
  case neg=>
   unfold numStep at h
   rw[hb,hp,byI_ge hpl,if_pos ⟨h45,.inl (by decide)⟩]at h
   simp(disch:=omega)[h45,hkz,hpl]
   refine(t_indexByte ⟨⟨[40,41,44,46,61]⟩⟩ (45:Int)).go fun n7 hn7=>?_
   have hix:Lib.indexByte [40,41,44,46,61] ((45:Int).toNat.toUInt8)=-1:=by decide
   rw[hix]
   simp(disch:=omega)[h45]
   exact h.bad (j:=p) (by omega) (by omega) (by omega) (by simp[FT.Le,Wk])
  obtain⟨d,hdd,_⟩:=byteG hpl
  have hbd:=byI_of hdd
  simp(disch:=omega)[h45,hkz,hpl,hdd]
  refine(t_digit _).go fun n6 hn6=>?_
  by_cases hgood:49<=(d.toNat:Int)/\(d.toNat:Int)<=57
  case neg=>
   unfold numStep at h
   rw[hb,hp,hbd,if_pos ⟨h45,by omega⟩]at h
   cases hgd:digB (d.toNat:Int)
   ·simp(disch:=omega)[h45]
    refine(t_indexByte ⟨⟨[40,41,44,46,61]⟩⟩ (45:Int)).go fun n7 hn7=>?_
    have hix:Lib.indexByte [40,41,44,46,61] ((45:Int).toNat.toUInt8)=-1:=by decide
    rw[hix]
    simp(disch:=omega)[h45]
    exact h.bad (j:=p) (by omega) (by omega) (by omega) (by simp[FT.Le,Wk])
   ·have h48:(d.toNat:Int)=48:=by
     have:48<=(d.toNat:Int)/\(d.toNat:Int)<=57:=by simpa [digB] using hgd
     omega
    simp(disch:=omega)[h45,hkz,hpl,hdd,h48]
    refine(t_indexByte ⟨⟨[40,41,44,46,61]⟩⟩ (45:Int)).go fun n7 hn7=>?_
    have hix:Lib.indexByte [40,41,44,46,61] ((45:Int).toNat.toUInt8)=-1:=by decide
    rw[hix]
    simp(disch:=omega)[h45]
    exact h.bad (j:=p) (by omega) (by omega) (by omega) (by simp[FT.Le,Wk])
  have hgd:digB (d.toNat:Int)=true:=by simp[digB];omega
  have h48:¬(d.toNat:Int)=48:=by omega
  rcases numStep_part (s:=s) (i:=i) (.inr (by rw[hb];exact h45)) with⟨_,q,_⟩|⟨_,hpart,e⟩
  ·rw[hp,hbd]at q;omega
  rw[e]at h
  have hf:numFrom s i=p:=by unfold numFrom;rw[hb,if_pos h45,hp]
  obtain⟨f,hfd⟩:∃f,numFrom s i=f:=⟨_,rfl⟩
  obtain⟨E,hE⟩:∃E,numEnd s (numFrom s i)=E:=⟨_,rfl⟩
  rw[hE]at h hpart
  rw[hfd]at h hpart hE
  have hfi:f=p:=by rw[<-hfd,hf]
  obtain⟨_,_,_,_,hfE,hEs,_,_⟩:=num_text hpart
  have hat:=num_atoi hpart
  have hp2:0=0/\(s.extract i E).size=E - i:=⟨rfl,by rw[ByteArray.size_extract];omega⟩
  have hEp:endN digB s p=E:=by
   rw[<-hE,hfi]
   unfold numEnd
   rw[hbd,if_neg h48]
  unfold numAt at h
  rw[hgd]
  simp(disch:=omega)[h45,hkz,hpl,hdd,h48]
  refine(t_runF s (by omega) p (by omega) 100 digB t_digit).go fun n6 hn6=>?_
  rw[hEp]
  simp(disch:=omega)[hkz,show i<=E by omega,hEs]
  have hext:=hp2.2
  by_cases hbig:1000000000<numV s f E
  ·rw[if_pos hbig]at h
   rcases hat.2 hbig with hr|⟨v,hr,hv⟩
   ·refine(t_atoiR _ (by rw[hext];omega) hr).go fun n8 hn8=>?_
    simp(disch:=omega)
    exact h.bad (j:=E) (by omega) (by omega) (by omega) (by simp[FT.Le,Wk])
   ·refine(t_atoi _ (by rw[hext];omega) v hr).go fun n8 hn8=>?_
    simp(disch:=omega)
    refine(t_within _ _ _).go fun n9 hn9=>?_
    have hw9:(decide (-1000000000<=v)&&decide (v<=1000000000))=false:=by
     rcases hv with hv|hv
     ·rw[decide_eq_false (by omega),Bool.false_and]
     ·rw[decide_eq_false (show ¬v<=1000000000 by omega),Bool.and_false]
    rw[hw9]
    simp(disch:=omega)
    exact h.bad (j:=E) (by omega) (by omega) (by omega) (by simp[FT.Le,Wk])
  rw[if_neg hbig]at h
  obtain⟨hr,hv0⟩:=hat.1 hbig
  obtain⟨v,hv⟩:∃v,(if byI s i=45 then 0 - numV s f E else numV s f E)=v:=⟨_,rfl⟩
  rw[hv]at hr h
  refine(t_atoi _ (by rw[hext];omega) v hr).go fun n8 hn8=>?_
  simp(disch:=omega)
  refine(t_within _ _ _).go fun n9 hn9=>?_
  have hw9:(decide (-1000000000<=v)&&decide (v<=1000000000))=true:=by
   rw[<-hv]
   split<;>simp<;>omega
  rw[hw9]
  by_cases hEl:E<s.size
  case neg=>
   have e1:byI s E=-1:=byI_ge hEl
   rw[e1,if_neg (by decide)]at h
   simp(disch:=omega)[hkz,hEl]
   exact h.tok (by omega) (by simp[FT.Le,Wk])
  obtain⟨g,hg,_⟩:=byteG hEl
  have e1:=byI_of hg
  rw[e1]at h
  simp(disch:=omega)[hkz,hEl,hg]
  refine(t_digit _).go fun n10 hn10=>?_
  cases hgd:digB (g.toNat:Int)
  case true=>
   rw[hgd,Bool.true_or,if_pos rfl]at h
   simp(disch:=omega)
   exact h.bad (j:=E) (by omega) (by omega) (by omega) (by simp[FT.Le,Wk])
  rw[hgd,Bool.false_or]at h
  simp(disch:=omega)[hkz,hEl,hg]
  refine(t_letter _).go fun n11 hn11=>?_
  cases hgl:letB (g.toNat:Int)
  case true=>
   rw[hgl,if_pos rfl]at h
   simp(disch:=omega)
   exact h.bad (j:=E) (by omega) (by omega) (by omega) (by simp[FT.Le,Wk])
  rw[hgl,if_neg (by simp)]at h
  simp(disch:=omega)
  exact h.tok (by omega) (by simp[FT.Le,Wk])
 rw[hg,if_neg (by simp[h45])]at h
 unfold markStep at h
 simp(disch:=omega)[h45]
 refine(t_indexByte ⟨⟨[40,41,44,46,61]⟩⟩ (c.toNat:Int)).go fun n7 hn7=>?_
 have hidx:=idx_five c
 obtain⟨ix,hix⟩:∃ix,Lib.indexByte [40,41,44,46,61] ((c.toNat:Int).toNat.toUInt8)=ix:=⟨_,rfl⟩
 rw[hix]at hidx ⊢
 cases h5:fiveB (c.toNat:Int)
 case true=>
  rw[mark_five hd h5]at h
  rw[h5]at hidx
  have h0:(0:Int)<=ix:=of_decide_eq_true hidx
  rw[if_neg (by decide),hp]at h
  simp(disch:=omega)[h0]
  exact h.tok (by omega) (by simp[FT.Le,Wk])
 rw[h5]at hidx
 have h0:¬(0:Int)<=ix:=of_decide_eq_false hidx
 by_cases h60:(c.toNat:Int)=60
 ·rw[mark_less hd (.inl h60),hp]at h
  by_cases hpl:p<s.size
  case neg=>
   rw[byI_ge hpl,if_neg (by decide),if_neg (by decide),hp]at h
   simp(disch:=omega)[h0,h60,hkz,hpl]
   exact h.tok (by omega) (by simp[FT.Le,Wk])
  obtain⟨d,hdd,_⟩:=byteG hpl
  rw[byI_of hdd]at h
  by_cases h61:(d.toNat:Int)=61
  ·rw[if_pos h61,if_neg (by decide)]at h
   simp(disch:=omega)[h0,h60,hkz,hpl,hdd,h61,hwp2]
   rw[hp2']at h
   exact h.tok (by omega) (by simp[FT.Le,Wk])
  ·rw[if_neg h61,if_neg (by decide),hp]at h
   simp(disch:=omega)[h0,h60,hkz,hpl,hdd,h61]
   exact h.tok (by omega) (by simp[FT.Le,Wk])
 by_cases h62:(c.toNat:Int)=62
 ·rw[mark_less hd (.inr h62),hp]at h
  by_cases hpl:p<s.size
  case neg=>
   rw[byI_ge hpl,if_neg (by decide),if_neg (by decide),hp]at h
   simp(disch:=omega)[h0,h60,h62,hkz,hpl]
   exact h.tok (by omega) (by simp[FT.Le,Wk])
  obtain⟨d,hdd,_⟩:=byteG hpl
  rw[byI_of hdd]at h
  by_cases h61:(d.toNat:Int)=61
  ·rw[if_pos h61,if_neg (by decide)]at h
   simp(disch:=omega)[h0,h60,h62,hkz,hpl,hdd,h61,hwp2]
   rw[hp2']at h
   exact h.tok (by omega) (by simp[FT.Le,Wk])
  ·rw[if_neg h61,if_neg (by decide),hp]at h
   simp(disch:=omega)[h0,h60,h62,hkz,hpl,hdd,h61]
   exact h.tok (by omega) (by simp[FT.Le,Wk])
 by_cases h33:(c.toNat:Int)=33
 ·rw[mark_not hd h33,hp]at h
  by_cases hpl:p<s.size
  case neg=>
   rw[byI_ge hpl,show (if (-1:Int)=61 then 2 else 0)=(0:Nat) from rfl,if_pos rfl]at h
   simp(disch:=omega)[h0,h60,h62,h33,hkz,hpl]
   exact h.bad (j:=p) (by omega) (by omega) (by omega) (by simp[FT.Le,Wk])
  obtain⟨d,hdd,_⟩:=byteG hpl
  rw[byI_of hdd]at h
  by_cases h61:(d.toNat:Int)=61
  ·rw[if_pos h61,if_neg (by decide)]at h
   simp(disch:=omega)[h0,h60,h62,h33,hkz,hpl,hdd,h61,hwp2]
   rw[hp2']at h
   exact h.tok (by omega) (by simp[FT.Le,Wk])
  ·rw[if_neg h61,if_pos rfl]at h
   simp(disch:=omega)[h0,h60,h62,h33,hkz,hpl,hdd,h61]
   exact h.bad (j:=p) (by omega) (by omega) (by omega) (by simp[FT.Le,Wk])
 rw[mark_none hd h5 h60 h62 h33,if_pos rfl]at h
 simp(disch:=omega)[h0,h60,h62,h33]
 exact h.bad (j:=p) (by omega) (by omega) (by omega) (by simp[FT.Le,Wk])
structure Rnds(s:ByteArray)(o sb:Nat)(I:List Tok->List (Nat×LObj)->Nat->Prop)(Bd:Nat->List (Nat×LObj)->Nat->Prop):Prop where
 box:∀es ob n,I es ob n->sb<n/\look sb ob=some (.cells [.str s])
 keep:∀es ob n ob' n',I es ob n->n<=n'->(∀j,j<n->look j ob'=look j ob)->I es ob' n'
 tok:∀es ob0 n0 (t:Tok) ob n (kv:HP),I es ob0 n0->t.kind≠0->es.length<=6000->n0<=n->(∀j,j<n0->look j ob=look j ob0) ->
  (∀ob' n',n<=n'->I (es++[t]) ob' n'->(∀j,n0<=j->j<n->look j ob'=look j ob)->kv (.bool true) ⟨ob',n'⟩)->yP E0 F0 o [tokL t] ⟨ob,n⟩ kv
 bad:∀es ob0 n0 (x:ByteArray) (e:Nat) ob n (kv:HP),I es ob0 n0->n0<=n->(∀j,j<n0->look j ob=look j ob0) ->
  (∀ob' n',n<=n'->Bd e ob' n'->kv (.bool false) ⟨ob',n'⟩)->yP E0 F0 o [.agg [.int 0,.str x,.int e]] ⟨ob,n⟩ kv
structure NNIx where
 i:Nat
 k:Nat
 es:List Tok
 ob:List (Nat×LObj)
 n:Nat
theorem pTok5_ne:∀l,pTok 5≠.drw l:=fun l h=>by
 obtain⟨c,hc⟩:∃c,pTok 5=.blk 2 c:=⟨_,rfl⟩
 rw[hc]at h
 cases h
section
variable{s:ByteArray}{o sb:Nat}{I:List Tok->List (Nat×LObj)->Nat->Prop}{Bd:Nat->List (Nat×LObj)->Nat->Prop}
theorem t_restTok(hR:Rnds s o sb I Bd)(hs:s.size<=6000){es:List Tok}{ob:List (Nat×LObj)}{n:Nat}(hI:I es ob n)(hel:es.length<=6000){i j n':Nat}(hij:i<=j)(hj:j<=s.size)(hn':n+1<=n')(kd m:Int)(hkd:¬kd=0){K:XP}
  (hK:∀t' ob' n'',I (es++[⟨kd,s.extract i j,i,m⟩]) ob' n''->FT.Le (frI o sb j) t'->K .normal t' ⟨ob',n''⟩):lP E0 F0 restTok (frT o sb i n j) ⟨(n,cellT kd i)::ob,n'⟩ K:=by
 obtain⟨hsb,hkz⟩:=hR.box _ _ _ hI
 refine lP_of_run ?_
 simp(disch:=omega)[restTok,pTok,b95,hkz,hij,hj]
 refine hR.tok es ob n ⟨kd,s.extract i j,i,m⟩ _ _ _ hI hkd hel (by omega) (fun x hx=>look_ne (by omega) _ _) fun ob' n2 hn2 hI' hold=>?_
 have hl:look n ob'=some (.cells [.int kd,.str (s.extract i j),.int i]):=by rw[hold n (Nat.le_refl _) (by omega)];exact look_self _ _ _
 simp(disch:=omega)[hl,hkd]
 exact hK _ _ _ hI' (by simp[FT.Le,Wk])
theorem t_restBad(hR:Rnds s o sb I Bd)(hs:s.size<=6000){es:List Tok}{ob:List (Nat×LObj)}{n:Nat}(hI:I es ob n){i j n':Nat}(hij:i<=j)(hj:j<=s.size)(hn':n+1<=n')(e:Nat){K:XP}
  (hK:∀t' ob' n'',Bd e ob' n''->K .ret t' ⟨ob',n''⟩):lP E0 F0 restTok (frT o sb i n j) ⟨(n,cellT 0 e)::ob,n'⟩ K:=by
 obtain⟨hsb,hkz⟩:=hR.box _ _ _ hI
 refine lP_of_run ?_
 simp(disch:=omega)[restTok,pTok,b95,hkz,hij,hj]
 refine hR.bad es ob n (s.extract i j) e _ _ _ hI (by omega) (fun x hx=>look_ne (by omega) _ _) fun ob' n2 hn2 hB=>?_
 simp(disch:=omega)
 exact hK _ _ _ hB
theorem t_tok1(hR:Rnds s o sb I Bd)(hs:s.size<=6000){ob:List (Nat×LObj)}{n:Nat}(hI:I [] ob n){kv kp:HP}
  (h0:∀e,lexT s (s.size+1) 0 []=.error e->∀ob' n',Bd e ob' n'->kv (.tup []) ⟨ob',n'⟩) (h1:∀L,lexT s (s.size+1) 0 []=.ok L->∀ob' n',I L ob' n'->kv (.tup []) ⟨ob',n'⟩):
  cP E0 F0 95 [.fn (.yield o) [] [],.ptr sb 0] ⟨ob,n⟩ kv kp:=by
 refine cP_of_lP c95 (Nat.le_of_ble_eq_true rfl) fun hH=>?_
 obtain⟨V,hV⟩:∃V,lexT s (s.size+1) 0 []=V:=⟨_,rfl⟩
 rw[hV]at h0 h1
 rw[bodyTok]
 simp(disch:=omega)
 refine lP_seq (lP_of_run ?_)
 simp(disch:=omega)[pTok,b95]
 refine lP_blk ?_
 refine lP_enterL (σ:=NNIx) (fun q=>frI o sb q.i) (fun q=>⟨q.ob,q.n⟩) (fun q=>q.k)
  (fun q=>I q.es q.ob q.n/\q.i<=s.size/\q.es.length<=q.i/\s.size - q.i<q.k/\lexT s q.k q.i q.es=V) ⟨0,s.size+1,[],ob,n⟩ ⟨hI,Nat.zero_le _,Nat.le_refl _,by dsimp only;omega,hV⟩ (by simp[FT.Le,Wk]) ⟨HWk.refl _,fun h=>h⟩ ?_
 rintro⟨i,k,es,ob2,m⟩ ⟨hI2,hi,hel,hkk,he⟩ hok
 dsimp only at hI2 hi hel hkk he hok
 obtain⟨hsb,hkz⟩:=hR.box _ _ _ hI2
 obtain⟨k,rfl⟩:∃k2,k=k2+1:=⟨k - 1,by omega⟩
 dsimp only
 unfold loopTok
 refine lP_seq (lP_of_run ?_)
 by_cases hlt:i<s.size
 case neg=>
  rw[lexT_end hlt]at he
  simp(disch:=omega)[pTok,b95,hkz,hlt]
  exact⟨⟨ob2,m⟩,HWk.refl _,fun h=>h,h1 _ he.symm _ _ hI2⟩
 rw[lexT_go hlt]at he
 obtain⟨c,hc,hd⟩:=byteG hlt
 have hwi:IntKind.wrap .i64 ((i:Int)+1)=((i+1:Nat):Int):=by rw[wrap_id (by omega) (by omega)];omega
 simp(disch:=omega)[pTok,b95,hkz,hlt]
 refine lP_blk (lP_seq (lP_of_run ?_))
 simp(disch:=omega)[pTok,b95,hkz,hc]
 refine lP_seq (lP_of_run ?_)
 simp(disch:=omega)[pTok,b95]
 refine lP_seq (lP_of_run ?_)
 simp(disch:=omega)[pTok,b95,hwi]
 refine lP_seq ?_
 have hdsc:=hok
 refine lP_weak pTok5_ne (t':=(.nd (.fn (.yield o) [] []) (.nd (.ptr sb 0) (.nd (.int i) .nil .nil) (.nd (.ptr m 0) .nil .nil)) (.nd .bot (.nd (U c.toNat) .nil .nil) (.nd (.int ((i+1:Nat):Int)) .nil .nil)))) (by simp[FT.Le,Wk]) (HWk.refl _) (fun h=>h) (sw_ok hs hlt hc hsb hkz ?_)
 cases hl:lstep s i with
 |skip j=>
  obtain⟨hij,hj⟩:=(lstep_lt hlt).1 j hl
  rw[hl]at he
  simp only at he
  intro n' t' hn' hle
  simp only[blkK_e,loopK_n,if_true]
  exact⟨⟨j,k,es,(m,cellT 0 i)::ob2,n'⟩,Nat.lt_succ_self _,⟨hR.keep _ _ _ _ _ hI2 (by dsimp only;omega) fun x hx=>look_ne (by omega) _ _,hj,by dsimp only;omega,by dsimp only;omega,he⟩,hle,HWk.refl _,fun h=>h⟩
 |tok r j=>
  obtain⟨hij,hj⟩:=(lstep_lt hlt).2 r j hl
  have hp:=lstep_pair (by omega) hlt hl
  have hk1:=hp.lo
  dsimp only at hk1
  rw[hl]at he
  simp only at he
  intro n' hn'
  refine t_restTok hR hs hI2 (by omega) (by omega) hj hn' r.kind r.n (by omega) fun t' ob' n'' hI' hle=>?_
  simp only[blkK_n,loopK_n]
  exact⟨⟨j,k,es++[⟨r.kind,s.extract i j,i,r.n⟩],ob',n''⟩,Nat.lt_succ_self _,⟨hI',hj,by simp;omega,by dsimp only;omega,he⟩,hle,HWk.refl _,fun h=>h⟩
 |bad e=>
  rw[hl]at he
  simp only at he
  intro j n' hij hj hn'
  refine t_restBad hR hs hI2 hij hj hn' e fun t' ob' n'' hB=>?_
  simp only[blkK_r,loopK_r,finK_r]
  simp(disch:=omega)[b95,resP_nil]
  exact⟨⟨ob',n''⟩,HWk.refl _,fun h=>h,h0 _ he.symm _ _ hB⟩
end
theorem t_tokens(s:ByteArray)(ob:List (Nat×LObj))(n:Nat){kv kp:HP}(hk:kv (.fn (.func 95) [] [.ptr n 0]) ⟨(n,.cells [.str s])::ob,n+1⟩):cP E0 F0 54 [.str s] ⟨ob,n⟩ kv kp:=by
 refine cP_of_fn c54 fun hH=>⟨Nat.le_of_ble_eq_true rfl,?_⟩
 simp(disch:=omega)[b54]
 exact⟨_,HWk.refl _,fun h=>h,hk⟩
def OwnAt(N0:Nat)(own:Own)(len:Nat)(ob:List (Nat×LObj))(n:Nat):Prop:=own=.full\/∃t,own=.tok t/\N0<=t/\t<n/\look t ob=some (.tok len 3)
theorem toks_all(l:List Tok):(l.map tokL).all (fun e=>e.cells.length==3)=true:=by simp[LV.cells]
theorem apL_own{N0:Nat}{own:Own}{es:List Tok}{ob:List (Nat×LObj)}{n:Nat}(hn:N0<=n)(h:OwnAt N0 own es.length ob n)(hl:es.length<=6000)(t:Tok):
  ∃own' ob' n',(∀ow,apL ⟨ob,n⟩ 3 (.sl (es.map tokL) own) (.sl [tokL t] ow)=some (.sl ((es++[t]).map tokL) own',⟨ob',n'⟩))/\n<=n'/\OwnAt N0 own' (es.length+1) ob' n'/\∀j,j<n->j<N0\/(∀t,own≠.tok t\/j≠t)->look j ob'=look j ob:=by
 have hes:=toks_all es
 have hm:es.map tokL++[tokL t]=(es++[t]).map tokL:=by simp
 rcases h with rfl|⟨k,rfl,h1,h2,h3⟩
 ·refine⟨.tok n,(n,.tok (es.length+1) 3)::ob,n+1,fun ow=>?_,Nat.le_succ _,.inr ⟨n,rfl,hn,Nat.lt_succ_self _,look_self _ _ _⟩,fun j hj _=>look_ne (by omega) _ _⟩
  unfold apL
  simp only
  rw[hes]
  simp only[List.all_cons,List.all_nil,Bool.and_true,LV.cells,List.length_cons,List.length_nil,beq_self_eq_true,if_true,List.length_map]
  rw[if_pos ⟨by omega,by omega,rfl⟩,hm]
  rfl
 ·refine⟨.tok k,putO k (.tok (es.length+1) 3) ob,n,fun ow=>?_,Nat.le_refl _,.inr ⟨k,rfl,h1,h2,look_putO h3⟩,fun j hj hne=>look_putO_ne ?_⟩
  ·have hcan:canApp ⟨ob,n⟩ 3 (.tok k) es.length=true:=by simp[canApp,h3]
   unfold apL
   simp only
   rw[hes]
   simp only[List.all_cons,List.all_nil,Bool.and_true,LV.cells,List.length_cons,List.length_nil,beq_self_eq_true,if_true,List.length_map]
   rw[if_pos ⟨by omega,by omega,hcan⟩,hm]
   rfl
  ·rcases hne with h|h
   ·omega
   ·rcases h k with h|h
    ·exact absurd rfl h
    ·exact h
abbrev tF(cap:List LV)(f:FuncId)(n:Nat):FT:=(.nd .bot (.nd (.fn (.func f) [] cap) .nil (.nd (.ptr (n+2) 0) .nil .nil)) (.nd (.ptr n 0) (.nd (.ptr (n+1) 0) .nil .nil) (.nd (.ptr (n+4) 0) .nil (.nd (.fn (.func 95) [] [.ptr (n+5) 0]) .nil .nil))))
theorem tF_small(cap:List LV)(f:FuncId)(n:Nat):(tF cap f n).Small 1 0 39:=by simp[FT.Small]
abbrev rcdO(FO:List LV)(b:Bool):LObj:=.rcd b FO [15] 0
structure RdI(s:ByteArray)(FO:List LV)(n:Nat)(ob0:List (Nat×LObj))(es:List Tok)(ob:List (Nat×LObj))(n':Nat):Prop where
 le:n+8<=n'
 b0:look n ob=some (.cells [.str s])
 ec:look (n+1) ob=some (.cells [.int 0])
 ac:look (n+2) ob=some (.cells [.int 0])
 pc:look (n+4) ob=some (.cells [.ptr (n+3) 0])
 sb:look (n+5) ob=some (.cells [.str s])
 dd:look (n+6) ob=some .dfr
 oo:look (n+7) ob=some (rcdO FO false)
 par:∃own,look (n+3) ob=some (parC es own 0 false)/\OwnAt (n+8) own es.length ob n'
 old:∀j,j<n->look j ob=look j ob0
structure RdB(n:Nat)(ob0:List (Nat×LObj))(e:Nat)(ob:List (Nat×LObj))(n':Nat):Prop where
 le:n+8<=n'
 ec:look (n+1) ob=some (.cells [.int 7])
 ac:look (n+2) ob=some (.cells [.int e])
 dd:look (n+6) ob=some .dfr
 oo:look (n+7) ob=some (.lft none)
 old:∀j,j<n->look j ob=look j ob0
theorem rds_ok(s:ByteArray)(cap:List LV)(f:FuncId)(n:Nat)(ob0:List (Nat×LObj)):Rnds s (n+7) (n+5) (RdI s (frF (tF cap f n) 39) n ob0) (RdB n ob0) where
 box es ob n' h:=⟨by have:=h.le;omega,h.sb⟩
 keep es ob n1 ob' n' h hn hj:=by
  have hl:=h.le
  obtain⟨own,hp,ho⟩:=h.par
  exact⟨by omega,by rw[hj _ (by omega)];exact h.b0,by rw[hj _ (by omega)];exact h.ec,by rw[hj _ (by omega)];exact h.ac,by rw[hj _ (by omega)];exact h.pc,by rw[hj _ (by omega)];exact h.sb,by rw[hj _ (by omega)];exact h.dd,by rw[hj _ (by omega)];exact h.oo,
   ⟨own,by rw[hj _ (by omega)];exact hp,ho.imp (fun h=>h) fun⟨t,h1,h2,h3,h4⟩=>⟨t,h1,h2,by omega,by rw[hj _ h3];exact h4⟩⟩,fun j hjn=>by rw[hj j (by omega)];exact h.old j hjn⟩
 tok es ob1 n1 t ob n2 kv h hkd hel hn hj hk:=by
  have hl:=h.le
  obtain⟨own,hp,ho⟩:=h.par
  have hp:=(hj (n+3) (by omega)).trans hp
  have hpc:=(hj (n+4) (by omega)).trans h.pc
  have hoo:=(hj (n+7) (by omega)).trans h.oo
  have ho2:OwnAt (n+8) own es.length ob n1:=ho.imp (fun h=>h) fun⟨t,h1,h2,h3,h4⟩=>⟨t,h1,h2,h3,by rw[hj _ h3];exact h4⟩
  obtain⟨FO,hFO⟩:∃FO,frF (tF cap f n) 39=FO:=⟨_,rfl⟩
  rw[hFO]at h hoo hk
  refine yP_run (t:=tF cap f n) (N:=39) (p:=15) (k:=0) (ba:=p34 4) (bb:=p34 5) (tF_small cap f n) (by decide) (by rw[hFO];exact hoo) rng34 fun hH=>?_
  rw[hFO]
  have hpo:∀x i,i≠n+7->look i (putO (n+7) x ob)=look i ob:=fun x i hi=>look_putO_ne hi
  have hX:∀x i,i<n2->i≠n+7->look i ((n2,x)::putO (n+7) (rcdO FO true) ob)=look i ob:=fun x i h1 h2=>by rw[look_ne (by omega),look_putO_ne h2]
  have hX7:∀x,look (n+7) ((n2,x)::putO (n+7) (rcdO FO true) ob)=some (rcdO FO true):=fun x=>by rw[look_ne (by omega)];exact look_putO hoo
  have ho3:OwnAt (n+8) own es.length ((n2,.cells (tokC t))::putO (n+7) (rcdO FO true) ob) (n2+1):=ho2.imp (fun h=>h) fun⟨t,h1,h2,h3,h4⟩=>⟨t,h1,h2,by omega,by rw[hX _ _ (by omega) (by omega)];exact h4⟩
  obtain⟨own',ob3,n3,e3,hn3,ho4,hold⟩:=apL_own (by omega) ho3 hel t
  have hpc1:=(hpo (rcdO FO true) (n+4) (by omega)).trans hpc
  have hp1:=(hpo (rcdO FO true) (n+3) (by omega)).trans hp
  simp(disch:=omega)[p34,b25,begK_n,rndK_n,hoo,hkd,hpc1,hp1]
  refine effP_ap ?_
  simp(disch:=omega)
  rw[e3]
  have k3:look (n+3) ob3=some (parC es own 0 false):=by rw[hold _ (by omega) (.inl (by omega)),hX _ _ (by omega) (by omega)];exact hp
  have k4:look (n+4) ob3=some (.cells [.ptr (n+3) 0]):=by rw[hold _ (by omega) (.inl (by omega)),hX _ _ (by omega) (by omega)];exact hpc
  have k7:look (n+7) ob3=some (rcdO FO true):=by rw[hold _ (by omega) (.inl (by omega))];exact hX7 _
  have hlp:∀x,look (n+3) (putO (n+3) x ob3)=some x:=fun x=>look_putO k3
  have k7':∀x,look (n+7) (putO (n+3) x ob3)=some (rcdO FO true):=fun x=>by rw[look_putO_ne (by omega)];exact k7
  simp(disch:=omega)[k3,k4,k7',rndK_n]
  have hown:∀j,n1<=j->∀k,own≠.tok k\/j≠k:=fun j hj k=>by
   rcases ho with h|⟨k',h1,_,h3,_⟩
   ·rw[h];exact .inl (by simp)
   ·by_cases hk:own=.tok k
    ·rw[h1]at hk
     cases hk
     exact .inr (by omega)
    ·exact .inl hk
  have hz:∀(x y:LObj)(j:Nat),j<n2->(j<n+8\/n1<=j)->j≠n+7->j≠n+3->look j (putO (n+7) x (putO (n+3) y ob3))=look j ob:=fun x y j h1 h2 h3 h4=>by
   rw[look_putO_ne h3,look_putO_ne h4,hold j (by omega) (h2.imp (fun h=>h) fun h=>hown j h),hX _ _ h1 h3]
  have kz:∀(x y:LObj)(j:Nat),j<n+8->j≠n+7->j≠n+3->look j (putO (n+7) x (putO (n+3) y ob3))=look j ob1:=fun x y j h1 h3 h4=>by
   rw[hz x y j (by omega) (.inl h1) h3 h4,hj j (by omega)]
  refine hk _ _ (by omega) ⟨by omega,by rw[kz _ _ _ (by omega) (by omega) (by omega)];exact h.b0,by rw[kz _ _ _ (by omega) (by omega) (by omega)];exact h.ec,by rw[kz _ _ _ (by omega) (by omega) (by omega)];exact h.ac,by rw[kz _ _ _ (by omega) (by omega) (by omega)];exact h.pc,
   by rw[kz _ _ _ (by omega) (by omega) (by omega)];exact h.sb,by rw[kz _ _ _ (by omega) (by omega) (by omega)];exact h.dd,look_putO (k7' _),⟨own',?_,?_⟩,fun j hjn=>by rw[kz _ _ _ (by omega) (by omega) (by omega)];exact h.old j hjn⟩ fun j h1 h2=>hz _ _ j h2 (.inr h1) (by omega) (by omega)
  ·rw[look_putO_ne (by omega),hlp]
   simp
  ·rw[List.length_append,List.length_singleton]
   refine ho4.imp (fun h=>h) fun⟨k,h1,h2,h3,h4⟩=>⟨k,h1,h2,h3,?_⟩
   rw[look_putO_ne (by omega),look_putO_ne (by omega)]
   exact h4
 bad es ob1 n1 x e ob n2 kv h hn hj hk:=by
  have hl:=h.le
  have hec:=(hj (n+1) (by omega)).trans h.ec
  have hac:=(hj (n+2) (by omega)).trans h.ac
  have hoo:=(hj (n+7) (by omega)).trans h.oo
  have hdd:=(hj (n+6) (by omega)).trans h.dd
  obtain⟨FO,hFO⟩:∃FO,frF (tF cap f n) 39=FO:=⟨_,rfl⟩
  rw[hFO]at h hoo
  refine yP_run (t:=tF cap f n) (N:=39) (p:=15) (k:=0) (ba:=p34 4) (bb:=p34 5) (tF_small cap f n) (by decide) (by rw[hFO];exact hoo) rng34 fun hH=>?_
  rw[hFO]
  have hpo:∀x i,i≠n+7->look i (putO (n+7) x ob)=look i ob:=fun x i hi=>look_putO_ne hi
  have e1:∀x,look (n+1) (putO (n+7) x ob)=some (.cells [.int 0]):=fun x=>by rw[hpo _ _ (by omega)];exact hec
  have a1:∀x y,look (n+2) (putO (n+1) y (putO (n+7) x ob))=some (.cells [.int 0]):=fun x y=>by rw[look_putO_ne (by omega),hpo _ _ (by omega)];exact hac
  have o1:∀x y z,look (n+7) (putO (n+2) z (putO (n+1) y (putO (n+7) x ob)))=some x:=fun x y z=>by rw[look_putO_ne (by omega),look_putO_ne (by omega)];exact look_putO hoo
  simp(disch:=omega)[p34,b25,begK_n,hoo,e1,a1]
  simp(disch:=omega)[rndK_r,o1]
  have hz:∀x y z u v j,j<n2->j≠n+7->j≠n+2->j≠n+1->look j ((n2,u)::putO (n+7) v (putO (n+2) z (putO (n+1) y (putO (n+7) x ob))))=look j ob:=fun x y z u v j h1 h2 h3 h4=>by
   rw[look_ne (by omega),look_putO_ne h2,look_putO_ne h3,look_putO_ne h4,look_putO_ne h2]
  have e2:∀x y z v,look (n+1) (putO (n+7) v (putO (n+2) z (putO (n+1) y (putO (n+7) x ob))))=some y:=fun x y z v=>by
   rw[look_putO_ne (by omega),look_putO_ne (by omega)];exact look_putO (e1 _)
  have a2:∀x y z v,look (n+2) (putO (n+7) v (putO (n+2) z (putO (n+1) y (putO (n+7) x ob))))=some z:=fun x y z v=>by
   rw[look_putO_ne (by omega)];exact look_putO (a1 _ _)
  refine hk _ _ (by omega) ⟨by omega,by rw[look_ne (by omega),e2],by rw[look_ne (by omega),a2],by rw[hz _ _ _ _ _ _ (by omega) (by omega) (by omega) (by omega)];exact hdd,?_,fun j hjn=>by rw[hz _ _ _ _ _ _ (by omega) (by omega) (by omega) (by omega),hj j (by omega)];exact h.old j hjn⟩
  rw[look_ne (by omega)]
  exact look_putO (o1 _ _ _)
theorem rA:r34.A=p34 0:=rfl
theorem rI:r34.I=p34 1:=rfl
theorem rB:r34.B=p34 2:=rfl
theorem rC:r34.C=p34 3:=rfl
theorem rRes:r34.res=[.c 4 none,.c 5 none]:=rfl
theorem last34(cs:List LV)(m:Nat)(kv:HP)(y:LV)(t7:FT)(H:LHeap):lastP E0 F0 r34 cs m kv y t7 H=argsP cs 0 .nil fun u=>setP u 7 y fun u=>runP E0 F0 p62 u H (lastK E0 [.c 4 none,.c 5 none] t7 m kv):=propext Iff.rfl
def atS(s:ByteArray)(L:List Tok)(e:Nat):Int:=if h:e<L.length then L[e].at_ else (s.size:Int)
set_option maxHeartbeats 1000000 in
theorem t_readS(s:ByteArray)(f:FuncId)(cap:List LV){Rv:List Tok->Bool->List (Nat×LObj)->Prop}{Rp:List Tok->Nat->List (Nat×LObj)->Prop}{n:Nat}{ob:List (Nat×LObj)}{kv kp:HP}
  (hA:6000<s.size->∀ob3 n3,n<=n3->(∀j,j<n->look j ob3=look j ob)->kv (.tup [.int 2,.int 0]) ⟨ob3,n3⟩)
  (hB:s.size<=6000->∀e,lexT s (s.size+1) 0 []=.error e->∀ob3 n3,n<=n3->(∀j,j<n->look j ob3=look j ob)->kv (.tup [.int 7,.int e]) ⟨ob3,n3⟩)
  (hdo:s.size<=6000->∀L,lexT s (s.size+1) 0 []=.ok L->∀own m ob' n',n<=m->m<n'->look m ob'=some (parC L own 0 false)->(∀j,j<n->look j ob'=look j ob)->∀kv' kp':HP,
   (∀b i v ob2 n2,Rv L b ob2->n'<=n2->look m ob2=some (parC L own i b)->(∀j,n<=j->j<n'->j≠m->look j ob2=look j ob')->kv' v ⟨ob2,n2⟩) ->
   (∀e b ob2 n2,Rp L e ob2->n'<=n2->look m ob2=some (parC L own e b)->(∀j,n<=j->j<n'->j≠m->look j ob2=look j ob')->kp' faultV ⟨ob2,n2⟩) ->
   cP E0 F0 f (.ptr m 0::cap) ⟨ob',n'⟩ kv' kp')
  (hk1:s.size<=6000->∀L,lexT s (s.size+1) 0 []=.ok L->∀b ob2,Rv L b ob2->∀ob3 n3,n<=n3->(∀j,j<n->look j ob3=look j ob2)->kv (.tup [.int (if b then 2 else 0),.int 0]) ⟨ob3,n3⟩)
  (hk0:s.size<=6000->∀L,lexT s (s.size+1) 0 []=.ok L->∀e ob2,Rp L e ob2->∀ob3 n3,n<=n3->(∀j,j<n->look j ob3=look j ob2)->kv (.tup [.int 7,.int (atS s L e)]) ⟨ob3,n3⟩):
  cP E0 F0 25 [.str s,.fn (.func f) [] cap] ⟨ob,n⟩ kv kp:=by
 intro hH
 have hOb:Desc ob n:=hH
 refine .prim (cP_of_rfn (P:=Tryz.prog) (E:=E0) (F:=F0) (r:=r34) hmixT fnsT (by rw[r34_fn];exact c25) (by rw[r34_gn];exact c55) rc34 hH ⟨Nat.le_of_ble_eq_true rfl,?_⟩)
 by_cases hbig:6000<s.size
 ·have hbig':(6000:Int)<(s.size:Int):=by omega
  simp(disch:=omega)[rA,rI,p34,b25,hbig']
  simp(disch:=omega)[earlyK_r,rRes,endP_cc]
  refine⟨_,HWk.refl _,fun h=>h,hA hbig _ _ (by omega) fun j hj=>?_⟩
  simp(disch:=omega)[look_ne]
 have hs:s.size<=6000:=by omega
 have hbig':¬(6000:Int)<(s.size:Int):=by omega
 simp(disch:=omega)[rA,rI,p34,b25,hbig']
 simp(disch:=omega)[rB,rC,p34,b25]
 refine t_tokens s _ _ ?_
 simp(disch:=omega)
 refine⟨tF cap f n,by simp[FT.Le,Wk],?_⟩
 refine⟨_,_,rfl,?_⟩
 show cP E0 F0 95 [.fn (.yield (n+7)) [] [],.ptr (n+5) 0] ⟨(n+7,rcdO (frF (tF cap f n) 39) false)::(n+6,.dfr)::(n+5,.cells [.str s])::(n+4,.cells [.ptr (n+3) 0])::(n+3,parC [] .full 0 false)::(n+2,.cells [.int 0])::(n+1,.cells [.int 0])::(n,.cells [.str s])::ob,n+8⟩ (afterK E0 F0 r34 (tF cap f n) (n+6) kv) (fun _ _=>False)
 refine t_tok1 (rds_ok s cap f n ob) hs ⟨Nat.le_refl _,by simp[look],by simp[look],by simp[look],by simp[look],by simp[look],by simp[look],by simp[look],⟨.full,by simp[look],.inl rfl⟩,fun j hj=>by simp(disch:=omega)[look_ne]⟩ (fun e he ob' n' hR=>?_) (fun L hL ob' n' hR=>?_)
 ·have hle:=hR.le
  refine .inr ⟨hR.oo,hR.dd,?_⟩
  rw[rRes,endP_cc]
  simp(disch:=omega)[look_delne,hR.ec,hR.ac]
  exact⟨_,HWk.refl _,fun h=>h,hB hs e he _ _ (by omega) fun j hj=>by rw[look_delne (by omega),look_delne (by omega)];exact hR.old j hj⟩
 have hle:=hR.le
 obtain⟨own,hpar,_⟩:=hR.par
 have hdl:∀j,j≠n+7->look j (delO (n+7) ob')=look j ob':=fun j hj=>look_delne hj _
 refine .inl ⟨hR.oo,show 4<=36 by omega,?_⟩
 have hp4:=(hdl (n+4) (by omega)).trans hR.pc
 have hp3:=(hdl (n+3) (by omega)).trans hpar
 show evsP E0 [T 2,T 4,T 5,T 6] (tF cap f n) fun cs=>setP (tF cap f n) 31 (.fn (.func 55) [] cs) fun t6=>runP E0 F0 (p34 6) t6 ⟨delO (n+7) ob',n'⟩ (behK E0 F0 r34 cs (n+6) kv)
 simp(disch:=omega)[p34,b25,hp4]
 refine hdo hs L hL own (n+3) _ n' (by omega) (by omega) hp3 (fun j hj=>by rw[hdl j (by omega)];exact hR.old j hj) _ _ (fun b i v ob2 n2 hv hn2 hm2 hold=>?_) (fun e b ob2 n2 hv hn2 hm2 hold=>?_)
 ·have ho:∀j,n<=j->j<n'->j≠n+3->j≠n+7->look j ob2=look j ob':=fun j h1 h2 h3 h4=>(hold j h1 h2 h3).trans (hdl j h4)
  have k1:=(ho (n+1) (by omega) (by omega) (by omega) (by omega)).trans hR.ec
  have k2:=(ho (n+2) (by omega) (by omega) (by omega) (by omega)).trans hR.ac
  have k4:=(ho (n+4) (by omega) (by omega) (by omega) (by omega)).trans hR.pc
  have k6:=(ho (n+6) (by omega) (by omega) (by omega) (by omega)).trans hR.dd
  have k2':∀x,look (n+2) (putO (n+1) x ob2)=some (.cells [.int 0]):=fun x=>by rw[look_putO_ne (by omega)];exact k2
  have kd:∀x y,look (n+6) (putO (n+2) y (putO (n+1) x ob2))=some .dfr:=fun x y=>by rw[look_putO_ne (by omega),look_putO_ne (by omega)];exact k6
  have f1:∀x y,look (n+1) (putO (n+2) y (putO (n+1) x ob2))=some x:=fun x y=>by rw[look_putO_ne (by omega)];exact look_putO k1
  have f2:∀x y,look (n+2) (putO (n+2) y (putO (n+1) x ob2))=some y:=fun x y=>look_putO (k2' x)
  have old:∀x y j,j<n->look j (delO (n+6) (putO (n+2) y (putO (n+1) x ob2)))=look j ob2:=fun x y j hj=>by rw[look_delne (by omega),look_putO_ne (by omega),look_putO_ne (by omega)]
  cases b
  ·simp(disch:=omega)[k4,hm2,k1,k2']
   simp(disch:=omega)[behK_r,last34,p62,b55,lastK_n,kd,endP_cc,look_delne,f1,f2]
   exact⟨_,HWk.refl _,fun h=>h,hk1 hs L hL false ob2 hv _ _ (by omega) (old _ _)⟩
  ·simp(disch:=omega)[k4,hm2,k1,k2']
   simp(disch:=omega)[behK_r,last34,p62,b55,lastK_n,kd,endP_cc,look_delne,f1,f2]
   exact⟨_,HWk.refl _,fun h=>h,hk1 hs L hL true ob2 hv _ _ (by omega) (old _ _)⟩
 ·have ho:∀j,n<=j->j<n'->j≠n+3->j≠n+7->look j ob2=look j ob':=fun j h1 h2 h3 h4=>(hold j h1 h2 h3).trans (hdl j h4)
  have k0:=(ho n (by omega) (by omega) (by omega) (by omega)).trans hR.b0
  have k1:=(ho (n+1) (by omega) (by omega) (by omega) (by omega)).trans hR.ec
  have k2:=(ho (n+2) (by omega) (by omega) (by omega) (by omega)).trans hR.ac
  have k4:=(ho (n+4) (by omega) (by omega) (by omega) (by omega)).trans hR.pc
  have k6:=(ho (n+6) (by omega) (by omega) (by omega) (by omega)).trans hR.dd
  have k2':∀x,look (n+2) (putO (n+1) x ob2)=some (.cells [.int 0]):=fun x=>by rw[look_putO_ne (by omega)];exact k2
  have g4:∀x y,look (n+4) (putO (n+2) y (putO (n+1) x ob2))=some (.cells [.ptr (n+3) 0]):=fun x y=>by rw[look_putO_ne (by omega),look_putO_ne (by omega)];exact k4
  have g3:∀x y,look (n+3) (putO (n+2) y (putO (n+1) x ob2))=some (parC L own e b):=fun x y=>by rw[look_putO_ne (by omega),look_putO_ne (by omega)];exact hm2
  have g2:∀x y,look (n+2) (putO (n+2) y (putO (n+1) x ob2))=some y:=fun x y=>look_putO (k2' x)
  have f1:∀x y z,look (n+1) (putO (n+2) z (putO (n+2) y (putO (n+1) x ob2)))=some x:=fun x y z=>by rw[look_putO_ne (by omega),look_putO_ne (by omega)];exact look_putO k1
  have f2:∀x y z,look (n+2) (putO (n+2) z (putO (n+2) y (putO (n+1) x ob2)))=some z:=fun x y z=>look_putO (g2 _ _)
  have e1:∀x y,look (n+1) (putO (n+2) y (putO (n+1) x ob2))=some x:=fun x y=>by rw[look_putO_ne (by omega)];exact look_putO k1
  have kd:∀x y,look (n+6) (putO (n+2) y (putO (n+1) x ob2))=some .dfr:=fun x y=>by rw[look_putO_ne (by omega),look_putO_ne (by omega)];exact k6
  have kd':∀x y z,look (n+6) (putO (n+2) z (putO (n+2) y (putO (n+1) x ob2)))=some .dfr:=fun x y z=>by rw[look_putO_ne (by omega),kd]
  by_cases hlt:e<L.length
  ·have hat:atS s L e=L[e].at_:=by unfold atS;rw[dif_pos hlt]
   have hv2:=hk0 hs L hL e ob2 hv
   rw[hat]at hv2
   simp(disch:=omega)[behK_p,last34,p62,b55,k0,k1,k2',g4,g3,g2,hlt]
   simp(disch:=omega)[lastK_n,kd',endP_cc,look_delne,f1,f2]
   exact⟨_,HWk.refl _,fun h=>h,hv2 _ _ (by omega) fun j hj=>by rw[look_delne (by omega),look_ne (by omega),look_putO_ne (by omega),look_putO_ne (by omega),look_putO_ne (by omega)]⟩
  ·have hat:atS s L e=(s.size:Int):=by unfold atS;rw[dif_neg hlt]
   have hv2:=hk0 hs L hL e ob2 hv
   rw[hat]at hv2
   simp(disch:=omega)[behK_p,last34,p62,b55,k0,k1,k2',g4,g3,hlt]
   simp(disch:=omega)[lastK_n,kd,endP_cc,look_delne,e1,g2]
   exact⟨_,HWk.refl _,fun h=>h,hv2 _ _ (by omega) fun j hj=>by rw[look_delne (by omega),look_ne (by omega),look_putO_ne (by omega),look_putO_ne (by omega)]⟩
def oneAtom(L:List Tok):Except Nat Atom:=match atomP L 0 with
 |.error e=>.error e
 |.ok (a,j)=>if j<L.length then .error j else .ok a
section
variable{s:ByteArray}{L:List Tok}{R:List RTok}
end
section
variable{L:List Tok}{own:Own}{b:Bool}{m o n:Nat}{ob:List (Nat×LObj)}
theorem t_pa1(hL:L.length<=2^20)(hN:NumOk L)(hmo:m≠o)(hl:look m ob=some (parC L own 0 b)){x0:LObj}(c1 c2:LV)(hx0:x0=.cells [c1,c2])(ho:look o ob=some x0){kv kp:HP}
  (hk0:∀e,oneAtom L=.error e->∀x b' n',n<=n'->kp faultV ⟨putO o x (putO m (parC L own e b') ob),n'⟩)
  (hk1:∀a,oneAtom L=.ok a->∀n',n<=n'->kv (.tup []) ⟨putO o (.cells [.str a.pred,argsL a.args]) (putO m (parC L own L.length (b||decide (3<a.args.length))) ob),n'⟩):
  cP E0 F0 31 [.ptr m 0,.ptr o 0] ⟨ob,n⟩ kv kp:=by
 refine cP_of_fn c31 fun hH=>⟨Nat.le_of_ble_eq_true rfl,?_⟩
 have hlp:∀x,look m (putO m x ob)=some x:=fun x=>look_putO hl
 have hop:∀x,look o (putO m x ob)=some (.cells [c1,c2]):=fun x=>by rw[look_putO_ne (Ne.symm hmo),ho,hx0]
 have hmp:∀x y,look m (putO o y (putO m x ob))=some x:=fun x y=>by rw[look_putO_ne hmo];exact hlp x
 simp(disch:=omega)[b31]
 refine t_atom hL hN (Nat.zero_le _) hl (fun e he n1 hn1=>?_) (fun a j he n1 hn1=>?_)
 ·have hone:oneAtom L=.error e:=by unfold oneAtom;rw[he]
  have:=hk0 e hone x0 b n1 hn1
  rw[putO_same (by rw[hop,hx0])]at this
  simp(disch:=omega)
  exact this
 obtain⟨_,hjl⟩:=(atomP_le (Nat.zero_le _)).1 a j he
 by_cases hlt:j<L.length
 ·have hone:oneAtom L=.error j:=by unfold oneAtom;rw[he];simp only;rw[if_pos hlt]
  simp(disch:=omega)[hlp,hop,hmp,hlt]
  exact hk0 j hone _ _ n1 hn1
 ·have hone:oneAtom L=.ok a:=by unfold oneAtom;rw[he];simp only;rw[if_neg hlt]
  obtain rfl:j=L.length:=by omega
  simp(disch:=omega)[hlp,hop,hmp,hlt]
  exact⟨⟨_,n1⟩,HWk.refl _,fun h=>h,hk1 a hone n1 hn1⟩
end
def parseF(L:List Tok):Nat->Nat->List Clause->Except Nat (List Clause)
 |0,_,acc=>.ok acc
 |k+1,i,acc=>if i<L.length then
   match clauseP L i with
   |.error e=>.error e
   |.ok (c,j)=>parseF L k j (acc++[c])
  else .ok acc
theorem parseF_end{L:List Tok}{k i:Nat}{acc:List Clause}(h:¬i<L.length):parseF L (k+1) i acc=.ok acc:=by
 unfold parseF
 rw[if_neg h]
theorem parseF_bad{L:List Tok}{k i e:Nat}{acc:List Clause}(h:i<L.length)(hc:clauseP L i=.error e):parseF L (k+1) i acc=.error e:=by
 unfold parseF
 rw[if_pos h,hc]
theorem parseF_go{L:List Tok}{k i j:Nat}{c:Clause}{acc:List Clause}(h:i<L.length)(hc:clauseP L i=.ok (c,j)):parseF L (k+1) i acc=parseF L k j (acc++[c]):=by
 conv=>lhs;unfold parseF
 rw[if_pos h,hc]
section
variable{L:List Tok}{R:List RTok}{own:Own}{i:Nat}{b:Bool}{m n:Nat}{ob:List (Nat×LObj)}
end
structure NNIs where
 i:Nat
 n:Nat
 es:List Clause
 ow:Own
 ob:List (Nat×LObj)
 bad:Int
 b:Bool
 k:Nat
section
variable{s:ByteArray}{L:List Tok}{R:List RTok}
end
theorem putO_comm{i j:Nat}{x y:LObj}(h:i≠j):∀l:List (Nat×LObj),putO i x (putO j y l)=putO j y (putO i x l)
 |[]=>rfl
 |(k,z)::r=>by
  have ih:=putO_comm (x:=x) (y:=y) h r
  by_cases h1:i=k
  ·subst h1
   rw[putO_ne (Ne.symm h),putO_self,putO_self,putO_ne (Ne.symm h)]
  ·by_cases h2:j=k
   ·subst h2
    rw[putO_self,putO_ne h1,putO_ne h1,putO_self]
   ·rw[putO_ne h2,putO_ne h1,putO_ne h1,putO_ne h2,ih]
structure NNIu where
 i:Nat
 n:Nat
 es:List Clause
 ow:Own
 ob:List (Nat×LObj)
 b:Bool
 k:Nat
section
variable{L:List Tok}{own:Own}{b:Bool}{m o n:Nat}{ob:List (Nat×LObj)}
set_option maxHeartbeats 1000000 in
theorem t_p1(hL:L.length<=2^20)(hN:NumOk L)(hmo:m≠o)(hl:look m ob=some (parC L own 0 b))(ho:look o ob=some (.cells [Nl])){kv kp:HP}
  (hk0:∀e,parseF L (L.length+1) 0 []=.error e->∀ob' b' n',n<=n'->(∀j,j<n->j≠o->j≠m->look j ob'=look j ob)->look m ob'=some (parC L own e b')->kp faultV ⟨ob',n'⟩)
  (hk1:∀l,parseF L (L.length+1) 0 []=.ok l->∀ow ob' n',n<=n'->(∀j,j<n->j≠o->j≠m->look j ob'=look j ob)->look m ob'=some (parC L own L.length ((b||l.any clBig)||decide (40<l.length)))->look o ob'=some (.cells [.sl (l.map clauseL) ow])->kv (.tup []) ⟨ob',n'⟩):
  cP E0 F0 26 [.ptr m 0,.ptr o 0] ⟨ob,n⟩ kv kp:=by
 refine cP_of_fn c26 fun hH=>⟨Nat.le_of_ble_eq_true rfl,?_⟩
 have hm:m<n:=hH.look hl
 have hon:o<n:=hH.look ho
 obtain⟨V,hV⟩:∃V,parseF L (L.length+1) 0 []=V:=⟨_,rfl⟩
 rw[hV]at hk0 hk1
 have hom:=Ne.symm hmo
 have hini:putO o (.cells [.sl (([]:List Clause).map clauseL) .full]) (putO m (parC L own 0 b) ob)=ob:=by rw[putO_same hl];exact putO_same ho
 simp(disch:=omega)[b26]
 refine lP_enter (σ:=NNIu) (fun q=>(.nd (.ptr m 0) (.nd (.ptr o 0) .nil .nil) .nil)) (fun q=>⟨q.ob,q.n⟩) (fun q=>L.length+1 - q.i)
  (fun q=>RowT ⟨putO o (.cells [.sl (q.es.map clauseL) q.ow]) (putO m (parC L own q.i q.b) ob),n⟩ 3 q.es.length q.ow q.ob q.n/\q.i<=L.length/\q.es.length<=q.i/\L.length - q.i<q.k/\parseF L q.k q.i q.es=V/\(b||q.es.any clBig)=q.b)
  ⟨0,n,[],.full,ob,b,L.length+1⟩ ⟨.inl ⟨rfl,hini.symm,Nat.le_refl _⟩,Nat.zero_le _,Nat.le_refl _,by dsimp only;omega,hV,by simp⟩ (by simp[FT.Le,Wk]) ⟨HWk.refl _,fun h=>h⟩ ?_
 rintro⟨i,n2,es,ow,ob2,b2,k⟩ ⟨hr,hi,hel,hkk,he,hbb⟩ hok
 dsimp only at hr hi hel hkk he hbb hok
 have hold:=hr.old
 dsimp only at hold
 have hlp:∀x,look m (putO m x ob)=some x:=fun x=>look_putO hl
 have kc:look m ob2=some (parC L own i b2):=by rw[hold.2 m hm,look_putO_ne hmo];exact hlp _
 have kz:look o ob2=some (.cells [.sl (es.map clauseL) ow]):=by rw[hold.2 o hon];exact look_putO (show look o (putO m (parC L own i b2) ob)=some (.cells [Nl]) by rw[look_putO_ne hom];exact ho)
 have kp2:∀x,look m (putO m x ob2)=some x:=fun x=>look_putO kc
 have kz2:∀x,look o (putO m x ob2)=some (.cells [.sl (es.map clauseL) ow]):=fun x=>by rw[look_putO_ne hom];exact kz
 have ko:∀(x:LObj)(j:Nat),j<n->j≠o->j≠m->look j (putO m x ob2)=look j ob:=fun x j hj h1 h2=>by rw[look_putO_ne h2,hold.2 j hj,look_putO_ne h1,look_putO_ne h2]
 obtain⟨k,rfl⟩:∃k2,k=k2+1:=⟨k - 1,by omega⟩
 by_cases hlt:i<L.length
 case neg=>
  obtain rfl:i=L.length:=by omega
  rw[parseF_end hlt]at he
  subst he
  have hv:=hk1 es rfl ow
  rw[hbb]at hv
  cases b2
  ·simp(disch:=omega)[kc,kz,kp2,kz2,hlt]
   exact⟨⟨_,n2⟩,HWk.refl _,fun h=>h,hv _ n2 (by omega) (ko _) (by rw[kp2];simp;omega) (kz2 _)⟩
  ·simp(disch:=omega)[kc,kz,kp2,kz2,hlt]
   exact⟨⟨_,n2⟩,HWk.refl _,fun h=>h,hv _ n2 (by omega) (ko _) (by rw[kp2];simp) (kz2 _)⟩
 simp(disch:=omega)[kc,kz,hlt]
 refine t_clause hL hN hi kc (fun e ht b' n8 hn8=>?_) (fun c j ht n8 hn8=>?_)
 ·rw[parseF_bad hlt ht]at he
  simp(disch:=omega)
  exact hk0 e he.symm _ b' n8 (by omega) (ko _) (kp2 _)
 rw[parseF_go hlt ht]at he
 obtain⟨hs1,hsl⟩:=(clauseP_le hi).1 c j ht
 obtain⟨b4,hb4⟩:∃b4,(b2||clBig c)=b4:=⟨_,rfl⟩
 rw[hb4]
 have hr3:=(hr.put (j:=m) (x:=parC L own j b4) hm).mono (show n2<=n8 by omega)
 dsimp only at hr3
 rw[putO_comm hmo,putO_putO]at hr3
 simp(disch:=omega)[kz2]
 refine effP_ap ?_
 simp(disch:=omega)
 obtain⟨ow3,ob3,m3,e3,hr4,hm3⟩:=row_apY (sz:=3) (es:=es.map clauseL) (Y:=[clauseL c]) (by omega) (clauses_all es) rfl (by simp;omega) (by rw[List.length_map];exact hr3)
 rw[List.length_map,List.length_singleton]at hr4
 have hold4:=hr4.old
 dsimp only at hold4
 have ka4:look o ob3=some (.cells [.sl (es.map clauseL) ow]):=by rw[hold4.2 o hon];exact look_putO (show look o (putO m (parC L own j b4) ob)=some (.cells [Nl]) by rw[look_putO_ne hom];exact ho)
 have e4:es.map clauseL++[clauseL c]=(es++[c]).map clauseL:=by simp
 rw[e4]at e3
 have hr5:=hr4.put (j:=o) (x:=.cells [.sl ((es++[c]).map clauseL) ow3]) hon
 dsimp only at hr5
 rw[putO_putO]at hr5
 rw[e3]
 simp(disch:=omega)[ka4]
 exact⟨⟨j,m3,es++[c],ow3,putO o (.cells [.sl ((es++[c]).map clauseL) ow3]) ob3,b4,k⟩,by dsimp only;omega,⟨by rw[List.length_append,List.length_singleton];exact hr5,by dsimp only;omega,by simp;omega,by dsimp only;omega,he,by rw[<-hb4,<-hbb];simp[Bool.or_assoc]⟩,by simp[FT.Le,Wk],by simp;exact HWk.refl _,by simp⟩
end
def readC(s:ByteArray):Except (Int×Int) (List Clause):=if 6000<s.size then .error (2,0) else match lexT s (s.size+1) 0 [] with
 |.error e=>.error (7,(e:Int))
 |.ok L=>match parseF L (L.length+1) 0 [] with
  |.error e=>.error (7,atS s L e)
  |.ok l=>if (l.any clBig||decide (40<l.length))=true then .error (2,0) else .ok l
def readA(s:ByteArray):Except (Int×Int) Atom:=if 6000<s.size then .error (2,0) else match lexT s (s.size+1) 0 [] with
 |.error e=>.error (7,(e:Int))
 |.ok L=>match oneAtom L with
  |.error e=>.error (7,atS s L e)
  |.ok a=>if 3<a.args.length then .error (2,0) else .ok a
def clausesV:Except (Int×Int) (List Clause)->List LV
 |.error (e,x)=>[clausesL [],.int e,.int x]
 |.ok l=>[clausesL l,.int 0,.int 0]
def atomV:Except (Int×Int) Atom->Atom×Int×Int
 |.error (e,x)=>(⟨⟨⟨[]⟩⟩,[]⟩,e,x)
 |.ok a=>(a,0,0)
section
variable{s:ByteArray}
theorem readC_big(h:6000<s.size):readC s=.error (2,0):=by unfold readC;rw[if_pos h]
theorem readC_lex(h:s.size<=6000){e:Nat}(he:lexT s (s.size+1) 0 []=.error e):readC s=.error (7,(e:Int)):=by unfold readC;rw[if_neg (by omega),he]
theorem readC_par(h:s.size<=6000){L:List Tok}(hL:lexT s (s.size+1) 0 []=.ok L){e:Nat}(he:parseF L (L.length+1) 0 []=.error e):readC s=.error (7,atS s L e):=by unfold readC;rw[if_neg (by omega),hL];simp only[he]
theorem readC_ok(h:s.size<=6000){L:List Tok}(hL:lexT s (s.size+1) 0 []=.ok L){l:List Clause}(he:parseF L (L.length+1) 0 []=.ok l):readC s=if (l.any clBig||decide (40<l.length))=true then .error (2,0) else .ok l:=by unfold readC;rw[if_neg (by omega),hL];simp only[he]
theorem readA_big(h:6000<s.size):readA s=.error (2,0):=by unfold readA;rw[if_pos h]
theorem readA_lex(h:s.size<=6000){e:Nat}(he:lexT s (s.size+1) 0 []=.error e):readA s=.error (7,(e:Int)):=by unfold readA;rw[if_neg (by omega),he]
theorem readA_par(h:s.size<=6000){L:List Tok}(hL:lexT s (s.size+1) 0 []=.ok L){e:Nat}(he:oneAtom L=.error e):readA s=.error (7,atS s L e):=by unfold readA;rw[if_neg (by omega),hL];simp only[he]
theorem readA_ok(h:s.size<=6000){L:List Tok}(hL:lexT s (s.size+1) 0 []=.ok L){a:Atom}(he:oneAtom L=.ok a):readA s=if 3<a.args.length then .error (2,0) else .ok a:=by unfold readA;rw[if_neg (by omega),hL];simp only[he]
theorem resP_ctt(n m q:Nat)(z:Option Nat)(t:FT)(H:LHeap)(k:LV->Prop):resP E0 [.c n z,.t m,.t q] t H k=getP t n fun a=>vP (loadL H z a) fun x=>getP t m fun b=>getP t q fun c=>k (.tup [x,b,c]):=by
 unfold resP getP vP
 apply propext
 simp only[resultL,List.mapM_cons,List.mapM_nil,resL]
 cases hx:loadL H z (t.get n) with
 |none=>simp
 |some x=>simp
theorem strip_clausesT(l:List Clause)(ow:Own)(e x:Int):Wk (.tup [.sl (l.map clauseL) ow,.int e,.int x]) (.tup [clausesL l,.int e,.int x]):=by
 refine .inr (.inl ?_)
 simp[LV.strip,stripL,stripL_map,List.map_map,Function.comp_def]
theorem t_Parse(s:ByteArray):PureT 6 [.str s] (.tup (clausesV (readC s))):=by
 intro H kv kp hk
 refine cP_of_fnB c6 fun hH=>⟨Nat.le_of_ble_eq_true rfl,?_⟩
 obtain⟨ob,n⟩:=H
 dsimp only at hk
 have hOb:Desc ob n:=hH
 have fin:∀(l:List Clause)(ow:Own)(e x:Int)(ob':List (Nat×LObj))(m':Nat),clausesV (readC s)=[clausesL l,.int e,.int x]->n<=m'->(∀j,j<n->look j ob'=look j ob) ->
   ∃v',Wk (.tup [.sl (l.map clauseL) ow,.int e,.int x]) v'/\∃H'',HWk ⟨ob',m'⟩ H''/\(LHeap.Ok ⟨ob',m'⟩->H''.Ok)/\kv v' H'':=fun l ow e x ob' m' h hm' ho=>
  ⟨_,strip_clausesT l ow e x,⟨ob,m'⟩,hwk_old hH ho (Nat.le_refl _),fun _=>hOb.mono hm',by have:=hk m' hm';rw[h]at this;exact this⟩
 have f0:∀(x:LObj) j,j<n->look j ((n,x)::ob)=look j ob:=fun x j hj=>look_ne (by omega) _ _
 simp(disch:=omega)[b6]
 refine t_readS s 26 [.ptr n 0] (Rv:=fun L b ob2=>∃l ow,parseF L (L.length+1) 0 []=.ok l/\b=(l.any clBig||decide (40<l.length))/\look n ob2=some (.cells [.sl (l.map clauseL) ow])/\∀j,j<n->look j ob2=look j ob)
  (Rp:=fun L e ob2=>parseF L (L.length+1) 0 []=.error e/\∀j,j<n->look j ob2=look j ob) (fun hb ob3 n3 hn3 h3=>?_) (fun hs6 e he ob3 n3 hn3 h3=>?_) (fun hs6 L hL own m ob' n' hm hm' hpar hold kv' kp' hv hp=>?_) (fun hs6 L hL b ob2 hv ob3 n3 hn3 h3=>?_) (fun hs6 L hL e ob2 hp ob3 n3 hn3 h3=>?_)
 ·simp(disch:=omega)[resP_three]
  exact fin [] .full 2 0 _ _ (by rw[readC_big hb];rfl) (by omega) fun j hj=>by rw[h3 j (by omega),f0 _ j hj]
 ·simp(disch:=omega)[resP_three]
  exact fin [] .full 7 e _ _ (by rw[readC_lex hs6 he];rfl) (by omega) fun j hj=>by rw[h3 j (by omega),f0 _ j hj]
 ·rcases lex_rel hs6 with⟨e,_,h2⟩|⟨R,L',_,h2,_,hN,hlen⟩
  ·rw[h2]at hL;cases hL
  rw[h2]at hL
  cases hL
  have hon:=(hold n (by omega)).trans (look_self _ _ _)
  have hold':∀j,j<n->look j ob'=look j ob:=fun j hj=>(hold j (by omega)).trans (f0 _ j hj)
  refine t_p1 (by omega) hN (by omega) hpar hon (fun e he ob2 b' n2 hn2 h1 h2=>?_) (fun l hl ow ob2 n2 hn2 h1 h2 h3=>?_)
  ·exact hp e b' ob2 n2 ⟨he,fun j hj=>(h1 j (by omega) (by omega) (by omega)).trans (hold' j hj)⟩ hn2 h2 fun j g1 g2 g3=>h1 j g2 (by omega) g3
  ·exact hv _ _ _ ob2 n2 ⟨l,ow,hl,by simp,h3,fun j hj=>(h1 j (by omega) (by omega) (by omega)).trans (hold' j hj)⟩ hn2 h2 fun j g1 g2 g3=>h1 j g2 (by omega) g3
 ·obtain⟨l,ow,hl,hb,hln,ho⟩:=hv
  have hr:=readC_ok hs6 hL hl
  rw[<-hb]at hr
  have h3n:=(h3 n (by omega)).trans hln
  cases b
  ·simp(disch:=omega)[h3n,resP_three]
   exact fin l ow 0 0 _ _ (by rw[hr];rfl) (by omega) fun j hj=>(h3 j (by omega)).trans (ho j hj)
  ·simp(disch:=omega)[resP_three]
   exact fin [] .full 2 0 _ _ (by rw[hr];rfl) (by omega) fun j hj=>(h3 j (by omega)).trans (ho j hj)
 ·simp(disch:=omega)[resP_three]
  exact fin [] .full 7 (atS s L e) _ _ (by rw[readC_par hs6 hL hp.1];rfl) (by omega) fun j hj=>(h3 j (by omega)).trans (hp.2 j hj)
theorem t_ParseAtom(s:ByteArray):PureT 8 [.str s] (.tup [atomL (atomV (readA s)).1,.int (atomV (readA s)).2.1,.int (atomV (readA s)).2.2]):=by
 intro H kv kp hk
 refine cP_of_fnB c8 fun hH=>⟨Nat.le_of_ble_eq_true rfl,?_⟩
 obtain⟨ob,n⟩:=H
 dsimp only at hk
 have hOb:Desc ob n:=hH
 have fin:∀(a:Atom)(ow:Own)(e x:Int)(ob':List (Nat×LObj))(m':Nat),atomV (readA s)=(a,e,x)->n<=m'->(∀j,j<n->look j ob'=look j ob) ->
   ∃v',Wk (.tup [.agg [.str a.pred,.sl (a.args.map termL) ow],.int e,.int x]) v'/\∃H'',HWk ⟨ob',m'⟩ H''/\(LHeap.Ok ⟨ob',m'⟩->H''.Ok)/\kv v' H'':=fun a ow e x ob' m' h hm' ho=>
  ⟨.tup [atomL a,.int e,.int x],.inr (.inl (by simp[LV.strip,stripL,stripL_map,List.map_map,Function.comp_def])),⟨ob,m'⟩,hwk_old hH ho (Nat.le_refl _),fun _=>hOb.mono hm',by have:=hk m' hm';rw[h]at this;exact this⟩
 have f0:∀(x y:LObj) j,j<n->look j ((n+1,x)::(n,y)::ob)=look j ob:=fun x y j hj=>by rw[look_ne (by omega),look_ne (by omega)]
 simp(disch:=omega)[b8]
 refine t_readS s 31 [.ptr (n+1) 0] (Rv:=fun L b ob2=>∃a,oneAtom L=.ok a/\b=decide (3<a.args.length)/\look (n+1) ob2=some (.cells [.str a.pred,argsL a.args])/\look n ob2=some (.cells [.str ⟨⟨[]⟩⟩,Nl])/\∀j,j<n->look j ob2=look j ob)
  (Rp:=fun L e ob2=>oneAtom L=.error e/\look n ob2=some (.cells [.str ⟨⟨[]⟩⟩,Nl])/\∀j,j<n->look j ob2=look j ob) (fun hb ob3 n3 hn3 h3=>?_) (fun hs6 e he ob3 n3 hn3 h3=>?_) (fun hs6 L hL own m ob' n' hm hm' hpar hold kv' kp' hv hp=>?_) (fun hs6 L hL b ob2 hv ob3 n3 hn3 h3=>?_) (fun hs6 L hL e ob2 hp ob3 n3 hn3 h3=>?_)
 ·have k0:look n ob3=some (.cells [.str ⟨⟨[]⟩⟩,Nl]):=(h3 n (by omega)).trans (by rw[look_ne (by omega)];exact look_self _ _ _)
  have kp:∀x,look n (putO n x ob3)=some x:=fun x=>look_putO k0
  simp(disch:=omega)[k0,kp]
  simp(disch:=omega)[k0,kp,resP_ctt]
  exact fin ⟨⟨⟨[]⟩⟩,[]⟩ .full 2 0 _ _ (by rw[readA_big hb];rfl) (by omega) fun j hj=>by rw[look_putO_ne (by omega),h3 j (by omega),f0 _ _ j hj]
 ·have k0:look n ob3=some (.cells [.str ⟨⟨[]⟩⟩,Nl]):=(h3 n (by omega)).trans (by rw[look_ne (by omega)];exact look_self _ _ _)
  have kp:∀x,look n (putO n x ob3)=some x:=fun x=>look_putO k0
  simp(disch:=omega)[k0,kp,resP_ctt]
  exact fin ⟨⟨⟨[]⟩⟩,[]⟩ .full 7 e _ _ (by rw[readA_lex hs6 he];rfl) (by omega) fun j hj=>by rw[look_putO_ne (by omega),h3 j (by omega),f0 _ _ j hj]
 ·rcases lex_rel hs6 with⟨e,_,h2⟩|⟨R,L',_,h2,_,hN,hlen⟩
  ·rw[h2]at hL;cases hL
  rw[h2]at hL
  cases hL
  have hon:look (n+1) ob'=some (.cells [.str ⟨⟨[]⟩⟩,Nl]):=(hold (n+1) (by omega)).trans (look_self _ _ _)
  have hn0:look n ob'=some (.cells [.str ⟨⟨[]⟩⟩,Nl]):=(hold n (by omega)).trans (by rw[look_ne (by omega)];exact look_self _ _ _)
  have hold':∀j,j<n->look j ob'=look j ob:=fun j hj=>(hold j (by omega)).trans (f0 _ _ j hj)
  have hmm:∀x y,look m (putO (n+1) y (putO m x ob'))=some x:=fun x y=>by rw[look_putO_ne (by omega)];exact look_putO hpar
  have hoo:∀x y,look (n+1) (putO (n+1) y (putO m x ob'))=some y:=fun x y=>look_putO (by rw[look_putO_ne (by omega)];exact hon)
  refine t_pa1 (by omega) hN (by omega) hpar _ _ rfl hon (fun e he x b' n2 hn2=>?_) (fun a ha n2 hn2=>?_)
  ·exact hp e b' _ n2 ⟨he,by rw[look_putO_ne (by omega),look_putO_ne (by omega)];exact hn0,fun j hj=>by rw[look_putO_ne (by omega),look_putO_ne (by omega)];exact hold' j hj⟩ hn2 (hmm _ _) fun j g1 g2 g3=>by rw[look_putO_ne (by omega),look_putO_ne g3]
  ·exact hv _ _ _ _ n2 ⟨a,ha,rfl,hoo _ _,by rw[look_putO_ne (by omega),look_putO_ne (by omega)];exact hn0,fun j hj=>by rw[look_putO_ne (by omega),look_putO_ne (by omega)];exact hold' j hj⟩ hn2 (hmm _ _) fun j g1 g2 g3=>by rw[look_putO_ne (by omega),look_putO_ne g3]
 ·obtain⟨a,ha,hb,ha1,ha0,ho⟩:=hv
  have hr:=readA_ok hs6 hL ha
  have k1:=(h3 (n+1) (by omega)).trans ha1
  have k0:=(h3 n (by omega)).trans ha0
  have kp:∀x,look n (putO n x ob3)=some x:=fun x=>look_putO k0
  by_cases h3a:3<a.args.length
  ·rw[decide_eq_true h3a]at hb
   rw[if_pos h3a]at hr
   subst hb
   simp(disch:=omega)[k0,k1,kp,resP_ctt]
   exact fin ⟨⟨⟨[]⟩⟩,[]⟩ .full 2 0 _ _ (by rw[hr];rfl) (by omega) fun j hj=>by rw[look_putO_ne (by omega),h3 j (by omega),ho j hj]
  ·rw[decide_eq_false h3a]at hb
   rw[if_neg h3a]at hr
   subst hb
   simp(disch:=omega)[k0,k1,kp,resP_ctt]
   exact fin a .no 0 0 _ _ (by rw[hr];rfl) (by omega) fun j hj=>by rw[look_putO_ne (by omega),h3 j (by omega),ho j hj]
 ·have k0:=(h3 n (by omega)).trans hp.2.1
  have kp:∀x,look n (putO n x ob3)=some x:=fun x=>look_putO k0
  simp(disch:=omega)[k0,kp,resP_ctt]
  exact fin ⟨⟨⟨[]⟩⟩,[]⟩ .full 7 (atS s L e) _ _ (by rw[readA_par hs6 hL hp.1];rfl) (by omega) fun j hj=>by rw[look_putO_ne (by omega),h3 j (by omega),hp.2.2 j hj]
end
end Go.Abs.Tz
namespace Go.Abs.Tz
open Go Go.Abs Go.Proofs
structure TokOk(t:Tok):Prop where
 name:t.kind=1->wordOk 97 122 t.text=true
 var:t.kind=2->wordOk 65 90 t.text=true
 num:t.kind=3->-1000000000<=t.n/\t.n<=1000000000
theorem runN_all(p:Int->Bool):∀l:List UInt8,(∀c∈l,p (c.toNat:Int)=true)->runN p l=l.length
 |[],_=>rfl
 |c::r,h=>by
  unfold runN
  rw[if_pos (h c List.mem_cons_self),runN_all p r fun d hd=>h d (List.mem_cons_of_mem _ hd),List.length_cons]
theorem sL_extract(s:ByteArray)(i j:Nat):sL (s.extract i j)=((sL s).drop i).take (j - i):=by
 unfold sL
 rw[extr_list]
 rfl
theorem word_ok{s:ByteArray}{i:Nat}{c:UInt8}(hi:i<s.size)(hd:(sL s).drop i=c::(sL s).drop (i+1))(hl:letB (c.toNat:Int)=true)(h24:¬24<endN wordC s i - i)
  (h1:eqBA (s.extract i (endN wordC s i)) bIf=false) (h2:eqBA (s.extract i (endN wordC s i)) bNot=false) {lo hi':Int} (hlo:lo<=(c.toNat:Int)) (hhi:(c.toNat:Int)<=hi'):wordOk lo hi' (s.extract i (endN wordC s i))=true:=by
 have hEi:=endN_lt (p:=wordC) hd (by simp[wordC,hl])
 have hEs:=(endN_le (p:=wordC) (s:=s) (i:=i) (by omega)).2
 have hE:endN wordC s i=i+runN wordC ((sL s).drop i):=rfl
 obtain⟨E,hEd⟩:∃E,endN wordC s i=E:=⟨_,rfl⟩
 rw[hEd]at h24 h1 h2 hEi hEs hE ⊢
 have hsz:(s.extract i E).size=E - i:=by rw[ByteArray.size_extract];omega
 have hrun:runN wordC (sL (s.extract i E))=(s.extract i E).size:=by
  rw[runN_all wordC]
  ·exact sL_length _
  ·intro d hdm
   rw[sL_extract,show E - i=runN wordC ((sL s).drop i) by omega]at hdm
   exact runN_take wordC _ d hdm
 have hfirst:firstB lo hi' (sL (s.extract i E))=true:=by
  rw[sL_extract,hd,show E - i=(E - i - 1)+1 by omega,List.take_succ_cons]
  simp[firstB,hlo,hhi]
 unfold wordOk
 have h1':eqBA (s.extract i E) ⟨⟨[105,102]⟩⟩=false:=h1
 have h2':eqBA (s.extract i E) ⟨⟨[110,111,116]⟩⟩=false:=h2
 rw[hfirst,hrun,h1',h2',hsz]
 simp
 omega
theorem lstep_tokOk{s:ByteArray}{i:Nat}(hi:i<s.size){r:RTok}{j:Nat}(h:lstep s i=.tok r j):TokOk ⟨r.kind,s.extract i j,i,r.n⟩:=by
 obtain⟨c,hc,hd⟩:=byteG hi
 have hb:=byI_of hc
 unfold lstep at h
 rw[hb]at h
 split at h
 ·cases h
 split at h
 ·cases h
 split at h
 ·rename_i _ _ hl
  unfold wordStep at h
  split at h
  ·cases h
  ·rename_i h24
   cases h
   have hlr:65<=(c.toNat:Int)/\(c.toNat:Int)<=90\/97<=(c.toNat:Int)/\(c.toNat:Int)<=122:=by
    simp only[letB,smallB,capB,Bool.or_eq_true,Bool.and_eq_true,decide_eq_true_eq]at hl
    omega
   have hk:∀x n,wKind x n≠4->eqBA x bIf=false/\eqBA x bNot=false/\wKind x n=if n<=90 then 2 else 1:=by
    intro x n hne
    unfold wKind at hne ⊢
    cases h1:eqBA x bIf
    ·cases h2:eqBA x bNot
     ·exact⟨rfl,rfl,by simp⟩
     ·rw[h1,h2]at hne;simp at hne
    ·rw[h1]at hne;simp at hne
   refine⟨fun h=>?_,fun h=>?_,fun h=>?_⟩
   ·dsimp only at h ⊢
    obtain⟨h1,h2,h3⟩:=hk _ _ (by rw[h];decide)
    rw[h3,hb]at h
    split at h
    ·cases h
    ·exact word_ok hi hd hl h24 h1 h2 (by omega) (by omega)
   ·dsimp only at h ⊢
    obtain⟨h1,h2,h3⟩:=hk _ _ (by rw[h];decide)
    rw[h3,hb]at h
    split at h
    ·exact word_ok hi hd hl h24 h1 h2 (by omega) (by omega)
    ·cases h
   ·dsimp only at h
    obtain⟨h1,h2,h3⟩:=hk _ _ (by rw[h];decide)
    rw[h3]at h
    split at h<;>cases h
 split at h
 ·rename_i hn
  rw[<-hb]at hn
  rcases numStep_part hn with⟨_,_,e⟩|⟨_,hp,e⟩
  ·rw[e]at h;cases h
  ·rw[e]at h
   unfold numAt at h
   split at h
   ·cases h
   rename_i hnv
   split at h
   ·cases h
   ·cases h
    obtain⟨_,h0⟩:=(num_atoi hp).1 hnv
    refine⟨fun h=>absurd h (by decide:¬(3:Int)=1),fun h=>absurd h (by decide:¬(3:Int)=2),fun _=>?_⟩
    dsimp only
    split<;>omega
 ·unfold markStep at h
  split at h
  ·cases h
  ·cases h
   exact⟨fun h=>absurd h (by decide:¬(4:Int)=1),fun h=>absurd h (by decide:¬(4:Int)=2),fun h=>absurd h (by decide:¬(4:Int)=3)⟩
theorem lexT_tokOk{s:ByteArray}:∀(k i:Nat)(T L:List Tok),(∀t∈T,TokOk t)->lexT s k i T=.ok L->∀t∈L,TokOk t
 |0,i,T,L,hT,h=>by cases h;exact hT
 |k+1,i,T,L,hT,h=>by
  by_cases hi:i<s.size
  ·rw[lexT_go hi]at h
   cases hl:lstep s i with
   |skip j=>rw[hl]at h;exact lexT_tokOk k j T L hT h
   |tok r j=>
    rw[hl]at h
    refine lexT_tokOk k j _ L (fun t ht=>?_) h
    rcases List.mem_append.1 ht with ht|ht
    ·exact hT t ht
    ·rw[List.mem_singleton.1 ht];exact lstep_tokOk hi hl
   |bad e=>rw[hl]at h;cases h
  ·rw[lexT_end hi]at h
   cases h
   exact hT
section
variable{L:List Tok}(hL:∀t∈L,TokOk t)
include hL
theorem termP_ok{i:Nat}{t:Term}(h:termP L i=some t):termOk t=true:=by
 unfold termP at h
 split at h
 ·rename_i hi
  have ho:=hL _ (List.getElem_mem hi)
  unfold tokT at h
  split at h
  ·rename_i h1
   cases h
   have:=ho.name h1
   simp[termOk,this]
  split at h
  ·rename_i h1
   cases h
   have:=ho.var h1
   simp[termOk,this]
  split at h
  ·rename_i h1
   cases h
   have:=ho.num h1
   simp[termOk,this,eqBA_self]
  ·cases h
 ·cases h
theorem argsLp_ok{i j:Nat}{acc ts:List Term}(h:argsLp L i acc=.ok (ts,j))(ha:∀t∈acc,termOk t=true):∀t∈ts,termOk t=true:=by
 induction hm:L.length - i using Nat.strongRecOn generalizing i acc with
 |ind m ih=>
  cases hc:isM L i bComma
  ·rw[argsLp_no hc]at h
   cases h
   exact ha
  ·have hlt:=isM_lt hc
   cases ht:termP L (i+1) with
   |none=>rw[argsLp_bad hc ht]at h;cases h
   |some t=>
    rw[argsLp_go hc ht]at h
    refine ih (L.length - (i+2)) (by omega) h (fun u hu=>?_) rfl
    rcases List.mem_append.1 hu with hu|hu
    ·exact ha u hu
    ·rw[List.mem_singleton.1 hu];exact termP_ok hL ht
theorem txtAt_name{i:Nat}(h:kAt L i=1):wordOk 97 122 (txtAt L i)=true:=by
 unfold kAt at h
 split at h
 ·rename_i hi
  unfold txtAt
  rw[dif_pos hi]
  exact(hL _ (List.getElem_mem hi)).name h
 ·cases h
theorem atomP_ok{i j:Nat}{a:Atom}(h:atomP L i=.ok (a,j)):wordOk 97 122 a.pred=true/\a.args.all termOk=true:=by
 unfold atomP at h
 split at h
 ·cases h
 rename_i hk
 have hn:=txtAt_name hL (show kAt L i=1 from Classical.not_not.1 hk)
 split at h
 ·split at h
  ·cases h
  rename_i t ht
  split at h
  ·cases h
  rename_i ts j' ha
  split at h
  ·cases h
   refine⟨hn,List.all_eq_true.2 (argsLp_ok hL ha fun u hu=>?_)⟩
   rw[List.mem_singleton.1 hu]
   exact termP_ok hL ht
  ·cases h
 ·cases h
  exact⟨hn,rfl⟩
theorem litP_ok{i j:Nat}{x:Lit}(h:litP L i=.ok (x,j))(hb:litBig x=false):litOk x=true:=by
 have h3:x.atom.args.length<=3:=by simpa [litBig] using hb
 have hz:zeroT term0=true:=by simp[zeroT,eqBA_self]
 unfold litP at h
 split at h
 ·obtain⟨a,ha,rfl⟩:=exMap_ok h
  obtain⟨h1,h2⟩:=atomP_ok hL ha
  dsimp only at h3
  unfold litOk
  simp[atomOk,h1,h2,h3,hz]
 split at h
 ·obtain⟨a,ha,rfl⟩:=exMap_ok h
  obtain⟨h1,h2⟩:=atomP_ok hL ha
  dsimp only at h3
  unfold litOk
  simp[atomOk,h1,h2,h3,hz]
 ·split at h
  ·cases h
  rename_i t ht
  have ht:=termP_ok hL ht
  unfold opP at h
  split at h
  ·split at h
   ·cases h
   rename_i c hc
   have hc:=termP_ok hL hc
   cases h
   have he:eqBA atom0.pred ⟨⟨[]⟩⟩=true:=eqBA_self _
   unfold mkOp
   (repeat' split)<;>simp[litOk,ht,hc,he]
  ·cases h
theorem litsLp_ok{i j:Nat}{acc ls:List Lit}(h:litsLp L i acc=.ok (ls,j))(hb:∀x∈ls,litBig x=false)(ha:∀x∈acc,litBig x=false->litOk x=true):∀x∈ls,litOk x=true:=by
 induction hm:L.length - i using Nat.strongRecOn generalizing i acc with
 |ind m ih=>
  cases hc:isM L i bComma
  ·rw[litsLp_no hc]at h
   cases h
   exact fun x hx=>ha x hx (hb x hx)
  ·have hlt:=isM_lt hc
   cases ht:litP L (i+1) with
   |error e=>rw[litsLp_bad hc ht]at h;cases h
   |ok p=>
    obtain⟨x,k⟩:=p
    rw[litsLp_go hc ht]at h
    have hk:=(litP_le (show i+1<=L.length from hlt)).1 _ _ ht
    refine ih (L.length - k) (by omega) h (fun u hu=>?_) rfl
    rcases List.mem_append.1 hu with hu|hu
    ·exact ha u hu
    ·rw[List.mem_singleton.1 hu];exact litP_ok hL ht
theorem clauseP_ok{i j:Nat}{c:Clause}(h:clauseP L i=.ok (c,j))(hb:clBig c=false):clauseOk c=true:=by
 have fin:∀(a:Atom)(ls:List Lit)(p:Nat),finP L a ls p=.ok (c,j)->wordOk 97 122 a.pred=true/\a.args.all termOk=true->((∀x∈ls,litBig x=false)->∀x∈ls,litOk x=true)->clauseOk c=true:=by
  intro a ls p h h1 h2
  unfold finP at h
  split at h
  ·cases h
   unfold clBig at hb
   simp only[Bool.or_eq_false_iff,decide_eq_false_iff_not]at hb
   obtain⟨⟨b1,b2⟩,b3⟩:=hb
   have b2:∀x∈ls,litBig x=false:=fun x hx=>by
    have:=List.any_eq_false.1 b2 x hx
    simpa using this
   have h4:=h2 b2
   unfold clauseOk
   simp only[Bool.and_eq_true,decide_eq_true_eq,List.all_eq_true]
   refine⟨?_,by omega,h4⟩
   unfold atomOk
   simp only[Bool.and_eq_true,decide_eq_true_eq]
   exact⟨h1.1,by omega,h1.2⟩
  ·cases h
 unfold clauseP at h
 split at h
 ·cases h
 rename_i a p ha
 have h1:=atomP_ok hL ha
 split at h
 ·unfold bodyP at h
  split at h
  ·cases h
  rename_i x k hx
  split at h
  ·cases h
  rename_i ls k2 hls
  exact fin a ls k2 h h1 fun hb=>litsLp_ok hL hls hb fun y hy hyb=>by
   rw[List.mem_singleton.1 hy]at hyb ⊢
   exact litP_ok hL hx hyb
 ·exact fin a [] p h h1 fun _ x hx=>by cases hx
theorem parseF_ok:∀(k i:Nat)(acc l:List Clause),parseF L k i acc=.ok l->(∀c∈acc,clBig c=false->clauseOk c=true)->∀c∈l,clBig c=false->clauseOk c=true
 |0,i,acc,l,h,ha=>by cases h;exact ha
 |k+1,i,acc,l,h,ha=>by
  by_cases hlt:i<L.length
  ·cases hc:clauseP L i with
   |error e=>rw[parseF_bad hlt hc]at h;cases h
   |ok p=>
    obtain⟨c,j⟩:=p
    rw[parseF_go hlt hc]at h
    refine parseF_ok k j _ l h fun d hd=>?_
    rcases List.mem_append.1 hd with hd|hd
    ·exact ha d hd
    ·rw[List.mem_singleton.1 hd];exact clauseP_ok hL hc
  ·rw[parseF_end hlt]at h
   cases h
   exact ha
end
theorem readC_formed{s:ByteArray}{l:List Clause}(h:readC s=.ok l):l.length<=40/\∀c∈l,clauseOk c=true:=by
 unfold readC at h
 split at h
 ·cases h
 split at h
 ·cases h
 rename_i L hL
 split at h
 ·cases h
 rename_i l' hl
 split at h
 ·cases h
 ·rename_i hb
  cases h
  simp only[Bool.or_eq_true,decide_eq_true_eq,not_or]at hb
  refine⟨by omega,fun c hc=>parseF_ok (lexT_tokOk _ _ _ _ (fun t ht=>by cases ht) hL) _ _ _ _ hl (fun c hc=>by cases hc) c hc ?_⟩
  cases hcb:clBig c
  ·rfl
  ·exact absurd (List.any_eq_true.2 ⟨c,hc,hcb⟩) hb.1
theorem word_small{lo hi:Int}{s:ByteArray}(h:wordOk lo hi s=true):s.size<=24:=by
 unfold wordOk at h
 simp only[Bool.and_eq_true,decide_eq_true_eq]at h
 exact h.2.1
theorem eqBA_none{s:ByteArray}(h:eqBA s ⟨⟨[]⟩⟩=true):s.size=0:=by
 rw[eqBA_iff.1 h];rfl
theorem termOk_ok{t:Term}(h:termOk t=true):t.ok:=by
 unfold termOk at h
 unfold Term.ok
 split at h
 ·simp only[Bool.and_eq_true]at h
  have:=eqBA_none h.1
  omega
 split at h
 ·simp only[Bool.and_eq_true]at h
  have:=word_small h.2
  omega
 split at h
 ·simp only[Bool.and_eq_true]at h
  have:=word_small h.2
  omega
 ·cases h
theorem atomOk_ok{a:Atom}(h:atomOk a=true):a.ok:=by
 unfold atomOk at h
 simp only[Bool.and_eq_true,decide_eq_true_eq,List.all_eq_true]at h
 have:=word_small h.1
 exact⟨by omega,by omega,fun t ht=>termOk_ok (h.2.2 t ht)⟩
theorem litOk_ok{x:Lit}(h:litOk x=true):Lit.ok2 x:=by
 have hz:∀t,zeroT t=true->Term.ok t:=fun t h=>by
  unfold zeroT at h
  simp only[Bool.and_eq_true]at h
  have:=eqBA_none h.2.2
  unfold Term.ok
  omega
 unfold litOk at h
 split at h
 ·simp only[Bool.and_eq_true]at h
  exact⟨atomOk_ok h.1,hz _ h.2.1,hz _ h.2.2⟩
 split at h
 ·simp only[Bool.and_eq_true,decide_eq_true_eq]at h
  have h0:=eqBA_none h.2.2.1
  refine⟨⟨by omega,by omega,fun t ht=>?_⟩,termOk_ok h.1,termOk_ok h.2.1⟩
  rw[List.eq_nil_of_length_eq_zero h.2.2.2]at ht
  cases ht
 ·cases h
theorem clauseOk_ok3{c:Clause}(h:clauseOk c=true):Clause.ok3 c:=by
 unfold clauseOk at h
 simp only[Bool.and_eq_true,decide_eq_true_eq,List.all_eq_true]at h
 exact⟨⟨atomOk_ok h.1,by omega,fun x hx=>litOk_ok (h.2.2 x hx)⟩,⟨atomOk_ok h.1,by omega,fun x hx=>(litOk_ok (h.2.2 x hx)).1⟩⟩
end Go.Abs.Tz
namespace Go.Abs.Tz
open Go Go.Abs Go.Proofs
set_option maxRecDepth 20000
set_option linter.unusedSimpArgs false
attribute [local simp ↓] getP_nil getP_node setP_nil setP_node oneP_eq vP_map vP_some vP_none vP_bind eP_some bP_true bP_false gP_yes gP_tf gP_ft gP_tup runP_skip runP_ops runP_drw runP_seq runP_cond runP_blk runP_loop runP_exit runP_ret seqK_n seqK_r seqK_e seqK_p blkK_n blkK_r blkK_e blkK_p loopK_n loopK_r loopK_e loopK_p finK_n finK_r finK_p resP_one resP_two resP_three resP_nil resP_c nxP_nil argsP_nil argsP_cons evP_t evP_c evP_g evsP_nil evsP_cons clP_fn clP_yld clfP_fn pnP_i opsP_nil opsP_d opsP_x opsP_gt opsP_gf opP_cf opP_cl opP_pn opP_nx valP_mv valP_pk valP_eq valP_bn valP_nt valP_ld valP_fa valP_fd valP_ia valP_ix valP_ln valP_srn valP_srl valP_srh valP_srb valP_cv valP_mi valP_mf valP_xt valP_bs valP_bd valP_nc valP_mn valP_lk valP_ta opP_mv opP_pk opP_eq opP_bn opP_nt opP_ld opP_fa opP_fd opP_ia opP_ix opP_ln opP_sr opP_cv opP_mi opP_mf opP_xt opP_bs opP_bd opP_nc opP_mn opP_lk opP_ta opP_al opP_bx opP_st opP_ap opP_mk opP_nb opP_mu opP_rg opP_en pendP_nil pendP_d pendP_g drwP_nil drwP_d drwP_x drwP_gt drwP_gf look_self natOf_nat
attribute [local simp] faL fdL iaL ixL loadL partL lenL eqK eqL natOf eqB_s eqB_i eqB_b bn_add bn_sub bn_lss bn_leq bn_gtr bn_geq bn_adds bn_lsss bn_gtrs bn_leqs bn_geqs sliceL LV.cells LV.whole look_self put_self putO_self put_eq stL fillL termC dopP LHeap.alloc oneI oneS oneB nth0 nth1 nth2 nth3 nth4 nth5 nth6 nth7 nth8 nth9 look_ne putO_ne
theorem bytesLess_self:∀l:List UInt8,Op.bytesLess l l=false
 |[]=>rfl
 |c::r=>by simp[Op.bytesLess,bytesLess_self r]
theorem cmpB_self(a:ByteArray):cmpB a a=0:=by
 have h:lessB a a=false:=bytesLess_self _
 unfold cmpB
 rw[h,eqBA_self]
 rfl
theorem cmpI_self(a:Int):cmpI a a=0:=by unfold cmpI;rw[if_neg (by omega),if_neg (by omega)]
theorem cmpTs_self:∀l:List Term,cmpTs l l=0
 |[]=>rfl
 |t::r=>by
  have:cmpT t t=0:=by unfold cmpT;rw[cmpI_self,cmpI_self,cmpB_self];rfl
  simp[cmpTs,this,cmpTs_self r]
theorem cmpA_self(a:Atom):cmpA a a=0:=by unfold cmpA;rw[cmpB_self,cmpI_self,cmpTs_self];rfl
theorem t_rSame(a b:Atom)(ha:a.ok)(hb:b.ok):PureT 11 [atomL a,atomL b] (.bool (decide (cmpA a b=0))):=by
 refine PureT.of c11 fun H hH=>⟨Nat.le_of_ble_eq_true rfl,?_⟩
 simp(disch:=omega)[b11]
 refine(t_rCompare a b ha hb).go fun n hn=>?_
 simp(disch:=omega)
 exact doneK hH (by first|rfl|simp[])
theorem t_sameLit(x:Lit)(hx:x.atom.ok):PureT 35 [litL x,litL x] (.bool true):=by
 refine PureT.of c35 fun H hH=>⟨Nat.le_of_ble_eq_true rfl,?_⟩
 simp(disch:=omega)[b35]
 refine(t_rSame x.atom x.atom hx hx).go fun n hn=>?_
 rw[cmpA_self]
 simp(disch:=omega)[eqBA_self]
 exact doneK hH (by first|rfl|simp[])
def clOk(l:List Clause):Prop:=l.length<=2^20/\∀c∈l,c.head.ok/\c.body.length<=2^20/\∀x∈c.body,x.atom.ok
theorem t_sameClauses(l:List Clause)(o1 o2:Own)(hl:clOk l):PureT 10 [.sl (l.map clauseL) o1,.sl (l.map clauseL) o2] (.bool true):=by
 obtain⟨hll,hlo⟩:=hl
 refine PureT.of c10 fun H hH=>⟨Nat.le_of_ble_eq_true rfl,?_⟩
 simp(disch:=omega)[b10]
 refine lP_enter (σ:=NN) (fun q=>(.nd (.sl (l.map clauseL) o1) (.nd (.sl (l.map clauseL) o2) .nil (.nd (.int q.i) .nil .nil)) .nil)) (fun q=>⟨H.objs,q.n⟩) (fun q=>l.length - q.i)
  (fun q=>H.next<=q.n/\q.i<=l.length) ⟨0,H.next⟩ ⟨Nat.le_refl _,Nat.zero_le _⟩ (by simp[FT.Le,Wk]) ⟨HWk.refl _,fun h=>h⟩ ?_
 rintro⟨i,n⟩ ⟨hn,hi⟩ hok
 dsimp only at hn hi hok
 by_cases hlt:i<l.length
 case neg=>
  simp(disch:=omega)[hlt]
  exact doneK hH (by first|rfl|simp[])
 obtain⟨hh,hbl,hb⟩:=hlo _ (mem_at hlt)
 simp(disch:=omega)[hlt]
 refine(t_rSame l[i].head l[i].head hh hh).go fun n2 hn2=>?_
 rw[cmpA_self]
 simp(disch:=omega)[hlt]
 refine lP_enter (σ:=NN) (fun q=>(.nd (.sl (l.map clauseL) o1) (.nd (.sl (l.map clauseL) o2) (.nd .bot (.nd (.int q.i) .nil .nil) .nil) (.nd (.int i) .nil .nil)) .nil)) (fun q=>⟨H.objs,q.n⟩) (fun q=>l[i].body.length - q.i)
  (fun q=>H.next<=q.n/\q.i<=l[i].body.length) ⟨0,n2⟩ ⟨by dsimp only;omega,Nat.zero_le _⟩ (by simp[FT.Le,Wk]) ⟨HWk.refl _,fun h=>h⟩ ?_
 rintro⟨j,n3⟩ ⟨hn3,hj⟩ hok3
 dsimp only at hn3 hj hok3
 by_cases hjl:j<l[i].body.length
 case neg=>
  simp(disch:=omega)[hlt,hjl,wrap_nat (show i<2^62 by omega)]
  exact⟨⟨i+1,n3⟩,by dsimp only;omega,⟨by dsimp only;omega,by dsimp only;omega⟩,by simp[FT.Le,Wk],HWk.refl _,fun h=>h⟩
 simp(disch:=omega)[hlt,hjl]
 refine(t_sameLit l[i].body[j] (hb _ (List.getElem_mem hjl))).go fun n4 hn4=>?_
 simp(disch:=omega)[wrap_nat (show j<2^62 by omega)]
 exact⟨⟨j+1,n4⟩,by dsimp only;omega,⟨by dsimp only;omega,by dsimp only;omega⟩,by simp[FT.Le,Wk],HWk.refl _,fun h=>h⟩
theorem clOk_of{l:List Clause}(hl:l.length<=40)(h:∀c∈l,clauseOk c=true):clOk l:=⟨by omega,fun c hc=>by
 have ho:=h c hc
 obtain⟨h2,_⟩:=clauseOk_ok3 ho
 unfold clauseOk at ho
 simp only[Bool.and_eq_true,decide_eq_true_eq]at ho
 exact⟨h2.1,by omega,fun x hx=>(h2.2.2 x hx).1⟩⟩
theorem wrap_nat63{n:Nat}(h:n+1<2^63):IntKind.wrap .i64 ((n:Int)+1)=((n+1:Nat):Int):=by
 rw[wrap_id (by omega) (by omega)];omega
def litShort(x:Lit):Bool:=x.atom.small&&(decide (x.a.s.size<=40)&&decide (x.b.s.size<=40))
def cntB:List Lit->Nat
 |[]=>0
 |x::r=>(if x.kind=1 then 1 else 0)+cntB r
def clShort(c:Clause):Bool:=c.body.all litShort&&(c.head.small&&(decide (cntB c.body<=3)&&decide (c.body.length<=8)))
def shortB(mo:Nat)(l:List Clause):Bool:=if 40<l.length then true else if l.all clShort then decide (l.length<=mo) else false
theorem cntB_le:∀l:List Lit,cntB l<=l.length
 |[]=>Nat.le_refl _
 |x::r=>by
  have:=cntB_le r
  simp only[cntB,List.length_cons]
  split<;>omega
structure NNCq where
 i:Nat
 n:Nat
 c:Nat
theorem t_shortClauses(mo:Nat)(hmo:mo<=100)(l:List Clause)(hb:∀c∈l,c.body.length<2^63):PureT 12 [clausesL l,.int mo] (.bool (shortB mo l)):=by
 refine PureT.of c12 fun H hH=>⟨Nat.le_of_ble_eq_true rfl,?_⟩
 by_cases h1:(40:Int)<(l.length:Int)
 ·simp(disch:=omega)[b12,h1]
  exact doneK hH (by simp[shortB,show 40<l.length by omega])
 have hl40:l.length<=40:=by omega
 simp(disch:=omega)[b12,h1]
 obtain⟨A,hA⟩:∃A,l.all clShort=A:=⟨_,rfl⟩
 have hB:shortB mo l=if A then decide (l.length<=mo) else false:=by unfold shortB;rw[if_neg (by omega),hA]
 obtain⟨Vv,hVv⟩:∃Vv,(if A then decide (l.length<=mo) else false)=Vv:=⟨_,rfl⟩
 rw[hB,hVv]
 refine lP_enter (σ:=NN) (fun q=>(.nd (clausesL l) (.nd (.int mo) .nil (.nd (.int q.i) .nil .nil)) (.nd .bot (.nd (.bool false) .nil .nil) .nil))) (fun q=>⟨H.objs,q.n⟩) (fun q=>l.length - q.i)
  (fun q=>H.next<=q.n/\q.i<=l.length/\(l.drop q.i).all clShort=A) ⟨0,H.next⟩ ⟨Nat.le_refl _,Nat.zero_le _,hA⟩ (by simp[FT.Le,Wk]) ⟨HWk.refl _,fun h=>h⟩ ?_
 rintro⟨i,n⟩ ⟨hn,hi,he⟩ hok
 simp only at hn hi he
 by_cases hlt:i<l.length
 case neg=>
  obtain rfl:i=l.length:=by omega
  rw[List.drop_eq_nil_of_le (Nat.le_refl _),List.all_nil]at he
  simp(disch:=omega)
  refine pureK_i hH ?_ (by first|exact HExt.refl' _|(repeat (first|exact HExt.refl (by first|omega|(dsimp only;omega))|refine HExt.cons' hH (by first|omega|(dsimp only;omega)) (by first|omega|(dsimp only;omega)) ?_)))
  rw[<-hVv,<-he]
  simp
 rw[all_drop clShort hlt]at he
 have hbl:=hb _ (mem_at hlt)
 obtain⟨D,hD⟩:∃D,l[i].body.all litShort=D:=⟨_,rfl⟩
 obtain⟨M,hM⟩:∃M,cntB l[i].body=M:=⟨_,rfl⟩
 have hC:clShort l[i]=(D&&(l[i].head.small&&(decide (M<=3)&&decide (l[i].body.length<=8)))):=by unfold clShort;rw[hD,hM]
 rw[hC]at he
 have hML:M<=l[i].body.length:=by rw[<-hM];exact cntB_le _
 simp(disch:=omega)[hlt]
 refine lP_enter (σ:=NNCq) (fun q=>(.nd (clausesL l) (.nd (.int mo) (.nd .bot (.nd (.int q.i) .nil .nil) .nil) (.nd (.int i) .nil .nil)) (.nd .bot (.nd (.bool false) .nil .nil) (.nd (.int q.c) .nil .nil)))) (fun q=>⟨H.objs,q.n⟩) (fun q=>l[i].body.length - q.i)
  (fun q=>H.next<=q.n/\q.i<=l[i].body.length/\q.c+cntB (l[i].body.drop q.i)=M/\(l[i].body.drop q.i).all litShort=D) ⟨0,n,0⟩ ⟨hn,Nat.zero_le _,by simpa using hM,hD⟩ (by simp[FT.Le,Wk]) ⟨HWk.refl _,fun h=>h⟩ ?_
 rintro⟨j,n2,cn⟩ ⟨hn2,hj,hcn,he2⟩ hok2
 dsimp only at hn2 hj hcn he2
 by_cases hlt2:j<l[i].body.length
 case neg=>
  rw[List.drop_eq_nil_of_le (by omega)]at hcn he2
  simp only[cntB,List.all_nil,Nat.add_zero]at hcn he2
  subst hcn
  subst he2
  rw[Bool.true_and]at he
  simp(disch:=omega)[hlt,hlt2]
  refine(t_short l[i].head).go fun n3 hn3=>?_
  cases hs:l[i].head.small
  ·rw[hs,Bool.false_and,Bool.false_and]at he
   simp(disch:=omega)
   exact doneK hH (by simp[<-hVv,<-he])
  rw[hs,Bool.true_and]at he
  by_cases h3:cn<=3
  case neg=>
   have h3':(3:Int)<(cn:Int):=by omega
   have h3n:3<cn:=by omega
   simp only[h3,decide_false,Bool.false_and]at he
   simp(disch:=omega)[h3',h3n]
   exact doneK hH (by simp[<-hVv,<-he])
  have h3':¬(3:Int)<(cn:Int):=by omega
  have h3n:¬3<cn:=by omega
  by_cases h8:l[i].body.length<=8
  case neg=>
   have h8':(8:Int)<(l[i].body.length:Int):=by omega
   have h8n:8<l[i].body.length:=by omega
   simp only[h3,h8,decide_false,Bool.and_false,Bool.false_and]at he
   simp(disch:=omega)[h3',h3n,h8',h8n,hlt]
   exact doneK hH (by simp[<-hVv,<-he])
  have h8':¬(8:Int)<(l[i].body.length:Int):=by omega
  have h8n:¬8<l[i].body.length:=by omega
  simp only[h3,h8,decide_true,Bool.and_true,Bool.true_and]at he
  simp(disch:=omega)[h3',h3n,h8',h8n,hlt,wrap_nat (show i<2^62 by omega)]
  exact⟨⟨i+1,n3⟩,by dsimp only;omega,⟨by dsimp only;omega,by dsimp only;omega,he⟩,by simp[FT.Le,Wk],HWk.refl _,fun h=>h⟩
 rw[all_drop litShort hlt2]at he2
 rw[List.drop_eq_getElem_cons hlt2]at hcn
 simp only[cntB]at hcn
 have hdone:litShort l[i].body[j]=false->Vv=false:=by
  intro h
  rw[<-hVv]
  rw[h,Bool.false_and]at he2
  rw[<-he2,Bool.false_and,Bool.false_and]at he
  rw[<-he];rfl
 have hnext:litShort l[i].body[j]=true->(l[i].body.drop (j+1)).all litShort=D:=by
  intro h
  rw[h,Bool.true_and]at he2
  exact he2
 have hcnj:∃cn2:Nat,(if l[i].body[j].kind=1 then IntKind.wrap .i64 ((cn:Int)+1) else (cn:Int))=(cn2:Int)/\cn2+cntB (l[i].body.drop (j+1))=M:=by
  by_cases hk:l[i].body[j].kind=1
  ·rw[if_pos hk]at hcn ⊢
   exact⟨cn+1,wrap_nat63 (by omega),by omega⟩
  ·rw[if_neg hk]at hcn ⊢
   exact⟨cn,rfl,by omega⟩
 obtain⟨cn2,hc1,hc2⟩:=hcnj
 have hback:∀(x:LObj)(n':Nat),H.next<=n'->H.next<=n2->HWk ⟨(n2,x)::H.objs,n'⟩ ⟨H.objs,n'⟩/\(LHeap.Ok ⟨(n2,x)::H.objs,n'⟩->LHeap.Ok ⟨H.objs,n'⟩):=fun x n' h1 h2=>back hH (HExt.cons' hH h2 h1 (HExt.refl (Nat.le_refl _)))
 by_cases hk:l[i].body[j].kind=1
 all_goals
  first|rw[if_pos hk]at hc1|rw[if_neg hk]at hc1
  simp(disch:=omega)[hlt,hlt2,hk]
  refine(t_short l[i].body[j].atom).go fun n3 hn3=>?_
  cases hs:l[i].body[j].atom.small
  ·have:=hdone (by unfold litShort;rw[hs];rfl)
   simp(disch:=omega)
   exact doneK hH (by simp[this])
  by_cases ha:(40:Int)<(l[i].body[j].a.s.size:Int)
  ·have:=hdone (by
    unfold litShort
    rw[hs,show decide (l[i].body[j].a.s.size<=40)=false from decide_eq_false (by omega)];rfl)
   simp(disch:=omega)[ha]
   exact doneK hH (by simp[this])
  by_cases hb2:(40:Int)<(l[i].body[j].b.s.size:Int)
  ·have:=hdone (by
    unfold litShort
    rw[hs,show decide (l[i].body[j].b.s.size<=40)=false from decide_eq_false (by omega),Bool.and_false];rfl)
   simp(disch:=omega)[ha,hb2]
   exact doneK hH (by simp[this])
  have:=hnext (by
   unfold litShort
   rw[hs,show decide (l[i].body[j].a.s.size<=40)=true from decide_eq_true (by omega),show decide (l[i].body[j].b.s.size<=40)=true from decide_eq_true (by omega)];rfl)
  simp(disch:=omega)[ha,hb2,hc1,wrap_nat63 (show j+1<2^63 by omega)]
  exact⟨⟨j+1,n3,cn2⟩,by dsimp only;omega,⟨by dsimp only;omega,by dsimp only;omega,hc2,this⟩,by simp[FT.Le,Wk,hc1],hback _ _ (by first|omega|(dsimp only at hn3 ⊢;omega)) (by omega)⟩
theorem short_ok3{c:Clause}(h:clShort c=true):Clause.ok3 c:=by
 unfold clShort at h
 simp only[Bool.and_eq_true,decide_eq_true_iff,List.all_eq_true]at h
 obtain⟨h1,h2,h3,h4⟩:=h
 have hb:∀x∈c.body,x.atom.ok/\x.a.s.size<=40/\x.b.s.size<=40:=fun x hx=>by
  have:=h1 x hx
  unfold litShort at this
  simp only[Bool.and_eq_true,decide_eq_true_iff]at this
  exact⟨Atom.small_ok this.1,this.2.1,this.2.2⟩
 exact⟨⟨Atom.small_ok h2,by omega,fun x hx=>⟨(hb x hx).1,by have:=(hb x hx).2.1;unfold Term.ok;omega,by have:=(hb x hx).2.2;unfold Term.ok;omega⟩⟩,⟨Atom.small_ok h2,by omega,fun x hx=>(hb x hx).1⟩⟩
end Go.Abs.Tz
namespace Go.Abs.Tz
set_option maxRecDepth 20000
open Go Go.Abs Go.Proofs Go.ChangeShapes Go.WideShapes Go.RowKit Go.Proofs.YtjdooijejbmbnaaGreatDoor
noncomputable def gOf(W:World):Ghost:=⟨fun b=>if b<W.heap.size then some true else none,0,fun _=>0,fun _=>(0,0),fun _=>none,fun _ _=>.free,E0.rc⟩
theorem gOf_cl{W:World}{b x:Nat}{v:Value}(h:W.cell? (at_ b x)=some v):(gOf W).Cl b x:=by
 left
 have:b<W.heap.size:=by
  rcases Nat.lt_or_ge b W.heap.size with h'|h'
  ·exact h'
  ·unfold World.cell? at h
   rw[show (at_ b x).block=b from rfl,Array.getElem?_eq_none h']at h
   cases h
 simp[gOf,this]
theorem gOf_inv(W:World)(m:Nat):Inv (gOf W) W ⟨[],m⟩:=by
 refine⟨Nat.zero_le _,fun b hb=>?_,fun _ _ _=>rfl,fun _ _ _=>rfl,fun o x hx=>by simp[look]at hx⟩
 simp only[gOf]at hb
 split at hb
 ·assumption
 ·cases hb
abbrev powName:String:=(Rows.customReadsAsSpecifiedRow.laid.map Prod.fst)[2]!
theorem pow_lies{W:World}(h:laidMetH Tryz.prog Rows.customReadsAsSpecifiedRow.laid W):∃t fz,W.heap[(3:Nat)]? = some (.cells (Lib.pow10Tab.map fun z=>Value.int .u64 z).toArray t fz):=by
 have h1:=laidMetH.filter (fun x=>x.1==powName) h
 have e:Rows.customReadsAsSpecifiedRow.laid.filter (fun x=>x.1==powName)=[(powName,Lib.tabData .u64 Lib.pow10Tab)]:=rfl
 rw[e]at h1
 change laidMet Tryz.prog [(powName,Lib.tabData .u64 Lib.pow10Tab)] W at h1
 have h2:=Lib.tabIs_of_head (g:=3) (t:=237) (e:=193) (n:=20) (by kernel_rfl) (by kernel_rfl) (by kernel_rfl) (by kernel_rfl) (by kernel_rfl) (by kernel_rfl) h1
 unfold Lib.TabIs World.var? at h2
 rw[show Tryz.prog.globalNamed powName=some 3 by kernel_rfl]at h2
 simp only[Option.bind_some]at h2
 split at h2
 ·rename_i cs t fz hh
  cases h2
  exact⟨t,fz,hh⟩
 ·cases h2
abbrev errName:String:=(Rows.customReadsAsSpecifiedRow.laid.map Prod.fst)[3]!
theorem errRow(u:TypeId)(h:Tryz.prog.typeName? 3 u=some "*errors.errorString"):u=233:=by
 have hs : "*" ++ "errors.errorString" = "*errors.errorString" := by decide
 exact typeName_ptr_named (nm := "errors.errorString") (by rw[hs];kernel_rfl) (by kernel_rfl) (by decide) u (by rw[hs];exact h)
theorem err_lies{W:World}(h:laidMetH Tryz.prog Rows.customReadsAsSpecifiedRow.laid W):∃ty v t fz,W.heap[(1:Nat)]? = some (.cells #[.iface ty v] t fz):=by
 have h1:=laidMetH.filter (fun x=>x.1==errName) h
 have e:Rows.customReadsAsSpecifiedRow.laid.filter (fun x=>x.1==errName)=[(errName,.iface "*errors.errorString" (.ptr (.agg [.lit (.string [118,97,108,117,101,32,111,117,116,32,111,102,32,114,97,110,103,101])])))]:=rfl
 rw[e]at h1
 have h2:=laid_sentinel h1 (g:=1) (ti:=100) (tp:=233) (te:=235) (by kernel_rfl) (by kernel_rfl) Tryz.underlying100 errRow Tryz.underlying233 Tryz.underlying235 rfl rfl Tryz.underlying9 (by kernel_rfl) (by kernel_rfl)
 obtain⟨a,s,hv,_⟩:=h2
 unfold World.var? at hv
 rw[show Tryz.prog.globalNamed errName=some 1 by kernel_rfl]at hv
 simp only[Option.bind_some]at hv
 split at hv
 ·rename_i cs t fz hh
  cases hv
  exact⟨_,_,t,fz,hh⟩
 ·cases hv
theorem gOf_env(W:World)(h:laidMetH Tryz.prog Rows.customReadsAsSpecifiedRow.laid W):EnvR E0 (gOf W) W:=by
 refine⟨fun g=>.bot _,rfl,fun p hp=>?_⟩
 have hp':p=(3,fun vs=>vs=(Lib.pow10Tab.map fun z=>Value.int .u64 z).toArray)\/p=(1,fun vs=>∃ty v,vs=#[.iface ty v]):=by simpa [E0,powT] using hp
 rcases hp' with rfl|rfl
 ·obtain⟨t,fz,hh⟩:=pow_lies h
  have hlt:3<W.heap.size:=(Array.getElem?_eq_some_iff.1 hh).1
  exact⟨by simp[gOf,hlt],_,t,fz,hh,rfl⟩
 ·obtain⟨ty,v,t,fz,hh⟩:=err_lies h
  have hlt:1<W.heap.size:=(Array.getElem?_eq_some_iff.1 hh).1
  exact⟨by simp[gOf,hlt],_,t,fz,hh,ty,v,rfl⟩
theorem add_add{a:Addr}(h:a.spot=none)(x y:Nat):(a.add x).add y=at_ a.block (a.off+x+y):=by
 obtain⟨b,o,s⟩:=a
 simp only at h
 subst h
 unfold Addr.add
 by_cases hx:x=0<;>by_cases hy:y=0<;>simp[hx,hy,Nat.add_assoc]
theorem z9:Tryz.prog.cellsOf 9=1:=by kernel_rfl
theorem z3:Tryz.prog.cellsOf 3=1:=by kernel_rfl
theorem z30:Tryz.prog.cellsOf 30=1:=by kernel_rfl
theorem z72:Tryz.prog.cellsOf 72=1:=by kernel_rfl
theorem z32:Tryz.prog.cellsOf 32=2:=by kernel_rfl
theorem z61:Tryz.prog.cellsOf 61=3:=by kernel_rfl
theorem z92:Tryz.prog.cellsOf 92=9:=by kernel_rfl
theorem z74:Tryz.prog.cellsOf 74=3:=by kernel_rfl
def RowR(W:World)(cl:List LV)(cs:List Value):Prop:=cs.length=cl.length/\∀(j:Nat)(c:LV),cl[j]? = some c->∃v,cs[j]? = some v/\VR (gOf W) W c v/\v.oneCell'=true
theorem RowR.nil(W:World):RowR W [] []:=⟨rfl,fun j c h=>by simp at h⟩
theorem RowR.cons{W:World}{c:LV}{v:Value}{cl:List LV}{cs:List Value}(h:VR (gOf W) W c v)(h1:v.oneCell'=true)(hr:RowR W cl cs):RowR W (c::cl) (v::cs):=
 ⟨by simp[hr.1],fun j x hx=>by
  cases j with
  |zero=>simp at hx;subst hx;exact⟨v,rfl,h,h1⟩
  |succ j=>simp at hx;simpa using hr.2 j x hx⟩
theorem RowR.append{W:World}{cl dl:List LV}{cs ds:List Value}(h:RowR W cl cs)(k:RowR W dl ds):RowR W (cl++dl) (cs++ds):=by
 refine⟨by simp[h.1,k.1],fun j c hc=>?_⟩
 rcases Nat.lt_or_ge j cl.length with hj|hj
 ·rw[List.getElem?_append_left hj]at hc
  rw[List.getElem?_append_left (by rw[h.1];exact hj)]
  exact h.2 j c hc
 ·rw[List.getElem?_append_right hj]at hc
  rw[List.getElem?_append_right (by rw[h.1];exact hj),h.1]
  exact k.2 _ c hc
theorem RowR.agg{W:World}{cl:List LV}{cs:List Value}(h:RowR W cl cs):VR (gOf W) W (.agg cl) (.agg cs.toArray):=by
 refine .agg (by simp[h.1]) (fun i c hc=>?_) (fun i hi=>?_)
 ·obtain⟨v,h1,h2,_⟩:=h.2 i c hc
  have:cs.toArray.getD i undef=v:=by simp[Array.getD_eq_getD_getElem?,h1]
  rw[this];exact h2
 ·obtain⟨v,h1,_,h3⟩:=h.2 i _ (List.getElem?_eq_getElem hi)
  have:cs.toArray.getD i undef=v:=by simp[Array.getD_eq_getD_getElem?,h1]
  rw[this];exact h3
section
variable{H:Type}{enc:TypeId×Value->H}{W:World}{hd:Bool}
theorem fld{m:Nat}{cs:List Value}{f:Field}{t:TypeId}{off c:Nat}{r:Option (DataW H×List MemPlace)}(h:DataW.trod enc Tryz.prog W 0 (fun _=>true) hd m f.type ((cs.drop f.offset).take (Tryz.prog.cellsOf f.type))=r)
  (h1:f.type=t) (h2:f.offset=off) (h3:Tryz.prog.cellsOf t=c):DataW.trod enc Tryz.prog W 0 (fun _=>true) hd m t ((cs.drop off).take c)=r:=by
 subst h1;subst h2;subst h3;exact h
theorem open_row{α:Type}(ec:α->List LV){S E:TypeId}{k:Nat}(hu:Tryz.prog.underlying S=some (.slice E))(hk:Tryz.prog.cellsOf E=k)(hk0:0<k)
  (hec:∀a,(ec a).length=k) (a0:α)
  (hop:∀(n:Nat)(cs:List Value)(x:DataW H×List MemPlace),DataW.trod enc Tryz.prog W 0 (fun _=>true) hd n E cs=some x->∃a:α,RowR W (ec a) cs)
  {n:Nat} {u:Value} {x:DataW H×List MemPlace} (h:DataW.trod enc Tryz.prog W 0 (fun _=>true) hd n S [u]=some x):
  ∃l:List α,l.length<2^63/\VR (gOf W) W (.sl (l.map fun a=>.agg (ec a)) .no) u/\u.oneCell'=true:=by
 rcases Deep.open_slice hu h with⟨e1,_⟩|⟨a,len,cap,m,n',D,Pl,e1,_,hlc,hmax,hm,_,hel⟩
 ·simp only[List.cons.injEq,and_true]at e1
  subst e1
  exact⟨[],by simp,.sln trivial,rfl⟩
 ·simp only[List.cons.injEq,and_true]at e1
  subst e1
  simp only[if_true]at hm
  have hm:=hm.symm
  subst hm
  have hmax2:cap<2^63:=by unfold maxLen at hmax;omega
  by_cases hc0:cap=0
  ·subst hc0
   obtain rfl:len=0:=by omega
   exact⟨[],by simp,.sle a,rfl⟩
  have hspot:a.spot=none:=by
   obtain⟨cs',q1,_⟩:=hel 0 (by omega)
   rw[hk]at q1
   obtain⟨_,q2,q3⟩:=World.cells?_some q1
   have:=q3 0 hk0
   rw[List.getElem?_eq_getElem (by omega)]at this
   have:=World.cell?_spot this
   simpa [Addr.add] using this
  have ht:∀i,∃t:α,i<len->∃cs,RowR W (ec t) cs/\∀j,j<k->W.cell? (at_ a.block (a.off+i*k+j))=cs[j]?:=by
   intro i
   by_cases hi:i<len
   ·obtain⟨cs',q1,q2⟩:=hel i (by omega)
    rw[hk]at q1
    obtain⟨_,_,q3⟩:=World.cells?_some q1
    obtain⟨t,ht⟩:=hop _ _ _ q2
    refine⟨t,fun _=>⟨cs',ht,fun j hj=>?_⟩⟩
    rw[<-q3 j hj,add_add hspot]
   ·exact⟨a0,fun h=>absurd h hi⟩
  let T:Nat->α:=fun i=>Classical.choose (ht i)
  have hT:∀i,i<len->∃cs,RowR W (ec (T i)) cs/\∀j,j<k->W.cell? (at_ a.block (a.off+i*k+j))=cs[j]?:=fun i=>Classical.choose_spec (ht i)
  have hX:∀i j,∃v:Value,i<len->∀c,(ec (T i))[j]? = some c->W.cell? (at_ a.block (a.off+i*k+j))=some v/\VR (gOf W) W c v/\v.oneCell'=true:=by
   intro i j
   by_cases hi:i<len
   ·obtain⟨cs,h1,h2⟩:=hT i hi
    by_cases hj:j<k
    ·obtain⟨v,h3,h4,h5⟩:=h1.2 j _ (List.getElem?_eq_getElem (by rw[hec];exact hj))
     refine⟨v,fun _ c hc=>?_⟩
     rw[List.getElem?_eq_getElem (by rw[hec];exact hj)]at hc
     cases hc
     exact⟨by rw[h2 j hj,h3],h4,h5⟩
    ·exact⟨undef,fun _ c hc=>by rw[List.getElem?_eq_none (by rw[hec];omega)]at hc;cases hc⟩
   ·exact⟨undef,fun h=>absurd h hi⟩
  let V:Nat->Nat->Value:=fun i j=>Classical.choose (hX i j)
  have hV:∀i j,i<len->∀c,(ec (T i))[j]? = some c->W.cell? (at_ a.block (a.off+i*k+j))=some (V i j)/\VR (gOf W) W c (V i j)/\(V i j).oneCell'=true:=fun i j=>Classical.choose_spec (hX i j)
  have ha:a=at_ a.block a.off:=by
   obtain⟨b,o,sp⟩:=a
   simp only at hspot
   subst hspot
   rfl
  have hget:∀(i:Nat)(e:LV),(((List.range len).map T).map fun a=>LV.agg (ec a))[i]? = some e->i<len/\e=.agg (ec (T i)):=by
   intro i e he
   rw[List.getElem?_map,List.getElem?_map]at he
   cases hr:(List.range len)[i]? with
   |none=>rw[hr]at he;cases he
   |some q=>
    rw[hr]at he
    obtain⟨hlt,rfl⟩:=List.getElem?_eq_some_iff.1 hr
    simp at hlt he
    exact⟨hlt,he.symm⟩
  refine⟨(List.range len).map T,by simp;omega,?_,rfl⟩
  have hlen:(((List.range len).map T).map fun a=>LV.agg (ec a)).length=len:=by simp
  have hR:=VR.sl (G:=gOf W) (w:=W) (es:=((List.range len).map T).map fun a=>LV.agg (ec a)) (own:=.no) (b:=a.block) (off:=a.off) (sz:=k) (cap:=cap) (xs:=V) (by rw[hlen];exact hlc)
   (fun i e he=>by obtain⟨_,rfl⟩:=hget i e he;exact hec _)
   (fun i e j c he hc=>by
    obtain⟨hi,rfl⟩:=hget i e he
    obtain⟨g1,_,g3⟩:=hV i j hi c hc
    exact⟨gOf_cl g1,g1,g3⟩)
   (fun i e j c he hc=>by
    obtain⟨hi,rfl⟩:=hget i e he
    exact(hV i j hi c hc).2.1) trivial
  rw[hlen,<-ha]at hR
  exact hR
theorem open_int{n:Nat}{u:Value}{x:DataW H×List MemPlace}(h:DataW.trod enc Tryz.prog W 0 (fun _=>true) hd n 3 [u]=some x):∃k:Int,u=.int .i64 k:=by
 obtain⟨k,e,_⟩:=DataW.trod_int Tryz.underlying3 h
 simp only[List.cons.injEq,and_true]at e
 exact⟨k,e⟩
theorem open_str{n:Nat}{u:Value}{x:DataW H×List MemPlace}(h:DataW.trod enc Tryz.prog W 0 (fun _=>true) hd n 9 [u]=some x):∃s:ByteArray,u=.string s:=by
 obtain⟨s,e,_⟩:=DataW.trod_string Tryz.underlying9 h
 simp only[List.cons.injEq,and_true]at e
 exact⟨s,e⟩
theorem open_term{n:Nat}{cs:List Value}{x:DataW H×List MemPlace}(h:DataW.trod enc Tryz.prog W 0 (fun _=>true) hd n 61 cs=some x):∃t:Term,RowR W (termC t) cs:=by
 obtain⟨xs,m,_,rfl,hl,hlen,hf⟩:=DataW.trod_struct Tryz.underlying61 h
 rw[z61]at hl
 match xs,hlen,cs,hl with
 |[y0,y1,y2],_,[u0,u1,u2],_=>
  have h0:=fld (t:=3) (off:=0) (c:=1) (hf 0 _ rfl) rfl rfl z3
  have h1:=fld (t:=3) (off:=1) (c:=1) (hf 1 _ rfl) rfl rfl z3
  have h2:=fld (t:=9) (off:=2) (c:=1) (hf 2 _ rfl) rfl rfl z9
  obtain⟨k,rfl⟩:=open_int (show DataW.trod enc Tryz.prog W 0 (fun _=>true) hd m 3 [u0]=some y0 from h0)
  obtain⟨l,rfl⟩:=open_int (show DataW.trod enc Tryz.prog W 0 (fun _=>true) hd m 3 [u1]=some y1 from h1)
  obtain⟨s,rfl⟩:=open_str (show DataW.trod enc Tryz.prog W 0 (fun _=>true) hd m 9 [u2]=some y2 from h2)
  exact⟨⟨k,l,s⟩,.cons (.sc _) rfl (.cons (.sc _) rfl (.cons (.sc _) rfl (.nil W)))⟩
theorem open_atom{n:Nat}{cs:List Value}{x:DataW H×List MemPlace}(h:DataW.trod enc Tryz.prog W 0 (fun _=>true) hd n 32 cs=some x):∃a:Atom,RowR W [.str a.pred,argsL a.args] cs:=by
 obtain⟨xs,m,_,rfl,hl,hlen,hf⟩:=DataW.trod_struct Tryz.underlying32 h
 rw[z32]at hl
 match xs,hlen,cs,hl with
 |[y0,y1],_,[u0,u1],_=>
  have h0:=fld (t:=9) (off:=0) (c:=1) (hf 0 _ rfl) rfl rfl z9
  have h1:=fld (t:=30) (off:=1) (c:=1) (hf 1 _ rfl) rfl rfl z30
  obtain⟨s,rfl⟩:=open_str (show DataW.trod enc Tryz.prog W 0 (fun _=>true) hd m 9 [u0]=some y0 from h0)
  obtain⟨ts,_,hv,h1c⟩:=open_row termC Tryz.underlying30 z61 (by omega) (fun _=>rfl) ⟨0,0,⟨#[]⟩⟩ (fun n cs x h=>open_term h) (show DataW.trod enc Tryz.prog W 0 (fun _=>true) hd m 30 [u1]=some y1 from h1)
  exact⟨⟨s,ts⟩,.cons (.sc _) rfl (.cons hv h1c (.nil W))⟩
theorem open_lit{n:Nat}{cs:List Value}{x:DataW H×List MemPlace}(h:DataW.trod enc Tryz.prog W 0 (fun _=>true) hd n 92 cs=some x):∃l:Lit,RowR W (litC l) cs:=by
 obtain⟨xs,m,_,rfl,hl,hlen,hf⟩:=DataW.trod_struct Tryz.underlying92 h
 rw[z92]at hl
 match xs,hlen,cs,hl with
 |[y0,y1,y2,y3],_,[u0,u1,u2,u3,u4,u5,u6,u7,u8],_=>
  have h0:=fld (t:=3) (off:=0) (c:=1) (hf 0 _ rfl) rfl rfl z3
  have h1:=fld (t:=32) (off:=1) (c:=2) (hf 1 _ rfl) rfl rfl z32
  have h2:=fld (t:=61) (off:=3) (c:=3) (hf 2 _ rfl) rfl rfl z61
  have h3:=fld (t:=61) (off:=6) (c:=3) (hf 3 _ rfl) rfl rfl z61
  obtain⟨k,rfl⟩:=open_int (show DataW.trod enc Tryz.prog W 0 (fun _=>true) hd m 3 [u0]=some y0 from h0)
  obtain⟨a,ha⟩:=open_atom (show DataW.trod enc Tryz.prog W 0 (fun _=>true) hd m 32 [u1,u2]=some y1 from h1)
  obtain⟨s,hs⟩:=open_term (show DataW.trod enc Tryz.prog W 0 (fun _=>true) hd m 61 [u3,u4,u5]=some y2 from h2)
  obtain⟨t,ht⟩:=open_term (show DataW.trod enc Tryz.prog W 0 (fun _=>true) hd m 61 [u6,u7,u8]=some y3 from h3)
  exact⟨⟨k,a,s,t⟩,.cons (.sc _) rfl (ha.append (hs.append ht))⟩
theorem open_clause{n:Nat}{cs:List Value}{x:DataW H×List MemPlace}(h:DataW.trod enc Tryz.prog W 0 (fun _=>true) hd n 74 cs=some x):∃c:{c:Clause // c.body.length<2^63},RowR W (clauseC c.1) cs:=by
 obtain⟨xs,m,_,rfl,hl,hlen,hf⟩:=DataW.trod_struct Tryz.underlying74 h
 rw[z74]at hl
 match xs,hlen,cs,hl with
 |[y0,y1],_,[u0,u1,u2],_=>
  have h0:=fld (t:=32) (off:=0) (c:=2) (hf 0 _ rfl) rfl rfl z32
  have h1:=fld (t:=72) (off:=2) (c:=1) (hf 1 _ rfl) rfl rfl z72
  obtain⟨a,ha⟩:=open_atom (show DataW.trod enc Tryz.prog W 0 (fun _=>true) hd m 32 [u0,u1]=some y0 from h0)
  obtain⟨b,hb,hv,h1c⟩:=open_row litC Tryz.underlying72 z92 (by omega) (fun _=>rfl) ⟨0,⟨⟨#[]⟩,[]⟩,⟨0,0,⟨#[]⟩⟩,⟨0,0,⟨#[]⟩⟩⟩ (fun n cs x h=>open_lit h) (show DataW.trod enc Tryz.prog W 0 (fun _=>true) hd m 72 [u2]=some y1 from h1)
  exact⟨⟨⟨a,b⟩,hb⟩,ha.append (.cons hv h1c (.nil W))⟩
theorem open_clauses{base:Nat}{v:Value}{d:DataW H}{p:List MemPlace}(h:DataW.Trod enc Tryz.prog W 0 (fun _=>true) hd 23 v d p)(hv:Value.okWide Tryz.prog W .any base 23 v):∃l:List Clause,l.length<2^63/\(∀c∈l,c.body.length<2^63)/\VR (gOf W) W (clausesL l) v:=by
 have h1:v.cells=#[v]:=by
  unfold Value.okWide at hv
  rw[Tryz.underlying23]at hv
  simp only at hv
  unfold Cell.okWide at hv
  rw[Tryz.underlying23]at hv
  simp only at hv
  unfold Cell.ok at hv
  rw[Tryz.underlying23]at hv
  cases v<;>first|rfl|exact hv.elim
 obtain⟨fuel,h⟩:=h
 rw[h1]at h
 obtain⟨l,hl,hV,_⟩:=open_row (fun c:{c:Clause // c.body.length<2^63}=>clauseC c.1) Tryz.underlying23 z74 (by omega) (fun _=>rfl) ⟨⟨⟨⟨#[]⟩,[]⟩,[]⟩,by simp⟩ (fun n cs x h=>open_clause h) (show DataW.trod enc Tryz.prog W 0 (fun _=>true) hd fuel 23 [v]=some _ from h)
 refine⟨l.map (·.1),by rw[List.length_map];exact hl,fun c hc=>?_,?_⟩
 ·obtain⟨q,_,rfl⟩:=List.mem_map.1 hc
  exact q.2
 ·have e:(l.map (·.1)).map clauseL=l.map fun c=>LV.agg (clauseC c.1):=by rw[List.map_map];rfl
  show VR (gOf W) W (.sl ((l.map (·.1)).map clauseL) .no) v
  rw[e]
  exact hV
theorem open_atomP{base:Nat}{v:Value}{d:DataW H}{p:List MemPlace}(h:DataW.Trod enc Tryz.prog W 0 (fun _=>true) hd 32 v d p)(hv:Value.okWide Tryz.prog W .any base 32 v):∃a:Atom,VR (gOf W) W (atomL a) v:=by
 have hv':∃cs,v=.agg cs:=by
  unfold Value.okWide at hv
  rw[Tryz.underlying32]at hv
  obtain⟨cs,h,_⟩:=hv
  exact⟨cs,h⟩
 obtain⟨cs,rfl⟩:=hv'
 obtain⟨fuel,h⟩:=h
 obtain⟨a,ha⟩:=open_atom (show DataW.trod enc Tryz.prog W 0 (fun _=>true) hd fuel 32 cs.toList=some _ from h)
 exact⟨a,by simpa using ha.agg⟩
theorem open_strP{base:Nat}{v:Value}(hv:Value.okWide Tryz.prog W .any base 9 v):∃s:ByteArray,v=.string s:=by
 unfold Value.okWide at hv
 rw[Tryz.underlying9]at hv
 simp only at hv
 unfold Cell.okWide at hv
 rw[Tryz.underlying9]at hv
 simp only at hv
 unfold Cell.ok at hv
 rw[Tryz.underlying9]at hv
 cases v<;>first|exact⟨_,rfl⟩|exact hv.elim
end
end Go.Abs.Tz
namespace Go.Abs.Tz
open Go Go.Abs Go.Proofs
set_option maxRecDepth 20000
set_option linter.unusedSimpArgs false
attribute [local simp ↓] getP_nil getP_node setP_nil setP_node oneP_eq vP_map vP_some vP_none vP_bind eP_some bP_true bP_false gP_yes gP_tf gP_ft gP_tup runP_skip runP_ops runP_drw runP_seq runP_cond runP_blk runP_loop runP_exit runP_ret seqK_n seqK_r seqK_e seqK_p blkK_n blkK_r blkK_e blkK_p loopK_n loopK_r loopK_e loopK_p finK_n finK_r finK_p resP_one resP_two resP_three resP_nil resP_c nxP_nil argsP_nil argsP_cons evP_t evP_c evP_g evsP_nil evsP_cons clP_fn clP_yld clfP_fn pnP_i opsP_nil opsP_d opsP_x opsP_gt opsP_gf opP_cf opP_cl opP_pn opP_nx valP_mv valP_pk valP_eq valP_bn valP_nt valP_ld valP_fa valP_fd valP_ia valP_ix valP_ln valP_srn valP_srl valP_srh valP_srb valP_cv valP_mi valP_mf valP_xt valP_bs valP_bd valP_nc valP_mn valP_lk valP_ta opP_mv opP_pk opP_eq opP_bn opP_nt opP_ld opP_fa opP_fd opP_ia opP_ix opP_ln opP_sr opP_cv opP_mi opP_mf opP_xt opP_bs opP_bd opP_nc opP_mn opP_lk opP_ta opP_al opP_bx opP_st opP_ap opP_mk opP_nb opP_mu opP_rg opP_en pendP_nil pendP_d pendP_g drwP_nil drwP_d drwP_x drwP_gt drwP_gf look_self natOf_nat
attribute [local simp] faL fdL iaL ixL loadL partL lenL eqK eqL natOf eqB_s eqB_i eqB_b bn_add bn_sub bn_lss bn_leq bn_gtr bn_geq bn_adds bn_lsss bn_gtrs bn_leqs bn_geqs sliceL LV.cells LV.whole look_self put_self putO_self put_eq stL fillL termC dopP LHeap.alloc oneI oneS oneB nth0 nth1 nth2 nth3 nth4 nth5 nth6 nth7 nth8 nth9 look_ne putO_ne
structure NNT where
 i:Nat
 n:Nat
 ts:List Term
theorem atom_args{a:Atom}(h:atomOk a=true):a.args.length<=3/\a.args.all termOk=true:=by
 unfold atomOk at h
 simp only[Bool.and_eq_true,decide_eq_true_eq]at h
 exact h.2
theorem clause_parts{c:Clause}(h:clauseOk c=true):atomOk c.head=true/\c.body.length<=5/\∀x∈c.body,litOk x=true:=by
 unfold clauseOk at h
 simp only[Bool.and_eq_true,decide_eq_true_eq,List.all_eq_true]at h
 exact⟨h.1,h.2.1,h.2.2⟩
theorem lit_args{x:Lit}(h:litOk x=true):x.atom.args.length<=3:=by
 unfold litOk at h
 split at h
 ·simp only[Bool.and_eq_true]at h;exact(atom_args h.1).1
 ·split at h
  ·simp only[Bool.and_eq_true,decide_eq_true_eq]at h;omega
  ·cases h
end Go.Abs.Tz
namespace Go.Abs.Tz
open Go Go.Abs Go.Proofs
end Go.Abs.Tz
namespace Go.Abs.Tz
section
variable{K:Type}[DecidableEq K]
abbrev Edge(K:Type):=K×K×Nat
def SolL(E:List (Edge K))(g:K->Nat):Prop:=∀e∈E,g e.2.1+e.2.2<=g e.1
end
end Go.Abs.Tz
namespace Go.Abs.Tz
open Go Go.Abs Go.Proofs
abbrev PK:=ByteArray×Int
def eqPK(a b:PK):Bool:=eqBA a.1 b.1&&decide (a.2=b.2)
def pGet(k:PK):List (PK×Int)->Option Int
 |[]=>none
 |(j,u)::r=>if eqPK k j then some u else pGet k r
def pKeys(m:List (PK×Int)):List PK:=m.map (·.1)
def pVal(m:List (PK×Int))(k:PK):Int:=(pGet k m).getD 0
end Go.Abs.Tz
namespace Go.Abs.Tz
open Go Go.Abs Go.Proofs
set_option maxRecDepth 20000
set_option linter.unusedSimpArgs false
attribute [local simp ↓] getP_nil getP_node setP_nil setP_node oneP_eq vP_map vP_some vP_none vP_bind eP_some bP_true bP_false gP_yes gP_tf gP_ft gP_tup runP_skip runP_ops runP_drw runP_seq runP_cond runP_blk runP_loop runP_exit runP_ret seqK_n seqK_r seqK_e seqK_p blkK_n blkK_r blkK_e blkK_p loopK_n loopK_r loopK_e loopK_p finK_n finK_r finK_p resP_one resP_two resP_three resP_nil resP_c nxP_nil argsP_nil argsP_cons evP_t evP_c evP_g evsP_nil evsP_cons clP_fn clP_yld clfP_fn pnP_i opsP_nil opsP_d opsP_x opsP_gt opsP_gf opP_cf opP_cl opP_pn opP_nx valP_mv valP_pk valP_eq valP_bn valP_nt valP_ld valP_fa valP_fd valP_ia valP_ix valP_ln valP_srn valP_srl valP_srh valP_srb valP_cv valP_mi valP_mf valP_xt valP_bs valP_bd valP_nc valP_mn valP_lk valP_ta opP_mv opP_pk opP_eq opP_bn opP_nt opP_ld opP_fa opP_fd opP_ia opP_ix opP_ln opP_sr opP_cv opP_mi opP_mf opP_xt opP_bs opP_bd opP_nc opP_mn opP_lk opP_ta opP_al opP_bx opP_st opP_ap opP_mk opP_nb opP_mu opP_rg opP_en pendP_nil pendP_d pendP_g drwP_nil drwP_d drwP_x drwP_gt drwP_gf look_self natOf_nat
attribute [local simp] faL fdL iaL ixL loadL partL lenL eqK eqL natOf eqB_s eqB_i eqB_b bn_add bn_sub bn_lss bn_leq bn_gtr bn_geq bn_adds bn_lsss bn_gtrs bn_leqs bn_geqs sliceL LV.cells LV.whole look_self put_self putO_self put_eq stL fillL termC dopP LHeap.alloc oneI oneS oneB nth0 nth1 nth2 nth3 nth4 nth5 nth6 nth7 nth8 nth9 look_ne putO_ne
def ofA(a:Atom):PK:=(a.pred,a.args.length)
structure NNP where
 i:Nat
 n:Nat
 m:List (PK×Int)
structure NNQ where
 i:Nat
 n:Nat
 m:List (PK×Int)
 ch:Bool
structure NNW where
 f:Nat
 n:Nat
 m:List (PK×Int)
 ch:Bool
end Go.Abs.Tz
namespace Go.Abs.Tz
open Go Go.Abs Go.Proofs
def edgeL(h:PK)(x:Lit):Option (Edge PK):=if x.kind=1 then some (h,ofA x.atom,0) else if x.kind=2 then some (h,ofA x.atom,1) else none
def edgesC(c:Clause):List (Edge PK):=c.body.filterMap (edgeL (ofA c.head))
def edgesOf(l:List Clause):List (Edge PK):=l.flatMap edgesC
def valN(m:List (PK×Int)):PK->Nat:=fun k=>(pVal m k).toNat
def NN0(m:List (PK×Int)):Prop:=∀k,0<=pVal m k
structure StpL(Hd:PK->Prop)(s t:List (PK×Int)×Bool):Prop where
 nn:NN0 t.1
 le:∀k,pVal s.1 k<=pVal t.1 k
 oth:∀k,¬Hd k->pVal t.1 k=pVal s.1 k
 no:t.2=false->t=s
 yes:t.2=true->s.2=true\/∃k,Hd k/\pVal s.1 k<pVal t.1 k
structure LeastL(l:List Clause)(V:List PK)(m:List (PK×Int)):Prop where
 keys:pKeys m=V
 nn:NN0 m
 sol:SolL (edgesOf l) (valN m)
 le:∀g,SolL (edgesOf l) g->∀k,valN m k<=g k
end Go.Abs.Tz
namespace Go.Abs.Tz
open Go Go.Abs Go.Proofs
set_option maxRecDepth 20000
set_option linter.unusedSimpArgs false
attribute [local simp ↓] getP_nil getP_node setP_nil setP_node oneP_eq vP_map vP_some vP_none vP_bind eP_some bP_true bP_false gP_yes gP_tf gP_ft gP_tup runP_skip runP_ops runP_drw runP_seq runP_cond runP_blk runP_loop runP_exit runP_ret seqK_n seqK_r seqK_e seqK_p blkK_n blkK_r blkK_e blkK_p loopK_n loopK_r loopK_e loopK_p finK_n finK_r finK_p resP_one resP_two resP_three resP_nil resP_c nxP_nil argsP_nil argsP_cons evP_t evP_c evP_g evsP_nil evsP_cons clP_fn clP_yld clfP_fn pnP_i opsP_nil opsP_d opsP_x opsP_gt opsP_gf opP_cf opP_cl opP_pn opP_nx valP_mv valP_pk valP_eq valP_bn valP_nt valP_ld valP_fa valP_fd valP_ia valP_ix valP_ln valP_srn valP_srl valP_srh valP_srb valP_cv valP_mi valP_mf valP_xt valP_bs valP_bd valP_nc valP_mn valP_lk valP_ta opP_mv opP_pk opP_eq opP_bn opP_nt opP_ld opP_fa opP_fd opP_ia opP_ix opP_ln opP_sr opP_cv opP_mi opP_mf opP_xt opP_bs opP_bd opP_nc opP_mn opP_lk opP_ta opP_al opP_bx opP_st opP_ap opP_mk opP_nb opP_mu opP_rg opP_en pendP_nil pendP_d pendP_g drwP_nil drwP_d drwP_x drwP_gt drwP_gf look_self natOf_nat
attribute [local simp] faL fdL iaL ixL loadL partL lenL eqK eqL natOf eqB_s eqB_i eqB_b bn_add bn_sub bn_lss bn_leq bn_gtr bn_geq bn_adds bn_lsss bn_gtrs bn_leqs bn_geqs sliceL LV.cells LV.whole look_self put_self putO_self put_eq stL fillL termC dopP LHeap.alloc oneI oneS oneB nth0 nth1 nth2 nth3 nth4 nth5 nth6 nth7 nth8 nth9 look_ne putO_ne
def matchS(x:Strat)(k:PK):Bool:=eqBA x.pred k.1&&decide (x.args=k.2)
def findSt:List Strat->PK->Nat->Int
 |[],_,_=>-1
 |x::r,k,i=>if matchS x k then (i:Int) else findSt r k (i+1)
structure NNAs where
 i:Nat
 n:Nat
 aa:List Atom
 own:Own
 ob:List (Nat×LObj)
def argsX:List Term->Bool->List UInt8
 |[],first=>if first then [] else [41]
 |t::r,first=>(if first then [40] else [44,32])++(termX t).data.toList++argsX r false
def atomX(a:Atom):ByteArray:=⟨⟨a.pred.data.toList++argsX a.args true⟩⟩
theorem ba_len(a:ByteArray):a.data.toList.length=a.size:=rfl
theorem word_size{lo hi:Int}{s:ByteArray}(h:wordOk lo hi s=true):s.size<=24:=by
 unfold wordOk at h
 simp only[Bool.and_eq_true,decide_eq_true_eq]at h
 omega
theorem term_size{t:Term}(h:termOk t=true):(termX t).size<=24/\(t.kind=1->-(2^40)<=t.n/\t.n<=2^40):=by
 unfold termOk at h
 unfold termX
 by_cases h1:t.kind=1
 ·rw[if_pos h1]at h ⊢
  simp only[Bool.and_eq_true,decide_eq_true_eq]at h
  refine⟨?_,fun _=>by omega⟩
  show (Lib.itoa t.n).length<=24
  unfold Lib.itoa
  split
  ·have:=digits_13 (u:=t.n.natAbs) (by omega)
   rw[List.length_cons];omega
  ·have:=digits_13 (u:=t.n.toNat) (by omega)
   omega
 ·rw[if_neg h1]at h ⊢
  refine⟨?_,fun h=>absurd h h1⟩
  split at h
  ·simp only[Bool.and_eq_true]at h;exact word_size h.2
  ·split at h
   ·simp only[Bool.and_eq_true]at h;exact word_size h.2
   ·cases h
theorem argsX_len:∀{l:List Term}{b:Bool},l.all termOk=true->(argsX l b).length<=26*l.length+1
 |[],b,_=>by unfold argsX;split<;>simp
 |t::r,b,h=>by
  simp only[List.all_cons,Bool.and_eq_true]at h
  have h1:=(term_size h.1).1
  have h2:=argsX_len (b:=false) h.2
  have h3:(termX t).data.toList.length<=24:=h1
  simp only[argsX,List.length_append,List.length_cons]
  split<;>simp only[List.length_cons,List.length_nil]<;>omega
theorem atom_parts{a:Atom}(h:atomOk a=true):a.pred.size<=24/\a.args.length<=3/\a.args.all termOk=true:=by
 unfold atomOk at h
 simp only[Bool.and_eq_true,decide_eq_true_eq]at h
 exact⟨word_size h.1,h.2⟩
theorem atomX_len{a:Atom}(h:atomOk a=true):(atomX a).size<=110:=by
 obtain⟨h1,h2,h3⟩:=atom_parts h
 have:=argsX_len (b:=true) h3
 show (a.pred.data.toList++argsX a.args true).length<=110
 rw[List.length_append,ba_len]
 omega
structure NNX where
 i:Nat
 n:Nat
 s:List UInt8
theorem join_cons(sep:List UInt8):∀(x:List UInt8)(r:List (List UInt8)),Lib.join (x::r) sep=x++(r.map (sep++·)).flatten
 |x,[]=>by simp[Lib.join,List.intercalate,List.intersperse]
 |x,y::r=>by
  have ih:=join_cons sep y r
  unfold Lib.join at ih ⊢
  unfold List.intercalate at ih ⊢
  rw[show List.intersperse sep (x::y::r)=x::sep::List.intersperse sep (y::r) from rfl]
  rw[List.flatten_cons,List.flatten_cons,ih]
  simp
theorem argsX_false:∀l:List Term,argsX l false=((l.map fun t=>(termX t).data.toList).map ([44,32]++·)).flatten++[41]
 |[]=>rfl
 |t::r=>by
  have ih:=argsX_false r
  rw[argsX,ih]
  simp
theorem argsX_true{l:List Term}(h:l≠[]):argsX l true=[40]++Lib.join (l.map fun t=>(termX t).data.toList) [44,32]++[41]:=by
 cases l with
 |nil=>exact absurd rfl h
 |cons t r=>
  rw[List.map_cons,join_cons,argsX,argsX_false]
  simp
structure NNY where
 i:Nat
 n:Nat
 xs:List ByteArray
 own:Own
 ob:List (Nat×LObj)
abbrev strsL(xs:List ByteArray):List LV:=xs.map fun x=>.str x
theorem strs_all(xs:List ByteArray):(strsL xs).all (fun e=>e.cells.length==1)=true:=by
 rw[List.all_map,List.all_eq_true]
 intro x _
 rfl
theorem t_show(a:Atom)(h:atomOk a=true):PureT 39 [atomL a] (.str (atomX a)):=by
 obtain⟨h1,h2,h3⟩:=atom_parts h
 have hX:(atomX a).size<=110:=atomX_len h
 refine PureT.of c39 fun H hH=>⟨Nat.le_of_ble_eq_true rfl,?_⟩
 by_cases h0:a.args.length=0
 ·have h0':(a.args.length:Int)=0:=by omega
  have hn:a.args=[]:=List.length_eq_zero_iff.1 h0
  have hX2:atomX a=a.pred:=by
   unfold atomX
   rw[hn]
   simp[argsX]
  simp(disch:=omega)[b39,h0,h0']
  exact doneK hH (by simp[hX2])
 have h0':¬(a.args.length:Int)=0:=by omega
 simp(disch:=omega)[b39,h0,h0']
 have hbase:LHeap.Ok ⟨(H.next,.cells [.str a.pred,argsL a.args])::H.objs,H.next+1⟩:=⟨Nat.lt_succ_self _,hH⟩
 obtain⟨L,hL⟩:∃L,a.args.map termX=L:=⟨_,rfl⟩
 have hLl:L.length<=3:=by rw[<-hL,List.length_map];exact h2
 refine lP_enter (σ:=NNY) (fun q=>(.nd .bot (.nd (.ptr H.next 0) (.nd (.sl (strsL q.xs) q.own) (.nd .bot (.nd (.int q.i) .nil .nil) .nil) .nil) (.nd .bot .nil (.nd (argsL a.args) .nil .nil))) (.nd .bot .nil (.nd .bot .nil (.nd (.int a.args.length) .nil .nil))))) (fun q=>⟨q.ob,q.n⟩) (fun q=>a.args.length - q.i)
  (fun q=>RowT ⟨(H.next,.cells [.str a.pred,argsL a.args])::H.objs,H.next+1⟩ 1 q.xs.length q.own q.ob q.n/\H.next<q.n/\q.i<=a.args.length/\q.xs++(a.args.drop q.i).map termX=L) ⟨0,H.next+1,[],.full,(H.next,.cells [.str a.pred,argsL a.args])::H.objs⟩
  ⟨.inl ⟨rfl,rfl,Nat.le_refl _⟩,Nat.lt_succ_self _,Nat.zero_le _,by simpa using hL⟩ (by simp[FT.Le,Wk]) ⟨HWk.refl _,fun h=>h⟩ ?_
 rintro⟨i,n,xs,own,ob⟩ ⟨hr,hn,hi,he⟩ hok
 dsimp only at hr hn hi he hok
 have hxl:xs.length<=3:=by
  have:=congrArg List.length he
  rw[List.length_append]at this
  omega
 have hob:ob=(H.next,.cells [.str a.pred,argsL a.args])::H.objs\/∃t,H.next<t/\ob=(t,.tok xs.length 1)::(H.next,.cells [.str a.pred,argsL a.args])::H.objs:=by
  rcases hr with⟨_,rfl,_⟩|⟨t,_,g1,g2,rfl⟩
  ·exact .inl rfl
  ·exact .inr ⟨t,g1,rfl⟩
 have hlk:look H.next ob=some (.cells [.str a.pred,argsL a.args]):=by
  rcases hob with rfl|⟨t,g1,rfl⟩
  ·simp[look]
  ·rw[look_ne (by omega)];simp[look]
 have hfg:HWk ⟨ob,n⟩ ⟨H.objs,n⟩:=⟨Nat.le_refl _,fun j x hx=>by
  have:=hH.look hx
  rcases hob with rfl|⟨t,g1,rfl⟩
  ·simp only[look];rw[if_neg (by omega)];exact hx
  ·simp only[look];rw[if_neg (by omega),if_neg (by omega)];exact hx⟩
 by_cases hlt:i<a.args.length
 case neg=>
  rw[List.drop_eq_nil_of_le (by omega),List.map_nil,List.append_nil]at he
  subst he
  have hdata:xs.map (·.data.toList)=a.args.map fun t=>(termX t).data.toList:=by rw[<-hL,List.map_map];rfl
  have hne:a.args≠[]:=fun e=>h0 (by rw[e];rfl)
  obtain⟨J,hJ⟩:∃J,Lib.join (xs.map (·.data.toList)) [44,32]=J:=⟨_,rfl⟩
  have hAX:atomX a=⟨⟨a.pred.data.toList++[40]++J++[41]⟩⟩:=by
   unfold atomX
   rw[argsX_true hne,<-hdata,hJ]
   simp
  obtain⟨P8,hP8⟩:∃P8,a.pred.data.toList=P8:=⟨_,rfl⟩
  have hpr:a.pred=⟨⟨P8⟩⟩:=by rw[<-hP8]
  have hPl:P8.length<=24:=by rw[<-hP8];exact h1
  rw[hP8]at hAX
  have hJl:J.length<=110:=by
   rw[hAX]at hX
   have:(P8++[40]++J++[41]).length<=110:=hX
   simp only[List.length_append]at this
   omega
  have hb1:P8.length+1<=2^40:=by omega
  have hb2:P8.length+1+J.length<=2^40:=by omega
  have hb3:P8.length+(1+J.length)<=2^40:=by omega
  have hb4:P8.length+1+J.length+1<=2^40:=by omega
  have hb5:P8.length+(1+(J.length+1))<=2^40:=by omega
  have hb6:P8.length+(J.length+1)+1<=2^40:=by omega
  have hb7:P8.length+(J.length+1)<=2^40:=by omega
  have hb8:P8.length+(J.length+1+1)<=2^40:=by omega
  rw[hpr]at hlk
  have lk1:loadL ⟨ob,n⟩ none (.ptr H.next 0)=some (.str ⟨⟨P8⟩⟩):=by simp[loadL,hlk,partL]
  simp(disch:=omega)[hlt,hlk,ba_app,ba_size,hb1]
  refine(t_join xs own ⟨⟨[44,32]⟩⟩ (by omega) (by show (Lib.join _ [44,32]).length<=_;rw[hJ];omega)).x (.sc _) ?_
  rw[show Lib.join (xs.map (·.data.toList)) (ByteArray.mk ⟨[44,32]⟩).data.toList=J from hJ]
  have hJa:(⟨J.toArray⟩:ByteArray)=⟨⟨J⟩⟩:=rfl
  rw[hJa]
  simp(disch:=omega)[hlk,ba_app,ba_size,hb1,hb2,hb3,hb4,hb5,hb6,hb7,hb8]
  refine⟨⟨H.objs,n⟩,hfg,fun _=>Desc.mono hH (by first|omega|(dsimp only;omega)),?_,n,by first|omega|(dsimp only;omega),rfl⟩
  rw[hAX]
  simp
 rw[List.drop_eq_getElem_cons hlt,List.map_cons]at he
 have he':(xs++[termX a.args[i]])++(a.args.drop (i+1)).map termX=L:=by rw[List.append_assoc];exact he
 have htk:=List.all_eq_true.1 h3 _ (mem_at hlt)
 obtain⟨g1,g2⟩:=term_size htk
 simp(disch:=omega)[hlt]
 refine(t_showTerm _ g2).x (.sc _) ?_
 simp(disch:=omega)
 refine effP_ap ?_
 have hcan:xs.length+1<=2^30:=by omega
 have hlen1:(xs++[termX a.args[i]]).length=xs.length+1:=by simp
 rcases hr with⟨rfl,rfl,h3⟩|⟨t,rfl,f1,f2,rfl⟩
 ·dsimp only at h3
  simp(disch:=omega)[apL,canApp,strs_all,hcan,wrap_nat (show i<2^62 by omega)]
  refine⟨⟨i+1,n+1+1,xs++[termX a.args[i]],.tok (n+1),(n+1,.tok (xs.length+1) 1)::(H.next,.cells [.str a.pred,argsL a.args])::H.objs⟩,by dsimp only;omega,⟨.inr ⟨n+1,rfl,by dsimp only;omega,Nat.lt_succ_self _,by dsimp only;rw[hlen1]⟩,by dsimp only;omega,by dsimp only;omega,by simpa using he'⟩,by simp[FT.Le,Wk],?_,fun _=>⟨Nat.lt_succ_self _,⟨by omega,hH⟩⟩⟩
  exact hwk_mid (show Desc ((H.next,LObj.cells [.str a.pred,argsL a.args])::H.objs) n from ⟨hn,hH⟩) fun _ _ h=>h
 ·dsimp only at f1
  simp(disch:=omega)[apL,canApp,strs_all,hcan,wrap_nat (show i<2^62 by omega)]
  refine⟨⟨i+1,n+1,xs++[termX a.args[i]],.tok t,(t,.tok (xs.length+1) 1)::(H.next,.cells [.str a.pred,argsL a.args])::H.objs⟩,by dsimp only;omega,⟨.inr ⟨t,rfl,f1,by dsimp only;omega,by dsimp only;rw[hlen1]⟩,by dsimp only;omega,by dsimp only;omega,by simpa using he'⟩,by simp[FT.Le,Wk],?_⟩
  have hOk3:LHeap.Ok ⟨(t,.tok (xs.length+1) 1)::(H.next,.cells [.str a.pred,argsL a.args])::H.objs,n⟩:=⟨f2,⟨by omega,hH⟩⟩
  exact back hOk3 (HExt.cons hOk3 (Nat.le_refl _) (HExt.refl (Nat.le_refl _)) (Nat.le_succ _))
def litX(x:Lit):ByteArray:=
 if x.kind=1 then atomX x.atom else if x.kind=2 then ⟨⟨[110,111,116,32]++(atomX x.atom).data.toList⟩⟩
 else ⟨⟨(termX x.a).data.toList++(if x.kind=3 then [32,61,32] else if x.kind=4 then [32,33,61,32] else if x.kind=5 then [32,60,32] else [32,60,61,32])++(termX x.b).data.toList⟩⟩
theorem litX_len{x:Lit}(h:litOk x=true):(litX x).size<=120:=by
 unfold litOk at h
 unfold litX
 by_cases h1:x.kind=1
 ·rw[if_pos (.inl h1)]at h
  rw[if_pos h1]
  simp only[Bool.and_eq_true]at h
  have:=atomX_len h.1
  omega
 ·by_cases h2:x.kind=2
  ·rw[if_pos (.inr h2)]at h
   rw[if_neg h1,if_pos h2]
   simp only[Bool.and_eq_true]at h
   have h3:=atomX_len h.1
   have h4:(atomX x.atom).data.toList.length<=110:=h3
   show ([110,111,116,32]++(atomX x.atom).data.toList).length<=120
   rw[List.length_append]
   simp only[List.length_cons,List.length_nil]
   omega
  ·rw[if_neg (by omega)]at h
   rw[if_neg h1,if_neg h2]
   split at h
   ·simp only[Bool.and_eq_true]at h
    have h3:=(term_size h.1).1
    have h4:=(term_size h.2.1).1
    have h3':(termX x.a).data.toList.length<=24:=h3
    have h4':(termX x.b).data.toList.length<=24:=h4
    show ((termX x.a).data.toList++_++(termX x.b).data.toList).length<=120
    rw[List.length_append,List.length_append]
    repeat' split
    all_goals simp only[List.length_cons,List.length_nil];omega
   ·cases h
theorem litX_12{x:Lit}(h:litOk x=true)(hk:x.kind=1\/x.kind=2):atomOk x.atom=true:=by
 unfold litOk at h
 rw[if_pos hk]at h
 simp only[Bool.and_eq_true]at h
 exact h.1
theorem litX_36{x:Lit}(h:litOk x=true)(hk:¬(x.kind=1\/x.kind=2)):termOk x.a=true/\termOk x.b=true/\(x.kind=3\/x.kind=4\/x.kind=5\/x.kind=6):=by
 unfold litOk at h
 rw[if_neg hk]at h
 split at h
 ·rename_i h6
  simp only[Bool.and_eq_true]at h;exact⟨h.1,h.2.1,h6⟩
 ·cases h
theorem t_showLiteral(x:Lit)(h:litOk x=true):PureT 40 [litL x] (.str (litX x)):=by
 refine PureT.of c40 fun H hH=>⟨Nat.le_of_ble_eq_true rfl,?_⟩
 by_cases h12:x.kind=1\/x.kind=2
 ·have ha:=litX_12 h h12
  have hl:=atomX_len ha
  obtain⟨A8,hAd⟩:∃A8,(atomX x.atom).data.toList=A8:=⟨_,rfl⟩
  have hA:atomX x.atom=⟨⟨A8⟩⟩:=by rw[<-hAd]
  have hAl:A8.length<=110:=by rw[<-hAd];exact hl
  have hb:4+A8.length<=2^40:=by omega
  have hb':A8.length+4<=2^40:=by omega
  rcases h12 with h1|h1
  ·have hX:litX x=⟨⟨A8⟩⟩:=by unfold litX;rw[if_pos h1,hA]
   simp(disch:=omega)[b40,h1]
   refine(t_show x.atom ha).go fun n hn=>?_
   simp(disch:=omega)[hA]
   exact doneK hH (by simp[hX])
  ·have hX:litX x=⟨⟨[110,111,116,32]++A8⟩⟩:=by unfold litX;rw[if_neg (by omega),if_pos h1,hAd]
   simp(disch:=omega)[b40,h1]
   refine(t_show x.atom ha).go fun n hn=>?_
   rw[hA]
   simp(disch:=omega)[ba_app,ba_size,hb,hb']
   exact doneK hH (by simp[hX])
 obtain⟨oa,ob,h36⟩:=litX_36 h h12
 have hla:=term_size oa
 have hlb:=term_size ob
 obtain⟨A8,hAd⟩:∃A8,(termX x.a).data.toList=A8:=⟨_,rfl⟩
 obtain⟨B8,hBd⟩:∃B8,(termX x.b).data.toList=B8:=⟨_,rfl⟩
 have hTa:termX x.a=⟨⟨A8⟩⟩:=by rw[<-hAd]
 have hTb:termX x.b=⟨⟨B8⟩⟩:=by rw[<-hBd]
 have hAl:A8.length<=24:=by rw[<-hAd];exact hla.1
 have hBl:B8.length<=24:=by rw[<-hBd];exact hlb.1
 rcases h36 with h1|h1|h1|h1
 ·have hX:litX x=⟨⟨A8++[32,61,32]++B8⟩⟩:=by unfold litX;rw[if_neg (by omega),if_neg (by omega),if_pos h1,hAd,hBd]
  have hb1:A8.length+3<=2^40:=by omega
  have hb2:A8.length+3+B8.length<=2^40:=by omega
  have hb3:A8.length+(B8.length+3)<=2^40:=by omega
  simp(disch:=omega)[b40,h1]
  refine(t_showTerm x.a hla.2).go fun n hn=>?_
  rw[hTa]
  simp(disch:=omega)[ba_app,ba_size,hb1]
  refine(t_showTerm x.b hlb.2).go fun n1 hn1=>?_
  rw[hTb]
  simp(disch:=omega)[ba_app,ba_size,hb2,hb3]
  exact doneK hH (by simp[hX])
 ·have hX:litX x=⟨⟨A8++[32,33,61,32]++B8⟩⟩:=by unfold litX;rw[if_neg (by omega),if_neg (by omega),if_neg (by omega),if_pos h1,hAd,hBd]
  have hb1:A8.length+4<=2^40:=by omega
  have hb2:A8.length+4+B8.length<=2^40:=by omega
  have hb3:A8.length+(B8.length+4)<=2^40:=by omega
  simp(disch:=omega)[b40,h1]
  refine(t_showTerm x.a hla.2).go fun n hn=>?_
  rw[hTa]
  simp(disch:=omega)[ba_app,ba_size,hb1]
  refine(t_showTerm x.b hlb.2).go fun n1 hn1=>?_
  rw[hTb]
  simp(disch:=omega)[ba_app,ba_size,hb2,hb3]
  exact doneK hH (by simp[hX])
 ·have hX:litX x=⟨⟨A8++[32,60,32]++B8⟩⟩:=by unfold litX;rw[if_neg (by omega),if_neg (by omega),if_neg (by omega),if_neg (by omega),if_pos h1,hAd,hBd]
  have hb1:A8.length+3<=2^40:=by omega
  have hb2:A8.length+3+B8.length<=2^40:=by omega
  have hb3:A8.length+(B8.length+3)<=2^40:=by omega
  simp(disch:=omega)[b40,h1]
  refine(t_showTerm x.a hla.2).go fun n hn=>?_
  rw[hTa]
  simp(disch:=omega)[ba_app,ba_size,hb1]
  refine(t_showTerm x.b hlb.2).go fun n1 hn1=>?_
  rw[hTb]
  simp(disch:=omega)[ba_app,ba_size,hb2,hb3]
  exact doneK hH (by simp[hX])
 ·have hX:litX x=⟨⟨A8++[32,60,61,32]++B8⟩⟩:=by unfold litX;rw[if_neg (by omega),if_neg (by omega),if_neg (by omega),if_neg (by omega),if_neg (by omega),hAd,hBd]
  have hb1:A8.length+4<=2^40:=by omega
  have hb2:A8.length+4+B8.length<=2^40:=by omega
  have hb3:A8.length+(B8.length+4)<=2^40:=by omega
  simp(disch:=omega)[b40,h1]
  refine(t_showTerm x.a hla.2).go fun n hn=>?_
  rw[hTa]
  simp(disch:=omega)[ba_app,ba_size,hb1]
  refine(t_showTerm x.b hlb.2).go fun n1 hn1=>?_
  rw[hTb]
  simp(disch:=omega)[ba_app,ba_size,hb2,hb3]
  exact doneK hH (by simp[hX])
end Go.Abs.Tz
namespace Go.Abs.Tz
open Go Go.Abs Go.Proofs
theorem valL_snoc:∀(l:List UInt8)(n:Int)(d:UInt8),valL n (l++[d])=if 1099511627776<10*valL n l+((d.toNat:Int) - 48) then 1099511627776 else 10*valL n l+((d.toNat:Int) - 48)
 |[],n,d=>rfl
 |c::r,n,d=>by
  rw[List.cons_append]
  conv=>lhs;unfold valL
  rw[valL_snoc r]
  conv=>rhs;unfold valL
theorem dig_nat{k:Nat}(h:k<10):(UInt8.ofNat (48+k)).toNat=48+k:=by
 rw[UInt8.toNat_ofNat']
 omega
theorem dec_facts(u:Nat):(∀d∈Lib.decDigits u,digB (d.toNat:Int)=true)/\(u<=1000000000->valL 0 (Lib.decDigits u)=(u:Int))/\∃c r,Lib.decDigits u=c::r/\(u≠0->c.toNat≠48)/\(u=0->Lib.decDigits u=[48]):=by
 induction u using Nat.strongRecOn with
 |ind u ih=>
  by_cases h:u<10
  ·rw[Lib.decDigits_one h]
   have hd:=dig_nat h
   refine⟨fun d hd2=>?_,fun _=>?_,_,[],rfl,fun h0=>by omega,fun h0=>by subst h0;rfl⟩
   ·rw[List.mem_singleton.1 hd2,hd]
    simp[digB]
    omega
   ·unfold valL valL
    rw[hd,if_neg (by omega)]
    omega
  ·obtain⟨i1,i2,c,r,i3,i4,_⟩:=ih (u / 10) (by omega)
   have hd:=dig_nat (show u % 10<10 by omega)
   rw[Lib.decDigits,dif_neg h]
   refine⟨fun d hd2=>?_,fun hu=>?_,c,r++[UInt8.ofNat (48+u % 10)],by rw[i3];rfl,fun _=>i4 (by omega),fun h0=>by omega⟩
   ·rcases List.mem_append.1 hd2 with hd2|hd2
    ·exact i1 d hd2
    ·rw[List.mem_singleton.1 hd2,hd]
     simp[digB]
     omega
   ·rw[valL_snoc,i2 (by omega),hd,if_neg (by omega)]
    omega
theorem ext_of{s:ByteArray}{i:Nat}{w r:List UInt8}(h:(sL s).drop i=w++r):s.extract i (i+w.length)=⟨⟨w⟩⟩:=by
 have e:(s.extract i (i+w.length)).data.toList=w:=by
  have:=sL_extract s i (i+w.length)
  unfold sL at this
  rw[this]
  unfold sL at h
  rw[h,Nat.add_sub_cancel_left,List.take_left']
  rfl
 have:(s.extract i (i+w.length)).data=⟨w⟩:=by
  apply Array.toList_inj.1
  rw[e]
 generalize s.extract i (i+w.length)=x at this
 obtain⟨d⟩:=x
 simp only at this
 rw[this]
theorem drop_of{s:ByteArray}{i:Nat}{w r:List UInt8}(h:(sL s).drop i=w++r):(sL s).drop (i+w.length)=r:=by
 rw[<-List.drop_drop,h,List.drop_left']
 rfl
theorem byI_cons{s:ByteArray}{i:Nat}{c:UInt8}{r:List UInt8}(h:(sL s).drop i=c::r):byI s i=(c.toNat:Int)/\i<s.size:=by
 have hi:i<s.size:=by
  rw[<-sL_len]
  apply Classical.byContradiction
  intro hn
  rw[List.drop_eq_nil_of_le (by omega)]at h
  cases h
 obtain⟨d,h1,h2⟩:=byteG hi
 rw[h]at h2
 cases h2
 exact⟨byI_of h1,hi⟩
theorem byI_nil{s:ByteArray}{i:Nat}(h:(sL s).drop i=[]):byI s i=-1:=by
 apply byI_ge
 intro hn
 obtain⟨d,_,h2⟩:=byteG hn
 rw[h]at h2
 cases h2
def noHead(p:Int->Bool)(r:List UInt8):Prop:=∀d r',r=d::r'->p (d.toNat:Int)=false
theorem runN_app{p:Int->Bool}:∀{w r:List UInt8},(∀d∈w,p (d.toNat:Int)=true)->noHead p r->runN p (w++r)=w.length
 |[],[],_,_=>rfl
 |[],d::r',_,hr=>by
  have:=hr d r' rfl
  show runN p (d::r')=0
  unfold runN
  rw[this]
  rfl
 |c::w,r,hw,hr=>by
  rw[List.cons_append]
  unfold runN
  rw[if_pos (hw c List.mem_cons_self),runN_app (fun d hd=>hw d (List.mem_cons_of_mem _ hd)) hr,List.length_cons]
section
variable{s:ByteArray}{i:Nat}
theorem l_skip{c:UInt8}{r:List UInt8}(h:(sL s).drop i=c::r)(hc:(c.toNat:Int)=32\/(c.toNat:Int)=10):lstep s i=.skip (i+1):=by
 obtain⟨hb,_⟩:=byI_cons h
 unfold lstep
 rw[hb,if_pos (by omega)]
theorem l_word{c:UInt8}{w r:List UInt8}(h:(sL s).drop i=c::w++r)(hc:letB (c.toNat:Int)=true)(hw:∀d∈c::w,wordC (d.toNat:Int)=true)(hl:(c::w).length<=24)(hr:noHead wordC r):
  lstep s i=.tok ⟨wKind ⟨⟨c::w⟩⟩ (c.toNat:Int),⟨⟨c::w⟩⟩,0,i⟩ (i+(c::w).length):=by
 obtain⟨hb,_⟩:=byI_cons (show (sL s).drop i=c::(w++r) from h)
 have hE:endN wordC s i=i+(c::w).length:=by
  unfold endN
  rw[h,runN_app hw hr]
 have hlr:65<=(c.toNat:Int)/\(c.toNat:Int)<=90\/97<=(c.toNat:Int)/\(c.toNat:Int)<=122:=by
  simp only[letB,smallB,capB,Bool.or_eq_true,Bool.and_eq_true,decide_eq_true_eq]at hc
  omega
 unfold lstep
 rw[hb,if_neg (by omega),if_neg (by omega),if_pos hc]
 unfold wordStep
 rw[hE,hb,if_neg (by omega),ext_of h]
theorem l_num{n:Int}{r:List UInt8}(h:(sL s).drop i=Lib.itoa n++r)(h0:-1000000000<=n)(h1:n<=1000000000)(hr:noHead (fun x=>digB x||letB x) r):
  lstep s i=.tok ⟨3,⟨⟨[]⟩⟩,n,i⟩ (i+(Lib.itoa n).length):=by
 have hrd:noHead digB r:=fun d r' e=>by
  have:=hr d r' e
  simp only[Bool.or_eq_false_iff]at this
  exact this.1
 have core:∀(u f:Nat),(sL s).drop f=Lib.decDigits u++r->u<=1000000000->numEnd s f=f+(Lib.decDigits u).length/\numV s f (numEnd s f)=(u:Int)/\(digB (byI s (numEnd s f))||letB (byI s (numEnd s f)))=false/\∃c,byI s f=(c:Int)/\48<=c/\c<=57/\(u≠0->c≠48):=by
  intro u f hd hu
  obtain⟨d1,d2,c,w,d3,d4,d5⟩:=dec_facts u
  have hd':=hd
  rw[d3]at hd'
  obtain⟨hb,_⟩:=byI_cons (show (sL s).drop f=c::(w++r) from hd')
  have hc:=digB_rng (d1 c (by rw[d3];exact List.mem_cons_self))
  have hE:numEnd s f=f+(Lib.decDigits u).length:=by
   unfold numEnd
   rw[hb]
   by_cases hu0:u=0
   ·have:=d5 hu0
    rw[this]at d3
    cases d3
    rw[if_pos (by rfl),this]
    rfl
   ·rw[if_neg (by have:=d4 hu0;omega)]
    unfold endN
    rw[hd,runN_app d1 hrd]
  refine⟨hE,?_,?_,c.toNat,hb,by omega,by omega,fun h=>by have:=d4 h;omega⟩
  ·rw[hE]
   unfold numV
   rw[hd,Nat.add_sub_cancel_left,List.take_left',d2 hu]
   rfl
  ·rw[hE]
   have hdr:=drop_of hd
   cases hrr:r with
   |nil=>rw[hrr]at hdr;rw[byI_nil hdr];rfl
   |cons d r'=>
    rw[hrr]at hdr
    rw[(byI_cons hdr).1]
    exact hr d r' hrr
 have fin:∀f,numFrom s i=f->numEnd s f=i+(Lib.itoa n).length->numV s f (numEnd s f)=(n.natAbs:Int)->(digB (byI s (numEnd s f))||letB (byI s (numEnd s f)))=false->(if byI s i=45 then 0 - (n.natAbs:Int) else (n.natAbs:Int))=n->numAt s i (numFrom s i) (numEnd s (numFrom s i))=.tok ⟨3,⟨⟨[]⟩⟩,n,i⟩ (i+(Lib.itoa n).length):=by
  intro f hf hE hV hz hn
  rw[hf]
  unfold numAt
  rw[hV,if_neg (by omega),if_neg (by rw[hz];simp),hE,hn]
 unfold Lib.itoa at h fin ⊢
 by_cases hneg:n<0
 ·rw[if_pos hneg]at h fin ⊢
  obtain⟨hb,_⟩:=byI_cons (show (sL s).drop i=45::(Lib.decDigits n.natAbs++r) from h)
  have hb:byI s i=45:=hb
  have hd1:(sL s).drop (i+1)=Lib.decDigits n.natAbs++r:=drop_of (w:=[45]) h
  obtain⟨e1,e2,e3,c,e4,e5,e6,e7⟩:=core n.natAbs (i+1) hd1 (by omega)
  have hf:numFrom s i=i+1:=by unfold numFrom;rw[if_pos hb]
  have hc48:=e7 (by omega)
  unfold lstep
  rw[hb,if_neg (by omega),if_neg (by omega),if_neg (by decide),if_pos (.inr rfl)]
  unfold numStep
  rw[hb,if_neg (by rw[e4];omega)]
  refine fin (i+1) hf (by rw[e1];simp;omega) e2 e3 (by rw[if_pos hb];omega)
 ·rw[if_neg hneg]at h fin ⊢
  have hnn:n.natAbs=n.toNat:=by omega
  obtain⟨e1,e2,e3,c,e4,e5,e6,e7⟩:=core n.toNat i h (by omega)
  have hf:numFrom s i=i:=by unfold numFrom;rw[e4,if_neg (by omega)]
  have hl:letB (c:Int)=false:=by
   cases hl:letB (c:Int)
   ·rfl
   ·simp only[letB,smallB,capB,Bool.or_eq_true,Bool.and_eq_true,decide_eq_true_eq]at hl
    omega
  unfold lstep
  rw[e4,if_neg (by omega),if_neg (by omega),if_neg (by rw[hl];simp),if_pos (.inl (by simp[digB];omega))]
  unfold numStep
  rw[e4,if_neg (by omega)]
  exact fin i hf (by rw[e1]) (by rw[e2,hnn]) e3 (by rw[e4,if_neg (by omega)];omega)
theorem l_mark{m r:List UInt8}(h:(sL s).drop i=m++r)(hm:m∈[[40],[41],[44],[46],[61],[60],[33,61],[60,61]])(hr:m=[60]->noHead (fun x=>decide (x=61)) r):
  lstep s i=.tok ⟨4,⟨⟨m⟩⟩,0,i⟩ (i+m.length):=by
 have hx:=ext_of h
 have hk:markL ((sL s).drop i)=m.length:=by
  rw[h]
  simp only[List.mem_cons,List.not_mem_nil,or_false]at hm
  have two:∀(c:UInt8)(r:List UInt8),(∀d,twoMark (c.toNat:Int) d=false)->oneMark (c.toNat:Int)=true->markL (c::r)=1:=by
   intro c r h1 h2
   cases r with
   |nil=>show (if oneMark _=true then 1 else 0)=1;rw[if_pos h2]
   |cons d r=>show (if twoMark _ _=true then 2 else if oneMark _=true then 1 else 0)=1;rw[if_neg (by rw[h1];simp),if_pos h2]
  rcases hm with rfl|rfl|rfl|rfl|rfl|rfl|rfl|rfl
  ·exact two 40 r (fun d=>by unfold twoMark;simp) rfl
  ·exact two 41 r (fun d=>by unfold twoMark;simp) rfl
  ·exact two 44 r (fun d=>by unfold twoMark;simp) rfl
  ·exact two 46 r (fun d=>by unfold twoMark;simp) rfl
  ·exact two 61 r (fun d=>by unfold twoMark;simp) rfl
  ·cases hrr:r with
   |nil=>rfl
   |cons d r'=>
    have:=hr rfl d r' hrr
    show (if twoMark 60 (d.toNat:Int)=true then 2 else if oneMark 60=true then 1 else 0)=1
    have ht:twoMark 60 (d.toNat:Int)=false:=by
     have h6:decide ((d.toNat:Int)=61)=false:=this
     unfold twoMark
     rw[h6]
     rfl
    rw[ht]
    rfl
  ·rfl
  ·rfl
 have core:∀(c:UInt8)(m':List UInt8),m=c::m'->¬((c.toNat:Int)=32\/(c.toNat:Int)=9\/(c.toNat:Int)=10)->¬(c.toNat:Int)=35->letB (c.toNat:Int)=false->¬(digB (c.toNat:Int)=true\/(c.toNat:Int)=45)->lstep s i=.tok ⟨4,⟨⟨m⟩⟩,0,i⟩ (i+m.length):=by
  intro c m' hm h1 h2 h3 h4
  rw[hm]at h
  obtain⟨hb,_⟩:=byI_cons (show (sL s).drop i=c::(m'++r) from h)
  unfold lstep
  rw[hb,if_neg h1,if_neg h2,if_neg (by rw[h3];simp),if_neg h4]
  unfold markStep
  rw[hk,if_neg (by rw[hm];simp),hx]
 simp only[List.mem_cons,List.not_mem_nil,or_false]at hm
 rcases hm with h1|h1|h1|h1|h1|h1|h1|h1
 ·exact core 40 _ h1 (by decide) (by decide) rfl (by decide)
 ·exact core 41 _ h1 (by decide) (by decide) rfl (by decide)
 ·exact core 44 _ h1 (by decide) (by decide) rfl (by decide)
 ·exact core 46 _ h1 (by decide) (by decide) rfl (by decide)
 ·exact core 61 _ h1 (by decide) (by decide) rfl (by decide)
 ·exact core 60 _ h1 (by decide) (by decide) rfl (by decide)
 ·exact core 33 _ h1 (by decide) (by decide) rfl (by decide)
 ·exact core 60 _ h1 (by decide) (by decide) rfl (by decide)
end
end Go.Abs.Tz
namespace Go.Abs.Tz
open Go Go.Abs Go.Proofs
set_option maxRecDepth 20000
set_option linter.unusedSimpArgs false
attribute [local simp ↓] getP_nil getP_node setP_nil setP_node oneP_eq vP_map vP_some vP_none vP_bind eP_some bP_true bP_false gP_yes gP_tf gP_ft gP_tup runP_skip runP_ops runP_drw runP_seq runP_cond runP_blk runP_loop runP_exit runP_ret seqK_n seqK_r seqK_e seqK_p blkK_n blkK_r blkK_e blkK_p loopK_n loopK_r loopK_e loopK_p finK_n finK_r finK_p resP_one resP_two resP_three resP_nil resP_c nxP_nil argsP_nil argsP_cons evP_t evP_c evP_g evsP_nil evsP_cons clP_fn clP_yld clfP_fn pnP_i opsP_nil opsP_d opsP_x opsP_gt opsP_gf opP_cf opP_cl opP_pn opP_nx valP_mv valP_pk valP_eq valP_bn valP_nt valP_ld valP_fa valP_fd valP_ia valP_ix valP_ln valP_srn valP_srl valP_srh valP_srb valP_cv valP_mi valP_mf valP_xt valP_bs valP_bd valP_nc valP_mn valP_lk valP_ta opP_mv opP_pk opP_eq opP_bn opP_nt opP_ld opP_fa opP_fd opP_ia opP_ix opP_ln opP_sr opP_cv opP_mi opP_mf opP_xt opP_bs opP_bd opP_nc opP_mn opP_lk opP_ta opP_al opP_bx opP_st opP_ap opP_mk opP_nb opP_mu opP_rg opP_en pendP_nil pendP_d pendP_g drwP_nil drwP_d drwP_x drwP_gt drwP_gf look_self natOf_nat
attribute [local simp] faL fdL iaL ixL loadL partL lenL eqK eqL natOf eqB_s eqB_i eqB_b bn_add bn_sub bn_lss bn_leq bn_gtr bn_geq bn_adds bn_lsss bn_gtrs bn_leqs bn_geqs sliceL LV.cells LV.whole look_self put_self putO_self put_eq stL fillL termC dopP LHeap.alloc oneI oneS oneB nth0 nth1 nth2 nth3 nth4 nth5 nth6 nth7 nth8 nth9 look_ne putO_ne
def bodyX:List Lit->Bool->List UInt8
 |[],_=>[]
 |x::r,first=>(if first then [32,105,102,32] else [44,32])++(litX x).data.toList++bodyX r false
def clauseX(c:Clause):List UInt8:=(atomX c.head).data.toList++bodyX c.body true++[46,10]
def printF:List Clause->List UInt8->List UInt8×Int
 |[],acc=>(acc,0)
 |c::r,acc=>if clauseOk c=false then ([],7) else printF r (acc++clauseX c)
def printB(l:List Clause):List UInt8×Int:=if 40<l.length then ([],2) else printF l []
theorem bodyX_len:∀{b:List Lit}{f:Bool},(∀x∈b,litOk x=true)->(bodyX b f).length<=124*b.length
 |[],_,_=>by simp[bodyX]
 |x::r,f,h=>by
  have h1:=litX_len (h x List.mem_cons_self)
  have h2:=bodyX_len (f:=false) fun y hy=>h y (List.mem_cons_of_mem _ hy)
  have h3:(litX x).data.toList.length<=120:=h1
  simp only[bodyX,List.length_append,List.length_cons]
  split<;>simp only[List.length_cons,List.length_nil]<;>omega
theorem clauseX_len{c:Clause}(h:clauseOk c=true):(clauseX c).length<=732:=by
 obtain⟨h1,h2,h3⟩:=clause_parts h
 have a:=atomX_len h1
 have b:=bodyX_len (f:=true) h3
 have a':(atomX c.head).data.toList.length<=110:=a
 unfold clauseX
 simp only[List.length_append,List.length_cons,List.length_nil]
 omega
structure NNZ where
 i:Nat
 n:Nat
 s:List UInt8
def printA(a:Atom):List UInt8×Int:=if atomOk a=false then ([],7) else ((atomX a).data.toList,0)
theorem t_PrintAtom(a:Atom)(ha:a.ok):PureT 15 [atomL a] (.tup [.str ⟨⟨(printA a).1⟩⟩,.int (printA a).2]):=by
 refine PureT.of c15 fun H hH=>⟨Nat.le_of_ble_eq_true rfl,?_⟩
 simp(disch:=omega)[b15]
 refine(t_formedAtom a ha).go fun n hn=>?_
 cases h:atomOk a
 ·simp(disch:=omega)
  exact doneK hH (by simp[printA,h])
 ·simp(disch:=omega)
  refine(t_show a h).go fun n1 hn1=>?_
  simp(disch:=omega)
  exact doneK hH (by simp[printA,h])
end Go.Abs.Tz
