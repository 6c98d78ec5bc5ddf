/- Part of the proof that for every source the law CustomReadsAsSpecified returns true. Conditions: none. -/
import Derived.Test.YtjdooijejbmbnaaGreatDoorPartW
import Derived.Test.YtjdooijejbmbnaaGreatDoorPartV
import Derived.Test.YtjdooijejbmbnaaGreatDoorPartG
import Derived.Test.YtjdooijejbmbnaaGreatDoorPartT
import Derived.Test.YtjdooijejbmbnaaGreatDoorRunz
import Derived.Test.YtjdooijejbmbnaaGreatDoorRows
import Derived.ProofKit
import Derived.Deep.Slices
import Derived.Deep.Strs
import Derived.Lib.LaidTab
import Derived.LaidSub
import Derived.Stop.LaidErr
namespace Go.Abs.Tz
open Go Go.Abs Go.Proofs
set_option maxRecDepth 20000
set_option linter.unusedSimpArgs false
attribute [local simp ↓] getP_nil getP_node setP_nil setP_node oneP_eq vP_map vP_some vP_none vP_bind eP_some bP_true bP_false gP_yes gP_tf gP_ft gP_tup runP_skip runP_ops runP_drw runP_seq runP_cond runP_blk runP_loop runP_exit runP_ret seqK_n seqK_r seqK_e seqK_p blkK_n blkK_r blkK_e blkK_p loopK_n loopK_r loopK_e loopK_p finK_n finK_r finK_p resP_one resP_two resP_three resP_nil resP_c nxP_nil argsP_nil argsP_cons evP_t evP_c evP_g evsP_nil evsP_cons clP_fn clP_yld clfP_fn pnP_i opsP_nil opsP_d opsP_x opsP_gt opsP_gf opP_cf opP_cl opP_pn opP_nx valP_mv valP_pk valP_eq valP_bn valP_nt valP_ld valP_fa valP_fd valP_ia valP_ix valP_ln valP_srn valP_srl valP_srh valP_srb valP_cv valP_mi valP_mf valP_xt valP_bs valP_bd valP_nc valP_mn valP_lk valP_ta opP_mv opP_pk opP_eq opP_bn opP_nt opP_ld opP_fa opP_fd opP_ia opP_ix opP_ln opP_sr opP_cv opP_mi opP_mf opP_xt opP_bs opP_bd opP_nc opP_mn opP_lk opP_ta opP_al opP_bx opP_st opP_ap opP_mk opP_nb opP_mu opP_rg opP_en pendP_nil pendP_d pendP_g drwP_nil drwP_d drwP_x drwP_gt drwP_gf look_self natOf_nat
attribute [local simp] faL fdL iaL ixL loadL partL lenL eqK eqL natOf eqB_s eqB_i eqB_b bn_add bn_sub bn_lss bn_leq bn_gtr bn_geq bn_adds bn_lsss bn_gtrs bn_leqs bn_geqs sliceL LV.cells LV.whole look_self put_self putO_self put_eq stL fillL termC dopP LHeap.alloc oneI oneS oneB nth0 nth1 nth2 nth3 nth4 nth5 nth6 nth7 nth8 nth9 look_ne putO_ne
def readC(s:ByteArray):Except (Int×Int) (List Clause):=if 6000<s.size then .error (2,0) else match lexT s (s.size+1) 0 [] with
 |.error e=>.error (7,(e:Int))
 |.ok L=>match parseF L (L.length+1) 0 [] with
  |.error e=>.error (7,atS s L e)
  |.ok l=>if (l.any clBig||decide (40<l.length))=true then .error (2,0) else .ok l
def readA(s:ByteArray):Except (Int×Int) Atom:=if 6000<s.size then .error (2,0) else match lexT s (s.size+1) 0 [] with
 |.error e=>.error (7,(e:Int))
 |.ok L=>match oneAtom L with
  |.error e=>.error (7,atS s L e)
  |.ok a=>if 3<a.args.length then .error (2,0) else .ok a
def clausesV:Except (Int×Int) (List Clause)->List LV
 |.error (e,x)=>[clausesL [],.int e,.int x]
 |.ok l=>[clausesL l,.int 0,.int 0]
def atomV:Except (Int×Int) Atom->Atom×Int×Int
 |.error (e,x)=>(⟨⟨⟨[]⟩⟩,[]⟩,e,x)
 |.ok a=>(a,0,0)
section
variable{s:ByteArray}
theorem readC_big(h:6000<s.size):readC s=.error (2,0):=by unfold readC;rw[if_pos h]
theorem readC_lex(h:s.size<=6000){e:Nat}(he:lexT s (s.size+1) 0 []=.error e):readC s=.error (7,(e:Int)):=by unfold readC;rw[if_neg (by omega),he]
theorem readC_par(h:s.size<=6000){L:List Tok}(hL:lexT s (s.size+1) 0 []=.ok L){e:Nat}(he:parseF L (L.length+1) 0 []=.error e):readC s=.error (7,atS s L e):=by unfold readC;rw[if_neg (by omega),hL];simp only[he]
theorem readC_ok(h:s.size<=6000){L:List Tok}(hL:lexT s (s.size+1) 0 []=.ok L){l:List Clause}(he:parseF L (L.length+1) 0 []=.ok l):readC s=if (l.any clBig||decide (40<l.length))=true then .error (2,0) else .ok l:=by unfold readC;rw[if_neg (by omega),hL];simp only[he]
theorem readA_big(h:6000<s.size):readA s=.error (2,0):=by unfold readA;rw[if_pos h]
theorem readA_lex(h:s.size<=6000){e:Nat}(he:lexT s (s.size+1) 0 []=.error e):readA s=.error (7,(e:Int)):=by unfold readA;rw[if_neg (by omega),he]
theorem readA_par(h:s.size<=6000){L:List Tok}(hL:lexT s (s.size+1) 0 []=.ok L){e:Nat}(he:oneAtom L=.error e):readA s=.error (7,atS s L e):=by unfold readA;rw[if_neg (by omega),hL];simp only[he]
theorem readA_ok(h:s.size<=6000){L:List Tok}(hL:lexT s (s.size+1) 0 []=.ok L){a:Atom}(he:oneAtom L=.ok a):readA s=if 3<a.args.length then .error (2,0) else .ok a:=by unfold readA;rw[if_neg (by omega),hL];simp only[he]
theorem resP_ctt(n m q:Nat)(z:Option Nat)(t:FT)(H:LHeap)(k:LV->Prop):resP E0 [.c n z,.t m,.t q] t H k=getP t n fun a=>vP (loadL H z a) fun x=>getP t m fun b=>getP t q fun c=>k (.tup [x,b,c]):=by
 unfold resP getP vP
 apply propext
 simp only[resultL,List.mapM_cons,List.mapM_nil,resL]
 cases hx:loadL H z (t.get n) with
 |none=>simp
 |some x=>simp
theorem strip_clausesT(l:List Clause)(ow:Own)(e x:Int):Wk (.tup [.sl (l.map clauseL) ow,.int e,.int x]) (.tup [clausesL l,.int e,.int x]):=by
 refine .inr (.inl ?_)
 simp[LV.strip,stripL,stripL_map,List.map_map,Function.comp_def]
theorem t_Parse(s:ByteArray):PureT 6 [.str s] (.tup (clausesV (readC s))):=by
 intro H kv kp hk
 refine cP_of_fnB c6 fun hH=>⟨Nat.le_of_ble_eq_true rfl,?_⟩
 obtain⟨ob,n⟩:=H
 dsimp only at hk
 have hOb:Desc ob n:=hH
 have fin:∀(l:List Clause)(ow:Own)(e x:Int)(ob':List (Nat×LObj))(m':Nat),clausesV (readC s)=[clausesL l,.int e,.int x]->n<=m'->(∀j,j<n->look j ob'=look j ob) ->
   ∃v',Wk (.tup [.sl (l.map clauseL) ow,.int e,.int x]) v'/\∃H'',HWk ⟨ob',m'⟩ H''/\(LHeap.Ok ⟨ob',m'⟩->H''.Ok)/\kv v' H'':=fun l ow e x ob' m' h hm' ho=>
  ⟨_,strip_clausesT l ow e x,⟨ob,m'⟩,hwk_old hH ho (Nat.le_refl _),fun _=>hOb.mono hm',by have:=hk m' hm';rw[h]at this;exact this⟩
 have f0:∀(x:LObj) j,j<n->look j ((n,x)::ob)=look j ob:=fun x j hj=>look_ne (by omega) _ _
 simp(disch:=omega)[b6]
 refine t_readS s 26 [.ptr n 0] (Rv:=fun L b ob2=>∃l ow,parseF L (L.length+1) 0 []=.ok l/\b=(l.any clBig||decide (40<l.length))/\look n ob2=some (.cells [.sl (l.map clauseL) ow])/\∀j,j<n->look j ob2=look j ob)
  (Rp:=fun L e ob2=>parseF L (L.length+1) 0 []=.error e/\∀j,j<n->look j ob2=look j ob) (fun hb ob3 n3 hn3 h3=>?_) (fun hs6 e he ob3 n3 hn3 h3=>?_) (fun hs6 L hL own m ob' n' hm hm' hpar hold kv' kp' hv hp=>?_) (fun hs6 L hL b ob2 hv ob3 n3 hn3 h3=>?_) (fun hs6 L hL e ob2 hp ob3 n3 hn3 h3=>?_)
 ·simp(disch:=omega)[resP_three]
  exact fin [] .full 2 0 _ _ (by rw[readC_big hb];rfl) (by omega) fun j hj=>by rw[h3 j (by omega),f0 _ j hj]
 ·simp(disch:=omega)[resP_three]
  exact fin [] .full 7 e _ _ (by rw[readC_lex hs6 he];rfl) (by omega) fun j hj=>by rw[h3 j (by omega),f0 _ j hj]
 ·rcases lex_rel hs6 with⟨e,_,h2⟩|⟨R,L',_,h2,_,hN,hlen⟩
  ·rw[h2]at hL;cases hL
  rw[h2]at hL
  cases hL
  have hon:=(hold n (by omega)).trans (look_self _ _ _)
  have hold':∀j,j<n->look j ob'=look j ob:=fun j hj=>(hold j (by omega)).trans (f0 _ j hj)
  refine t_p1 (by omega) hN (by omega) hpar hon (fun e he ob2 b' n2 hn2 h1 h2=>?_) (fun l hl ow ob2 n2 hn2 h1 h2 h3=>?_)
  ·exact hp e b' ob2 n2 ⟨he,fun j hj=>(h1 j (by omega) (by omega) (by omega)).trans (hold' j hj)⟩ hn2 h2 fun j g1 g2 g3=>h1 j g2 (by omega) g3
  ·exact hv _ _ _ ob2 n2 ⟨l,ow,hl,by simp,h3,fun j hj=>(h1 j (by omega) (by omega) (by omega)).trans (hold' j hj)⟩ hn2 h2 fun j g1 g2 g3=>h1 j g2 (by omega) g3
 ·obtain⟨l,ow,hl,hb,hln,ho⟩:=hv
  have hr:=readC_ok hs6 hL hl
  rw[<-hb]at hr
  have h3n:=(h3 n (by omega)).trans hln
  cases b
  ·simp(disch:=omega)[h3n,resP_three]
   exact fin l ow 0 0 _ _ (by rw[hr];rfl) (by omega) fun j hj=>(h3 j (by omega)).trans (ho j hj)
  ·simp(disch:=omega)[resP_three]
   exact fin [] .full 2 0 _ _ (by rw[hr];rfl) (by omega) fun j hj=>(h3 j (by omega)).trans (ho j hj)
 ·simp(disch:=omega)[resP_three]
  exact fin [] .full 7 (atS s L e) _ _ (by rw[readC_par hs6 hL hp.1];rfl) (by omega) fun j hj=>(h3 j (by omega)).trans (hp.2 j hj)
theorem t_ParseAtom(s:ByteArray):PureT 8 [.str s] (.tup [atomL (atomV (readA s)).1,.int (atomV (readA s)).2.1,.int (atomV (readA s)).2.2]):=by
 intro H kv kp hk
 refine cP_of_fnB c8 fun hH=>⟨Nat.le_of_ble_eq_true rfl,?_⟩
 obtain⟨ob,n⟩:=H
 dsimp only at hk
 have hOb:Desc ob n:=hH
 have fin:∀(a:Atom)(ow:Own)(e x:Int)(ob':List (Nat×LObj))(m':Nat),atomV (readA s)=(a,e,x)->n<=m'->(∀j,j<n->look j ob'=look j ob) ->
   ∃v',Wk (.tup [.agg [.str a.pred,.sl (a.args.map termL) ow],.int e,.int x]) v'/\∃H'',HWk ⟨ob',m'⟩ H''/\(LHeap.Ok ⟨ob',m'⟩->H''.Ok)/\kv v' H'':=fun a ow e x ob' m' h hm' ho=>
  ⟨.tup [atomL a,.int e,.int x],.inr (.inl (by simp[LV.strip,stripL,stripL_map,List.map_map,Function.comp_def])),⟨ob,m'⟩,hwk_old hH ho (Nat.le_refl _),fun _=>hOb.mono hm',by have:=hk m' hm';rw[h]at this;exact this⟩
 have f0:∀(x y:LObj) j,j<n->look j ((n+1,x)::(n,y)::ob)=look j ob:=fun x y j hj=>by rw[look_ne (by omega),look_ne (by omega)]
 simp(disch:=omega)[b8]
 refine t_readS s 31 [.ptr (n+1) 0] (Rv:=fun L b ob2=>∃a,oneAtom L=.ok a/\b=decide (3<a.args.length)/\look (n+1) ob2=some (.cells [.str a.pred,argsL a.args])/\look n ob2=some (.cells [.str ⟨⟨[]⟩⟩,Nl])/\∀j,j<n->look j ob2=look j ob)
  (Rp:=fun L e ob2=>oneAtom L=.error e/\look n ob2=some (.cells [.str ⟨⟨[]⟩⟩,Nl])/\∀j,j<n->look j ob2=look j ob) (fun hb ob3 n3 hn3 h3=>?_) (fun hs6 e he ob3 n3 hn3 h3=>?_) (fun hs6 L hL own m ob' n' hm hm' hpar hold kv' kp' hv hp=>?_) (fun hs6 L hL b ob2 hv ob3 n3 hn3 h3=>?_) (fun hs6 L hL e ob2 hp ob3 n3 hn3 h3=>?_)
 ·have k0:look n ob3=some (.cells [.str ⟨⟨[]⟩⟩,Nl]):=(h3 n (by omega)).trans (by rw[look_ne (by omega)];exact look_self _ _ _)
  have kp:∀x,look n (putO n x ob3)=some x:=fun x=>look_putO k0
  simp(disch:=omega)[k0,kp]
  simp(disch:=omega)[k0,kp,resP_ctt]
  exact fin ⟨⟨⟨[]⟩⟩,[]⟩ .full 2 0 _ _ (by rw[readA_big hb];rfl) (by omega) fun j hj=>by rw[look_putO_ne (by omega),h3 j (by omega),f0 _ _ j hj]
 ·have k0:look n ob3=some (.cells [.str ⟨⟨[]⟩⟩,Nl]):=(h3 n (by omega)).trans (by rw[look_ne (by omega)];exact look_self _ _ _)
  have kp:∀x,look n (putO n x ob3)=some x:=fun x=>look_putO k0
  simp(disch:=omega)[k0,kp,resP_ctt]
  exact fin ⟨⟨⟨[]⟩⟩,[]⟩ .full 7 e _ _ (by rw[readA_lex hs6 he];rfl) (by omega) fun j hj=>by rw[look_putO_ne (by omega),h3 j (by omega),f0 _ _ j hj]
 ·rcases lex_rel hs6 with⟨e,_,h2⟩|⟨R,L',_,h2,_,hN,hlen⟩
  ·rw[h2]at hL;cases hL
  rw[h2]at hL
  cases hL
  have hon:look (n+1) ob'=some (.cells [.str ⟨⟨[]⟩⟩,Nl]):=(hold (n+1) (by omega)).trans (look_self _ _ _)
  have hn0:look n ob'=some (.cells [.str ⟨⟨[]⟩⟩,Nl]):=(hold n (by omega)).trans (by rw[look_ne (by omega)];exact look_self _ _ _)
  have hold':∀j,j<n->look j ob'=look j ob:=fun j hj=>(hold j (by omega)).trans (f0 _ _ j hj)
  have hmm:∀x y,look m (putO (n+1) y (putO m x ob'))=some x:=fun x y=>by rw[look_putO_ne (by omega)];exact look_putO hpar
  have hoo:∀x y,look (n+1) (putO (n+1) y (putO m x ob'))=some y:=fun x y=>look_putO (by rw[look_putO_ne (by omega)];exact hon)
  refine t_pa1 (by omega) hN (by omega) hpar _ _ rfl hon (fun e he x b' n2 hn2=>?_) (fun a ha n2 hn2=>?_)
  ·exact hp e b' _ n2 ⟨he,by rw[look_putO_ne (by omega),look_putO_ne (by omega)];exact hn0,fun j hj=>by rw[look_putO_ne (by omega),look_putO_ne (by omega)];exact hold' j hj⟩ hn2 (hmm _ _) fun j g1 g2 g3=>by rw[look_putO_ne (by omega),look_putO_ne g3]
  ·exact hv _ _ _ _ n2 ⟨a,ha,rfl,hoo _ _,by rw[look_putO_ne (by omega),look_putO_ne (by omega)];exact hn0,fun j hj=>by rw[look_putO_ne (by omega),look_putO_ne (by omega)];exact hold' j hj⟩ hn2 (hmm _ _) fun j g1 g2 g3=>by rw[look_putO_ne (by omega),look_putO_ne g3]
 ·obtain⟨a,ha,hb,ha1,ha0,ho⟩:=hv
  have hr:=readA_ok hs6 hL ha
  have k1:=(h3 (n+1) (by omega)).trans ha1
  have k0:=(h3 n (by omega)).trans ha0
  have kp:∀x,look n (putO n x ob3)=some x:=fun x=>look_putO k0
  by_cases h3a:3<a.args.length
  ·rw[decide_eq_true h3a]at hb
   rw[if_pos h3a]at hr
   subst hb
   simp(disch:=omega)[k0,k1,kp,resP_ctt]
   exact fin ⟨⟨⟨[]⟩⟩,[]⟩ .full 2 0 _ _ (by rw[hr];rfl) (by omega) fun j hj=>by rw[look_putO_ne (by omega),h3 j (by omega),ho j hj]
  ·rw[decide_eq_false h3a]at hb
   rw[if_neg h3a]at hr
   subst hb
   simp(disch:=omega)[k0,k1,kp,resP_ctt]
   exact fin a .no 0 0 _ _ (by rw[hr];rfl) (by omega) fun j hj=>by rw[look_putO_ne (by omega),h3 j (by omega),ho j hj]
 ·have k0:=(h3 n (by omega)).trans hp.2.1
  have kp:∀x,look n (putO n x ob3)=some x:=fun x=>look_putO k0
  simp(disch:=omega)[k0,kp,resP_ctt]
  exact fin ⟨⟨⟨[]⟩⟩,[]⟩ .full 7 (atS s L e) _ _ (by rw[readA_par hs6 hL hp.1];rfl) (by omega) fun j hj=>by rw[look_putO_ne (by omega),h3 j (by omega),hp.2.2 j hj]
theorem parseF_le{L:List Tok}:∀(k i:Nat)(acc:List Clause)(e:Nat),i<=L.length->parseF L k i acc=.error e->e<=L.length
 |0,i,acc,e,_,h=>by cases h
 |k+1,i,acc,e,hi,h=>by
  by_cases hlt:i<L.length
  ·cases hc:clauseP L i with
   |error e'=>
    rw[parseF_bad hlt hc]at h
    cases h
    exact(clauseP_le hi).2 e hc
   |ok p=>
    obtain⟨c,j⟩:=p
    rw[parseF_go hlt hc]at h
    exact parseF_le k j _ e ((clauseP_le hi).1 c j hc).2 h
  ·rw[parseF_end hlt]at h
   cases h
theorem oneAtom_le{L:List Tok}{e:Nat}(h:oneAtom L=.error e):e<=L.length:=by
 unfold oneAtom at h
 split at h
 ·rename_i e' he
  cases h
  exact(atomP_le (Nat.zero_le _)).2 e he
 ·split at h
  ·cases h;omega
  ·cases h
theorem atR_atS{L:List Tok}{R:List RTok}(hR:RelT L (R++[endT s])){e:Nat}(he:e<=L.length):atR (R++[endT s]) e=atS s L e:=by
 have hlen:=hR.len
 rw[List.length_append,List.length_singleton]at hlen
 unfold atR atS
 rw[dif_pos (hR.lt he)]
 by_cases h:e<L.length
 ·rw[dif_pos h]
  exact hR.pos e h (hR.lt he)
 ·rw[dif_neg h]
  obtain rfl:e=L.length:=by omega
  rw[List.getElem_append_right (by omega)]
  simp
theorem t_rParse1(s:ByteArray):PureT 7 [.str s] (.agg (clausesV (readC s))):=by
 intro H kv kp hk
 by_cases hb:6000<s.size
 ·rw[readC_big hb]at hk
  refine cP_of_fnW c7 fun hH=>⟨Nat.le_of_ble_eq_true rfl,?_⟩
  have hb':(6000:Int)<(s.size:Int):=by omega
  simp(disch:=omega)[b7,hb']
  exact⟨_,strip_clausesR [] 2 0 .full,⟨H.objs,H.next+1⟩,hwk_old (ob:=H.objs) hH (fun j hj=>look_ne (by omega) _ _) (Nat.le_refl _),fun _=>Desc.mono hH (by dsimp only;omega),hk _ (by omega)⟩
 rcases lex_rel (s:=s) (by omega) with⟨e,h1,h2⟩|⟨R,L,h1,h2,hR,hN,hlen⟩
 ·rw[readC_lex (by omega) h2]at hk
  refine cP_of_fnW c7 fun hH=>⟨Nat.le_of_ble_eq_true rfl,?_⟩
  have hb':¬(6000:Int)<(s.size:Int):=by omega
  simp(disch:=omega)[b7,hb']
  refine t_lex s (by omega) _ (fun e' he n1 hn1=>?_) (fun R' he n1 hn1=>?_)
  ·rw[h1]at he
   cases he
   dsimp only at hn1
   simp(disch:=omega)
   exact⟨_,strip_clausesR [] 7 e .full,⟨H.objs,n1+1⟩,hwk_old (ob:=H.objs) hH (fun j hj=>by rw[look_ne (by omega),look_ne (by omega)]) (Nat.le_refl _),fun _=>Desc.mono hH (by dsimp only;omega),hk _ (by omega)⟩
  ·rw[h1]at he;cases he
 ·refine t_rParse (by omega) h1 hR H (fun e he n' hn'=>?_) (fun l hl hbig n' hn'=>?_) (fun l hl hbig n' hn'=>?_)
  ·have:=hk n' hn'
   rw[readC_par (by omega) h2 he]at this
   rw[atR_atS hR (parseF_le _ _ _ _ (Nat.zero_le _) he)]
   exact this
  ·have:=hk n' hn'
   rw[readC_ok (by omega) h2 hl,if_pos hbig]at this
   exact this
  ·have:=hk n' hn'
   rw[readC_ok (by omega) h2 hl,if_neg (by rw[hbig];simp)]at this
   exact this
theorem t_rParseAtom1(s:ByteArray):PureT 9 [.str s] (.agg [.str (atomV (readA s)).1.pred,argsL (atomV (readA s)).1.args,.int (atomV (readA s)).2.1,.int (atomV (readA s)).2.2]):=by
 intro H kv kp hk
 by_cases hb:6000<s.size
 ·rw[readA_big hb]at hk
  refine cP_of_fnW c9 fun hH=>⟨Nat.le_of_ble_eq_true rfl,?_⟩
  have hb':(6000:Int)<(s.size:Int):=by omega
  simp(disch:=omega)[b9,hb']
  exact⟨_,strip_read ⟨⟨⟨[]⟩⟩,[]⟩ .full 2 0,⟨H.objs,H.next+1⟩,hwk_old (ob:=H.objs) hH (fun j hj=>look_ne (by omega) _ _) (Nat.le_refl _),fun _=>Desc.mono hH (by dsimp only;omega),hk _ (by omega)⟩
 rcases lex_rel (s:=s) (by omega) with⟨e,h1,h2⟩|⟨R,L,h1,h2,hR,hN,hlen⟩
 ·rw[readA_lex (by omega) h2]at hk
  refine cP_of_fnW c9 fun hH=>⟨Nat.le_of_ble_eq_true rfl,?_⟩
  have hb':¬(6000:Int)<(s.size:Int):=by omega
  simp(disch:=omega)[b9,hb']
  refine t_lex s (by omega) _ (fun e' he n1 hn1=>?_) (fun R' he n1 hn1=>?_)
  ·rw[h1]at he
   cases he
   dsimp only at hn1
   simp(disch:=omega)
   exact⟨_,strip_read ⟨⟨⟨[]⟩⟩,[]⟩ .full 7 e,⟨H.objs,n1+1⟩,hwk_old (ob:=H.objs) hH (fun j hj=>by rw[look_ne (by omega),look_ne (by omega)]) (Nat.le_refl _),fun _=>Desc.mono hH (by dsimp only;omega),hk _ (by omega)⟩
  ·rw[h1]at he;cases he
 ·refine t_rParseAtom (by omega) h1 hR H (fun e he n' hn'=>?_) (fun a ha hbig n' hn'=>?_) (fun a ha hbig n' hn'=>?_)
  ·have:=hk n' hn'
   rw[readA_par (by omega) h2 he]at this
   rw[atR_atS hR (oneAtom_le he)]
   exact this
  ·have:=hk n' hn'
   rw[readA_ok (by omega) h2 ha,if_pos hbig]at this
   exact this
  ·have:=hk n' hn'
   rw[readA_ok (by omega) h2 ha,if_neg hbig]at this
   exact this
end
end Go.Abs.Tz
namespace Go.Abs.Tz
open Go Go.Abs Go.Proofs
structure TokOk(t:Tok):Prop where
 name:t.kind=1->wordOk 97 122 t.text=true
 var:t.kind=2->wordOk 65 90 t.text=true
 num:t.kind=3->-1000000000<=t.n/\t.n<=1000000000
theorem runN_all(p:Int->Bool):∀l:List UInt8,(∀c∈l,p (c.toNat:Int)=true)->runN p l=l.length
 |[],_=>rfl
 |c::r,h=>by
  unfold runN
  rw[if_pos (h c List.mem_cons_self),runN_all p r fun d hd=>h d (List.mem_cons_of_mem _ hd),List.length_cons]
theorem sL_extract(s:ByteArray)(i j:Nat):sL (s.extract i j)=((sL s).drop i).take (j - i):=by
 unfold sL
 rw[extr_list]
 rfl
theorem word_ok{s:ByteArray}{i:Nat}{c:UInt8}(hi:i<s.size)(hd:(sL s).drop i=c::(sL s).drop (i+1))(hl:letB (c.toNat:Int)=true)(h24:¬24<endN wordC s i - i)
  (h1:eqBA (s.extract i (endN wordC s i)) bIf=false) (h2:eqBA (s.extract i (endN wordC s i)) bNot=false) {lo hi':Int} (hlo:lo<=(c.toNat:Int)) (hhi:(c.toNat:Int)<=hi'):wordOk lo hi' (s.extract i (endN wordC s i))=true:=by
 have hEi:=endN_lt (p:=wordC) hd (by simp[wordC,hl])
 have hEs:=(endN_le (p:=wordC) (s:=s) (i:=i) (by omega)).2
 have hE:endN wordC s i=i+runN wordC ((sL s).drop i):=rfl
 obtain⟨E,hEd⟩:∃E,endN wordC s i=E:=⟨_,rfl⟩
 rw[hEd]at h24 h1 h2 hEi hEs hE ⊢
 have hsz:(s.extract i E).size=E - i:=by rw[ByteArray.size_extract];omega
 have hrun:runN wordC (sL (s.extract i E))=(s.extract i E).size:=by
  rw[runN_all wordC]
  ·exact sL_length _
  ·intro d hdm
   rw[sL_extract,show E - i=runN wordC ((sL s).drop i) by omega]at hdm
   exact runN_take wordC _ d hdm
 have hfirst:firstB lo hi' (sL (s.extract i E))=true:=by
  rw[sL_extract,hd,show E - i=(E - i - 1)+1 by omega,List.take_succ_cons]
  simp[firstB,hlo,hhi]
 unfold wordOk
 have h1':eqBA (s.extract i E) ⟨⟨[105,102]⟩⟩=false:=h1
 have h2':eqBA (s.extract i E) ⟨⟨[110,111,116]⟩⟩=false:=h2
 rw[hfirst,hrun,h1',h2',hsz]
 simp
 omega
theorem lstep_tokOk{s:ByteArray}{i:Nat}(hi:i<s.size){r:RTok}{j:Nat}(h:lstep s i=.tok r j):TokOk ⟨r.kind,s.extract i j,i,r.n⟩:=by
 obtain⟨c,hc,hd⟩:=byteG hi
 have hb:=byI_of hc
 unfold lstep at h
 rw[hb]at h
 split at h
 ·cases h
 split at h
 ·cases h
 split at h
 ·rename_i _ _ hl
  unfold wordStep at h
  split at h
  ·cases h
  ·rename_i h24
   cases h
   have hlr:65<=(c.toNat:Int)/\(c.toNat:Int)<=90\/97<=(c.toNat:Int)/\(c.toNat:Int)<=122:=by
    simp only[letB,smallB,capB,Bool.or_eq_true,Bool.and_eq_true,decide_eq_true_eq]at hl
    omega
   have hk:∀x n,wKind x n≠4->eqBA x bIf=false/\eqBA x bNot=false/\wKind x n=if n<=90 then 2 else 1:=by
    intro x n hne
    unfold wKind at hne ⊢
    cases h1:eqBA x bIf
    ·cases h2:eqBA x bNot
     ·exact⟨rfl,rfl,by simp⟩
     ·rw[h1,h2]at hne;simp at hne
    ·rw[h1]at hne;simp at hne
   refine⟨fun h=>?_,fun h=>?_,fun h=>?_⟩
   ·dsimp only at h ⊢
    obtain⟨h1,h2,h3⟩:=hk _ _ (by rw[h];decide)
    rw[h3,hb]at h
    split at h
    ·cases h
    ·exact word_ok hi hd hl h24 h1 h2 (by omega) (by omega)
   ·dsimp only at h ⊢
    obtain⟨h1,h2,h3⟩:=hk _ _ (by rw[h];decide)
    rw[h3,hb]at h
    split at h
    ·exact word_ok hi hd hl h24 h1 h2 (by omega) (by omega)
    ·cases h
   ·dsimp only at h
    obtain⟨h1,h2,h3⟩:=hk _ _ (by rw[h];decide)
    rw[h3]at h
    split at h<;>cases h
 split at h
 ·rename_i hn
  rw[<-hb]at hn
  rcases numStep_part hn with⟨_,_,e⟩|⟨_,hp,e⟩
  ·rw[e]at h;cases h
  ·rw[e]at h
   unfold numAt at h
   split at h
   ·cases h
   rename_i hnv
   split at h
   ·cases h
   ·cases h
    obtain⟨_,h0⟩:=(num_atoi hp).1 hnv
    refine⟨fun h=>absurd h (by decide:¬(3:Int)=1),fun h=>absurd h (by decide:¬(3:Int)=2),fun _=>?_⟩
    dsimp only
    split<;>omega
 ·unfold markStep at h
  split at h
  ·cases h
  ·cases h
   exact⟨fun h=>absurd h (by decide:¬(4:Int)=1),fun h=>absurd h (by decide:¬(4:Int)=2),fun h=>absurd h (by decide:¬(4:Int)=3)⟩
theorem lexT_tokOk{s:ByteArray}:∀(k i:Nat)(T L:List Tok),(∀t∈T,TokOk t)->lexT s k i T=.ok L->∀t∈L,TokOk t
 |0,i,T,L,hT,h=>by cases h;exact hT
 |k+1,i,T,L,hT,h=>by
  by_cases hi:i<s.size
  ·rw[lexT_go hi]at h
   cases hl:lstep s i with
   |skip j=>rw[hl]at h;exact lexT_tokOk k j T L hT h
   |tok r j=>
    rw[hl]at h
    refine lexT_tokOk k j _ L (fun t ht=>?_) h
    rcases List.mem_append.1 ht with ht|ht
    ·exact hT t ht
    ·rw[List.mem_singleton.1 ht];exact lstep_tokOk hi hl
   |bad e=>rw[hl]at h;cases h
  ·rw[lexT_end hi]at h
   cases h
   exact hT
section
variable{L:List Tok}(hL:∀t∈L,TokOk t)
include hL
theorem termP_ok{i:Nat}{t:Term}(h:termP L i=some t):termOk t=true:=by
 unfold termP at h
 split at h
 ·rename_i hi
  have ho:=hL _ (List.getElem_mem hi)
  unfold tokT at h
  split at h
  ·rename_i h1
   cases h
   have:=ho.name h1
   simp[termOk,this]
  split at h
  ·rename_i h1
   cases h
   have:=ho.var h1
   simp[termOk,this]
  split at h
  ·rename_i h1
   cases h
   have:=ho.num h1
   simp[termOk,this,eqBA_self]
  ·cases h
 ·cases h
theorem argsLp_ok{i j:Nat}{acc ts:List Term}(h:argsLp L i acc=.ok (ts,j))(ha:∀t∈acc,termOk t=true):∀t∈ts,termOk t=true:=by
 induction hm:L.length - i using Nat.strongRecOn generalizing i acc with
 |ind m ih=>
  cases hc:isM L i bComma
  ·rw[argsLp_no hc]at h
   cases h
   exact ha
  ·have hlt:=isM_lt hc
   cases ht:termP L (i+1) with
   |none=>rw[argsLp_bad hc ht]at h;cases h
   |some t=>
    rw[argsLp_go hc ht]at h
    refine ih (L.length - (i+2)) (by omega) h (fun u hu=>?_) rfl
    rcases List.mem_append.1 hu with hu|hu
    ·exact ha u hu
    ·rw[List.mem_singleton.1 hu];exact termP_ok hL ht
theorem txtAt_name{i:Nat}(h:kAt L i=1):wordOk 97 122 (txtAt L i)=true:=by
 unfold kAt at h
 split at h
 ·rename_i hi
  unfold txtAt
  rw[dif_pos hi]
  exact(hL _ (List.getElem_mem hi)).name h
 ·cases h
theorem atomP_ok{i j:Nat}{a:Atom}(h:atomP L i=.ok (a,j)):wordOk 97 122 a.pred=true/\a.args.all termOk=true:=by
 unfold atomP at h
 split at h
 ·cases h
 rename_i hk
 have hn:=txtAt_name hL (show kAt L i=1 from Classical.not_not.1 hk)
 split at h
 ·split at h
  ·cases h
  rename_i t ht
  split at h
  ·cases h
  rename_i ts j' ha
  split at h
  ·cases h
   refine⟨hn,List.all_eq_true.2 (argsLp_ok hL ha fun u hu=>?_)⟩
   rw[List.mem_singleton.1 hu]
   exact termP_ok hL ht
  ·cases h
 ·cases h
  exact⟨hn,rfl⟩
theorem litP_ok{i j:Nat}{x:Lit}(h:litP L i=.ok (x,j))(hb:litBig x=false):litOk x=true:=by
 have h3:x.atom.args.length<=3:=by simpa [litBig] using hb
 have hz:zeroT term0=true:=by simp[zeroT,eqBA_self]
 unfold litP at h
 split at h
 ·obtain⟨a,ha,rfl⟩:=exMap_ok h
  obtain⟨h1,h2⟩:=atomP_ok hL ha
  dsimp only at h3
  unfold litOk
  simp[atomOk,h1,h2,h3,hz]
 split at h
 ·obtain⟨a,ha,rfl⟩:=exMap_ok h
  obtain⟨h1,h2⟩:=atomP_ok hL ha
  dsimp only at h3
  unfold litOk
  simp[atomOk,h1,h2,h3,hz]
 ·split at h
  ·cases h
  rename_i t ht
  have ht:=termP_ok hL ht
  unfold opP at h
  split at h
  ·split at h
   ·cases h
   rename_i c hc
   have hc:=termP_ok hL hc
   cases h
   have he:eqBA atom0.pred ⟨⟨[]⟩⟩=true:=eqBA_self _
   unfold mkOp
   (repeat' split)<;>simp[litOk,ht,hc,he]
  ·cases h
theorem litsLp_ok{i j:Nat}{acc ls:List Lit}(h:litsLp L i acc=.ok (ls,j))(hb:∀x∈ls,litBig x=false)(ha:∀x∈acc,litBig x=false->litOk x=true):∀x∈ls,litOk x=true:=by
 induction hm:L.length - i using Nat.strongRecOn generalizing i acc with
 |ind m ih=>
  cases hc:isM L i bComma
  ·rw[litsLp_no hc]at h
   cases h
   exact fun x hx=>ha x hx (hb x hx)
  ·have hlt:=isM_lt hc
   cases ht:litP L (i+1) with
   |error e=>rw[litsLp_bad hc ht]at h;cases h
   |ok p=>
    obtain⟨x,k⟩:=p
    rw[litsLp_go hc ht]at h
    have hk:=(litP_le (show i+1<=L.length from hlt)).1 _ _ ht
    refine ih (L.length - k) (by omega) h (fun u hu=>?_) rfl
    rcases List.mem_append.1 hu with hu|hu
    ·exact ha u hu
    ·rw[List.mem_singleton.1 hu];exact litP_ok hL ht
theorem clauseP_ok{i j:Nat}{c:Clause}(h:clauseP L i=.ok (c,j))(hb:clBig c=false):clauseOk c=true:=by
 have fin:∀(a:Atom)(ls:List Lit)(p:Nat),finP L a ls p=.ok (c,j)->wordOk 97 122 a.pred=true/\a.args.all termOk=true->((∀x∈ls,litBig x=false)->∀x∈ls,litOk x=true)->clauseOk c=true:=by
  intro a ls p h h1 h2
  unfold finP at h
  split at h
  ·cases h
   unfold clBig at hb
   simp only[Bool.or_eq_false_iff,decide_eq_false_iff_not]at hb
   obtain⟨⟨b1,b2⟩,b3⟩:=hb
   have b2:∀x∈ls,litBig x=false:=fun x hx=>by
    have:=List.any_eq_false.1 b2 x hx
    simpa using this
   have h4:=h2 b2
   unfold clauseOk
   simp only[Bool.and_eq_true,decide_eq_true_eq,List.all_eq_true]
   refine⟨?_,by omega,h4⟩
   unfold atomOk
   simp only[Bool.and_eq_true,decide_eq_true_eq]
   exact⟨h1.1,by omega,h1.2⟩
  ·cases h
 unfold clauseP at h
 split at h
 ·cases h
 rename_i a p ha
 have h1:=atomP_ok hL ha
 split at h
 ·unfold bodyP at h
  split at h
  ·cases h
  rename_i x k hx
  split at h
  ·cases h
  rename_i ls k2 hls
  exact fin a ls k2 h h1 fun hb=>litsLp_ok hL hls hb fun y hy hyb=>by
   rw[List.mem_singleton.1 hy]at hyb ⊢
   exact litP_ok hL hx hyb
 ·exact fin a [] p h h1 fun _ x hx=>by cases hx
theorem parseF_ok:∀(k i:Nat)(acc l:List Clause),parseF L k i acc=.ok l->(∀c∈acc,clBig c=false->clauseOk c=true)->∀c∈l,clBig c=false->clauseOk c=true
 |0,i,acc,l,h,ha=>by cases h;exact ha
 |k+1,i,acc,l,h,ha=>by
  by_cases hlt:i<L.length
  ·cases hc:clauseP L i with
   |error e=>rw[parseF_bad hlt hc]at h;cases h
   |ok p=>
    obtain⟨c,j⟩:=p
    rw[parseF_go hlt hc]at h
    refine parseF_ok k j _ l h fun d hd=>?_
    rcases List.mem_append.1 hd with hd|hd
    ·exact ha d hd
    ·rw[List.mem_singleton.1 hd];exact clauseP_ok hL hc
  ·rw[parseF_end hlt]at h
   cases h
   exact ha
end
theorem readC_formed{s:ByteArray}{l:List Clause}(h:readC s=.ok l):l.length<=40/\∀c∈l,clauseOk c=true:=by
 unfold readC at h
 split at h
 ·cases h
 split at h
 ·cases h
 rename_i L hL
 split at h
 ·cases h
 rename_i l' hl
 split at h
 ·cases h
 ·rename_i hb
  cases h
  simp only[Bool.or_eq_true,decide_eq_true_eq,not_or]at hb
  refine⟨by omega,fun c hc=>parseF_ok (lexT_tokOk _ _ _ _ (fun t ht=>by cases ht) hL) _ _ _ _ hl (fun c hc=>by cases hc) c hc ?_⟩
  cases hcb:clBig c
  ·rfl
  ·exact absurd (List.any_eq_true.2 ⟨c,hc,hcb⟩) hb.1
theorem readA_formed{s:ByteArray}{a:Atom}(h:readA s=.ok a):atomOk a=true:=by
 unfold readA at h
 split at h
 ·cases h
 split at h
 ·cases h
 rename_i L hL
 split at h
 ·cases h
 rename_i a' ha
 split at h
 ·cases h
 rename_i h3
 cases h
 unfold oneAtom at ha
 split at ha
 ·cases ha
 rename_i a2 j hj
 split at ha
 ·cases ha
 cases ha
 obtain⟨h1,h2⟩:=atomP_ok (lexT_tokOk _ _ _ _ (fun t ht=>by cases ht) hL) hj
 unfold atomOk
 simp only[Bool.and_eq_true,decide_eq_true_eq]
 exact⟨h1,by omega,h2⟩
theorem word_small{lo hi:Int}{s:ByteArray}(h:wordOk lo hi s=true):s.size<=24:=by
 unfold wordOk at h
 simp only[Bool.and_eq_true,decide_eq_true_eq]at h
 exact h.2.1
theorem eqBA_none{s:ByteArray}(h:eqBA s ⟨⟨[]⟩⟩=true):s.size=0:=by
 rw[eqBA_iff.1 h];rfl
theorem termOk_ok{t:Term}(h:termOk t=true):t.ok:=by
 unfold termOk at h
 unfold Term.ok
 split at h
 ·simp only[Bool.and_eq_true]at h
  have:=eqBA_none h.1
  omega
 split at h
 ·simp only[Bool.and_eq_true]at h
  have:=word_small h.2
  omega
 split at h
 ·simp only[Bool.and_eq_true]at h
  have:=word_small h.2
  omega
 ·cases h
theorem atomOk_ok{a:Atom}(h:atomOk a=true):a.ok:=by
 unfold atomOk at h
 simp only[Bool.and_eq_true,decide_eq_true_eq,List.all_eq_true]at h
 have:=word_small h.1
 exact⟨by omega,by omega,fun t ht=>termOk_ok (h.2.2 t ht)⟩
theorem litOk_ok{x:Lit}(h:litOk x=true):Lit.ok2 x:=by
 have hz:∀t,zeroT t=true->Term.ok t:=fun t h=>by
  unfold zeroT at h
  simp only[Bool.and_eq_true]at h
  have:=eqBA_none h.2.2
  unfold Term.ok
  omega
 unfold litOk at h
 split at h
 ·simp only[Bool.and_eq_true]at h
  exact⟨atomOk_ok h.1,hz _ h.2.1,hz _ h.2.2⟩
 split at h
 ·simp only[Bool.and_eq_true,decide_eq_true_eq]at h
  have h0:=eqBA_none h.2.2.1
  refine⟨⟨by omega,by omega,fun t ht=>?_⟩,termOk_ok h.1,termOk_ok h.2.1⟩
  rw[List.eq_nil_of_length_eq_zero h.2.2.2]at ht
  cases ht
 ·cases h
theorem clauseOk_ok3{c:Clause}(h:clauseOk c=true):Clause.ok3 c:=by
 unfold clauseOk at h
 simp only[Bool.and_eq_true,decide_eq_true_eq,List.all_eq_true]at h
 exact⟨⟨atomOk_ok h.1,by omega,fun x hx=>litOk_ok (h.2.2 x hx)⟩,⟨atomOk_ok h.1,by omega,fun x hx=>(litOk_ok (h.2.2 x hx)).1⟩⟩
end Go.Abs.Tz
namespace Go.Abs.Tz
open Go Go.Abs Go.Proofs
set_option maxRecDepth 20000
set_option linter.unusedSimpArgs false
attribute [local simp ↓] getP_nil getP_node setP_nil setP_node oneP_eq vP_map vP_some vP_none vP_bind eP_some bP_true bP_false gP_yes gP_tf gP_ft gP_tup runP_skip runP_ops runP_drw runP_seq runP_cond runP_blk runP_loop runP_exit runP_ret seqK_n seqK_r seqK_e seqK_p blkK_n blkK_r blkK_e blkK_p loopK_n loopK_r loopK_e loopK_p finK_n finK_r finK_p resP_one resP_two resP_three resP_nil resP_c nxP_nil argsP_nil argsP_cons evP_t evP_c evP_g evsP_nil evsP_cons clP_fn clP_yld clfP_fn pnP_i opsP_nil opsP_d opsP_x opsP_gt opsP_gf opP_cf opP_cl opP_pn opP_nx valP_mv valP_pk valP_eq valP_bn valP_nt valP_ld valP_fa valP_fd valP_ia valP_ix valP_ln valP_srn valP_srl valP_srh valP_srb valP_cv valP_mi valP_mf valP_xt valP_bs valP_bd valP_nc valP_mn valP_lk valP_ta opP_mv opP_pk opP_eq opP_bn opP_nt opP_ld opP_fa opP_fd opP_ia opP_ix opP_ln opP_sr opP_cv opP_mi opP_mf opP_xt opP_bs opP_bd opP_nc opP_mn opP_lk opP_ta opP_al opP_bx opP_st opP_ap opP_mk opP_nb opP_mu opP_rg opP_en pendP_nil pendP_d pendP_g drwP_nil drwP_d drwP_x drwP_gt drwP_gf look_self natOf_nat
attribute [local simp] faL fdL iaL ixL loadL partL lenL eqK eqL natOf eqB_s eqB_i eqB_b bn_add bn_sub bn_lss bn_leq bn_gtr bn_geq bn_adds bn_lsss bn_gtrs bn_leqs bn_geqs sliceL LV.cells LV.whole look_self put_self putO_self put_eq stL fillL termC dopP LHeap.alloc oneI oneS oneB nth0 nth1 nth2 nth3 nth4 nth5 nth6 nth7 nth8 nth9 look_ne putO_ne
theorem bytesLess_self:∀l:List UInt8,Op.bytesLess l l=false
 |[]=>rfl
 |c::r=>by simp[Op.bytesLess,bytesLess_self r]
theorem cmpB_self(a:ByteArray):cmpB a a=0:=by
 have h:lessB a a=false:=bytesLess_self _
 unfold cmpB
 rw[h,eqBA_self]
 rfl
theorem cmpI_self(a:Int):cmpI a a=0:=by unfold cmpI;rw[if_neg (by omega),if_neg (by omega)]
theorem cmpTs_self:∀l:List Term,cmpTs l l=0
 |[]=>rfl
 |t::r=>by
  have:cmpT t t=0:=by unfold cmpT;rw[cmpI_self,cmpI_self,cmpB_self];rfl
  simp[cmpTs,this,cmpTs_self r]
theorem cmpA_self(a:Atom):cmpA a a=0:=by unfold cmpA;rw[cmpB_self,cmpI_self,cmpTs_self];rfl
theorem t_rSame(a b:Atom)(ha:a.ok)(hb:b.ok):PureT 11 [atomL a,atomL b] (.bool (decide (cmpA a b=0))):=by
 refine PureT.of c11 fun H hH=>⟨Nat.le_of_ble_eq_true rfl,?_⟩
 simp(disch:=omega)[b11]
 refine(t_rCompare a b ha hb).go fun n hn=>?_
 simp(disch:=omega)
 exact doneK hH (by first|rfl|simp[])
theorem t_sameLit(x:Lit)(hx:x.atom.ok):PureT 35 [litL x,litL x] (.bool true):=by
 refine PureT.of c35 fun H hH=>⟨Nat.le_of_ble_eq_true rfl,?_⟩
 simp(disch:=omega)[b35]
 refine(t_rSame x.atom x.atom hx hx).go fun n hn=>?_
 rw[cmpA_self]
 simp(disch:=omega)[eqBA_self]
 exact doneK hH (by first|rfl|simp[])
def clOk(l:List Clause):Prop:=l.length<=2^20/\∀c∈l,c.head.ok/\c.body.length<=2^20/\∀x∈c.body,x.atom.ok
theorem t_sameClauses(l:List Clause)(o1 o2:Own)(hl:clOk l):PureT 10 [.sl (l.map clauseL) o1,.sl (l.map clauseL) o2] (.bool true):=by
 obtain⟨hll,hlo⟩:=hl
 refine PureT.of c10 fun H hH=>⟨Nat.le_of_ble_eq_true rfl,?_⟩
 simp(disch:=omega)[b10]
 refine lP_enter (σ:=NN) (fun q=>(.nd (.sl (l.map clauseL) o1) (.nd (.sl (l.map clauseL) o2) .nil (.nd (.int q.i) .nil .nil)) .nil)) (fun q=>⟨H.objs,q.n⟩) (fun q=>l.length - q.i)
  (fun q=>H.next<=q.n/\q.i<=l.length) ⟨0,H.next⟩ ⟨Nat.le_refl _,Nat.zero_le _⟩ (by simp[FT.Le,Wk]) ⟨HWk.refl _,fun h=>h⟩ ?_
 rintro⟨i,n⟩ ⟨hn,hi⟩ hok
 dsimp only at hn hi hok
 by_cases hlt:i<l.length
 case neg=>
  simp(disch:=omega)[hlt]
  exact doneK hH (by first|rfl|simp[])
 obtain⟨hh,hbl,hb⟩:=hlo _ (mem_at hlt)
 simp(disch:=omega)[hlt]
 refine(t_rSame l[i].head l[i].head hh hh).go fun n2 hn2=>?_
 rw[cmpA_self]
 simp(disch:=omega)[hlt]
 refine lP_enter (σ:=NN) (fun q=>(.nd (.sl (l.map clauseL) o1) (.nd (.sl (l.map clauseL) o2) (.nd .bot (.nd (.int q.i) .nil .nil) .nil) (.nd (.int i) .nil .nil)) .nil)) (fun q=>⟨H.objs,q.n⟩) (fun q=>l[i].body.length - q.i)
  (fun q=>H.next<=q.n/\q.i<=l[i].body.length) ⟨0,n2⟩ ⟨by dsimp only;omega,Nat.zero_le _⟩ (by simp[FT.Le,Wk]) ⟨HWk.refl _,fun h=>h⟩ ?_
 rintro⟨j,n3⟩ ⟨hn3,hj⟩ hok3
 dsimp only at hn3 hj hok3
 by_cases hjl:j<l[i].body.length
 case neg=>
  simp(disch:=omega)[hlt,hjl,wrap_nat (show i<2^62 by omega)]
  exact⟨⟨i+1,n3⟩,by dsimp only;omega,⟨by dsimp only;omega,by dsimp only;omega⟩,by simp[FT.Le,Wk],HWk.refl _,fun h=>h⟩
 simp(disch:=omega)[hlt,hjl]
 refine(t_sameLit l[i].body[j] (hb _ (List.getElem_mem hjl))).go fun n4 hn4=>?_
 simp(disch:=omega)[wrap_nat (show j<2^62 by omega)]
 exact⟨⟨j+1,n4⟩,by dsimp only;omega,⟨by dsimp only;omega,by dsimp only;omega⟩,by simp[FT.Le,Wk],HWk.refl _,fun h=>h⟩
theorem clOk_of{l:List Clause}(hl:l.length<=40)(h:∀c∈l,clauseOk c=true):clOk l:=⟨by omega,fun c hc=>by
 have ho:=h c hc
 obtain⟨h2,_⟩:=clauseOk_ok3 ho
 unfold clauseOk at ho
 simp only[Bool.and_eq_true,decide_eq_true_eq]at ho
 exact⟨h2.1,by omega,fun x hx=>(h2.2.2 x hx).1⟩⟩
theorem clausesV_of(s:ByteArray):∃l e x,clausesV (readC s)=[clausesL l,.int e,.int x]/\clOk l:=by
 cases h:readC s with
 |error p=>
  obtain⟨e,x⟩:=p
  exact⟨[],e,x,rfl,by simp[clOk]⟩
 |ok l=>
  obtain⟨h1,h2⟩:=readC_formed h
  exact⟨l,0,0,rfl,clOk_of h1 h2⟩
theorem atomV_of(s:ByteArray):∃a e x,atomV (readA s)=(a,e,x)/\a.ok:=by
 cases h:readA s with
 |error p=>
  obtain⟨e,x⟩:=p
  exact⟨_,e,x,rfl,by simp[Atom.ok,ByteArray.size]⟩
 |ok a=>exact⟨a,0,0,rfl,atomOk_ok (readA_formed h)⟩
theorem t_law1(hs:PureT 5 [] (.bool true))(s:ByteArray):PureT 3 [.str s] (.bool true):=by
 refine PureT.of c3 fun H hH=>⟨Nat.le_of_ble_eq_true rfl,?_⟩
 obtain⟨l,e,x,hv,hcl⟩:=clausesV_of s
 obtain⟨a,f,y,hva,hao⟩:=atomV_of s
 have hP:=t_Parse s
 have hR:=t_rParse1 s
 have hA:=t_ParseAtom s
 have hB:=t_rParseAtom1 s
 rw[hv]at hP hR
 rw[hva]at hA hB
 by_cases h1:1000<s.size
 ·have h1':(1000:Int)<(s.size:Int):=by omega
  by_cases h2:s.size<=6000
  ·have h2':(s.size:Int)<=6000:=by omega
   simp(disch:=omega)[b3,h1',h2']
   refine hs.go fun n2 hn2=>?_
   simp(disch:=omega)
   exact doneK hH (by simp[])
  ·have h2':¬(s.size:Int)<=6000:=by omega
   simp(disch:=omega)[b3,h1',h2']
   refine hP.go fun n1 hn1=>?_
   simp(disch:=omega)
   refine hR.go fun n2 hn2=>?_
   simp(disch:=omega)
   refine hA.go fun n3 hn3=>?_
   simp(disch:=omega)
   refine hB.go fun n4 hn4=>?_
   simp(disch:=omega)
   refine hs.go fun n5 hn5=>?_
   simp(disch:=omega)
   refine(t_sameClauses l .no .no hcl).go fun n6 hn6=>?_
   simp(disch:=omega)
   refine(t_rSame a a hao hao).go fun n7 hn7=>?_
   rw[cmpA_self]
   simp(disch:=omega)
   exact doneK hH (by simp[])
 ·have h1':¬(1000:Int)<(s.size:Int):=by omega
  simp(disch:=omega)[b3,h1']
  refine hP.go fun n1 hn1=>?_
  simp(disch:=omega)
  refine hR.go fun n2 hn2=>?_
  simp(disch:=omega)
  refine hA.go fun n3 hn3=>?_
  simp(disch:=omega)
  refine hB.go fun n4 hn4=>?_
  simp(disch:=omega)
  refine hs.go fun n5 hn5=>?_
  simp(disch:=omega)
  refine(t_sameClauses l .no .no hcl).go fun n6 hn6=>?_
  simp(disch:=omega)
  refine(t_rSame a a hao hao).go fun n7 hn7=>?_
  rw[cmpA_self]
  simp(disch:=omega)
  exact doneK hH (by simp[])
structure NNCq where
 i:Nat
 n:Nat
 c:Nat
end Go.Abs.Tz
namespace Go.Abs.Tz
set_option maxRecDepth 20000
open Go Go.Abs Go.Proofs Go.ChangeShapes Go.WideShapes Go.RowKit Go.Proofs.YtjdooijejbmbnaaGreatDoor
noncomputable def gOf(W:World):Ghost:=⟨fun b=>if b<W.heap.size then some true else none,0,fun _=>0,fun _=>(0,0),fun _=>none,fun _ _=>.free,E0.rc⟩
theorem gOf_inv(W:World)(m:Nat):Inv (gOf W) W ⟨[],m⟩:=by
 refine⟨Nat.zero_le _,fun b hb=>?_,fun _ _ _=>rfl,fun _ _ _=>rfl,fun o x hx=>by simp[look]at hx⟩
 simp only[gOf]at hb
 split at hb
 ·assumption
 ·cases hb
abbrev powName:String:=(Rows.customReadsAsSpecifiedRow.laid.map Prod.fst)[2]!
theorem pow_lies{W:World}(h:laidMetH Tryz.prog Rows.customReadsAsSpecifiedRow.laid W):∃t fz,W.heap[(3:Nat)]? = some (.cells (Lib.pow10Tab.map fun z=>Value.int .u64 z).toArray t fz):=by
 have h1:=laidMetH.filter (fun x=>x.1==powName) h
 have e:Rows.customReadsAsSpecifiedRow.laid.filter (fun x=>x.1==powName)=[(powName,Lib.tabData .u64 Lib.pow10Tab)]:=rfl
 rw[e]at h1
 change laidMet Tryz.prog [(powName,Lib.tabData .u64 Lib.pow10Tab)] W at h1
 have h2:=Lib.tabIs_of_head (g:=3) (t:=237) (e:=193) (n:=20) (by kernel_rfl) (by kernel_rfl) (by kernel_rfl) (by kernel_rfl) (by kernel_rfl) (by kernel_rfl) h1
 unfold Lib.TabIs World.var? at h2
 rw[show Tryz.prog.globalNamed powName=some 3 by kernel_rfl]at h2
 simp only[Option.bind_some]at h2
 split at h2
 ·rename_i cs t fz hh
  cases h2
  exact⟨t,fz,hh⟩
 ·cases h2
abbrev errName:String:=(Rows.customReadsAsSpecifiedRow.laid.map Prod.fst)[3]!
theorem errRow(u:TypeId)(h:Tryz.prog.typeName? 3 u=some "*errors.errorString"):u=233:=by
 have hs : "*" ++ "errors.errorString" = "*errors.errorString" := by decide
 exact typeName_ptr_named (nm := "errors.errorString") (by rw[hs];kernel_rfl) (by kernel_rfl) (by decide) u (by rw[hs];exact h)
theorem err_lies{W:World}(h:laidMetH Tryz.prog Rows.customReadsAsSpecifiedRow.laid W):∃ty v t fz,W.heap[(1:Nat)]? = some (.cells #[.iface ty v] t fz):=by
 have h1:=laidMetH.filter (fun x=>x.1==errName) h
 have e:Rows.customReadsAsSpecifiedRow.laid.filter (fun x=>x.1==errName)=[(errName,.iface "*errors.errorString" (.ptr (.agg [.lit (.string [118,97,108,117,101,32,111,117,116,32,111,102,32,114,97,110,103,101])])))]:=rfl
 rw[e]at h1
 have h2:=laid_sentinel h1 (g:=1) (ti:=100) (tp:=233) (te:=235) (by kernel_rfl) (by kernel_rfl) Tryz.underlying100 errRow Tryz.underlying233 Tryz.underlying235 rfl rfl Tryz.underlying9 (by kernel_rfl) (by kernel_rfl)
 obtain⟨a,s,hv,_⟩:=h2
 unfold World.var? at hv
 rw[show Tryz.prog.globalNamed errName=some 1 by kernel_rfl]at hv
 simp only[Option.bind_some]at hv
 split at hv
 ·rename_i cs t fz hh
  cases hv
  exact⟨_,_,t,fz,hh⟩
 ·cases hv
theorem gOf_env(W:World)(h:laidMetH Tryz.prog Rows.customReadsAsSpecifiedRow.laid W):EnvR E0 (gOf W) W:=by
 refine⟨fun g=>.bot _,rfl,fun p hp=>?_⟩
 have hp':p=(3,fun vs=>vs=(Lib.pow10Tab.map fun z=>Value.int .u64 z).toArray)\/p=(1,fun vs=>∃ty v,vs=#[.iface ty v]):=by simpa [E0,powT] using hp
 rcases hp' with rfl|rfl
 ·obtain⟨t,fz,hh⟩:=pow_lies h
  have hlt:3<W.heap.size:=(Array.getElem?_eq_some_iff.1 hh).1
  exact⟨by simp[gOf,hlt],_,t,fz,hh,rfl⟩
 ·obtain⟨ty,v,t,fz,hh⟩:=err_lies h
  have hlt:1<W.heap.size:=(Array.getElem?_eq_some_iff.1 hh).1
  exact⟨by simp[gOf,hlt],_,t,fz,hh,ty,v,rfl⟩
section
variable{H:Type}{enc:TypeId×Value->H}{W:World}{hd:Bool}
theorem open_strP{base:Nat}{v:Value}(hv:Value.okWide Tryz.prog W .any base 9 v):∃s:ByteArray,v=.string s:=by
 unfold Value.okWide at hv
 rw[Tryz.underlying9]at hv
 simp only at hv
 unfold Cell.okWide at hv
 rw[Tryz.underlying9]at hv
 simp only at hv
 unfold Cell.ok at hv
 rw[Tryz.underlying9]at hv
 cases v<;>first|exact⟨_,rfl⟩|exact hv.elim
end
end Go.Abs.Tz
namespace Go.Abs.Tz
set_option maxRecDepth 20000
open Go Go.Abs Go.Proofs Go.ChangeShapes Go.WideShapes Go.RowKit Go.Proofs.YtjdooijejbmbnaaGreatDoor
theorem law_run1(s:ByteArray)(W:World)(hW:laidMetH Tryz.prog Rows.customReadsAsSpecifiedRow.laid W)(us:Array Value)(h0:us.size=1)(h1:us.getD 0 undef=.string s):
  Calls Tryz.prog 3 us W fun e W'=>e=.returned (.bool true)/\Below W.heap.size W W':=by
 have hO:cP E0 F0 3 [.str s] ⟨[],1⟩ (fun v _=>v=.bool true) (fun _ _=>False):=
  t_law1 t_sanity s ⟨[],1⟩ _ _ fun _ _=>rfl
 have hC:CallOk Tryz.prog E0 3 [.str s] ⟨[],1⟩ _:=sound hmixT fnsT (hO trivial)
 refine(hC.2 (gOf W) W us (gOf_inv W 1) (gOf_env W hW) ⟨h0,fun i x hi=>?_⟩).mono fun e W' hp=>?_
 ·match i,hi with
  |0,hi=>simp at hi;subst hi;rw[h1];exact .sc _
  |i+1,hi=>simp at hi
 ·cases e with
  |outgrown=>exact hp.elim
  |panicked ch=>
   obtain⟨_,_,_,_,hT,_⟩:=hp
   rcases hT with⟨_,_,he,_⟩|⟨_,_,he,_,hf⟩
   ·cases he
   ·exact hf.elim
  |returned u=>
   obtain⟨v,H',G',hT,hV,_,hx⟩:=hp
   rcases hT with⟨v',H'',he,_,hv⟩|⟨_,_,he,_⟩
   ·cases he
    subst hv
    obtain rfl:=hV.sc_inv
    exact⟨rfl,hx.os,hx.tape,hx.output,hx.size,fun k hk=>hx.block k (by simp[gOf,hk])⟩
   ·cases he
end Go.Abs.Tz
