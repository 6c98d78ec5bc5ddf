/- Part of the proof that for every row of clauses, every atom and every source the law CustomTexts returns true. Conditions: none. -/
import Derived.Test.YtjdooijejbmbnaaGreatDoorPartG
import Derived.Test.YtjdooijejbmbnaaGreatDoorPartI
set_option linter.unusedVariables false
set_option linter.unusedSimpArgs false
set_option linter.unusedSectionVars false
namespace Go.Abs.Tz
open Go Go.Abs Go.Proofs
end Go.Abs.Tz
namespace Go.Abs.Tz
open Go Go.Abs Go.Proofs
set_option maxRecDepth 20000
set_option linter.unusedSimpArgs false
attribute [local simp ↓] getP_nil getP_node setP_nil setP_node oneP_eq vP_map vP_some vP_none vP_bind eP_some bP_true bP_false gP_yes gP_tf gP_ft gP_tup runP_skip runP_ops runP_drw runP_seq runP_cond runP_blk runP_loop runP_exit runP_ret seqK_n seqK_r seqK_e seqK_p blkK_n blkK_r blkK_e blkK_p loopK_n loopK_r loopK_e loopK_p finK_n finK_r finK_p resP_one resP_two resP_three resP_nil resP_c nxP_nil argsP_nil argsP_cons evP_t evP_c evP_g evsP_nil evsP_cons clP_fn clP_yld clfP_fn pnP_i opsP_nil opsP_d opsP_x opsP_gt opsP_gf opP_cf opP_cl opP_pn opP_nx valP_mv valP_pk valP_eq valP_bn valP_nt valP_ld valP_fa valP_fd valP_ia valP_ix valP_ln valP_srn valP_srl valP_srh valP_srb valP_cv valP_mi valP_mf valP_xt valP_bs valP_bd valP_nc valP_mn valP_lk valP_ta opP_mv opP_pk opP_eq opP_bn opP_nt opP_ld opP_fa opP_fd opP_ia opP_ix opP_ln opP_sr opP_cv opP_mi opP_mf opP_xt opP_bs opP_bd opP_nc opP_mn opP_lk opP_ta opP_al opP_bx opP_st opP_ap opP_mk opP_nb opP_mu opP_rg opP_en pendP_nil pendP_d pendP_g drwP_nil drwP_d drwP_x drwP_gt drwP_gf look_self natOf_nat
attribute [local simp] faL fdL iaL ixL loadL partL lenL eqK eqL natOf eqB_s eqB_i eqB_b bn_add bn_sub bn_lss bn_leq bn_gtr bn_geq bn_adds bn_lsss bn_gtrs bn_leqs bn_geqs sliceL LV.cells LV.whole look_self put_self putO_self put_eq stL fillL termC dopP LHeap.alloc oneI oneS oneB nth0 nth1 nth2 nth3 nth4 nth5 nth6 nth7 nth8 nth9 look_ne putO_ne
end Go.Abs.Tz
namespace Go.Abs.Tz
open Go Go.Abs Go.Proofs
theorem alone{P:Program}{E:Env}{F:Fns}(hF:∀f args H S,CallOk P E f args H S->F.prim f args H S)(hg:∀g,E.glob g=.bot){f:FuncId}{v:Value}(h:CallOk P E f [] ⟨[],1⟩ fun r=>∃H',r=.ret (.sc v) H'):Pure E F f [] (.sc v):=by
 refine Pure.of_callsE hF h.1 fun G w us hE ha=>?_
 let G0:Ghost:=⟨fun b=>if b<w.heap.size then some true else none,0,G.loc,G.asz,G.tk,fun _ _=>.free,E.rc⟩
 have hI:Inv G0 w ⟨[],1⟩:=by
  refine⟨Nat.zero_le _,fun b hb=>?_,fun _ _ _=>rfl,fun _ _ _=>rfl,fun o x hx=>by simp[look]at hx⟩
  simp only[G0]at hb
  split at hb
  ·assumption
  ·cases hb
 refine(h.2 G0 w us hI ⟨fun g=>by rw[hg];exact .bot _,rfl,fun p hp=>by
  obtain⟨_,vs,t,fz,h2,h3⟩:=hE.fix p hp
  have hlt:p.1<w.heap.size:=(Array.getElem?_eq_some_iff.1 h2).1
  exact⟨by simp[G0,hlt],vs,t,fz,h2,h3⟩⟩ ⟨ha.1,fun i x hi=>by simp at hi⟩).mono fun e w' hp=>?_
 cases e with
 |outgrown=>exact hp.elim
 |panicked ch=>
  obtain⟨_,_,_,_,⟨_,hn⟩,_⟩:=hp
  cases hn
 |returned u=>
  obtain⟨v',H',G',⟨H'',hn⟩,hV,_,hx⟩:=hp
  cases hn
  obtain rfl:=hV.sc_inv
  exact⟨_,rfl,.sc _,hx.os,hx.tape,hx.output,hx.size,fun k hk _=>hx.block k (by simp[G0,hk])⟩
theorem sanity_of{C:Cfg}(hC:CfgOk C F0)(hE:C.E=E0)(h:callE C 1000000 5 [] ⟨[],1⟩ (fun v _=>asBool v fun b=>b) (fun _ _=>false)=true):PureT 5 [] (.bool true):=by
 refine alone (P:=Tryz.prog) (fun _ _ _ _ h=>h) (fun _=>rfl) ?_
 have hO:=callE_ok hC (show LHeap.Ok ⟨[],1⟩ from trivial) h
 rw[hE]at hO
 have hC:CallOk Tryz.prog E0 5 [] ⟨[],1⟩ _:=sound hmixT fnsT hO
 refine hC.weaken fun r hr=>?_
 rcases hr with⟨v,H,rfl,_,hk⟩|⟨v,H,rfl,_,hk⟩
 ·obtain⟨b,rfl,hb⟩:=asBool_spec hk
  subst hb
  exact⟨H,rfl⟩
 ·cases hk
end Go.Abs.Tz
