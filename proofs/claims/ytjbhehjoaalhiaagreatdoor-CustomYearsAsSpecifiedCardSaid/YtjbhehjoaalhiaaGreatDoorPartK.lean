/- Part of the proof that the law CustomYearsAsSpecified holds. Conditions: none. -/
import Derived.Test.YtjbhehjoaalhiaaGreatDoorPartJ
import Derived.Test.YtjbhehjoaalhiaaGreatDoorPartG
import Derived.Test.YtjbhehjoaalhiaaGreatDoorPartH
set_option linter.unusedVariables false
set_option linter.unusedSimpArgs false
set_option linter.unusedSectionVars false
namespace Go.Abs.Tz
open Go Go.Abs Go.Proofs
set_option maxRecDepth 20000
set_option linter.unusedSimpArgs false
attribute [local simp ↓] gT gS jh jg gv ug q9 zu jf ub yD yE gU gW gY gV jm jp ju jn jv jw jq jr jo jk ji jl jj yB yz yC yA gN gL gO gM g8 g6 g7 uh zG jy qX jz gy yF yG yb yd yc g9 ya ym jD jI jL jH jJ jK gh gg jR jT uQ uN ja jd uO uW u9 uZ uY uX uU uJ uK uL uM jb uS uT uH jc je uP uR uV uI jX jS gd gk jU j8 gc gb ga j9 j6 jP gf j3 j5 jM gj gp jV jZ j7 jN gt gi jO gq j0 jW jY jQ ge jE jG jF yg yk yf yh yj qp ur
attribute [local simp] faL fdL iaL ixL qD qY qT eqK eqL qO zi uD ye yy yn yp yr yu yw yx yo yt yq yv zy LV.cells LV.whole qp uq zU jA stL zz zP uc qa.alloc gw gu gx gK gJ gI gH gG gF gD gC gA gz qd ui
structure NNRs where
 i:Nat
 n:Nat
def qgt:qo:=match qbl.body with
 |.seq _ (.seq r _)=>r
 |_=>.bad
theorem qrX(c:qe)(hb:c.body.length<2^40)(K:qx)(hn:(ut K).Nodup)(hargs:∀x∈c.body,x.atom.args.length<=2^20)(hok:∀x∈c.body,x.kind=2->qM (zp K x.atom)=true)
  (F:List Stp) (fo am:Nat) (ownF:Own) (ko t1 t3 t5 t6:Nat) (k:Int) (z2 z4:LV) (ob:List (Nat×qc)) (n:Nat) (hF:uf ob fo am F ownF) (hko:look ko ob=some (.um (qI K))) (l3:look t3 ob=some (.cells [.ptr fo 0])) (l5:look t5 ob=some (.cells (wq c)))
  {KX:XP} (hx1:qag F K c.body=true->∀n',n<=n'->KX .normal ((.nd (.map ko) (.nd (.ptr t1 0) (.nd (.ptr t3 0) .nil (.nd .bot .nil (.nd .bot .nil (.nd (.int c.body.length) .nil .nil)))) (.nd (.ptr t5 0) (.nd .bot .nil (.nd .bot .nil (.nd (yY c.body) .nil .nil))) .nil)) (.nd .bot (.nd .bot .nil (.nd .bot .nil (.nd .bot .nil (.nd (.sc (.bool false)) .nil .nil)))) (.nd (.ptr t6 0) (.nd .bot .nil (.nd .bot .nil (.nd (.int c.body.length) .nil .nil))) .nil)))) ⟨ob,n'⟩)
  (hx2:qag F K c.body=false->∀t' H' n',n<=n'->HWk H' ⟨ob,n'⟩->(H'.Ok->qa.Ok ⟨ob,n'⟩)->KX .ret t' H'):
  lP E0 F0 qgt ((.nd (.map ko) (.nd (.ptr t1 0) (.nd (.ptr t3 0) .nil .nil) (.nd (.ptr t5 0) .nil .nil)) (.nd .bot .nil (.nd (.ptr t6 0) .nil .nil)))) ⟨ob,n⟩ KX:=by
 refine qgP fun hH=>zj ?_
 have b3:t3<n:=hH.look l3
 have b5:t5<n:=hH.look l5
 have bf:fo<n:=hH.look hF.pair
 have bm:am<n:=hH.look hF.map
 have bk:ko<n:=hH.look hko
 simp(disch:=omega)[qgt,qbl,l5]
 obtain⟨A,hA⟩:∃A,qag F K c.body=A:=⟨_,rfl⟩
 rw[hA]at hx1 hx2
 refine qA (σ:=NNRs) (fun q=>(.nd (.map ko) (.nd (.ptr t1 0) (.nd (.ptr t3 0) .nil (.nd .bot .nil (.nd .bot .nil (.nd (.int q.i) .nil .nil)))) (.nd (.ptr t5 0) (.nd .bot .nil (.nd .bot .nil (.nd (yY c.body) .nil .nil))) .nil)) (.nd .bot .nil (.nd (.ptr t6 0) (.nd .bot .nil (.nd .bot .nil (.nd (.int c.body.length) .nil .nil))) .nil)))) (fun q=>⟨ob,q.n⟩) (fun q=>c.body.length - q.i)
  (fun q=>n<=q.n/\q.i<=c.body.length/\qag F K (c.body.drop q.i)=A) ⟨0,n⟩ ⟨Nat.le_refl _,Nat.zero_le _,by simpa using hA⟩ (by simp[FT.Le,Wk]) ⟨HWk.refl _,fun h=>h⟩ ?_
 rintro⟨i,m⟩ ⟨hm,hi,he⟩ hok1
 dsimp only at hm hi he hok1
 by_cases hlt:i<c.body.length
 case neg=>
  rw[List.drop_eq_nil_of_le (by omega)]at he
  have hA1:A=true:=he.symm
  obtain rfl:i=c.body.length:=by omega
  simp(disch:=omega)[hlt]
  exact hx1 hA1 m hm
 rw[List.drop_eq_getElem_cons hlt]at he
 simp only[qag]at he
 have hback:∀(m2:Nat)(x:qc),m+1<=m2->HWk ⟨(m,x)::ob,m2⟩ ⟨ob,m2⟩/\(qa.Ok ⟨(m,x)::ob,m2⟩->qa.Ok ⟨ob,m2⟩):=fun m2 x h2=>zN (H:=⟨ob,m⟩) hok1 (qq.cons hok1 (Nat.le_refl _) (qq.refl (Nat.le_refl _)) (by dsimp only;omega))
 have hmem:c.body[i]∈c.body:=List.getElem_mem hlt
 have hnx:IntKind.wrap .i64 ((i:Int)+1)=((i+1:Nat):Int):=qk (show i<2^62 by omega)
 by_cases k1:c.body[i].kind=1
 ·rw[if_pos k1]at he
  simp(disch:=omega)[hlt,k1,qk (show i<2^62 by omega)]
  obtain⟨g1,g2⟩:=hback (m+1) (.cells (yU c.body[i])) (Nat.le_refl _)
  exact⟨⟨i+1,m+1⟩,by dsimp only;omega,⟨by dsimp only;omega,by dsimp only;omega,he⟩,by simp[FT.Le,Wk],by simpa [yU,k1] using g1,by simpa [yU,k1] using g2⟩
 rw[if_neg k1]at he
 by_cases k2:c.body[i].kind=2
 ·rw[if_pos k2]at he
  simp(disch:=omega)[hlt,k1,k2,l3,hF.pair]
  refine qlq c.body[i].atom (hargs _ hmem) K hn ko _ (by dsimp only;rw[qd (by omega)];exact hko) fun m2 hm2=>?_
  dsimp only at hm2
  simp(disch:=omega)[l3,hF.pair]
  refine(qgb _ (hok _ hmem k2)).go fun m3 hm3=>?_
  simp(disch:=omega)[l3,hF.pair]
  rw[lkM (by rw[qd (by omega)];exact hF.map)]
  have hh:zk (qE (zp K c.body[i].atom)) F=(vG (qE (zp K c.body[i].atom)) (vj F 0)).isSome:=rfl
  cases hl:vG (qE (zp K c.body[i].atom)) (vj F 0) with
  |some v=>
   rw[hh,hl]at he
   have hA0:A=false:=he.symm
   simp(disch:=omega)[l3,hF.pair]
   obtain⟨g1,g2⟩:=hback m3 (.cells (yU c.body[i])) (by omega)
   exact hx2 hA0 _ _ m3 (by omega) (by simpa [yU,k2] using g1) (by simpa [yU,k2] using g2)
  |none=>
   rw[hh,hl]at he
   simp(disch:=omega)[l3,hF.pair,qk (show i<2^62 by omega)]
   obtain⟨g1,g2⟩:=hback m3 (.cells (yU c.body[i])) (by omega)
   exact⟨⟨i+1,m3⟩,by dsimp only;omega,⟨by dsimp only;omega,by dsimp only;omega,by simpa using he⟩,by simp[FT.Le,Wk],by simpa [yU,k2] using g1,by simpa [yU,k2] using g2⟩
 rw[if_neg k2]at he
 simp(disch:=omega)[hlt,k1,k2]
 refine qsD c.body[i] K hn ko _ (by dsimp only;rw[qd (by omega)];exact hko) fun m2 hm2=>?_
 dsimp only at hm2
 cases hc:qcm K c.body[i]
 ·rw[hc]at he
  have hA0:A=false:=he.symm
  simp(disch:=omega)
  obtain⟨g1,g2⟩:=hback m2 (.cells (yU c.body[i])) hm2
  exact hx2 hA0 _ _ m2 (by omega) g1 g2
 ·rw[hc]at he
  simp(disch:=omega)[qk (show i<2^62 by omega)]
  obtain⟨g1,g2⟩:=hback m2 (.cells (yU c.body[i])) hm2
  exact⟨⟨i+1,m2⟩,by dsimp only;omega,⟨by dsimp only;omega,by dsimp only;omega,by simpa using he⟩,by simp[FT.Le,Wk],g1,g2⟩
end Go.Abs.Tz
namespace Go.Abs.Tz
open Go Go.Abs Go.Proofs
theorem qpN(b off n c:Nat)(zs:List Int)(w:World)(hz:zs.length=n)(hbig:n<=2^40)(hc:∀j z,zs[j]? = some z->w.cell? ⟨b,off+j,none⟩=some (.int .i64 z)):
  Calls Tryz.prog 194 #[.slice (some ⟨b,off,none⟩) n c] w fun e w'=>∃v,e=.returned v/\w.grownBy w' none /\
   ((v=.slice none 0 0/\zs=[])\/∃g cap,v=.slice (some (at_ g 0)) zs.length cap/\w.heap.size<=g/\g<w'.heap.size/\zs.length<=cap/\∀i z,zs[i]? = some z->w'.cell? (at_ g i)=some (.int .i64 z)):=by
 refine(Tryz.slices_Clone_int b off n c zs w (by omega) (by omega) (fun j hj=>?_)).mono ?_
 ·rw[hc j zs[j] (List.getElem?_eq_getElem hj),List.getD_eq_getElem?_getD,List.getElem?_eq_getElem hj];rfl
 ·rintro e w' ⟨v',rfl,⟨hl,hr⟩,hne,hw⟩
  refine⟨v',rfl,qgU hw,?_⟩
  rcases hr with⟨h1,_⟩|⟨g,cap,cur,h1,h2,h3,h4,h5,h6,h7⟩
  ·exact absurd h1 hne
  ·subst hz
   refine .inr ⟨g,cap,h1,h2,(Array.getElem?_eq_some_iff.1 h3).1,h4,fun i z hi=>?_⟩
   have hil:i<zs.length:=(List.getElem?_eq_some_iff.1 hi).1
   have h8:(cur.toList.take (zs.length*1))[i]? = some (.int .i64 z):=by
    rw[h7,List.take_length,List.getElem?_map,hi];rfl
   rw[List.getElem?_take,if_pos (by omega)]at h8
   have h9:cur[i]? = some (.int .i64 z):=by simpa using h8
   unfold World.cell?
   simp only[h3]
   simpa using h9
theorem qsK(H:qa)(o len:Nat)(cs:List LV)(zs:List Int)(hl:look o H.objs=some (.arr 1 cs))(hlen:len<=cs.length)(hz:cs.take len=zs.map fun z=>.int z)(hbig:len<=2^40)
  {kv kp:HP} (hk:kv (.sl (zs.map fun z=>.int z) .no) H):cP E0 F0 194 [.asl o 0 len] H kv kp:=by
 intro hH
 refine .prim (qqf (zs:=zs) (enters_of (by kernel_rfl)) (.inl ⟨_,H,rfl,hH,hk⟩) fun G w us hI ha=>?_)
 obtain⟨u,rfl,hu⟩:=qcS ha
 obtain⟨hon,cap,hcap,_,rfl⟩:=hu.asl_inv
 obtain⟨_,vs,el,fz,h1,h2,h3,⟨h4,_,_⟩,h5,h6,h7⟩:=hI.objs o _ hl
 have hzl:zs.length=len:=by
  have:=congrArg List.length hz
  simpa [List.length_take,Nat.min_eq_left hlen] using this.symm
 rw[Nat.zero_mul]
 refine qpN (G.loc o) 0 len cap zs w hzl hbig fun j z hj=>?_
 have hjl:j<len:=by rw[<-hzl];exact(List.getElem?_eq_some_iff.1 hj).1
 have hcj:cs[j]? = some (.int z):=by
  have:(cs.take len)[j]? = some (.int z):=by rw[hz,List.getElem?_map,hj];rfl
  rwa [List.getElem?_take,if_pos hjl]at this
 have hv:=(h7 j _ hcj).1.sc_inv
 have hjv:j<vs.size:=by omega
 unfold World.cell?
 simp only[h1,Nat.zero_add]
 rw[Array.getD_eq_getD_getElem?,Array.getElem?_eq_getElem hjv]at hv
 simp only[Option.getD_some]at hv
 rw[Array.getElem?_eq_getElem hjv,hv]
 rfl
theorem qsJ(zs:List Int)(own:Own)(hbig:zs.length<=2^40)(H:qa){kv kp:HP}(hk:kv (.sl (zs.map fun z=>.int z) .no) H):cP E0 F0 194 [.sl (zs.map fun z=>.int z) own] H kv kp:=by
 intro hH
 refine .prim (qqf (zs:=zs) (enters_of (by kernel_rfl)) (.inl ⟨_,H,rfl,hH,hk⟩) fun G w us hI ha=>?_)
 obtain⟨u,rfl,hu⟩:=qcS ha
 obtain⟨base,cap,rfl,hcap,_,hc⟩:=hu.sl_inv
 rw[List.length_map]at hcap ⊢
 have hg:∀(j:Nat) z,zs[j]? = some z->(zs.map fun z=>LV.int z)[j]? = some (.int z):=fun j z h=>by rw[List.getElem?_map,h];rfl
 rcases hc with⟨h1,rfl,_⟩|⟨b,off,sz,xv,rfl,hsz,hx,hr⟩
 ·have:zs=[]:=by simpa using h1
  subst this
  cases base with
  |none=>
   refine(Tryz.slices_Clone_int_nil 0 0 w).mono ?_
   rintro e w' ⟨rfl,rfl⟩
   exact⟨_,rfl,qel _,.inl ⟨rfl,rfl⟩⟩
  |some a=>
   refine(Tryz.slices_Clone_int_zero a 0 w).mono ?_
   rintro e w' ⟨v',rfl,⟨hl,hr⟩,hne,hw⟩
   refine⟨v',rfl,qgU hw,?_⟩
   rcases hr with⟨h1,_⟩|⟨g,cap,cur,h1,h2,h3,h4,h5,h6,h7⟩
   ·exact absurd h1 hne
   ·exact .inr ⟨g,cap,h1,h2,(Array.getElem?_eq_some_iff.1 h3).1,h4,fun i z hi=>by simp at hi⟩
 ·refine qpN b off zs.length cap zs w rfl hbig fun j z hj=>?_
  have hz1:sz=1:=(hsz j _ (hg j z hj)).symm
  subst hz1
  obtain⟨_,h2,_⟩:=hx j _ 0 _ (hg j z hj) rfl
  have h3:=(hr j _ 0 _ (hg j z hj) rfl).sc_inv
  rw[h3]at h2
  simpa using h2
end Go.Abs.Tz
namespace Go.Abs.Tz
open Go Go.Abs Go.Proofs
set_option maxRecDepth 20000
set_option linter.unusedSimpArgs false
attribute [local simp ↓] gT gS jh jg gv ug q9 zu jf ub yD yE gU gW gY gV jm jp ju jn jv jw jq jr jo jk ji jl jj yB yz yC yA gN gL gO gM g8 g6 g7 uh zG jy qX jz gy yF yG yb yd yc g9 ya ym jD jI jL jH jJ jK gh gg jR jT uQ uN ja jd uO uW u9 uZ uY uX uU uJ uK uL uM jb uS uT uH jc je uP uR uV uI jX jS gd gk jU j8 gc gb ga j9 j6 jP gf j3 j5 jM gj gp jV jZ j7 jN gt gi jO gq j0 jW jY jQ ge jE jG jF yg yk yf yh yj qp ur
attribute [local simp] faL fdL iaL ixL qD qY qT eqK eqL qO zi uD ye yy yn yp yr yu yw yx yo yt yq yv zy LV.cells LV.whole qp uq zU jA stL zz zP uc qa.alloc gw gu gx gK gJ gI gH gG gF gD gC gA gz qd ui
def qbq(ob:List (Nat×qc))(v:LV)(frm:List Int):Prop:=(v=Nl/\frm=[])\/∃ao cs,v=.asl ao 0 frm.length/\look ao ob=some (.arr 1 cs)/\frm.length<=cs.length/\cs.take frm.length=frm.map LV.int
theorem qsL{ob:List (Nat×qc)}{v:LV}{frm:List Int}(h:qbq ob v frm)(hl:frm.length<=2^40){n:Nat}{kv kp:HP}(hk:kv (.sl (frm.map LV.int) .no) ⟨ob,n⟩):cP E0 F0 194 [v] ⟨ob,n⟩ kv kp:=by
 rcases h with⟨rfl,rfl⟩|⟨ao,cs,rfl,h1,h2,h3⟩
 ·exact qsJ [] .full (by simp) _ hk
 ·exact qsK ⟨ob,n⟩ ao frm.length cs frm h1 h2 h3 hl hk
def qjt:qo:=match qbl.body with
 |.seq h _=>h
 |_=>.bad
def qfZ:qo:=match qbl.body with
 |.seq _ (.seq _ t)=>t
 |_=>.bad
theorem qqo:qbl.body=.seq qjt (.seq qgt qfZ):=rfl
theorem qbq.len{ob:List (Nat×qc)}{v:LV}{frm:List Int}(h:qbq ob v frm)(H:qa):qT H 1 v=some frm.length:=by
 rcases h with⟨rfl,rfl⟩|⟨ao,cs,rfl,_⟩<;>rfl
def qcE:qc->Bool
 |.cells _=>true
 |.map _=>true
 |.tok _ _=>true
 |_=>false
def vY(L ob:List (Nat×qc)):Prop:=∀p∈L,look p.1 ob=some p.2
structure qeJ(σ:Type) where
 fn:FuncId
 cap:List LV
 Stat:List (Nat×qc)
 At:List (Nat×qc)->σ->(Nat->Prop)->Prop
 step:σ->Atom->List Int->σ
 lim:σ->Prop
 lim_step:∀s a frm,lim s->lim (step s a frm)
 at_look:∀(ob:List (Nat×qc))(s:σ)(S:Nat->Prop)(i:Nat),At ob s S->S i->∃x,look i ob=some x/\qcE x=true
 at_keep:∀(ob ob':List (Nat×qc))(s:σ)(S:Nat->Prop),At ob s S->(∀i,S i->look i ob'=look i ob)->At ob' s S
 ok:∀(ob:List (Nat×qc))(n:Nat)(s:σ)(S:Nat->Prop)(a:Atom)(frm:List Int)(kv kp:HP),lim s->qM a=true->At ob s S->vY Stat ob->(∀p∈Stat,¬S p.1)->qL ob ->
  (∀ob' n' S',n<=n'->At ob' (step s a frm) S'->(∀i,S' i->S i\/n<=i)->qL ob'->(∀i,i<n->¬S i->look i ob'=look i ob)->kv (.tup []) ⟨ob',n'⟩) ->
  cP E0 F0 fn ([ql a,.sl (frm.map LV.int) .no]++cap) ⟨ob,n⟩ kv kp
structure ChI where
 c:qe
 F:List Stp
 fo:Nat
 am:Nat
 ownF:Own
 ow:Own
 t1:Nat
 t2:Nat
 t3:Nat
 t4:Nat
 t5:Nat
 t6:Nat
 L:List (Nat×qc)
structure ChOk{σ:Type}(D:qeJ σ)(I:ChI):Prop where
 good:uF I.c
 hDL:∀p∈D.Stat,p∈I.L
 pl:∀p∈I.L,qcE p.2=true
 hF:∀ob,vY I.L ob->uf ob I.fo I.am I.F I.ownF
 Fg:∀s∈I.F,zl s.atom
 Fl:I.F.length<=2^20
 t1L:∀p∈I.L,p.1≠I.t1
 e2:(I.t2,qc.cells [.sl ((qV I.c.body).map ql) I.ow])∈I.L
 e3:(I.t3,qc.cells [.ptr I.fo 0])∈I.L
 e4:(I.t4,qc.cells [.fn (.func 192) [] [.ptr I.t1 0,.ptr I.t2 0,.ptr I.t3 0,.ptr I.t4 0,.ptr I.t5 0,.ptr I.t6 0]])∈I.L
 e5:(I.t5,qc.cells (wq I.c))∈I.L
 e6:(I.t6,qc.cells [.fn (.func D.fn) [] D.cap])∈I.L
structure qdM{σ:Type}(D:qeJ σ)(I:ChI)(ob:List (Nat×qc))(G:σ)(S:Nat->Prop)(frm:List Int)(fv:LV):Prop where
 st:vY I.L ob
 at_:D.At ob G S
 sep:∀p∈I.L,¬S p.1
 c1:look I.t1 ob=some (.cells [fv])
 t1S:¬S I.t1
 fr:qbq ob fv frm
 ni:qL ob
def qkr(I:ChI)(n:Nat)(S:Nat->Prop)(fv:LV)(ob ob':List (Nat×qc)):Prop:=∀i,i<n->¬S i->i≠I.t1->(∀a o l,fv=.asl a o l->i≠a)->look i ob'=look i ob
section
variable{σ:Type}{D:qeJ σ}{I:ChI}
theorem qdM.notS(hC:ChOk D I){ob:List (Nat×qc)}{G:σ}{S:Nat->Prop}{frm:List Int}{fv:LV}(h:qdM D I ob G S frm fv){i:Nat}{x:qc}(hl:look i ob=some x)(hx:qcE x=false):¬S i:=fun hs=>by
 obtain⟨y,h1,h2⟩:=D.at_look _ _ _ _ h.at_ hs
 rw[hl]at h1
 cases h1
 rw[hx]at h2
 cases h2
theorem qbq.keep{ob ob':List (Nat×qc)}{v:LV}{frm:List Int}(h:qbq ob v frm)(hk:∀a o l,v=.asl a o l->look a ob'=look a ob):qbq ob' v frm:=by
 rcases h with h|⟨ao,cs,h1,h2,h3⟩
 ·exact .inl h
 ·exact .inr ⟨ao,cs,h1,by rw[hk _ _ _ h1];exact h2,h3⟩
theorem qsP(hC:ChOk D I)(K:qx)(frm:List Int)(G:σ)(hK:wu K)(hb:∀p∈qV I.c.body,wH K p.args)(hpos:(qV I.c.body).length=frm.length)(hfl:frm.length<=2^20)(hlim:D.lim G)
  (ob:List (Nat×qc)) (n:Nat) (S:Nat->Prop) (fv:LV) (ko:Nat) (h:qdM D I ob G S frm fv) (hko:look ko ob=some (.um (qI K))) {kv kp:HP}
  (hk:∀ob' n' S' fv',n<=n'->qdM D I ob' (vQ D.step I.c (vO I.F I.c [] K frm) G) S' frm fv'->(∀i,S' i->S i\/n<=i)->(∀a o l,fv'=.asl a o l->n<=a\/∃o2 l2,fv=.asl a o2 l2)->qkr I n S fv ob ob'->kv (.tup []) ⟨ob',n'⟩):
  cP E0 F0 192 [.map ko,.ptr I.t1 0,.ptr I.t2 0,.ptr I.t3 0,.ptr I.t4 0,.ptr I.t5 0,.ptr I.t6 0] ⟨ob,n⟩ kv kp:=by
 refine qcN c192 (Nat.le_of_ble_eq_true rfl) fun hH=>?_
 rw[qqo]
 have hF:=hC.hF ob h.st
 have l1:=h.c1
 have l2:look I.t2 ob=some (.cells [.sl ((qV I.c.body).map ql) I.ow]):=h.st _ hC.e2
 have l3:look I.t3 ob=some (.cells [.ptr I.fo 0]):=h.st _ hC.e3
 have l5:look I.t5 ob=some (.cells (wq I.c)):=h.st _ hC.e5
 have l6:look I.t6 ob=some (.cells [.fn (.func D.fn) [] D.cap]):=h.st _ hC.e6
 have b1:I.t1<n:=hH.look l1
 have b5:I.t5<n:=hH.look l5
 have b6:I.t6<n:=hH.look l6
 obtain⟨cp1,cp2,cp3⟩:=qaN hC.good.ok
 obtain⟨g1,g2⟩:=hC.good.leaf hK hb
 have hargs:∀x∈I.c.body,x.atom.args.length<=2^20:=fun x hx=>by have:=qjc (cp3 x hx);omega
 have hh:I.c.head.args.length<=2^20:=by have:=(qbm cp1).1;omega
 have hlt:¬(frm.length:Int)<(((qV I.c.body).length:Nat):Int):=by omega
 simp(disch:=omega)
 refine zW (zj ?_)
 simp(disch:=omega)[qjt,qbl,l1,l2]
 refine⟨frm.length,h.fr.len ⟨ob,n⟩,?_⟩
 simp(disch:=omega)[l2,hlt]
 show lP E0 F0 (.seq qgt qfZ) _ _ _
 refine vv (t':=(.nd (.map ko) (.nd (.ptr I.t1 0) (.nd (.ptr I.t3 0) .nil .nil) (.nd (.ptr I.t5 0) .nil .nil)) (.nd .bot .nil (.nd (.ptr I.t6 0) .nil .nil)))) (fun l h=>by cases h) (by simp[FT.Le,Wk]) (HWk.refl _) (fun h=>h) ?_
 refine zW (qrX I.c (by omega) K hK.nd hargs (fun x hx hk2=>(g1 x hx hk2).1) I.F I.fo I.am I.ownF ko I.t1 I.t3 I.t5 I.t6 0 .bot .bot ob n hF hko l3 l5 (fun hr n2 hn2=>?_) (fun hr t' H' n2 hn2 hwk hok2=>?_))
 ·show lP E0 F0 qfZ _ _ _
  refine zj ?_
  simp(disch:=omega)[qfZ,qbl,l1,l5,l6]
  refine qlq I.c.head hh K hK.nd ko ⟨ob,n2⟩ hko fun n3 hn3=>?_
  dsimp only at hn3
  simp(disch:=omega)[l1,l5,l6]
  refine qsL h.fr (by omega) ?_
  simp(disch:=omega)[l1,l5,l6]
  have e:vQ D.step I.c (vO I.F I.c [] K frm) G=D.step G (zp K I.c.head) frm:=by simp[vQ,vO,hr]
  rw[e]at hk
  refine D.ok ob n3 G S (zp K I.c.head) frm _ _ hlim g2.1 h.at_ (fun p hp=>h.st p (hC.hDL p hp)) (fun p hp=>h.sep p (hC.hDL p hp)) h.ni fun ob' n4 S' hn4 hA' hS' hni hsame=>?_
  simp(disch:=omega)[qX]
  have hst:vY I.L ob':=fun p hp=>by
   rw[hsame _ ?_ (h.sep p hp)]
   ·exact h.st p hp
   ·have:p.1<n:=hH.look (h.st p hp)
    omega
  refine⟨_,HWk.refl _,fun h=>h,hk ob' n4 S' fv (by omega) ⟨hst,hA',fun p hp hs=>?_,?_,fun hs=>?_,h.fr.keep fun a o l he=>?_,hni⟩ (fun i hi=>(hS' i hi).imp id fun h=>by omega) (fun a o l he=>.inr ⟨o,l,he⟩) fun i hi h1 _ _=>hsame i (by omega) h1⟩
  ·have:p.1<n:=hH.look (h.st p hp)
   rcases hS' _ hs with h1|h1
   ·exact h.sep p hp h1
   ·omega
  ·rw[hsame _ (by omega) h.t1S];exact l1
  ·rcases hS' _ hs with h1|h1
   ·exact h.t1S h1
   ·omega
  ·rcases h.fr with⟨e1,_⟩|⟨ao,cs,e1,e2,_⟩
   ·rw[e1]at he;cases he
   ·rw[e1]at he
    simp only[LV.asl.injEq]at he
    obtain⟨rfl,rfl,rfl⟩:=he
    have:=hH.look e2
    dsimp only at this
    exact hsame _ (by omega) (h.notS hC e2 rfl)
 ·have e:vQ D.step I.c (vO I.F I.c [] K frm) G=G:=by simp[vQ,vO,hr]
  rw[e]at hk
  show ve E0 qbl.res t' H' _
  rw[show qbl.res=[] from rfl,qX]
  exact⟨_,hwk,hok2,hk ob n2 S fv hn2 h (fun i hi=>.inl hi) (fun a o l he=>.inr ⟨o,l,he⟩) fun _ _ _ _ _=>rfl⟩
end
theorem qvj{i j:Nat}(h:i≠j)(l:List (Nat×qc)):look i (zD j l)=look i l:=by rw[qcH,if_neg h]
theorem qvi{j:Nat}{l:List (Nat×qc)}{i:Nat}{x:qc}(h:look i (zD j l)=some x):look i l=some x:=by
 rw[qcH]at h
 split at h
 ·cases h
 ·exact h
theorem qL.del{ob:List (Nat×qc)}(h:qL ob)(m:Nat):qL (zD m ob):=qed.2 fun i y hy=>qed.1 h i y (qvi hy)
theorem qwd{ob:List (Nat×qc)}{v:LV}{frm:List Int}(h:qbq ob v frm)(hl:frm.length<=2^20)(j:Int)(n:Nat):
  ∃ob',vx ⟨ob,n⟩ 1 v (.sl [.int j] .full)=some (.asl n 0 (frm.length+1),⟨ob',n+1⟩)/\qbq ob' (.asl n 0 (frm.length+1)) (frm++[j])/\(qL ob->qL ob')/\∀i,i≠n->(∀a o l,v=.asl a o l->i≠a)->look i ob'=look i ob:=by
 rcases h with⟨rfl,rfl⟩|⟨ao,cs,rfl,h1,h2,h3⟩
 ·refine⟨(n,.arr 1 [.int j])::ob,rfl,.inr ⟨n,[.int j],rfl,qp _ _ _,by simp,by simp⟩,fun hI=>hI.cons _ rfl,fun i hi _=>qd hi _ _⟩
 ·have e:vy ⟨ob,n⟩ 1 (.asl ao 0 frm.length)=some (cs.take (frm.length*1),⟨zD ao ob,n⟩,frm.length):=by
   simp only[vy,h1]
   rw[if_pos ⟨trivial,by omega⟩]
   rfl
  have e2:qaC ⟨ob,n⟩ 1 (.sl [.int j] .full)=some ([.int j],1):=rfl
  refine⟨(n,.arr 1 (cs.take (frm.length*1)++[.int j]))::zD ao ob,?_,.inr ⟨n,_,by simp,qp _ _ _,?_,?_⟩,fun hI=>(hI.del _).cons _ rfl,fun i hi hne=>?_⟩
  ·unfold vx
   rw[e,e2]
   simp only
   rw[if_neg (by omega),if_pos ⟨by omega,by omega⟩]
   rfl
  ·simp only[List.length_append,List.length_take,List.length_cons,List.length_nil]
   omega
  ·rw[Nat.mul_one,h3,List.take_of_length_le (by simp),List.map_append]
   rfl
  ·rw[qd hi,qvj (hne ao 0 frm.length rfl)]
structure NNCh(σ:Type) where
 i:Nat
 n:Nat
 ob:List (Nat×qc)
 G:σ
 S:Nat->Prop
 fv:LV
section
variable{σ:Type}{D:qeJ σ}{I:ChI}
def qej(F:List Stp)(c:qe)(p:Atom)(ps:List Atom)(K:qx)(frm:List Int)(i:Nat):List (qx×List Int):=((List.range F.length).drop i).flatMap fun j=>match F[j]? with
  |some s=>match vW K p s.atom with
   |some R=>vO F c ps R (frm++[(j:Int)])
   |none=>[]
  |none=>[]
theorem qnZ(F:List Stp)(c:qe)(p:Atom)(ps:List Atom)(K:qx)(frm:List Int){i:Nat}(h:i<F.length):qej F c p ps K frm i=(match vW K p F[i].atom with
   |some R=>vO F c ps R (frm++[(i:Int)])
   |none=>[])++qej F c p ps K frm (i+1):=by
 unfold qej
 rw[List.drop_eq_getElem_cons (by simpa using h),List.flatMap_cons]
 congr 1
 rw[List.getElem_range,List.getElem?_eq_getElem h]
theorem qwi{step:σ->Atom->List Int->σ}{c:qe}(l m:List (qx×List Int))(s:σ):vQ step c (l++m) s=vQ step c m (vQ step c l s):=List.foldl_append ..
theorem qoI(c:qe):∀(l:List (qx×List Int))(s:σ),D.lim s->D.lim (vQ D.step c l s)
 |[],_,h=>h
 |x::l,s,h=>qoI c l _ (D.lim_step s _ _ h)
theorem qlu(hC:ChOk D I):∀(ps:List Atom)(don:List Atom)(K:qx)(frm:List Int)(G:σ),qV I.c.body=don++ps->don.length=frm.length->wu K->(∀p∈don,wH K p.args)->D.lim G ->
  ∀(ob:List (Nat×qc))(n:Nat)(S:Nat->Prop)(fv:LV)(ko:Nat),qdM D I ob G S frm fv->look ko ob=some (.um (qI K))->∀{kv kp:HP},
  (∀ob' n' S' fv',n<=n'->qdM D I ob' (vQ D.step I.c (vO I.F I.c ps K frm) G) S' frm fv'->(∀i,S' i->S i\/n<=i)->(∀a o l,fv'=.asl a o l->n<=a\/∃o2 l2,fv=.asl a o2 l2)->qkr I n S fv ob ob'->kv (.tup []) ⟨ob',n'⟩) ->
  cP E0 F0 192 [.map ko,.ptr I.t1 0,.ptr I.t2 0,.ptr I.t3 0,.ptr I.t4 0,.ptr I.t5 0,.ptr I.t6 0] ⟨ob,n⟩ kv kp
 |[],don,K,frm,G,hp,hd,hK,hb,hlim,ob,n,S,fv,ko,h,hko,_,_,hk=>by
  rw[List.append_nil]at hp
  have hpl:(qV I.c.body).length<=5:=by
   obtain⟨_,h2,_⟩:=qaN hC.good.ok
   unfold qV
   rw[List.length_map]
   exact Nat.le_trans (List.length_filter_le _ _) h2
  exact qsP hC K frm G hK (by rw[hp];exact hb) (by rw[hp,hd]) (by rw[<-hd,<-hp];omega) hlim ob n S fv ko h hko hk
 |p::ps,don,K,frm,G,hp,hd,hK,hb,hlim,ob,n,S,fv,ko,h,hko,kv,kp,hk=>by
  have hpl:(qV I.c.body).length<=5:=by
   obtain⟨_,h2,_⟩:=qaN hC.good.ok
   unfold qV
   rw[List.length_map]
   exact Nat.le_trans (List.length_filter_le _ _) h2
  have hpl2:(qV I.c.body).length=frm.length+(ps.length+1):=by rw[hp,List.length_append,hd,List.length_cons]
  have hget:(qV I.c.body)[frm.length]? = some p:=by rw[hp,List.getElem?_append_right (by omega),hd];simp
  have hpok:qM p=true:=hC.good.posOk p (by rw[hp];simp)
  refine qcN c192 (Nat.le_of_ble_eq_true rfl) fun hH=>?_
  rw[qqo]
  have hF:=hC.hF ob h.st
  have l1:=h.c1
  have l2:look I.t2 ob=some (.cells [.sl ((qV I.c.body).map ql) I.ow]):=h.st _ hC.e2
  have l3:look I.t3 ob=some (.cells [.ptr I.fo 0]):=h.st _ hC.e3
  have hlt:(frm.length:Int)<(((qV I.c.body).length:Nat):Int):=by omega
  simp(disch:=omega)
  refine zW (zj ?_)
  simp(disch:=omega)[qjt,qbl,l1,l2]
  refine⟨frm.length,h.fr.len ⟨ob,n⟩,?_⟩
  simp(disch:=omega)[l2,l3,hF.pair,hlt]
  obtain⟨A,hA⟩:∃A,vQ D.step I.c (vO I.F I.c (p::ps) K frm) G=A:=⟨_,rfl⟩
  rw[hA]at hk
  refine qA (σ:=NNCh σ) (fun q=>(.nd (.map ko) (.nd (.ptr I.t1 0) (.nd (.ptr I.t3 0) .nil .nil) (.nd (.ptr I.t5 0) (.nd .bot .nil (.nd (.int I.F.length) .nil .nil)) .nil)) (.nd (.ptr I.t2 0) (.nd (.ptr I.t4 0) (.nd (.int frm.length) .nil .nil) .nil) (.nd (.ptr I.t6 0) (.nd .bot .nil (.nd (.int q.i) .nil .nil)) .nil)))) (fun q=>⟨q.ob,q.n⟩) (fun q=>I.F.length - q.i)
   (fun q=>n<=q.n/\q.i<=I.F.length/\D.lim q.G/\vQ D.step I.c (qej I.F I.c p ps K frm q.i) q.G=A/\qdM D I q.ob q.G q.S frm q.fv/\(∀i,q.S i->S i\/n<=i)/\(∀a o l,q.fv=.asl a o l->n<=a\/∃o2 l2,fv=.asl a o2 l2)/\qkr I n S fv ob q.ob)
   ⟨0,n,ob,G,S,fv⟩ ⟨Nat.le_refl _,Nat.zero_le _,hlim,hA,h,fun i hi=>.inl hi,fun a o l he=>.inr ⟨o,l,he⟩,fun _ _ _ _ _=>rfl⟩ (by simp[FT.Le,Wk]) ⟨HWk.refl _,fun h=>h⟩ ?_
  rintro⟨i,m,ob1,G1,S1,fv1⟩ ⟨hm,hi,hlim1,hfold,h1,hS1,hfv1,hkept⟩ hok
  dsimp only at hm hi hlim1 hfold h1 hS1 hfv1 hkept hok
  by_cases hin:i<I.F.length
  case neg=>
   obtain rfl:i=I.F.length:=by omega
   have e:vQ D.step I.c (qej I.F I.c p ps K frm I.F.length) G1=G1:=by
    unfold qej
    rw[List.drop_eq_nil_of_le (by simp)]
    rfl
   rw[e]at hfold
   simp(disch:=omega)[qX]
   exact⟨_,HWk.refl _,fun h=>h,hk ob1 m S1 fv1 hm (by rw[<-hfold];exact h1) hS1 hfv1 hkept⟩
  have hF1:=hC.hF ob1 h1.st
  have k1:=h1.c1
  have k2:look I.t2 ob1=some (.cells [.sl ((qV I.c.body).map ql) I.ow]):=h1.st _ hC.e2
  have k3:look I.t3 ob1=some (.cells [.ptr I.fo 0]):=h1.st _ hC.e3
  have k4:=h1.st _ hC.e4
  dsimp only at k4
  have b1:I.t1<m:=hok.look k1
  have hge:(qV I.c.body)[frm.length]'(by omega)=p:=by
   rw[List.getElem?_eq_getElem (by omega)]at hget
   exact Option.some.inj hget
  have hkn:ko<n:=hH.look hko
  have hko1:look ko ob1=some (.um (qI K)):=by
   rw[hkept ko hkn (h.notS hC hko rfl) (fun e=>by rw[e,l1]at hko;cases hko) (fun a o l he e=>?_)]
   ·exact hko
   ·rcases h.fr with⟨e1,_⟩|⟨ao,cs,e1,e2,_⟩
    ·rw[e1]at he;cases he
    ·rw[e1]at he
     simp only[LV.asl.injEq]at he
     rw[he.1,<-e,hko]at e2
     cases e2
  simp(disch:=omega)[hin,k2,k3,hF1.pair,hge,hpl2]
  refine qsT p I.F[i].atom (qhu hpok) (qhu (hC.Fg _ (List.getElem_mem hin)).1) _ ko K hko1 (fun i m l k n hl=>absurd hl (h1.ni _ _ _ _ _)) hK.nd (fun hbn=>?_) (fun R hbr=>?_)
  ·rw[qnZ _ _ _ _ _ _ hin,hbn]at hfold
   simp(disch:=omega)[k2,k3,hF1.pair,qk (show i<2^62 by have:=hC.Fl;omega)]
   exact⟨⟨i+1,m,ob1,G1,S1,fv1⟩,by dsimp only;omega,⟨hm,by dsimp only;omega,hlim1,hfold,h1,hS1,hfv1,hkept⟩,by simp[FT.Le,Wk],HWk.refl _,fun h=>h⟩
  ·rw[qnZ _ _ _ _ _ _ hin,hbr,qwi]at hfold
   have hfr1:qbq ((m+2,.um (qI R))::ob1) fv1 frm:=h1.fr.keep fun a o l he=>by
    rcases h1.fr with⟨e1,_⟩|⟨ao,cs,e1,e2,_⟩
    ·rw[e1]at he;cases he
    ·rw[e1]at he
     simp only[LV.asl.injEq]at he
     rw[<-he.1]
     have:=hok.look e2
     dsimp only at this
     exact qd (by omega) _ _
   have hfl:frm.length<=2^20:=by omega
   obtain⟨ob2,ha,hfr2,hni2,hkeep2⟩:=qwd hfr1 hfl (i:Int) (m+3)
   have hob2:∀j,j<m->(∀a o l,fv1=.asl a o l->j≠a)->look j ob2=look j ob1:=fun j hj hne=>by
    rw[hkeep2 j (by omega) hne,qd (by omega)]
   have hna:∀j x,look j ob1=some x->qcE x=true->∀a o l,fv1=.asl a o l->j≠a:=fun j x hx hpx a o l he e=>by
    rcases h1.fr with⟨e1,_⟩|⟨ao,cs,e1,e2,_⟩
    ·rw[e1]at he;cases he
    ·rw[e1]at he
     simp only[LV.asl.injEq]at he
     rw[he.1,<-e,hx]at e2
     cases e2
     cases hpx
   have hpl2':∀j x,look j ob1=some x->qcE x=true->look j ob2=some x:=fun j x hx hpx=>by
    rw[hob2 j (by have:=hok.look hx;exact this) (hna j x hx hpx)];exact hx
   have j1:look I.t1 ob2=some (.cells [fv1]):=hpl2' _ _ k1 rfl
   have j4:=hpl2' _ _ k4 rfl
   have ht41:I.t4≠I.t1:=hC.t1L _ hC.e4
   simp(disch:=omega)[k1,k2,k3,hF1.pair]
   refine wn ?_
   simp(disch:=omega)[ha,j1]
   have hob3:∀j,j≠I.t1->look j (qu I.t1 (.cells [.asl (m+3) 0 (frm.length+1)]) ob2)=look j ob2:=fun j hj=>vE hj
   obtain⟨ob3,hob3e⟩:∃ob3,qu I.t1 (.cells [.asl (m+3) 0 (frm.length+1)]) ob2=ob3:=⟨_,rfl⟩
   have j14:look I.t1 ob3=some (.cells [.asl (m+3) 0 (frm.length+1)]):=by rw[<-hob3e];exact vF j1
   have hni3:qL ob3:=by rw[<-hob3e];exact(hni2 (h1.ni.cons _ rfl)).put _ rfl
   rw[hob3e]at hob3 ⊢
   have j44:=(hob3 _ ht41).trans j4
   simp(disch:=omega)[j44]
   have hpl3:∀j x,j≠I.t1->look j ob1=some x->qcE x=true->look j ob3=some x:=fun j x hj hx hpx=>by rw[hob3 j hj];exact hpl2' j x hx hpx
   have hst3:vY I.L ob3:=fun q hq=>hpl3 _ _ (hC.t1L q hq) (h1.st q hq) (hC.pl q hq)
   have hS1t:∀j,S1 j->j≠I.t1:=fun j hj e=>h1.t1S (e▸hj)
   have hat3:D.At ob3 G1 S1:=D.at_keep _ _ _ _ h1.at_ fun j hj=>by
    obtain⟨x,hx,hpx⟩:=D.at_look _ _ _ _ h1.at_ hj
    rw[hx]
    exact hpl3 j x (hS1t j hj) hx hpx
   have hfr3:qbq ob3 (.asl (m+3) 0 (frm.length+1)) (frm++[(i:Int)]):=hfr2.keep fun a o l he=>by
    simp only[LV.asl.injEq]at he
    exact hob3 a (by omega)
   have hne1:m+2≠I.t1:=by omega
   have hko3:look (m+2) ob3=some (.um (qI R)):=by
    rw[hob3 _ hne1,hkeep2 _ (by omega) (fun a o l he e=>?_),qp]
    rcases h1.fr with⟨e1,_⟩|⟨ao,cs,e1,e2,_⟩
    ·rw[e1]at he;cases he
    ·rw[e1]at he
     simp only[LV.asl.injEq]at he
     have:=hok.look e2
     dsimp only at this
     omega
   obtain⟨gR,gX,gB,_⟩:=qqr hK (hC.Fg _ (List.getElem_mem hin)) hbr
   refine qlu hC ps (don++[p]) R (frm++[(i:Int)]) G1 (by rw[hp];simp) (by simp[hd]) gR (fun q hq=>?_) hlim1 ob3 (m+4) S1 _ (m+2) ⟨hst3,hat3,h1.sep,j14,h1.t1S,hfr3,hni3⟩ hko3 fun ob4 n4 S4 fv4 hn4 h4 hS4 hfv4 hkept4=>?_
   ·rcases List.mem_append.1 hq with hq|hq
    ·exact(hb q hq).ext gX
    ·simp at hq
     subst hq
     exact gB
   have m1:=h4.c1
   obtain⟨a4,cs4,e4,f1,f2,f3⟩:∃ao cs,fv4=.asl ao 0 (frm.length+1)/\look ao ob4=some (.arr 1 cs)/\frm.length+1<=cs.length/\cs.take (frm.length+1)=(frm++[(i:Int)]).map LV.int:=by
    rcases h4.fr with⟨_,e⟩|⟨ao,cs,e1,e2,e3,e5⟩
    ·simp at e
    ·simp only[List.length_append,List.length_cons,List.length_nil]at e1 e3 e5
     exact⟨ao,cs,e1,e2,e3,e5⟩
   subst e4
   have hsl:zy 1 1 (.asl a4 0 (frm.length+1)) 0 frm.length=some (.asl a4 0 frm.length):=by
    simp[zy]
   simp(disch:=omega)[m1,qk (show i<2^62 by have:=hC.Fl;omega)]
   obtain⟨ob5,hob5e⟩:∃ob5,qu I.t1 (.cells [.asl a4 0 frm.length]) ob4=ob5:=⟨_,rfl⟩
   rw[hob5e]
   have hob5:∀j,j≠I.t1->look j ob5=look j ob4:=fun j hj=>by rw[<-hob5e];exact vE hj
   have hS4t:∀j,S4 j->j≠I.t1:=fun j hj e=>h4.t1S (e▸hj)
   have ha4:n<=a4:=by
    rcases hfv4 _ _ _ rfl with h|⟨_,_,h⟩
    ·omega
    ·simp only[LV.asl.injEq]at h;omega
   refine⟨⟨i+1,n4,ob5,vQ D.step I.c (vO I.F I.c ps R (frm++[(i:Int)])) G1,S4,.asl a4 0 frm.length⟩,by dsimp only;omega,⟨by dsimp only;omega,by dsimp only;omega,qoI _ _ _ hlim1,hfold,⟨?_,?_,h4.sep,?_,h4.t1S,?_,?_⟩,?_,?_,?_⟩,by simp[FT.Le,Wk],HWk.refl _,fun h=>h⟩
   ·exact fun q hq=>by
     rw[hob5 _ (hC.t1L q hq)];exact h4.st q hq
   ·exact D.at_keep _ _ _ _ h4.at_ fun j hj=>hob5 j (hS4t j hj)
   ·dsimp only
    rw[<-hob5e];exact vF m1
   ·refine .inr ⟨a4,cs4,rfl,?_,by omega,?_⟩
    ·dsimp only
     rw[hob5 _ (fun e=>by rw[e,m1]at f1;cases f1)];exact f1
    ·have:=congrArg (List.take frm.length) f3
     rw[List.take_take,Nat.min_eq_left (by omega),<-List.map_take,List.take_left]at this
     exact this
   ·dsimp only
    rw[<-hob5e];exact h4.ni.put _ rfl
   ·intro j hj
    rcases hS4 j hj with h|h
    ·exact hS1 j h
    ·exact .inr (by omega)
   ·intro a o l he
    simp only[LV.asl.injEq]at he
    exact .inl (by omega)
   ·intro j hj hjS hjt hja
    dsimp only
    rw[hob5 j hjt,hkept4 j (by omega) (fun hs=>?_) hjt (fun a o l he=>?_),hob3 j hjt,hob2 j (by omega) (fun a o l he=>?_)]
    ·exact hkept j hj hjS hjt hja
    ·rcases hfv1 a o l he with h|⟨_,_,h⟩
     ·omega
     ·exact hja _ _ _ h
    ·rcases hS1 j hs with h|h
     ·exact hjS h
     ·omega
    ·simp only[LV.asl.injEq]at he
     omega
end
theorem cP_um{f:FuncId}{args:List LV}{H:qa}{o:Nat}{es:List (LV×LV)}{kv kp:HP}(hl:look o H.objs=some (.map es))(h:cP E0 F0 f args (H.put o (.um es)) kv kp):cP E0 F0 f args H kv kp:=by
 intro hH
 have hC:qW Tryz.prog E0 f args (H.put o (.um es)) (CSP kv kp):=qby qdv qcj (h (qn.put hH))
 exact .prim ⟨hC.1,fun G w us hI hE ha=>hC.2 G w us (hI.toUm hl (.refl _)) hE ha⟩
structure NNIn where
 i:Nat
 n:Nat
 xs:List Atom
 own:Own
 ob:List (Nat×qc)
def qgL:qo:=match qdG.body with
 |.seq _ (.seq _ (.seq l _))=>l
 |_=>.bad
def qmD:qo:=match qdG.body with
 |.seq _ (.seq _ (.seq _ r))=>r
 |_=>.bad
abbrev vL(c:qe)(fv:LV)(fo n:Nat)(xs:List Atom)(own:Own)(ob:List (Nat×qc)):List (Nat×qc):=(n+1+1+1,.cells [.sl (xs.map ql) own])::(n+1+1,.cells [fv])::(n+1,.cells (wq c))::(n,.cells [.ptr fo 0])::ob
theorem qua{b:List Lit}{i:Nat}(h:i<b.length):qV (b.take (i+1))=qV (b.take i)++(if b[i].kind=1 then [b[i].atom] else []):=by
 unfold qV
 rw[List.take_add_one,List.getElem?_eq_getElem h,List.filter_append,List.map_append]
 congr 1
 by_cases hk:b[i].kind=1
 ·simp[hk]
 ·simp[hk]
theorem yM{a n m:Nat}{y:qc}{r:List (Nat×qc)}(hr:qn r a)(h:n<=m):HWk ⟨(a,y)::r,m⟩ ⟨r,m⟩:=by
 refine⟨Nat.le_refl _,fun i z hz=>?_⟩
 have:=hr.look hz
 rw[qd (by omega)]
 exact hz
theorem qsb(c:qe)(hc:c.body.length<=2^20)(fv:LV)(fo n:Nat)(ob:List (Nat×qc))(hOb:qn ob n){KX:XP}
  (hk:∀ow ob1 m,uw ⟨vL c fv fo n (qV c.body) ow ob,n+1+1+1+1⟩ 2 (qV c.body).length ow ob1 m->KX .normal ((.nd .bot (.nd .bot (.nd (.ptr n 0) (.nd .bot (.nd (.sc (.bool false)) .nil .nil) .nil) .nil) (.nd (.ptr (n+1+1) 0) .nil (.nd (.int c.body.length) .nil .nil))) (.nd .bot (.nd (.ptr (n+1) 0) .nil (.nd (yY c.body) .nil .nil)) (.nd (.ptr (n+1+1+1) 0) .nil (.nd (.int c.body.length) .nil .nil))))) ⟨ob1,m⟩):
  lP E0 F0 qgL ((.nd .bot (.nd .bot (.nd (.ptr n 0) .nil .nil) (.nd (.ptr (n+1+1) 0) .nil .nil)) (.nd .bot (.nd (.ptr (n+1) 0) .nil .nil) (.nd (.ptr (n+1+1+1) 0) .nil .nil)))) ⟨vL c fv fo n [] .full ob,n+1+1+1+1⟩ KX:=by
 refine zj ?_
 simp(disch:=omega)[qgL,qdG]
 refine qA (σ:=NNIn) (fun q=>(.nd .bot (.nd .bot (.nd (.ptr n 0) .nil .nil) (.nd (.ptr (n+1+1) 0) .nil (.nd (.int c.body.length) .nil .nil))) (.nd .bot (.nd (.ptr (n+1) 0) .nil (.nd (yY c.body) .nil .nil)) (.nd (.ptr (n+1+1+1) 0) .nil (.nd (.int q.i) .nil .nil))))) (fun q=>⟨q.ob,q.n⟩) (fun q=>c.body.length - q.i)
  (fun q=>uw ⟨vL c fv fo n q.xs q.own ob,n+1+1+1+1⟩ 2 q.xs.length q.own q.ob q.n/\q.i<=c.body.length/\q.xs=qV (c.body.take q.i))
  ⟨0,n+1+1+1+1,[],.full,vL c fv fo n [] .full ob⟩ ⟨.inl ⟨rfl,rfl,Nat.le_refl _⟩,Nat.zero_le _,rfl⟩ (by simp[FT.Le,Wk]) ⟨HWk.refl _,fun h=>h⟩ ?_
 rintro⟨i,m,xs,own,ob1⟩ ⟨hr,hi,hxs⟩ hok
 dsimp only at hr hi hok hxs
 by_cases hlt:i<c.body.length
 case neg=>
  obtain rfl:i=c.body.length:=by omega
  rw[List.take_length]at hxs
  subst hxs
  simp(disch:=omega)
  exact hk _ _ _ hr
 have hB:∀(ys:List Atom)(ow:Own),qn (vL c fv fo n ys ow ob) (n+1+1+1+1):=fun ys ow=>⟨by omega,by omega,by omega,by omega,hOb⟩
 have hX:=qht xs
 obtain⟨X,hXe⟩:∃X,xs.map ql=X:=⟨_,rfl⟩
 have hXl:X.length=xs.length:=by rw[<-hXe,List.length_map]
 have htk:=qua hlt
 have hxl:xs.length<=i:=by
  rw[hxs]
  unfold qV
  rw[List.length_map]
  exact Nat.le_trans (List.length_filter_le _ _) (by rw[List.length_take];omega)
 by_cases hk1:c.body[i].kind=1
 case neg=>
  rw[if_neg hk1,List.append_nil]at htk
  rcases hr with⟨rfl,rfl,h3⟩|⟨t,rfl,g1,g2,rfl⟩
  ·dsimp only at h3
   simp(disch:=omega)[hlt,hk1,qk (show i<2^62 by omega)]
   exact⟨⟨i+1,m+1,xs,.full,vL c fv fo n xs .full ob⟩,by dsimp only;omega,⟨.inl ⟨rfl,rfl,by dsimp only;omega⟩,by dsimp only;omega,by dsimp only;rw[htk];exact hxs⟩,by simp[FT.Le,Wk],yM ((hB xs _).mono h3) (Nat.le_refl _),fun _=>(hB xs _).mono (by dsimp only;omega)⟩
  ·dsimp only at g1
   simp(disch:=omega)[hlt,hk1,qk (show i<2^62 by omega)]
   exact⟨⟨i+1,m+1,xs,.tok t,(t,.tok xs.length 2)::vL c fv fo n xs (.tok t) ob⟩,by dsimp only;omega,⟨.inr ⟨t,rfl,g1,by dsimp only;omega,rfl⟩,by dsimp only;omega,by dsimp only;rw[htk];exact hxs⟩,by simp[FT.Le,Wk],yM (show qn _ m from hok) (Nat.le_refl _),fun _=>(show qn _ m from hok).mono (by dsimp only;omega)⟩
 rw[if_pos hk1]at htk
 have hnew:(xs++[c.body[i].atom]).map ql=X++[ql c.body[i].atom]:=by rw[<-hXe];simp
 have hxl2:(xs++[c.body[i].atom]).length=xs.length+1:=by simp
 rw[hXe]at hX
 rcases hr with⟨rfl,rfl,h3⟩|⟨t,rfl,g1,g2,rfl⟩
 ·dsimp only at h3
  simp(disch:=omega)[hlt,hk1]
  refine zd ?_
  simp(disch:=omega)[hXe]
  rw[qkl hX rfl (by rw[hXl];omega) (by omega)]
  simp(disch:=omega)[hXl,qk (show i<2^62 by omega)]
  refine⟨⟨i+1,m+1+1,xs++[c.body[i].atom],.tok (m+1),(m+1,.tok (xs.length+1) 2)::vL c fv fo n (xs++[c.body[i].atom]) (.tok (m+1)) ob⟩,by dsimp only;omega,⟨.inr ⟨m+1,rfl,by dsimp only;omega,Nat.lt_succ_self _,by dsimp only;rw[hxl2]⟩,by dsimp only;omega,by dsimp only;rw[htk,hxs]⟩,by simp[FT.Le,Wk],?_⟩
  dsimp only
  unfold vL
  rw[hnew]
  have hB2:=hB (xs++[c.body[i].atom]) (.tok (m+1))
  unfold vL at hB2
  rw[hnew]at hB2
  exact⟨qbK (hB2.mono h3) fun _ _ h=>h,fun _=>⟨Nat.lt_succ_self _,hB2.mono (by omega)⟩⟩
 ·dsimp only at g1
  simp(disch:=omega)[hlt,hk1]
  refine zd ?_
  simp(disch:=omega)[hXe]
  rw[qkk hX rfl (by rw[hXl];omega) (by omega) (by omega) (by rw[qd (by omega),hXl];simp[look])]
  simp(disch:=omega)[hXl,qk (show i<2^62 by omega)]
  refine⟨⟨i+1,m+1,xs++[c.body[i].atom],.tok t,(t,.tok (xs.length+1) 2)::vL c fv fo n (xs++[c.body[i].atom]) (.tok t) ob⟩,by dsimp only;omega,⟨.inr ⟨t,rfl,g1,by dsimp only;omega,by dsimp only;rw[hxl2]⟩,by dsimp only;omega,by dsimp only;rw[htk,hxs]⟩,by simp[FT.Le,Wk],?_⟩
  dsimp only
  unfold vL
  rw[hnew]
  have hB2:=hB (xs++[c.body[i].atom]) (.tok t)
  unfold vL at hB2
  rw[hnew]at hB2
  have hOk3:qn ((t,qc.tok (xs.length+1) 2)::(n+1+1+1,qc.cells [.sl (X++[ql c.body[i].atom]) (.tok t)])::(n+1+1,.cells [fv])::(n+1,.cells (wq c))::(n,.cells [.ptr fo 0])::ob) m:=⟨g2,hB2.mono g1⟩
  exact⟨yM hOk3 (Nat.le_refl _),fun _=>hOk3.mono (by dsimp only;omega)⟩
theorem qxN:qdG.body=.seq (.ops [D 3 (.bx (T 0)),D 4 (.bx (T 1)),D 5 (.bx (T 2))]) (.seq (.ops [D 6 (.al [Nl])]) (.seq qgL qmD)):=rfl
section
variable{σ:Type}{D:qeJ σ}
theorem qsl(c:qe)(hc:uF c)(F:List Stp)(fo am:Nat)(ownF:Own)(L:List (Nat×qc))(hDL:∀p∈D.Stat,p∈L)(hpl:∀p∈L,qcE p.2=true)(hF:∀ob,vY L ob->uf ob fo am F ownF)
  (hFg:∀s∈F,zl s.atom) (hFl:F.length<=2^20) (ob:List (Nat×qc)) (n:Nat) (G:σ) (S:Nat->Prop) (hlim:D.lim G) (hst:vY L ob) (hat:D.At ob G S) (hsep:∀p∈L,¬S p.1) (hni:qL ob) {kv kp:HP}
  (hk:∀ob' n' S',n<=n'->D.At ob' (vQ D.step c (vO F c (qV c.body) [] []) G) S'->(∀i,S' i->S i\/n<=i)->qL ob'->(∀i,i<n->¬S i->look i ob'=look i ob)->kv (.tup []) ⟨ob',n'⟩):
  cP E0 F0 153 [.ptr fo 0,uo c,.fn (.func D.fn) [] D.cap] ⟨ob,n⟩ kv kp:=by
 refine qcN c153 (Nat.le_of_ble_eq_true rfl) fun hH=>?_
 rw[qxN]
 simp(disch:=omega)
 refine zW (zj ?_)
 simp(disch:=omega)
 refine zW (zj ?_)
 simp(disch:=omega)
 refine zW ?_
 refine vv (t':=(.nd .bot (.nd .bot (.nd (.ptr n 0) .nil .nil) (.nd (.ptr (n+1+1) 0) .nil .nil)) (.nd .bot (.nd (.ptr (n+1) 0) .nil .nil) (.nd (.ptr (n+1+1+1) 0) .nil .nil)))) (fun l h=>by unfold qgL at h;simp[qdG]at h) (by simp[FT.Le,Wk]) (HWk.refl _) (fun h=>h) ?_
 obtain⟨cp1,cp2,cp3⟩:=qaN hc.ok
 refine qsb c (by omega) (.fn (.func D.fn) [] D.cap) fo n ob hH fun ow ob1 m hr=>?_
 obtain⟨hm,q3,q2,q1,q0,hold,hni1⟩:n+1+1+1+1<=m/\look (n+1+1+1) ob1=some (.cells [.sl ((qV c.body).map ql) ow])/\look (n+1+1) ob1=some (.cells [.fn (.func D.fn) [] D.cap])/\look (n+1) ob1=some (.cells (wq c))/\look n ob1=some (.cells [.ptr fo 0])/\(∀i,i<n->look i ob1=look i ob)/\qL ob1:=by
  have base:∀xs ow,look (n+1+1+1) (vL c (.fn (.func D.fn) [] D.cap) fo n xs ow ob)=some (.cells [.sl (xs.map ql) ow])/\look (n+1+1) (vL c (.fn (.func D.fn) [] D.cap) fo n xs ow ob)=some (.cells [.fn (.func D.fn) [] D.cap])/\look (n+1) (vL c (.fn (.func D.fn) [] D.cap) fo n xs ow ob)=some (.cells (wq c))/\look n (vL c (.fn (.func D.fn) [] D.cap) fo n xs ow ob)=some (.cells [.ptr fo 0])/\(∀i,i<n->look i (vL c (.fn (.func D.fn) [] D.cap) fo n xs ow ob)=look i ob)/\qL (vL c (.fn (.func D.fn) [] D.cap) fo n xs ow ob):=by
   intro xs ow
   refine⟨qp _ _ _,by rw[qd (by omega)];exact qp _ _ _,by rw[qd (by omega),qd (by omega)];exact qp _ _ _,by rw[qd (by omega),qd (by omega),qd (by omega)];exact qp _ _ _,fun i hi=>?_,(((hni.cons _ rfl).cons _ rfl).cons _ rfl).cons _ rfl⟩
   rw[qd (by omega),qd (by omega),qd (by omega),qd (by omega)]
  rcases hr with⟨rfl,rfl,h3⟩|⟨t,rfl,g1,g2,rfl⟩
  ·exact⟨h3,base _ _⟩
  ·dsimp only at g1
   obtain⟨a1,a2,a3,a4,a5,a6⟩:=base (qV c.body) (.tok t)
   exact⟨by omega,by rw[qd (by omega)];exact a1,by rw[qd (by omega)];exact a2,by rw[qd (by omega)];exact a3,by rw[qd (by omega)];exact a4,fun i hi=>by rw[qd (by omega)];exact a5 i hi,a6.cons _ rfl⟩
 refine zj ?_
 simp(disch:=omega)[qmD,qdG]
 refine cP_um (o:=m+1+1) (es:=[]) (qp _ _ _) ?_
 rw[uq]
 obtain⟨cl,hcle⟩:∃cl:LV,LV.fn (.func 192) [] [.ptr m 0,.ptr (n+1+1+1) 0,.ptr n 0,.ptr (m+1) 0,.ptr (n+1) 0,.ptr (n+1+1) 0]=cl:=⟨_,rfl⟩
 obtain⟨obE,hobE⟩:∃obE,(m+1+1,qc.um [])::(m+1,qc.cells [cl])::(m,qc.cells [Nl])::ob1=obE:=⟨_,rfl⟩
 rw[hcle,hobE]
 have hE:∀i,i<m->look i obE=look i ob1:=fun i hi=>by rw[<-hobE,qd (by omega),qd (by omega),qd (by omega)]
 have hlow:∀p∈L,p.1<n:=fun p hp=>hH.look (hst p hp)
 have hSlow:∀i,S i->i<n:=fun i hi=>by
  obtain⟨x,hx,_⟩:=D.at_look _ _ _ _ hat hi
  exact hH.look hx
 have hC:ChOk D ⟨c,F,fo,am,ownF,ow,m,n+1+1+1,n,m+1,n+1,n+1+1,(n+1+1+1,.cells [.sl ((qV c.body).map ql) ow])::(n,.cells [.ptr fo 0])::(m+1,.cells [cl])::(n+1,.cells (wq c))::(n+1+1,.cells [.fn (.func D.fn) [] D.cap])::L⟩:=by
  refine⟨hc,fun p hp=>?_,?_,fun ob h=>hF ob fun p hp=>h p ?_,hFg,hFl,?_,?_,?_,?_,?_,?_⟩
  ·simp only[List.mem_cons]
   exact .inr (.inr (.inr (.inr (.inr (hDL p hp)))))
  ·simp only[List.forall_mem_cons]
   exact⟨rfl,rfl,rfl,rfl,rfl,hpl⟩
  ·simp only[List.mem_cons]
   exact .inr (.inr (.inr (.inr (.inr hp))))
  ·simp only[List.forall_mem_cons]
   exact⟨by omega,by omega,by omega,by omega,by omega,fun p hp=>by have:=hlow p hp;omega⟩
  all_goals first|exact List.mem_cons_self|(rw[<-hcle];simp)|simp
 refine qlu hC (qV c.body) [] [] [] G rfl rfl .nil (fun p hp=>by cases hp) hlim obE (m+1+1+1) S Nl (m+1+1) ⟨?_,?_,?_,?_,fun h=>?_,.inl ⟨rfl,rfl⟩,?_⟩ (by rw[<-hobE];exact qp _ _ _) fun ob2 n2 S2 fv2 hn2 h2 hS2 _ hkept=>?_
 ·simp only[vY,List.forall_mem_cons]
  refine⟨by rw[hE _ (by omega)];exact q3,by rw[hE _ (by omega)];exact q0,by rw[<-hobE,qd (by omega)];exact qp _ _ _,by rw[hE _ (by omega)];exact q1,by rw[hE _ (by omega)];exact q2,fun p hp=>?_⟩
  have:=hlow p hp
  rw[hE _ (by omega),hold _ this]
  exact hst p hp
 ·exact D.at_keep _ _ _ _ hat fun i hi=>by
   have:=hSlow i hi
   rw[hE _ (by omega),hold _ this]
 ·simp only[List.forall_mem_cons]
  exact⟨fun h=>by have:=hSlow _ h;omega,fun h=>by have:=hSlow _ h;omega,fun h=>by have:=hSlow _ h;omega,fun h=>by have:=hSlow _ h;omega,fun h=>by have:=hSlow _ h;omega,hsep⟩
 ·rw[<-hobE]
  show look m _=_
  rw[qd (by omega),qd (by omega)]
  exact qp _ _ _
 ·have:=hSlow _ h
  dsimp only at this
  omega
 ·rw[<-hobE]
  exact((hni1.cons _ rfl).cons _ rfl).cons _ rfl
 ·simp(disch:=omega)[qX]
  refine⟨_,HWk.refl _,fun h=>h,hk ob2 n2 S2 (by omega) h2.at_ (fun i hi=>(hS2 i hi).imp id fun h=>by omega) h2.ni fun i hi hiS=>?_⟩
  rw[hkept i (by omega) hiS (by dsimp only;omega) (fun a o l he=>by cases he),hE _ (by omega),hold _ hi]
end
theorem qlg(a b:Atom)(ha:a.ok)(hb:b.ok):qf 14 [ql a,ql b] (.bool (decide (cmpA a b=0))):=by
 refine qf.of c14 fun H hH=>⟨Nat.le_of_ble_eq_true rfl,?_⟩
 simp(disch:=omega)[b14]
 refine(qsa a b ha hb).go fun n hn=>?_
 simp(disch:=omega)
 exact qh hH (by first|rfl|simp[])
def qaK(l:List Atom)(a:Atom):Bool:=l.any fun x=>decide (cmpA x a=0)
def qdX(l:List Atom)(K:qx):List Lit->Bool
 |[]=>true
 |x::r=>if x.kind=1 then qdX l K r else if x.kind=2 then !qaK l (zp K x.atom)&&qdX l K r else qcm K x&&qdX l K r
end Go.Abs.Tz
