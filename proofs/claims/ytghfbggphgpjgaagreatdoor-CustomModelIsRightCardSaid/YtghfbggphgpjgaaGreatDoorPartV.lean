/- Part of the proof that the law CustomModelIsRight returns true for every input. Conditions: none. -/
import Derived.Test.YtghfbggphgpjgaaGreatDoorPartG
import Derived.Test.YtghfbggphgpjgaaGreatDoorPartD
import Derived.Test.YtghfbggphgpjgaaGreatDoorPartI
import Derived.Lib.ItoaNum
namespace Go.Abs.Tz
open Go Go.Abs Go.Proofs
set_option maxRecDepth 20000
set_option linter.unusedSimpArgs false
attribute [local simp ↓] getP_nil getP_node setP_nil setP_node oneP_eq vP_map vP_some vP_none vP_bind eP_some bP_true bP_false gP_yes gP_tf gP_ft gP_tup runP_skip runP_ops runP_drw runP_seq runP_cond runP_blk runP_loop runP_exit runP_ret seqK_n seqK_r seqK_e seqK_p blkK_n blkK_r blkK_e blkK_p loopK_n loopK_r loopK_e loopK_p finK_n finK_r finK_p resP_one resP_two resP_three resP_nil resP_c nxP_nil argsP_nil argsP_cons evP_t evP_c evP_g evsP_nil evsP_cons clP_fn pnP_i opsP_nil opsP_d opsP_x opsP_gt opsP_gf opP_cf opP_cl opP_pn opP_nx valP_mv valP_pk valP_eq valP_bn valP_nt valP_ld valP_fa valP_fd valP_ia valP_ix valP_ln valP_srn valP_srl valP_srh valP_srb valP_cv valP_mi valP_mf valP_xt valP_bs valP_bd valP_nc valP_mn valP_lk valP_ta opP_mv opP_pk opP_eq opP_bn opP_nt opP_ld opP_fa opP_fd opP_ia opP_ix opP_ln opP_sr opP_cv opP_mi opP_mf opP_xt opP_bs opP_bd opP_nc opP_mn opP_lk opP_ta opP_al opP_bx opP_st opP_ap opP_mk opP_nb opP_mu opP_rg opP_en pendP_nil pendP_d pendP_g drwP_nil drwP_d drwP_x drwP_gt drwP_gf look_self natOf_nat
attribute [local simp] faL fdL iaL ixL loadL partL lenL eqK eqL natOf eqB_s eqB_i eqB_b bn_add bn_sub bn_lss bn_leq bn_gtr bn_geq bn_adds bn_lsss bn_gtrs bn_leqs bn_geqs sliceL LV.cells LV.whole look_self put_self putO_self put_eq stL fillL termC dopP LHeap.alloc oneI oneS oneB nth0 nth1 nth2 nth3 nth4 nth5 nth6 nth7 nth8 nth9 look_ne putO_ne
def zeroT(t:Term):Bool:=decide (t.kind=0)&&(decide (t.n=0)&&eqBA t.s ⟨⟨[]⟩⟩)
def litOk(l:Lit):Bool:=
 if l.kind=1\/l.kind=2 then atomOk l.atom&&(zeroT l.a&&zeroT l.b)
 else if l.kind=3\/l.kind=4\/l.kind=5\/l.kind=6 then termOk l.a&&(termOk l.b&&(eqBA l.atom.pred ⟨⟨[]⟩⟩&&decide (l.atom.args.length=0)))
 else false
def Lit.ok2(l:Lit):Prop:=l.atom.ok/\l.a.ok/\l.b.ok
theorem t_formedLiteral(l:Lit)(hl:l.ok2):PureT 105 [litL l] (.bool (litOk l)):=by
 refine PureT.of c105 fun H hH=>⟨Nat.le_of_ble_eq_true rfl,?_⟩
 by_cases h12:l.kind=1\/l.kind=2
 ·have e1:(decide (l.a.kind=0)&&(decide (l.a.n=0)&&eqBA l.a.s ⟨⟨[]⟩⟩))=zeroT l.a:=rfl
  have e2:(decide (l.b.kind=0)&&(decide (l.b.n=0)&&eqBA l.b.s ⟨⟨[]⟩⟩))=zeroT l.b:=rfl
  rcases h12 with h1|h1
  all_goals
   simp[b105,h1]
   refine(t_formedAtom l.atom hl.1).go fun n hn=>?_
   cases ha:atomOk l.atom
   ·simp
    exact doneK hH (by simp[litOk,h1,ha])
   simp[e1]
   cases hz:zeroT l.a
   ·simp
    exact doneK hH (by simp[litOk,h1,ha,hz])
   simp[e2]
   exact doneK hH (by simp[litOk,h1,ha,hz])
 have h1:¬l.kind=1:=fun e=>h12 (.inl e)
 have h2:¬l.kind=2:=fun e=>h12 (.inr e)
 by_cases hk:l.kind=3\/l.kind=4\/l.kind=5\/l.kind=6
 ·rcases hk with h3|h3|h3|h3
  all_goals
   simp[b105,h3]
   refine(t_formedTerm l.a hl.2.1).go fun n hn=>?_
   cases ha:termOk l.a
   ·simp
    exact doneK hH (by simp[litOk,h3,ha])
   simp
   refine(t_formedTerm l.b hl.2.2).go fun n1 hn1=>?_
   cases hb:termOk l.b
   ·simp
    exact doneK hH (by simp[litOk,h3,ha,hb])
   simp
   cases hp:eqBA l.atom.pred ⟨⟨[]⟩⟩
   ·simp
    exact doneK hH (by simp[litOk,h3,ha,hb,hp])
   simp
   exact doneK hH (by simp[litOk,h3,ha,hb,hp])
 ·have h3:¬l.kind=3:=fun e=>hk (.inl e)
  have h4:¬l.kind=4:=fun e=>hk (.inr (.inl e))
  have h5:¬l.kind=5:=fun e=>hk (.inr (.inr (.inl e)))
  have h6:¬l.kind=6:=fun e=>hk (.inr (.inr (.inr e)))
  simp[b105,h1,h2,h3,h4,h5,h6]
  exact doneK hH (by simp[litOk,h1,h2,h3,h4,h5,h6])
def Clause.ok2(c:Clause):Prop:=c.head.ok/\c.body.length<2^40/\∀l∈c.body,Lit.ok2 l
def clauseOk(c:Clause):Bool:=atomOk c.head&&(decide (c.body.length<=5)&&c.body.all litOk)
theorem t_formed(c:Clause)(hc:c.ok2):PureT 60 [clauseL c] (.bool (clauseOk c)):=by
 refine PureT.of c60 fun H hH=>⟨Nat.le_of_ble_eq_true rfl,?_⟩
 simp[b60]
 refine(t_formedAtom c.head hc.1).go fun n hn=>?_
 cases h1:atomOk c.head
 ·simp
  exact doneK hH (by simp[clauseOk,h1])
 by_cases h2:(5:Int)<(c.body.length:Int)
 ·simp[h2]
  exact doneK hH (by simp[clauseOk,h1,show ¬c.body.length<=5 by omega])
 have h3:c.body.length<=5:=by omega
 simp[h2]
 obtain⟨A,hA⟩:∃A,c.body.all litOk=A:=⟨_,rfl⟩
 refine lP_enter (σ:=NN) (fun q=>(.nd (clauseL c) (.nd .bot .nil (.nd .bot (.nd .bot (.nd (.int c.body.length) .nil .nil) .nil) .nil)) (.nd (.bool false) (.nd .bot (.nd .bot (.nd (bodyL c.body) .nil .nil) .nil) .nil) (.nd .bot (.nd .bot (.nd (.int q.i) .nil .nil) .nil) .nil)))) (fun q=>⟨H.objs,q.n⟩) (fun q=>c.body.length - q.i)
  (fun q=>H.next<=q.n/\q.i<=c.body.length/\(c.body.drop q.i).all litOk=A) ⟨0,n⟩ ⟨by dsimp only;omega,Nat.zero_le _,hA⟩ (by simp[FT.Le,Wk]) (backK hH) ?_
 rintro⟨i,n⟩ ⟨hn,hi,he⟩ hok
 simp only at hn hi he
 by_cases hlt:i<c.body.length
 ·rw[all_drop litOk hlt]at he
  simp[hlt]
  refine(t_formedLiteral c.body[i] (hc.2.2 _ (mem_at hlt))).go fun n1 h1'=>?_
  cases ht:litOk c.body[i]
  ·rw[ht,Bool.false_and]at he
   simp
   exact doneK hH (by simp[clauseOk,h1,hA,<-he])
  ·rw[ht,Bool.true_and]at he
   simp[wrap_nat (show i<2^62 by omega)]
   exact⟨⟨i+1,n1⟩,by dsimp only;omega,⟨by dsimp only;omega,by dsimp only;omega,he⟩,by simp[FT.Le,Wk],backK hH⟩
 ·obtain rfl:i=c.body.length:=by omega
  rw[List.drop_eq_nil_of_le (Nat.le_refl _),List.all_nil]at he
  simp
  exact doneK hH (by simp[clauseOk,h1,h3,hA,<-he])
def checkF:List Clause->Nat->Int×Int
 |[],_=>(0,0)
 |c::r,i=>if clauseOk c=false then (7,(i:Int)) else if safeB c=false then (80,(i:Int)) else checkF r (i+1)
def checkB(l:List Clause):Int×Int:=if 40<l.length then (2,0) else checkF l 0
abbrev clausesL(l:List Clause):LV:=.sl (l.map clauseL) .no
def Clause.ok3(c:Clause):Prop:=c.ok2/\c.ok
theorem t_Check(l:List Clause)(hc:l.length<=40->∀c∈l,Clause.ok3 c):PureT 29 [clausesL l] (.tup [.int (checkB l).1,.int (checkB l).2]):=by
 refine PureT.of c29 fun H hH=>⟨Nat.le_of_ble_eq_true rfl,?_⟩
 by_cases h1:(40:Int)<(l.length:Int)
 ·simp[b29,h1]
  exact doneK hH (by simp[checkB,show 40<l.length by omega])
 have hc:=hc (by omega)
 simp[b29,h1]
 obtain⟨R,hR⟩:∃R,checkF l 0=R:=⟨_,rfl⟩
 have hB:checkB l=R:=by rw[<-hR];unfold checkB;rw[if_neg (by omega)]
 rw[hB]
 refine lP_enter (σ:=NN) (fun q=>(.nd .bot (.nd .bot (.nd (.int 0) .nil (.nd (.int q.i) .nil .nil)) (.nd .bot (.nd (clausesL l) .nil .nil) .nil)) (.nd (.int 0) .nil (.nd .bot (.nd (.int l.length) .nil .nil) .nil)))) (fun q=>⟨H.objs,q.n⟩) (fun q=>l.length - q.i)
  (fun q=>H.next<=q.n/\q.i<=l.length/\checkF (l.drop q.i) q.i=R) ⟨0,H.next⟩ ⟨Nat.le_refl _,Nat.zero_le _,hR⟩ (by simp[FT.Le,Wk]) ⟨HWk.refl _,fun h=>h⟩ ?_
 rintro⟨i,n⟩ ⟨hn,hi,he⟩ hok
 simp only at hn hi he
 by_cases hlt:i<l.length
 ·rw[List.drop_eq_getElem_cons hlt]at he
  simp[hlt]
  refine(t_formed l[i] (hc _ (mem_at hlt)).1).go fun n1 h1'=>?_
  cases hf:clauseOk l[i]
  ·simp only[checkF,hf,if_true]at he
   simp
   exact doneK hH (by simp[<-he])
  simp
  refine(t_safe l[i] (hc _ (mem_at hlt)).2).go fun n2 h2'=>?_
  cases hs:safeB l[i]
  ·simp[checkF,hf,hs]at he
   simp
   exact doneK hH (by simp[<-he])
  simp[checkF,hf,hs]at he
  simp[wrap_nat (show i<2^62 by omega)]
  exact⟨⟨i+1,n2⟩,by dsimp only;omega,⟨by dsimp only;omega,by dsimp only;omega,he⟩,by simp[FT.Le,Wk],backK hH⟩
 ·obtain rfl:i=l.length:=by omega
  rw[List.drop_eq_nil_of_le (Nat.le_refl _)]at he
  simp only[checkF]at he
  simp
  exact doneK hH (by simp[<-he])
structure NNT where
 i:Nat
 n:Nat
 ts:List Term
theorem atom_args{a:Atom}(h:atomOk a=true):a.args.length<=3/\a.args.all termOk=true:=by
 unfold atomOk at h
 simp only[Bool.and_eq_true,decide_eq_true_eq]at h
 exact h.2
theorem clause_parts{c:Clause}(h:clauseOk c=true):atomOk c.head=true/\c.body.length<=5/\∀x∈c.body,litOk x=true:=by
 unfold clauseOk at h
 simp only[Bool.and_eq_true,decide_eq_true_eq,List.all_eq_true]at h
 exact⟨h.1,h.2.1,h.2.2⟩
theorem lit_args{x:Lit}(h:litOk x=true):x.atom.args.length<=3:=by
 unfold litOk at h
 split at h
 ·simp only[Bool.and_eq_true]at h;exact(atom_args h.1).1
 ·split at h
  ·simp only[Bool.and_eq_true,decide_eq_true_eq]at h;omega
  ·cases h
end Go.Abs.Tz
namespace Go.Abs.Tz
open Go Go.Abs Go.Proofs
theorem hasV_iff{v:ByteArray}{S:List ByteArray}:hasV v S=true↔v∈S:=by
 unfold hasV
 rw[List.any_eq_true]
 exact⟨fun⟨x,h1,h2⟩=>by rw[eqBA_iff.1 h2];exact h1,fun h=>⟨v,h,eqBA_iff.2 rfl⟩⟩
theorem mem_addK{v k:ByteArray}{S:List ByteArray}:v∈addK k S↔v∈S\/v=k:=by
 unfold addK
 split
 ·rename_i h
  have:=hasV_iff.1 h
  exact⟨.inl,fun h=>h.elim id fun e=>e▸this⟩
 ·rw[List.mem_append,List.mem_singleton]
def VarOf(ts:List Term)(v:ByteArray):Prop:=∃t∈ts,t.kind=3/\t.s=v
theorem mem_addVs{v:ByteArray}:∀{ts:List Term}{S:List ByteArray},v∈addVs ts S↔v∈S\/VarOf ts v
 |[],S=>by simp[addVs,VarOf]
 |t::ts,S=>by
  have ih:=mem_addVs (v:=v) (ts:=ts) (S:=addV t S)
  simp only[addVs]
  rw[ih]
  unfold addV VarOf
  by_cases hk:t.kind=3
  ·rw[if_pos hk,mem_addK]
   constructor
   ·rintro((h|h)|⟨u,h1,h2⟩)
    ·exact .inl h
    ·exact .inr ⟨t,List.mem_cons_self,hk,h.symm⟩
    ·exact .inr ⟨u,List.mem_cons_of_mem _ h1,h2⟩
   ·rintro(h|⟨u,h1,h2,h3⟩)
    ·exact .inl (.inl h)
    ·rcases List.mem_cons.1 h1 with rfl|h1
     ·exact .inl (.inr h3.symm)
     ·exact .inr ⟨u,h1,h2,h3⟩
  ·rw[if_neg hk]
   constructor
   ·rintro(h|⟨u,h1,h2⟩)
    ·exact .inl h
    ·exact .inr ⟨u,List.mem_cons_of_mem _ h1,h2⟩
   ·rintro(h|⟨u,h1,h2,h3⟩)
    ·exact .inl h
    ·rcases List.mem_cons.1 h1 with rfl|h1
     ·exact absurd h2 hk
     ·exact .inr ⟨u,h1,h2,h3⟩
theorem litsV_1{v:ByteArray}:∀{b:List Lit}{q:List ByteArray×List ByteArray},v∈(litsV b q).1↔v∈q.1\/∃x∈b,x.kind=1/\VarOf x.atom.args v
 |[],q=>by simp[litsV]
 |x::b,q=>by
  have ih:=litsV_1 (v:=v) (b:=b) (q:=litV x q)
  simp only[litsV]
  rw[ih]
  have e:v∈(litV x q).1↔v∈q.1\/(x.kind=1/\VarOf x.atom.args v):=by
   unfold litV
   by_cases h1:x.kind=1
   ·rw[if_pos h1];dsimp only;rw[mem_addVs]
    exact⟨fun h=>h.imp id fun h=>⟨h1,h⟩,fun h=>h.imp id fun h=>h.2⟩
   ·rw[if_neg h1]
    have:∀a b:List ByteArray×List ByteArray,(if x.kind=2 then (q.1,a.1) else (q.1,b.1)).1=q.1:=fun _ _=>by split<;>rfl
    split<;>exact⟨.inl,fun h=>h.elim id fun h=>absurd h.1 h1⟩
  rw[e]
  constructor
  ·rintro((h|h)|⟨y,h1,h2⟩)
   ·exact .inl h
   ·exact .inr ⟨x,List.mem_cons_self,h⟩
   ·exact .inr ⟨y,List.mem_cons_of_mem _ h1,h2⟩
  ·rintro(h|⟨y,h1,h2⟩)
   ·exact .inl (.inl h)
   ·rcases List.mem_cons.1 h1 with rfl|h1
    ·exact .inl (.inr h2)
    ·exact .inr ⟨y,h1,h2⟩
theorem litsV_2{v:ByteArray}:∀{b:List Lit}{q:List ByteArray×List ByteArray},v∈(litsV b q).2↔v∈q.2\/∃x∈b,¬x.kind=1/\VarOf (if x.kind=2 then x.atom.args else [x.a,x.b]) v
 |[],q=>by simp[litsV]
 |x::b,q=>by
  have ih:=litsV_2 (v:=v) (b:=b) (q:=litV x q)
  simp only[litsV]
  rw[ih]
  have e:v∈(litV x q).2↔v∈q.2\/(¬x.kind=1/\VarOf (if x.kind=2 then x.atom.args else [x.a,x.b]) v):=by
   unfold litV
   by_cases h1:x.kind=1
   ·rw[if_pos h1]
    exact⟨.inl,fun h=>h.elim id fun h=>absurd h1 h.1⟩
   ·rw[if_neg h1]
    by_cases h2:x.kind=2
    ·rw[if_pos h2,if_pos h2];dsimp only;rw[mem_addVs]
     exact⟨fun h=>h.imp id fun h=>⟨h1,h⟩,fun h=>h.imp id fun h=>h.2⟩
    ·rw[if_neg h2,if_neg h2];dsimp only;rw[mem_addVs]
     exact⟨fun h=>h.imp id fun h=>⟨h1,h⟩,fun h=>h.imp id fun h=>h.2⟩
  rw[e]
  constructor
  ·rintro((h|h)|⟨y,h1,h2⟩)
   ·exact .inl h
   ·exact .inr ⟨x,List.mem_cons_self,h⟩
   ·exact .inr ⟨y,List.mem_cons_of_mem _ h1,h2⟩
  ·rintro(h|⟨y,h1,h2⟩)
   ·exact .inl (.inl h)
   ·rcases List.mem_cons.1 h1 with rfl|h1
    ·exact .inl (.inr h2)
    ·exact .inr ⟨y,h1,h2⟩
end Go.Abs.Tz
namespace Go.Abs.Tz
section
variable{K:Type}[DecidableEq K]
abbrev Edge(K:Type):=K×K×Nat
def updL(f:K->Nat)(e:Edge K):K->Nat:=fun k=>if k=e.1 then max (f k) (f e.2.1+e.2.2) else f k
def passL(E:List (Edge K))(f:K->Nat):K->Nat:=E.foldl updL f
def SolL(E:List (Edge K))(g:K->Nat):Prop:=∀e∈E,g e.2.1+e.2.2<=g e.1
theorem updL_ge(f:K->Nat)(e:Edge K)(k:K):f k<=updL f e k:=by
 unfold updL;split<;>omega
theorem passL_ge:∀(E:List (Edge K))(f:K->Nat)(k:K),f k<=passL E f k
 |[],_,_=>Nat.le_refl _
 |e::E,f,k=>Nat.le_trans (updL_ge f e k) (passL_ge E (updL f e) k)
theorem passL_le:∀{E:List (Edge K)}{f g:K->Nat},SolL E g->(∀k,f k<=g k)->∀k,passL E f k<=g k
 |[],_,_,_,h,k=>h k
 |e::E,f,g,hs,h,k=>by
  refine passL_le (E:=E) (fun e' he=>hs e' (List.mem_cons_of_mem _ he)) (fun k=>?_) k
  have h1:=hs e List.mem_cons_self
  have h2:=h e.2.1
  have h3:=h k
  unfold updL
  split
  ·rename_i hk;subst hk;omega
  ·exact h3
theorem passL_edge:∀{E:List (Edge K)}{f:K->Nat}{e:Edge K},e∈E->f e.2.1+e.2.2<=passL E f e.1
 |a::E,f,e,h=>by
  rcases List.mem_cons.1 h with rfl|h
  ·refine Nat.le_trans ?_ (passL_ge E (updL f e) e.1)
   unfold updL;rw[if_pos rfl];omega
  ·have:=passL_edge (f:=updL f a) h
   have h2:=updL_ge f a e.2.1
   show _<=passL E (updL f a) e.1
   omega
theorem sol_of_fix{E:List (Edge K)}{f:K->Nat}(h:∀e∈E,passL E f e.1=f e.1):SolL E f:=fun e he=>by rw[<-h e he];exact passL_edge he
def sumL(V:List K)(f:K->Nat):Nat:=(V.map f).sum
omit [DecidableEq K] in
theorem sumL_le{V:List K}{f g:K->Nat}(h:∀k∈V,f k<=g k):sumL V f<=sumL V g:=by
 induction V with
 |nil=>exact Nat.le_refl _
 |cons a V ih=>
  have h1:=h a List.mem_cons_self
  have h2:=ih fun k hk=>h k (List.mem_cons_of_mem _ hk)
  simp only[sumL,List.map_cons,List.sum_cons]at h2 ⊢
  omega
omit [DecidableEq K] in
theorem sumL_lt{V:List K}{f g:K->Nat}(h:∀k∈V,f k<=g k){v:K}(hv:v∈V)(hlt:f v<g v):sumL V f<sumL V g:=by
 induction V with
 |nil=>cases hv
 |cons a V ih=>
  have h1:=h a List.mem_cons_self
  have h2:=sumL_le (V:=V) fun k hk=>h k (List.mem_cons_of_mem _ hk)
  simp only[sumL,List.map_cons,List.sum_cons]at h2 ⊢
  rcases List.mem_cons.1 hv with rfl|hv
  ·omega
  ·have h3:=ih (fun k hk=>h k (List.mem_cons_of_mem _ hk)) hv
   simp only[sumL]at h3
   omega
omit [DecidableEq K] in
theorem least_ex{E:List (Edge K)}(V:List K){g:K->Nat}(hg:SolL E g):∃F,SolL E F/\∀g',SolL E g'->sumL V F<=sumL V g':=by
 obtain⟨n,hn⟩:∃n,sumL V g=n:=⟨_,rfl⟩
 induction n using Nat.strongRecOn generalizing g with
 |_ n ih=>
  by_cases h:∃g',SolL E g'/\sumL V g'<n
  ·obtain⟨g',h1,h2⟩:=h
   exact ih _ h2 h1 rfl
  ·refine⟨g,hg,fun g' h1=>?_⟩
   rcases Nat.lt_or_ge (sumL V g') n with h2|h2
   ·exact absurd ⟨g',h1,h2⟩ h
   ·omega
omit [DecidableEq K] in
theorem least_bound{E:List (Edge K)}{V:List K}{F:K->Nat}(hF:SolL E F)(hmin:∀g',SolL E g'->sumL V F<=sumL V g')(hV:∀e∈E,e.1∈V/\e.2.1∈V)(hw:∀e∈E,e.2.2<=1){v:K}(hv:v∈V):F v<V.length:=by
 have gap:∀m,(∃v∈V,F v=m+1)->∃v∈V,F v=m:=by
  rintro m ⟨v,hv,hm⟩
  apply Classical.byContradiction
  intro hno
  have hs:SolL E fun k=>if m<F k then F k - 1 else F k:=by
   intro e he
   have h1:=hF e he
   have hw1:=hw e he
   have hb:F e.2.1≠m:=fun hq=>hno ⟨_,(hV e he).2,hq⟩
   show (if m<F e.2.1 then F e.2.1 - 1 else F e.2.1)+e.2.2<=if m<F e.1 then F e.1 - 1 else F e.1
   split<;>split<;>omega
  have h1:=hmin _ hs
  have h2:=sumL_lt (V:=V) (f:=fun k=>if m<F k then F k - 1 else F k) (g:=F) (fun k _=>by split<;>omega) hv (by rw[if_pos (by omega)];omega)
  omega
 have down:∀j m,(∃v∈V,F v=m+j)->∃v∈V,F v=m:=by
  intro j
  induction j with
  |zero=>exact fun m h=>h
  |succ j ih=>exact fun m h=>ih m (gap (m+j) h)
 have all:∀m,m<=F v->m∈V.map F:=fun m hm=>by
  obtain⟨u,hu,he⟩:=down (F v - m) m ⟨v,hv,by omega⟩
  exact List.mem_map.2 ⟨u,hu,he⟩
 have cover:∀(n:Nat)(L:List Nat),(∀m,m<n->m∈L)->n<=L.length:=by
  intro n
  induction n with
  |zero=>exact fun _ _=>Nat.zero_le _
  |succ n ih=>
   intro L hL
   have hn:=hL n (Nat.lt_succ_self _)
   have h1:=ih (L.erase n) fun m hm=>(List.mem_erase_of_ne (by omega)).2 (hL m (by omega))
   have h2:=List.length_erase_of_mem hn
   have h3:=List.length_pos_of_mem hn
   omega
 have:=cover (F v+1) (V.map F) fun m hm=>all m (by omega)
 rw[List.length_map]at this
 omega
end
end Go.Abs.Tz
namespace Go.Abs.Tz
open Go Go.Abs Go.Proofs
abbrev PK:=ByteArray×Int
abbrev keyL(k:PK):LV:=.agg [.str k.1,.int k.2]
abbrev encP(m:List (PK×Int)):List (LV×LV):=m.map fun e=>(keyL e.1,LV.int e.2)
def eqPK(a b:PK):Bool:=eqBA a.1 b.1&&decide (a.2=b.2)
theorem eqPK_iff{a b:PK}:eqPK a b=true↔a=b:=by
 obtain⟨p,n⟩:=a
 obtain⟨q,m⟩:=b
 have h:eqBA p q=true↔p=q:=by
  constructor
  ·intro h
   unfold eqBA at h
   rw[ByteArray.toList_eq,ByteArray.toList_eq]at h
   have h1:=eq_of_beq h
   obtain⟨⟨x⟩⟩:=p
   obtain⟨⟨y⟩⟩:=q
   simp at h1
   rw[h1]
  ·rintro rfl;simp[eqBA]
 simp[eqPK,h]
theorem eqK_PK(a b:PK):eqK (.st [1,0]) (keyL a) (keyL b)=some (eqPK a b):=by
 simp[eqK,eqL,eqB_s,eqB_i,eqPK]
def pSet(k:PK)(v:Int):List (PK×Int)->List (PK×Int)
 |[]=>[(k,v)]
 |(j,u)::r=>if eqPK k j then (j,v)::r else (j,u)::pSet k v r
def pGet(k:PK):List (PK×Int)->Option Int
 |[]=>none
 |(j,u)::r=>if eqPK k j then some u else pGet k r
theorem setL_encP(k:PK)(v:Int):∀m:List (PK×Int),setL (.st [1,0]) (keyL k) (LV.int v) (encP m)=some (encP (pSet k v m))
 |[]=>rfl
 |(j,u)::r=>by
  have ih:=setL_encP k v r
  show (match eqK (.st [1,0]) (keyL k) (keyL j) with
   |some true=>some ((keyL j,LV.int v)::encP r)
   |some false=>(setL (.st [1,0]) (keyL k) (LV.int v) (encP r)).map ((keyL j,LV.int u)::·)
   |none=>none)=_
  rw[eqK_PK]
  cases h:eqPK k j
  ·simp only[ih,pSet,h];rfl
  ·simp only[pSet,h];rfl
theorem findL_encP(k:PK):∀m:List (PK×Int),findL (.st [1,0]) (keyL k) (encP m)=some ((pGet k m).map LV.int)
 |[]=>rfl
 |(j,u)::r=>by
  have ih:=findL_encP k r
  show (match eqK (.st [1,0]) (keyL k) (keyL j) with
   |some true=>some (some (LV.int u))
   |some false=>findL (.st [1,0]) (keyL k) (encP r)
   |none=>none)=_
  rw[eqK_PK]
  cases h:eqPK k j
  ·simp only[ih,pGet,h];rfl
  ·simp only[pGet,h];rfl
def pKeys(m:List (PK×Int)):List PK:=m.map (·.1)
def pVal(m:List (PK×Int))(k:PK):Int:=(pGet k m).getD 0
theorem pGet_set(k j:PK)(v:Int):∀m:List (PK×Int),pGet j (pSet k v m)=if j=k then some v else pGet j m
 |[]=>by
  simp only[pSet,pGet]
  by_cases h:j=k
  ·rw[if_pos (eqPK_iff.2 h),if_pos h]
  ·rw[if_neg (fun e=>h (eqPK_iff.1 e)),if_neg h]
 |(i,u)::r=>by
  have ih:=pGet_set k j v r
  simp only[pSet]
  by_cases hk:eqPK k i=true
  ·rw[if_pos hk]
   obtain rfl:=eqPK_iff.1 hk
   simp only[pGet]
   by_cases hj:j=k
   ·rw[if_pos (eqPK_iff.2 hj),if_pos hj]
   ·rw[if_neg (fun e=>hj (eqPK_iff.1 e)),if_neg hj,if_neg (fun e=>hj (eqPK_iff.1 e))]
  ·rw[if_neg hk]
   simp only[pGet]
   by_cases hj:eqPK j i=true
   ·rw[if_pos hj,if_pos hj]
    obtain rfl:=eqPK_iff.1 hj
    rw[if_neg (fun e=>hk (eqPK_iff.2 e.symm))]
   ·rw[if_neg hj,if_neg hj,ih]
theorem any_mem{k:PK}{l:List PK}:l.any (eqPK k)=true↔k∈l:=by
 rw[List.any_eq_true]
 constructor
 ·rintro⟨x,h1,h2⟩;rw[eqPK_iff.1 h2];exact h1
 ·intro h;exact⟨k,h,eqPK_iff.2 rfl⟩
theorem pKeys_set(k:PK)(v:Int):∀m:List (PK×Int),pKeys (pSet k v m)=if (pKeys m).any (eqPK k) then pKeys m else pKeys m++[k]
 |[]=>by simp[pSet,pKeys]
 |(i,u)::r=>by
  have ih:=pKeys_set k v r
  simp only[pSet]
  have e2:pKeys ((i,u)::r)=i::pKeys r:=rfl
  by_cases hk:eqPK k i=true
  ·rw[if_pos hk,e2,List.any_cons,hk,Bool.true_or,if_pos rfl]
   rfl
  ·rw[if_neg hk]
   have hf:eqPK k i=false:=by simpa using hk
   have e1:pKeys ((i,u)::pSet k v r)=i::pKeys (pSet k v r):=rfl
   rw[e1,e2,ih,List.any_cons,hf,Bool.false_or]
   split<;>rfl
end Go.Abs.Tz
namespace Go.Abs.Tz
open Go Go.Abs Go.Proofs
set_option maxRecDepth 20000
set_option linter.unusedSimpArgs false
attribute [local simp ↓] getP_nil getP_node setP_nil setP_node oneP_eq vP_map vP_some vP_none vP_bind eP_some bP_true bP_false gP_yes gP_tf gP_ft gP_tup runP_skip runP_ops runP_drw runP_seq runP_cond runP_blk runP_loop runP_exit runP_ret seqK_n seqK_r seqK_e seqK_p blkK_n blkK_r blkK_e blkK_p loopK_n loopK_r loopK_e loopK_p finK_n finK_r finK_p resP_one resP_two resP_three resP_nil resP_c nxP_nil argsP_nil argsP_cons evP_t evP_c evP_g evsP_nil evsP_cons clP_fn pnP_i opsP_nil opsP_d opsP_x opsP_gt opsP_gf opP_cf opP_cl opP_pn opP_nx valP_mv valP_pk valP_eq valP_bn valP_nt valP_ld valP_fa valP_fd valP_ia valP_ix valP_ln valP_srn valP_srl valP_srh valP_srb valP_cv valP_mi valP_mf valP_xt valP_bs valP_bd valP_nc valP_mn valP_lk valP_ta opP_mv opP_pk opP_eq opP_bn opP_nt opP_ld opP_fa opP_fd opP_ia opP_ix opP_ln opP_sr opP_cv opP_mi opP_mf opP_xt opP_bs opP_bd opP_nc opP_mn opP_lk opP_ta opP_al opP_bx opP_st opP_ap opP_mk opP_nb opP_mu opP_rg opP_en pendP_nil pendP_d pendP_g drwP_nil drwP_d drwP_x drwP_gt drwP_gf look_self natOf_nat
attribute [local simp] faL fdL iaL ixL loadL partL lenL eqK eqL natOf eqB_s eqB_i eqB_b bn_add bn_sub bn_lss bn_leq bn_gtr bn_geq bn_adds bn_lsss bn_gtrs bn_leqs bn_geqs sliceL LV.cells LV.whole look_self put_self putO_self put_eq stL fillL termC dopP LHeap.alloc oneI oneS oneB nth0 nth1 nth2 nth3 nth4 nth5 nth6 nth7 nth8 nth9 look_ne putO_ne
def ofA(a:Atom):PK:=(a.pred,a.args.length)
def initLit(m:List (PK×Int))(x:Lit):List (PK×Int):=if decide (x.kind=1)||decide (x.kind=2) then pSet (ofA x.atom) 0 m else m
def initCl(m:List (PK×Int))(c:Clause):List (PK×Int):=c.body.foldl initLit (pSet (ofA c.head) 0 m)
theorem muP{o:Nat}{m:List (PK×Int)}{ob:List (Nat×LObj)}{nx:Nat}(hl:look o ob=some (.map (encP m)))(k:PK)(v:Int):
  muL ⟨ob,nx⟩ (.st [1,0]) (.map o) (keyL k) (LV.int v)=some ⟨putO o (.map (encP (pSet k v m))) ob,nx⟩:=by
 have hs:eqK (.st [1,0]) (keyL k) (keyL k)=some true:=by rw[eqK_PK,eqPK_iff.2 rfl]
 have h2:=setL_encP k v m
 simp only[muL,hl]
 rw[hs,h2]
 rfl
structure NNP where
 i:Nat
 n:Nat
 m:List (PK×Int)
def i77:BCode:=match b108.body with
 |.seq _ (.seq _ (.seq x _))=>x
 |_=>.bad
theorem t_init(l:List Clause)(hl:l.length<2^40)(hb:∀c∈l,c.body.length<2^40)(o:Nat)(m0:List (PK×Int))(ob:List (Nat×LObj))(nx:Nat)(ho:look o ob=some (.map (encP m0))):
  lP E0 F0 i77 (.nd (clausesL l) (.nd .bot (.nd (.bool false) .nil .nil) .nil) (.nd (.sc (.map none)) (.nd (.map o) .nil .nil) .nil)) ⟨ob,nx⟩ (fun e t' H'=>e=.normal/\FT.Le (.nd (clausesL l) (.nd .bot (.nd (.bool false) .nil .nil) .nil) (.nd (.sc (.map none)) (.nd (.map o) .nil .nil) .nil)) t'/\∃n,nx<=n/\HWk H' ⟨putO o (.map (encP (l.foldl initCl m0))) ob,n⟩/\(H'.Ok->LHeap.Ok ⟨putO o (.map (encP (l.foldl initCl m0))) ob,n⟩)):=by
 refine lP_of_run ?_
 simp(disch:=omega)[i77,b108]
 obtain⟨R,hR⟩:∃R,l.foldl initCl m0=R:=⟨_,rfl⟩
 rw[hR]
 refine lP_enter (σ:=NNP) (fun q=>(.nd (clausesL l) (.nd .bot (.nd (.bool false) .nil (.nd .bot (.nd (.int q.i) .nil .nil) .nil)) (.nd .bot (.nd .bot (.nd (clausesL l) .nil .nil) .nil) .nil)) (.nd (.sc (.map none)) (.nd (.map o) .nil .nil) (.nd .bot (.nd .bot (.nd (.int l.length) .nil .nil) .nil) .nil)))) (fun q=>⟨putO o (.map (encP q.m)) ob,q.n⟩) (fun q=>l.length - q.i)
  (fun q=>nx<=q.n/\q.i<=l.length/\(l.drop q.i).foldl initCl q.m=R) ⟨0,nx,m0⟩ ⟨Nat.le_refl _,Nat.zero_le _,hR⟩ (by simp[FT.Le,Wk]) ?_ ?_
 ·dsimp only;rw[putO_same ho];exact⟨HWk.refl _,fun h=>h⟩
 rintro⟨i,n,m⟩ ⟨hn,hi,he⟩ hok
 dsimp only at hn hi he hok
 by_cases hlt:i<l.length
 case neg=>
  rw[List.drop_eq_nil_of_le (by omega)]at he
  simp only[List.foldl_nil]at he
  subst he
  simp(disch:=omega)[hlt]
  exact⟨by simp[FT.Le,Wk],n,hn,HWk.refl _,fun h=>h⟩
 rw[List.drop_eq_getElem_cons hlt,List.foldl_cons]at he
 have hon:o<n:=by
  have h2:LHeap.Ok ⟨putO o (.map (encP m)) ob,n⟩:=hok
  exact h2.look (look_putO ho)
 have hself:∀k:PK,eqK (.st [1,0]) (keyL k) (keyL k)=some true:=fun k=>by rw[eqK_PK,eqPK_iff.2 rfl]
 simp(disch:=omega)[hlt]
 refine(t_of l[i].head).go fun n1 h1=>?_
 simp(disch:=omega)
 have hmu:=muP (nx:=n1) (ob:=(n,.cells [.str l[i].head.pred,argsL l[i].head.args,bodyL l[i].body])::putO o (.map (encP m)) ob) (o:=o) (m:=m) (by rw[look_ne (by omega)];exact look_putO ho) (ofA l[i].head) 0
 rw[show muL ⟨(n,.cells [.str l[i].head.pred,argsL l[i].head.args,bodyL l[i].body])::putO o (.map (encP m)) ob,n1⟩ (.st [1,0]) (.map o) (.agg [.str l[i].head.pred,.int l[i].head.args.length]) (Z 0)=_ from hmu]
 simp(disch:=omega)[putO_putO]
 have hHe:∀m':List (PK×Int),LHeap.Ok ⟨putO o (.map (encP m')) ob,n⟩:=fun m'=>by
  have:=Desc.put (i:=o) (o:=.map (encP m')) (show Desc (putO o (.map (encP m)) ob) n from hok)
  rwa [putO_putO]at this
 obtain⟨W,hW⟩:∃W,initCl m l[i]=W:=⟨_,rfl⟩
 rw[hW]at he
 have hbl:=hb _ (mem_at hlt)
 refine lP_enter (σ:=NNP) (fun q=>(.nd (clausesL l) (.nd .bot (.nd (.bool false) .nil (.nd .bot (.nd (.int i) .nil .nil) .nil)) (.nd .bot (.nd .bot (.nd (clausesL l) .nil .nil) .nil) (.nd .bot .nil (.nd (.int l[i].body.length) .nil .nil)))) (.nd (.sc (.map none)) (.nd (.map o) .nil (.nd .bot .nil (.nd (bodyL l[i].body) .nil .nil))) (.nd .bot (.nd .bot (.nd (.int l.length) .nil .nil) .nil) (.nd .bot .nil (.nd (.int q.i) .nil .nil)))))) (fun q=>⟨putO o (.map (encP q.m)) ob,q.n⟩) (fun q=>l[i].body.length - q.i)
  (fun q=>n<=q.n/\q.i<=l[i].body.length/\(l[i].body.drop q.i).foldl initLit q.m=W) ⟨0,n1,pSet (ofA l[i].head) 0 m⟩ ⟨by dsimp only;omega,Nat.zero_le _,hW⟩ (by simp[FT.Le,Wk]) (back (hHe _) (by first|exact HExt.refl' _|(repeat (first|exact HExt.refl (by first|omega|(dsimp only;omega))|refine HExt.cons' (hHe _) (by first|omega|(dsimp only;omega)) (by first|omega|(dsimp only;omega)) ?_)))) ?_
 rintro⟨j,n2,m2⟩ ⟨hn2,hj,he2⟩ hok2
 dsimp only at hn2 hj he2 hok2
 by_cases hlt2:j<l[i].body.length
 case neg=>
  rw[List.drop_eq_nil_of_le (by omega)]at he2
  simp only[List.foldl_nil]at he2
  subst he2
  simp(disch:=omega)[hlt2,wrap_nat (show i<2^62 by omega)]
  exact⟨⟨i+1,n2,m2⟩,by dsimp only;omega,⟨by dsimp only;omega,by dsimp only;omega,he⟩,by simp[FT.Le,Wk],HWk.refl _,fun h=>h⟩
 rw[List.drop_eq_getElem_cons hlt2,List.foldl_cons]at he2
 have step:∀k:Int,l[i].body[j].kind=k->k=1\/k=2->(l[i].body.drop (j+1)).foldl initLit (pSet (ofA l[i].body[j].atom) 0 m2)=W:=by
  intro k hk h12
  rw[<-he2]
  congr 1
  unfold initLit
  rcases h12 with rfl|rfl<;>simp[hk]
 by_cases h12:l[i].body[j].kind=1\/l[i].body[j].kind=2
 ·rcases h12 with hk|hk
  all_goals
   simp(disch:=omega)[hlt2,hk]
   refine(t_of l[i].body[j].atom).go fun n3 h3=>?_
   simp(disch:=omega)
   have hmu:∀x:LObj,muL ⟨(n2,x)::putO o (.map (encP m2)) ob,n3⟩ (.st [1,0]) (.map o) (.agg [.str l[i].body[j].atom.pred,.int l[i].body[j].atom.args.length]) (Z 0)=some ⟨putO o (.map (encP (pSet (ofA l[i].body[j].atom) 0 m2))) ((n2,x)::putO o (.map (encP m2)) ob),n3⟩:=
    fun x=>muP (by rw[look_ne (by omega)];exact look_putO ho) (ofA l[i].body[j].atom) 0
   rw[hmu]
   simp(disch:=omega)[putO_putO,wrap_nat (show j<2^62 by omega)]
   exact⟨⟨j+1,n3,pSet (ofA l[i].body[j].atom) 0 m2⟩,by dsimp only;omega,⟨by dsimp only;omega,by dsimp only;omega,step _ hk (by omega)⟩,by simp[FT.Le,Wk],back (hHe _) (by first|exact HExt.refl' _|(repeat (first|exact HExt.refl (by first|omega|(dsimp only;omega))|refine HExt.cons' (hHe _) (by first|omega|(dsimp only;omega)) (by first|omega|(dsimp only;omega)) ?_)))⟩
 ·have h1':¬l[i].body[j].kind=1:=fun e=>h12 (.inl e)
  have h2':¬l[i].body[j].kind=2:=fun e=>h12 (.inr e)
  simp(disch:=omega)[hlt2,h1',h2',wrap_nat (show j<2^62 by omega)]
  refine⟨⟨j+1,n2+1,m2⟩,by dsimp only;omega,⟨by dsimp only;omega,by dsimp only;omega,?_⟩,by simp[FT.Le,Wk],back (hHe _) (by first|exact HExt.refl' _|(repeat (first|exact HExt.refl (by first|omega|(dsimp only;omega))|refine HExt.cons' (hHe _) (by first|omega|(dsimp only;omega)) (by first|omega|(dsimp only;omega)) ?_)))⟩
  rw[<-he2]
  simp[initLit,h1',h2']
theorem lkP{o:Nat}{m:List (PK×Int)}{ob:List (Nat×LObj)}{nx:Nat}(hl:look o ob=some (.map (encP m)))(k:PK):
  lkL ⟨ob,nx⟩ (.st [1,0]) false (Z 0) (.map o) (keyL k)=some (LV.int (pVal m k)):=by
 have hs:eqK (.st [1,0]) (keyL k) (keyL k)=some true:=by rw[eqK_PK,eqPK_iff.2 rfl]
 have h2:=findL_encP k m
 unfold lkL
 rw[hs]
 simp only[Option.isSome_some,if_true,hl]
 rw[h2]
 unfold pVal
 cases pGet k m<;>rfl
def lstL(m:List (PK×Int))(x:Lit):Int:=if x.kind=1 then pVal m (ofA x.atom) else if x.kind=2 then pVal m (ofA x.atom)+1 else -1
def litStep(h:PK)(s:List (PK×Int)×Bool)(x:Lit):List (PK×Int)×Bool:=if pVal s.1 h<lstL s.1 x then (pSet h (lstL s.1 x) s.1,true) else s
def clStep(s:List (PK×Int)×Bool)(c:Clause):List (PK×Int)×Bool:=c.body.foldl (litStep (ofA c.head)) s
def rndL:List Clause->List (PK×Int)×Bool->Option (List (PK×Int)×Bool)
 |[],s=>some s
 |c::r,s=>if ((clStep s c).1.length:Int)<pVal (clStep s c).1 (ofA c.head) then none else rndL r (clStep s c)
def levN(l:List Clause):Nat->List (PK×Int)->Option (Option (List (PK×Int)))
 |0,_=>none
 |n+1,m=>match rndL l (m,false) with
  |none=>some none
  |some (m',true)=>levN l n m'
  |some (m',false)=>some (some m')
def InP(m:List (PK×Int))(N:Int):Prop:=∀k,0<=pVal m k/\pVal m k<=N
theorem pVal_set(k j:PK)(v:Int)(m:List (PK×Int)):pVal (pSet k v m) j=if j=k then v else pVal m j:=by
 unfold pVal
 rw[pGet_set]
 split<;>rfl
theorem pKeys_in{k:PK}{v:Int}{m:List (PK×Int)}(h:k∈pKeys m):pKeys (pSet k v m)=pKeys m:=by
 rw[pKeys_set,if_pos (any_mem.2 h)]
theorem litStep_keys{h:PK}{s:List (PK×Int)×Bool}{x:Lit}(hk:h∈pKeys s.1):pKeys (litStep h s x).1=pKeys s.1:=by
 unfold litStep
 split
 ·exact pKeys_in hk
 ·rfl
def InQ(h:PK)(m:List (PK×Int))(N M:Int):Prop:=∀k,0<=pVal m k/\(k≠h->pVal m k<=N)/\pVal m k<=M
theorem litStep_inQ{h:PK}{s:List (PK×Int)×Bool}{x:Lit}{N M:Int}(hk:InQ h s.1 N M):InQ h (litStep h s x).1 N (M+1):=by
 intro k
 have h1:=hk k
 have h3:=hk h
 have h2:lstL s.1 x<=M+1:=by
  have:=hk (ofA x.atom)
  unfold lstL
  repeat' split
  all_goals omega
 unfold litStep
 split
 ·dsimp only
  rw[pVal_set]
  split
  ·rename_i e;subst e;exact⟨by omega,fun h=>absurd rfl h,by omega⟩
  ·exact⟨h1.1,h1.2.1,by omega⟩
 ·exact⟨h1.1,h1.2.1,by omega⟩
structure NNQ where
 i:Nat
 n:Nat
 m:List (PK×Int)
 ch:Bool
structure NNW where
 f:Nat
 n:Nat
 m:List (PK×Int)
 ch:Bool
def w77:BCode:=match b108.body with
 |.seq _ (.seq _ (.seq _ (.seq x _)))=>x
 |_=>.bad
theorem pKeys_len(m:List (PK×Int)):(pKeys m).length=m.length:=List.length_map ..
def okR(o:Nat)(ob:List (Nat×LObj))(nx:Nat)(R:Option (List (PK×Int))):XP:=fun e t' H'=>∃(n:Nat)(m1:List (PK×Int)),nx<=n/\HWk H' ⟨putO o (.map (encP m1)) ob,n⟩/\(H'.Ok->LHeap.Ok ⟨putO o (.map (encP m1)) ob,n⟩) /\
 ((R=none/\e=.ret/\FT.Le (.nd .bot (.nd .bot (.nd (.bool false) .nil .nil) .nil) (.nd (.sc (.map none)) .nil .nil)) t')\/(R=some m1/\e=.normal/\FT.Le (.nd .bot .nil (.nd .bot (.nd (.map o) .nil .nil) .nil)) t'))
theorem t_while(l:List Clause)(hl:l.length<2^40)(hb:∀c∈l,c.body.length<2^40)(V:List PK)(hN:V.length<2^40)(hh:∀c∈l,ofA c.head∈V)(m0:List (PK×Int))(hk0:pKeys m0=V)(hi0:InP m0 V.length)(fuel:Nat)(R:Option (List (PK×Int)))(hR:levN l fuel m0=some R)
  (o:Nat) (x0:LObj) (ob:List (Nat×LObj)) (nx:Nat) (ho:look o ob=some x0):
  lP E0 F0 w77 (.nd (clausesL l) (.nd .bot (.nd (.bool false) .nil .nil) .nil) (.nd (.sc (.map none)) (.nd (.map o) .nil .nil) .nil)) ⟨putO o (.map (encP m0)) ob,nx⟩ (okR o ob nx R):=by
 refine lP_of_run ?_
 simp(disch:=omega)[w77,b108]
 refine lP_enter (σ:=NNW) (fun q=>(.nd (clausesL l) (.nd .bot (.nd (.bool false) .nil .nil) (.nd .bot (.nd (.bool q.ch) .nil .nil) .nil)) (.nd (.sc (.map none)) (.nd (.map o) .nil .nil) .nil))) (fun q=>⟨putO o (.map (encP q.m)) ob,q.n⟩) (fun q=>if q.ch then q.f+1 else 0)
  (fun q=>nx<=q.n/\pKeys q.m=V/\InP q.m V.length/\(q.ch=true->levN l q.f q.m=some R)/\(q.ch=false->R=some q.m)) ⟨fuel,nx,m0,true⟩ ⟨Nat.le_refl _,hk0,hi0,fun _=>hR,fun h=>(by cases h)⟩ (by simp[FT.Le,Wk]) ⟨HWk.refl _,fun h=>h⟩ ?_
 rintro⟨f,n,m,ch⟩ ⟨hn,hk,hin,h1,h2⟩ hok
 dsimp only at hn hk hin h1 h2 hok
 cases ch
 ·simp(disch:=omega)
  exact⟨n,m,hn,HWk.refl _,fun h=>h,.inr ⟨h2 rfl,rfl,by simp[FT.Le,Wk]⟩⟩
 have h1:=h1 rfl
 cases f with
 |zero=>cases h1
 |succ f=>
 simp only[levN]at h1
 obtain⟨Q,hQ⟩:∃Q,rndL l (m,false)=Q:=⟨_,rfl⟩
 rw[hQ]at h1
 simp(disch:=omega)
 refine lP_enter (σ:=NNQ) (fun q=>(.nd (clausesL l) (.nd .bot (.nd (.bool false) .nil (.nd .bot (.nd .bot .nil (.nd (.int q.i) .nil .nil)) .nil)) (.nd .bot (.nd (.bool q.ch) (.nd .bot .nil (.nd (clausesL l) .nil .nil)) .nil) .nil)) (.nd (.sc (.map none)) (.nd (.map o) .nil .nil) (.nd .bot (.nd .bot (.nd .bot .nil (.nd (.int l.length) .nil .nil)) .nil) .nil)))) (fun q=>⟨putO o (.map (encP q.m)) ob,q.n⟩) (fun q=>l.length - q.i)
  (fun q=>n<=q.n/\q.i<=l.length/\pKeys q.m=V/\InP q.m V.length/\rndL (l.drop q.i) (q.m,q.ch)=Q) ⟨0,n,m,false⟩ ⟨Nat.le_refl _,Nat.zero_le _,hk,hin,hQ⟩ (by simp[FT.Le,Wk]) ⟨HWk.refl _,fun h=>h⟩ ?_
 rintro⟨i,n2,m2,ch2⟩ ⟨hn2,hi,hk2,hin2,he⟩ hok2
 dsimp only at hn2 hi hk2 hin2 he hok2
 by_cases hlt:i<l.length
 case neg=>
  rw[List.drop_eq_nil_of_le (by omega)]at he
  simp only[rndL]at he
  subst he
  simp(disch:=omega)[hlt]
  cases ch2
  ·simp only[Option.some.injEq]at h1
   exact⟨⟨f,n2,m2,false⟩,by simp,⟨by dsimp only;omega,hk2,hin2,fun h=>(by cases h),fun _=>h1.symm⟩,by simp[FT.Le,Wk],HWk.refl _,fun h=>h⟩
  ·exact⟨⟨f,n2,m2,true⟩,by simp,⟨by dsimp only;omega,hk2,hin2,fun _=>h1,fun h=>(by cases h)⟩,by simp[FT.Le,Wk],HWk.refl _,fun h=>h⟩
 rw[List.drop_eq_getElem_cons hlt]at he
 simp only[rndL]at he
 have hon:o<n2:=by
  have h2:LHeap.Ok ⟨putO o (.map (encP m2)) ob,n2⟩:=hok2
  exact h2.look (look_putO ho)
 have hHe:∀m':List (PK×Int),LHeap.Ok ⟨putO o (.map (encP m')) ob,n2⟩:=fun m'=>by
  have:=Desc.put (i:=o) (o:=.map (encP m')) (show Desc (putO o (.map (encP m2)) ob) n2 from hok2)
  rwa [putO_putO]at this
 have hbl:=hb _ (mem_at hlt)
 have hhd:=hh _ (mem_at hlt)
 have hself:∀k:PK,eqK (.st [1,0]) (keyL k) (keyL k)=some true:=fun k=>by rw[eqK_PK,eqPK_iff.2 rfl]
 simp(disch:=omega)[hlt]
 refine(t_of l[i].head).x (bel_of _) ?_
 simp(disch:=omega)
 obtain⟨W,hW⟩:∃W,clStep (m2,ch2) l[i]=W:=⟨_,rfl⟩
 rw[hW]at he
 have hok3:∀m':List (PK×Int),LHeap.Ok ⟨(n2+1,.cells [.str l[i].head.pred,.int l[i].head.args.length])::(n2,.cells [.str l[i].head.pred,argsL l[i].head.args,bodyL l[i].body])::putO o (.map (encP m')) ob,n2+1+1⟩:=fun m'=>⟨Nat.lt_succ_self _,Nat.lt_succ_self _,hHe m'⟩
 refine lP_enter (σ:=NNQ) (fun q=>(.nd (clausesL l) (.nd .bot (.nd (.bool false) .nil (.nd .bot (.nd .bot .nil (.nd (.int i) .nil .nil)) (.nd .bot .nil (.nd (bodyL l[i].body) .nil .nil)))) (.nd .bot (.nd (.bool q.ch) (.nd .bot .nil (.nd (clausesL l) .nil .nil)) .nil) (.nd .bot .nil (.nd .bot .nil (.nd (.int q.i) .nil .nil))))) (.nd (.sc (.map none)) (.nd (.map o) .nil (.nd (.ptr (n2+1) 0) .nil (.nd .bot .nil (.nd (.int l[i].body.length) .nil .nil)))) (.nd .bot (.nd .bot (.nd .bot .nil (.nd (.int l.length) .nil .nil)) .nil) .nil))))
  (fun q=>⟨(n2+1,.cells [.str l[i].head.pred,.int l[i].head.args.length])::(n2,.cells [.str l[i].head.pred,argsL l[i].head.args,bodyL l[i].body])::putO o (.map (encP q.m)) ob,q.n⟩) (fun q=>l[i].body.length - q.i)
  (fun q=>n2+1+1<=q.n/\q.i<=l[i].body.length/\pKeys q.m=V/\InQ (ofA l[i].head) q.m V.length (V.length+q.i)/\(l[i].body.drop q.i).foldl (litStep (ofA l[i].head)) (q.m,q.ch)=W) ⟨0,n2+1+1,m2,ch2⟩
  ⟨Nat.le_refl _,Nat.zero_le _,hk2,fun k=>⟨(hin2 k).1,fun _=>(hin2 k).2,by have:=(hin2 k).2;dsimp only;omega⟩,hW⟩ (by simp[FT.Le,Wk]) ⟨HWk.refl _,fun h=>h⟩ ?_
 rintro⟨j,n3,m3,ch3⟩ ⟨hn3,hj,hk3,hin3,he3⟩ hok4
 dsimp only at hn3 hj hk3 hin3 he3 hok4
 have hlo:look o (putO o (.map (encP m3)) ob)=some (.map (encP m3)):=look_putO ho
 have hlk:∀(a:Atom)(n:Nat)(r:List (Nat×LObj)),look o r=some (.map (encP m3))->lkL ⟨r,n⟩ (.st [1,0]) false (Z 0) (.map o) (.agg [.str a.pred,.int a.args.length])=some (LV.int (pVal m3 (ofA a))):=
  fun a n r hr=>lkP hr (ofA a)
 have hln:m3.length=V.length:=by rw[<-hk3,pKeys_len]
 by_cases hlt2:j<l[i].body.length
 case neg=>
  rw[List.drop_eq_nil_of_le (by omega)]at he3
  simp only[List.foldl_nil]at he3
  subst he3
  dsimp only at he
  rw[hln]at he
  simp(disch:=omega)[hlt2]
  rw[hlk _ _ _ (by rw[look_ne (by omega),look_ne (by omega)];exact hlo)]
  simp(disch:=omega)[hlo,hln]
  by_cases hgt:(V.length:Int)<pVal m3 (ofA l[i].head)
  ·rw[if_pos hgt]at he
   subst he
   simp only[Option.some.injEq]at h1
   simp(disch:=omega)[hgt]
   have hbk:=back (hHe m3) (l:=(n2+1,.cells [.str l[i].head.pred,.int l[i].head.args.length])::(n2,.cells [.str l[i].head.pred,argsL l[i].head.args,bodyL l[i].body])::putO o (.map (encP m3)) ob) (n:=n3) (by first|exact HExt.refl' _|(repeat (first|exact HExt.refl (by first|omega|(dsimp only;omega))|refine HExt.cons' (hHe _) (by first|omega|(dsimp only;omega)) (by first|omega|(dsimp only;omega)) ?_)))
   exact⟨n3,m3,by omega,hbk.1,hbk.2,.inl ⟨h1.symm,rfl,by simp[FT.Le,Wk]⟩⟩
  ·rw[if_neg hgt]at he
   simp(disch:=omega)[hgt,wrap_nat (show i<2^62 by omega)]
   refine⟨⟨i+1,n3,m3,ch3⟩,by dsimp only;omega,⟨by dsimp only;omega,by dsimp only;omega,hk3,fun k=>⟨(hin3 k).1,?_⟩,he⟩,by simp[FT.Le,Wk],back (hHe m3) (by first|exact HExt.refl' _|(repeat (first|exact HExt.refl (by first|omega|(dsimp only;omega))|refine HExt.cons' (hHe _) (by first|omega|(dsimp only;omega)) (by first|omega|(dsimp only;omega)) ?_)))⟩
   by_cases hkh:k=ofA l[i].head
   ·rw[hkh];dsimp only;omega
   ·exact(hin3 k).2.1 hkh
 rw[List.drop_eq_getElem_cons hlt2,List.foldl_cons]at he3
 have hpv:∀k:PK,0<=pVal m3 k/\pVal m3 k<2^42:=fun k=>⟨(hin3 k).1,by have:=(hin3 k).2.2;omega⟩
 have hmu:∀(v:Int)(n:Nat)(r:List (Nat×LObj)),look o r=some (.map (encP m3))->muL ⟨r,n⟩ (.st [1,0]) (.map o) (.agg [.str l[i].head.pred,.int l[i].head.args.length]) (LV.int v)=some ⟨putO o (.map (encP (pSet (ofA l[i].head) v m3))) r,n⟩:=
  fun v n r hr=>muP hr (ofA l[i].head) v
 have hinS:=litStep_inQ (h:=ofA l[i].head) (s:=(m3,ch3)) (x:=l[i].body[j]) hin3
 have hkS:=litStep_keys (h:=ofA l[i].head) (s:=(m3,ch3)) (x:=l[i].body[j]) (by dsimp only;rw[hk3];exact hhd)
 dsimp only at hinS hkS
 rw[hk3]at hkS
 have hc:(V.length:Int)+(j:Int)+1=V.length+((j+1:Nat):Int):=by omega
 rw[hc]at hinS
 obtain⟨v,hv⟩:∃v,lstL m3 l[i].body[j]=v:=⟨_,rfl⟩
 have hst:litStep (ofA l[i].head) (m3,ch3) l[i].body[j]=if pVal m3 (ofA l[i].head)<v then (pSet (ofA l[i].head) v m3,true) else (m3,ch3):=by
  unfold litStep;dsimp only;rw[hv]
 have hokN:∀m':List (PK×Int),LHeap.Ok ⟨(n2+1,.cells [.str l[i].head.pred,.int l[i].head.args.length])::(n2,.cells [.str l[i].head.pred,argsL l[i].head.args,bodyL l[i].body])::putO o (.map (encP m')) ob,n3⟩:=fun m'=>⟨by show n2+1<n3;omega,Nat.lt_succ_self _,hHe m'⟩
 by_cases hk1:l[i].body[j].kind=1
 ·have hv':pVal m3 (ofA l[i].body[j].atom)=v:=by rw[<-hv];simp[lstL,hk1]
  simp(disch:=omega)[hlt2,hk1]
  refine(t_of l[i].body[j].atom).x (bel_of _) ?_
  simp(disch:=omega)
  rw[hlk _ _ _ (by rw[look_ne (by omega),look_ne (by omega),look_ne (by omega)];exact hlo)]
  simp(disch:=omega)
  rw[hv']
  rw[hlk _ _ _ (by repeat (first|exact hlo|rw[look_ne (by omega)]))]
  simp(disch:=omega)
  by_cases hlt3:pVal m3 (ofA l[i].head)<v
  ·rw[if_pos hlt3]at hst
   rw[hst]at hinS hkS he3
   simp(disch:=omega)[hlt3]
   rw[hmu _ _ _ (by repeat (first|exact hlo|rw[look_ne (by omega)]))]
   simp(disch:=omega)[putO_putO,wrap_nat (show j<2^62 by omega)]
   exact⟨⟨j+1,n3+1,pSet (ofA l[i].head) v m3,true⟩,by dsimp only;omega,⟨by dsimp only;omega,by dsimp only;omega,hkS,hinS,he3⟩,by simp[FT.Le,Wk],back (hokN _) (by first|exact HExt.refl' _|(repeat (first|exact HExt.refl (by first|omega|(dsimp only;omega))|refine HExt.cons' (hokN _) (by first|omega|(dsimp only;omega)) (by first|omega|(dsimp only;omega)) ?_)))⟩
  ·rw[if_neg hlt3]at hst
   rw[hst]at hinS hkS he3
   simp(disch:=omega)[hlt3,wrap_nat (show j<2^62 by omega)]
   exact⟨⟨j+1,n3+1,m3,ch3⟩,by dsimp only;omega,⟨by dsimp only;omega,by dsimp only;omega,hkS,hinS,he3⟩,by simp[FT.Le,Wk],back (hokN _) (by first|exact HExt.refl' _|(repeat (first|exact HExt.refl (by first|omega|(dsimp only;omega))|refine HExt.cons' (hokN _) (by first|omega|(dsimp only;omega)) (by first|omega|(dsimp only;omega)) ?_)))⟩
 by_cases hk2':l[i].body[j].kind=2
 ·have hv':pVal m3 (ofA l[i].body[j].atom)+1=v:=by rw[<-hv];simp[lstL,hk2']
  have hpo:=hpv (ofA l[i].body[j].atom)
  simp(disch:=omega)[hlt2,hk1,hk2']
  refine(t_of l[i].body[j].atom).x (bel_of _) ?_
  simp(disch:=omega)
  rw[hlk _ _ _ (by rw[look_ne (by omega),look_ne (by omega),look_ne (by omega)];exact hlo)]
  simp(disch:=omega)[hv',wrap_id]
  rw[hlk _ _ _ (by repeat (first|exact hlo|rw[look_ne (by omega)]))]
  simp(disch:=omega)
  by_cases hlt3:pVal m3 (ofA l[i].head)<v
  ·rw[if_pos hlt3]at hst
   rw[hst]at hinS hkS he3
   simp(disch:=omega)[hlt3]
   rw[hmu _ _ _ (by repeat (first|exact hlo|rw[look_ne (by omega)]))]
   simp(disch:=omega)[putO_putO,wrap_nat (show j<2^62 by omega)]
   exact⟨⟨j+1,n3+1,pSet (ofA l[i].head) v m3,true⟩,by dsimp only;omega,⟨by dsimp only;omega,by dsimp only;omega,hkS,hinS,he3⟩,by simp[FT.Le,Wk],back (hokN _) (by first|exact HExt.refl' _|(repeat (first|exact HExt.refl (by first|omega|(dsimp only;omega))|refine HExt.cons' (hokN _) (by first|omega|(dsimp only;omega)) (by first|omega|(dsimp only;omega)) ?_)))⟩
  ·rw[if_neg hlt3]at hst
   rw[hst]at hinS hkS he3
   simp(disch:=omega)[hlt3,wrap_nat (show j<2^62 by omega)]
   exact⟨⟨j+1,n3+1,m3,ch3⟩,by dsimp only;omega,⟨by dsimp only;omega,by dsimp only;omega,hkS,hinS,he3⟩,by simp[FT.Le,Wk],back (hokN _) (by first|exact HExt.refl' _|(repeat (first|exact HExt.refl (by first|omega|(dsimp only;omega))|refine HExt.cons' (hokN _) (by first|omega|(dsimp only;omega)) (by first|omega|(dsimp only;omega)) ?_)))⟩
 ·have hv':v=-1:=by rw[<-hv];simp[lstL,hk1,hk2']
  simp(disch:=omega)[hlt2,hk1,hk2',wrap_id]
  rw[hlk _ _ _ (by repeat (first|exact hlo|rw[look_ne (by omega)]))]
  have hlt3:¬pVal m3 (ofA l[i].head) < -1:=by have:=(hpv (ofA l[i].head)).1;omega
  rw[if_neg (by rw[hv'];exact hlt3)]at hst
  rw[hst]at hinS hkS he3
  simp(disch:=omega)[hlt3,wrap_nat (show j<2^62 by omega)]
  exact⟨⟨j+1,n3+1,m3,ch3⟩,by dsimp only;omega,⟨by dsimp only;omega,by dsimp only;omega,hkS,hinS,he3⟩,by simp[FT.Le,Wk],back (hokN _) (by first|exact HExt.refl' _|(repeat (first|exact HExt.refl (by first|omega|(dsimp only;omega))|refine HExt.cons' (hokN _) (by first|omega|(dsimp only;omega)) (by first|omega|(dsimp only;omega)) ?_)))⟩
end Go.Abs.Tz
namespace Go.Abs
open Go
section
variable{E:Env}{F:Fns}
theorem lP_mono{c:BCode}{t:FT}{H:LHeap}{k k':XP}(h:lP E F c t H k)(hk:∀e t' H',k e t' H'->k' e t' H'):lP E F c t H k':=
 fun hH=>.mono (h hH) fun r hr=>by
  obtain⟨e,t',H',h1,h2,h3⟩:=hr
  exact⟨e,t',H',h1,h2,hk _ _ _ h3⟩
theorem lP_seq{a b:BCode}{t:FT}{H:LHeap}{k:XP}(h:lP E F a t H (seqK (fun t' H'=>lP E F b t' H' k) k)):lP E F (.seq a b) t H k:=by
 intro hH
 refine .seq (h hH) (fun fr df H' hT=>?_) (fun e fr df H' hT hne=>?_)
 ·obtain⟨e,t',H'',he,hok,hk⟩:=hT
  cases he
  exact hk hok
 ·obtain⟨e',t',H'',he,hok,hk⟩:=hT
  cases he
  cases e with
  |normal=>exact absurd rfl hne
  |exit n=>exact⟨_,t',H',rfl,hok,hk⟩
  |ret=>exact⟨_,t',H',rfl,hok,hk⟩
  |pan v=>exact⟨_,t',H',rfl,hok,hk⟩
theorem lP_okH{c:BCode}{t:FT}{H:LHeap}{k:XP}(h:H.Ok->lP E F c t H k):lP E F c t H k:=fun hH=>h hH hH
theorem cP_of_lP{b:BFn}{f:FuncId}{args:List LV}{H:LHeap}{kv kp:HP}(hf:F.fn f b)(hn:args.length<=b.n)
  (h:H.Ok->argsP args 0 .nil fun t=>lP E F b.body t H (finK E b (fun v H'=>∃H'',HWk H' H''/\(H'.Ok->H''.Ok)/\kv v H'') kp)):cP E F f args H kv kp:=by
 intro hH
 obtain⟨t,h1,h2⟩:=argsP_spec (h hH)
 have ht:t.get=frOf args:=by
  funext j
  rw[h2 j]
  simp only[frOf]
  by_cases hj:j<args.length
  ·rw[if_pos (by omega)];simp
  ·rw[if_neg (by omega)]
   have:args[j]? = none:=List.getElem?_eq_none (by omega)
   simp[List.getD_eq_getElem?_getD,this,FT.get_nil]
 have hb:=h1 hH
 rw[ht]at hb
 refine .enter hf hn hb (fun fr df H' hT=>?_) (fun v fr df H' hT=>?_) (fun n fr df H' hT=>?_)
 ·have:∃(t':FT),fr=t'.get/\df=[]/\H'.Ok/\resP E b.res t' H' fun v=>∃H'',HWk H' H''/\(H'.Ok->H''.Ok)/\kv v H'':=by
   rcases hT with⟨e,t',H'',he,hok,hk⟩|⟨e,t',H'',he,hok,hk⟩<;>cases he
   ·exact⟨t',rfl,rfl,hok,hk⟩
   ·exact⟨t',rfl,rfl,hok,hk⟩
  obtain⟨t',rfl,rfl,hok,v,hv,H1,h3,h4,h5⟩:=this
  exact⟨rfl,v,v,H1,hv,.inl rfl,h3,.inl ⟨v,H1,rfl,h4 hok,h5⟩⟩
 ·obtain⟨e,t',H'',he,hok,hk⟩:=hT
  cases he
  exact⟨rfl,v,H',.inl rfl,⟨Nat.le_refl _,fun _ _ h=>h⟩,.inr ⟨v,H',rfl,hok,hk⟩⟩
 ·obtain⟨e,t',H'',he,hok,hk⟩:=hT
  cases he
  cases hk
end
end Go.Abs
namespace Go.Abs.Tz
open Go Go.Abs Go.Proofs
set_option maxRecDepth 20000
set_option linter.unusedSimpArgs false
attribute [local simp ↓] getP_nil getP_node setP_nil setP_node oneP_eq vP_map vP_some vP_none vP_bind eP_some bP_true bP_false gP_yes gP_tf gP_ft gP_tup runP_skip runP_ops runP_drw runP_seq runP_cond runP_blk runP_loop runP_exit runP_ret seqK_n seqK_r seqK_e seqK_p blkK_n blkK_r blkK_e blkK_p loopK_n loopK_r loopK_e loopK_p finK_n finK_r finK_p resP_one resP_two resP_three resP_nil resP_c nxP_nil argsP_nil argsP_cons evP_t evP_c evP_g evsP_nil evsP_cons clP_fn pnP_i opsP_nil opsP_d opsP_x opsP_gt opsP_gf opP_cf opP_cl opP_pn opP_nx valP_mv valP_pk valP_eq valP_bn valP_nt valP_ld valP_fa valP_fd valP_ia valP_ix valP_ln valP_srn valP_srl valP_srh valP_srb valP_cv valP_mi valP_mf valP_xt valP_bs valP_bd valP_nc valP_mn valP_lk valP_ta opP_mv opP_pk opP_eq opP_bn opP_nt opP_ld opP_fa opP_fd opP_ia opP_ix opP_ln opP_sr opP_cv opP_mi opP_mf opP_xt opP_bs opP_bd opP_nc opP_mn opP_lk opP_ta opP_al opP_bx opP_st opP_ap opP_mk opP_nb opP_mu opP_rg opP_en pendP_nil pendP_d pendP_g drwP_nil drwP_d drwP_x drwP_gt drwP_gf look_self natOf_nat
attribute [local simp] faL fdL iaL ixL loadL partL lenL eqK eqL natOf eqB_s eqB_i eqB_b bn_add bn_sub bn_lss bn_leq bn_gtr bn_geq bn_adds bn_lsss bn_gtrs bn_leqs bn_geqs sliceL LV.cells LV.whole look_self put_self putO_self put_eq stL fillL termC dopP LHeap.alloc oneI oneS oneB nth0 nth1 nth2 nth3 nth4 nth5 nth6 nth7 nth8 nth9 look_ne putO_ne
theorem mem_pSet{k j:PK}{v:Int}{m:List (PK×Int)}:j∈pKeys (pSet k v m)↔j=k\/j∈pKeys m:=by
 rw[pKeys_set]
 split
 ·rename_i h
  have:=any_mem.1 h
  constructor
  ·exact .inr
  ·rintro(rfl|h)
   ·exact this
   ·exact h
 ·rw[List.mem_append,List.mem_singleton]
  exact⟨fun h=>h.symm,fun h=>h.symm⟩
theorem nodup_pSet{k:PK}{v:Int}{m:List (PK×Int)}(h:(pKeys m).Nodup):(pKeys (pSet k v m)).Nodup:=by
 rw[pKeys_set]
 split
 ·exact h
 ·rename_i hn
  refine List.nodup_append.2 ⟨h,by simp,fun a ha b hb=>?_⟩
  rw[List.mem_singleton.1 hb]
  rintro rfl
  exact hn (any_mem.2 ha)
def predC(c:Clause):List PK:=ofA c.head::(c.body.filter fun x=>decide (x.kind=1)||decide (x.kind=2)).map fun x=>ofA x.atom
theorem initLit_fold(b:List Lit):∀m:List (PK×Int),(∀k,pVal m k=0)->(∀k,pVal (b.foldl initLit m) k=0)/\((pKeys m).Nodup->(pKeys (b.foldl initLit m)).Nodup) /\
  (∀k,k∈pKeys (b.foldl initLit m)↔k∈pKeys m\/k∈(b.filter fun x=>decide (x.kind=1)||decide (x.kind=2)).map fun x=>ofA x.atom)/\(b.foldl initLit m).length<=m.length+b.length:=by
 induction b with
 |nil=>intro m h;exact⟨h,id,fun k=>by simp,Nat.le_refl _⟩
 |cons x b ih=>
  intro m h
  rw[List.foldl_cons,List.filter_cons]
  have hx:∀k,pVal (initLit m x) k=0:=by
   intro k
   unfold initLit
   split
   ·rw[pVal_set];split
    ·rfl
    ·exact h k
   ·exact h k
  have hlen:(initLit m x).length<=m.length+1:=by
   unfold initLit
   split
   ·have:=congrArg List.length (pKeys_set (ofA x.atom) 0 m)
    rw[pKeys_len]at this
    rw[this]
    split
    ·rw[pKeys_len];omega
    ·simp[pKeys_len]
   ·omega
  obtain⟨a1,a2,a3,a4⟩:=ih (initLit m x) hx
  refine⟨a1,fun hn=>a2 ?_,fun k=>?_,by simp only[List.length_cons];omega⟩
  ·unfold initLit;split
   ·exact nodup_pSet hn
   ·exact hn
  ·rw[a3]
   unfold initLit
   split
   ·rename_i hc
    rw[mem_pSet]
    simp only[List.map_cons,List.mem_cons]
    constructor
    ·rintro((h|h)|h)
     ·exact .inr (.inl h)
     ·exact .inl h
     ·exact .inr (.inr h)
    ·rintro(h|h|h)
     ·exact .inl (.inr h)
     ·exact .inl (.inl h)
     ·exact .inr h
   ·rfl
theorem init_fold(l:List Clause):∀m:List (PK×Int),(∀k,pVal m k=0)->(∀k,pVal (l.foldl initCl m) k=0)/\((pKeys m).Nodup->(pKeys (l.foldl initCl m)).Nodup) /\
  (∀k,k∈pKeys (l.foldl initCl m)↔k∈pKeys m\/∃c∈l,k∈predC c)/\(l.foldl initCl m).length<=m.length+(l.map fun c=>c.body.length+1).sum:=by
 induction l with
 |nil=>intro m h;exact⟨h,id,fun k=>by simp,Nat.le_refl _⟩
 |cons c l ih=>
  intro m h
  rw[List.foldl_cons]
  have h0:∀k,pVal (pSet (ofA c.head) 0 m) k=0:=fun k=>by
   rw[pVal_set];split
   ·rfl
   ·exact h k
  have hlen0:(pSet (ofA c.head) 0 m).length<=m.length+1:=by
   have:=congrArg List.length (pKeys_set (ofA c.head) 0 m)
   rw[pKeys_len]at this
   rw[this]
   split
   ·rw[pKeys_len];omega
   ·simp[pKeys_len]
  obtain⟨b1,b2,b3,b4⟩:=initLit_fold c.body (pSet (ofA c.head) 0 m) h0
  obtain⟨a1,a2,a3,a4⟩:=ih (initCl m c) b1
  refine⟨a1,fun hn=>a2 (b2 (nodup_pSet hn)),fun k=>?_,?_⟩
  ·rw[a3]
   unfold initCl
   rw[b3,mem_pSet]
   have hp:k∈predC c↔k=ofA c.head\/k∈(c.body.filter fun x=>decide (x.kind=1)||decide (x.kind=2)).map fun x=>ofA x.atom:=by unfold predC;exact List.mem_cons
   constructor
   ·rintro(((h|h)|h)|⟨c',hc,h⟩)
    ·exact .inr ⟨c,List.mem_cons_self,hp.2 (.inl h)⟩
    ·exact .inl h
    ·exact .inr ⟨c,List.mem_cons_self,hp.2 (.inr h)⟩
    ·exact .inr ⟨c',List.mem_cons_of_mem _ hc,h⟩
   ·rintro(h|⟨c',hc,h⟩)
    ·exact .inl (.inl (.inr h))
    ·rcases List.mem_cons.1 hc with rfl|hc
     ·rcases hp.1 h with h|h
      ·exact .inl (.inl (.inl h))
      ·exact .inl (.inr h)
     ·exact .inr ⟨c',hc,h⟩
  ·simp only[List.map_cons,List.sum_cons]
   unfold initCl at a4 ⊢
   omega
def a77:BCode:=match b108.body with
 |.seq x _=>x
 |_=>.bad
def m77:BCode:=match b108.body with
 |.seq _ (.seq x _)=>x
 |_=>.bad
def r77:BCode:=match b108.body with
 |.seq _ (.seq _ (.seq _ (.seq _ x)))=>x
 |_=>.bad
theorem body77:b108.body=.seq a77 (.seq m77 (.seq i77 (.seq w77 r77))):=rfl
theorem le_sc{s t:FT}(h:FT.Le s t)(k:Nat){v:Value}(e:s.get k=.sc v):t.get k=.sc v:=by
 have:=h.fwk k
 rw[e]at this
 rcases this with h|h|h
 ·exact h.symm
 ·cases hx:t.get k<;>rw[hx]at h<;>simp[LV.strip]at h
  rw[h]
 ·cases h
theorem t_levels(l:List Clause)(hl:l.length<2^40)(hb:∀c∈l,c.body.length<2^40)(hm:(l.foldl initCl []).length<2^40)(fuel:Nat)(R:Option (List (PK×Int)))(hR:levN l fuel (l.foldl initCl [])=some R)(H:LHeap){kv kp:HP}
  (hk1:R=none->∀n,H.next<=n->kv (.tup [.sc (.map none),.bool false]) ⟨H.objs,n⟩) (hk2:∀m,R=some m->∀n,H.next<n->kv (.tup [.map H.next,.bool true]) ⟨(H.next,.map (encP m))::H.objs,n⟩):
  cP E0 F0 108 [clausesL l] H kv kp:=by
 refine cP_of_lP c108 (Nat.le_of_ble_eq_true rfl) fun hH=>?_
 rw[body77]
 obtain⟨i1,i2,i3,_⟩:=init_fold l [] fun k=>rfl
 obtain⟨I,hI⟩:∃I,l.foldl initCl []=I:=⟨_,rfl⟩
 simp(disch:=omega)
 refine lP_seq (lP_of_run ?_)
 simp(disch:=omega)[a77,b108]
 refine lP_seq (lP_of_run ?_)
 simp(disch:=omega)[m77,b108]
 have hH2:LHeap.Ok ⟨(H.next,.map [])::H.objs,H.next+1⟩:=⟨Nat.lt_succ_self _,hH⟩
 have ho:look H.next ((H.next,LObj.map [])::H.objs)=some (.map (encP [])):=by simp[look]
 refine lP_weak (t':=(.nd (clausesL l) (.nd .bot (.nd (.bool false) .nil .nil) .nil) (.nd (.sc (.map none)) (.nd (.map H.next) .nil .nil) .nil))) (fun l h=>by cases h) (by simp[FT.Le,Wk]) (HWk.refl _) (fun h=>h) ?_
 refine lP_seq (lP_mono (t_init l hl hb H.next [] _ (H.next+1) ho) ?_)
 rintro e t' H' ⟨rfl,hle,n,hn,hwk,hok⟩
 have hp:∀m:List (PK×Int),putO H.next (.map (encP m)) ((H.next,LObj.map [])::H.objs)=(H.next,.map (encP m))::H.objs:=fun m=>by simp[putO]
 rw[hI]at hwk hok hm hR
 rw[hI]at i1 i2 i3
 show lP E0 F0 (.seq w77 r77) t' H' _
 refine lP_weak (fun l h=>by cases h) hle hwk hok ?_
 refine lP_seq (lP_mono (t_while l hl hb (pKeys I) (by rw[pKeys_len];exact hm) (fun c hc=>(i3 _).2 (.inr ⟨c,hc,List.mem_cons_self⟩)) I rfl (fun k=>⟨by rw[i1 k];omega,by rw[i1 k];omega⟩) fuel R hR H.next _ _ n ho) ?_)
 rintro e t2 H2 ⟨n2,m1,hn2,hwk2,hok2,h3|h3⟩
 ·obtain⟨rfl,rfl,hle2⟩:=h3
  have g2:t2.get 2=.sc (.map none):=le_sc hle2 2 rfl
  have g3:t2.get 3=.bool false:=le_sc hle2 3 rfl
  rw[hp]at hwk2 hok2
  show resP E0 b108.res t2 H2 _
  rw[show b108.res=[.t 2,.t 3] from rfl,resP_two]
  unfold getP
  rw[g2,g3]
  refine⟨⟨H.objs,n2⟩,⟨hwk2.1,fun i x hx=>hwk2.2 i x ?_⟩,fun h=>(hok2 h).2.mono (by show H.next<=n2;omega),hk1 rfl n2 (by omega)⟩
  have:=hH.look hx
  simp only[look]
  rw[if_neg (by omega)]
  exact hx
 ·obtain⟨rfl,rfl,hle2⟩:=h3
  show lP E0 F0 r77 t2 H2 _
  refine lP_weak (fun l h=>by cases h) hle2 hwk2 hok2 ?_
  rw[hp]
  refine lP_of_run ?_
  simp(disch:=omega)[r77,b108,resP_two]
  exact keep (hk2 _ rfl _ (by omega))
end Go.Abs.Tz
namespace Go.Abs.Tz
open Go Go.Abs Go.Proofs
def edgeL(h:PK)(x:Lit):Option (Edge PK):=if x.kind=1 then some (h,ofA x.atom,0) else if x.kind=2 then some (h,ofA x.atom,1) else none
def edgesC(c:Clause):List (Edge PK):=c.body.filterMap (edgeL (ofA c.head))
def edgesOf(l:List Clause):List (Edge PK):=l.flatMap edgesC
def valN(m:List (PK×Int)):PK->Nat:=fun k=>(pVal m k).toNat
def NN0(m:List (PK×Int)):Prop:=∀k,0<=pVal m k
theorem litStep_spec{h:PK}{s:List (PK×Int)×Bool}{x:Lit}(h0:NN0 s.1):
  NN0 (litStep h s x).1/\valN (litStep h s x).1=(match edgeL h x with|none=>valN s.1|some e=>updL (valN s.1) e)/\(∀k,pVal s.1 k<=pVal (litStep h s x).1 k)/\(∀k,k≠h->pVal (litStep h s x).1 k=pVal s.1 k) /\
  ((litStep h s x).2=false->litStep h s x=s)/\((litStep h s x).2=true->s.2=true\/pVal s.1 h<pVal (litStep h s x).1 h):=by
 have hl:∀e,edgeL h x=some e->e.1=h/\lstL s.1 x=pVal s.1 e.2.1+e.2.2:=by
  intro e he
  unfold edgeL at he
  unfold lstL
  by_cases h1:x.kind=1
  ·rw[if_pos h1]at he;cases he;rw[if_pos h1];exact⟨rfl,by simp⟩
  ·rw[if_neg h1]at he
   rw[if_neg h1]
   by_cases h2:x.kind=2
   ·rw[if_pos h2]at he;cases he;rw[if_pos h2];exact⟨rfl,by simp⟩
   ·rw[if_neg h2]at he;cases he
 have hn:edgeL h x=none->lstL s.1 x=-1:=by
  intro he
  unfold edgeL at he
  unfold lstL
  by_cases h1:x.kind=1
  ·rw[if_pos h1]at he;cases he
  ·rw[if_neg h1]at he
   by_cases h2:x.kind=2
   ·rw[if_pos h2]at he;cases he
   ·rw[if_neg h1,if_neg h2]
 have hh:=h0 h
 by_cases hc:pVal s.1 h<lstL s.1 x
 ·have e0:litStep h s x=(pSet h (lstL s.1 x) s.1,true):=by unfold litStep;rw[if_pos hc]
  rw[e0]
  refine⟨fun k=>?_,?_,fun k=>?_,fun k hk=>?_,fun h=>(by cases h),fun _=>.inr ?_⟩
  ·dsimp only;rw[pVal_set];split
   ·omega
   ·exact h0 k
  ·cases he:edgeL h x with
   |none=>rw[hn he]at hc;omega
   |some e=>
    obtain⟨h1,h2⟩:=hl e he
    funext k
    unfold updL valN
    dsimp only
    rw[pVal_set,h1]
    by_cases hk:k=h
    ·rw[if_pos hk,if_pos hk,h2,hk]
     have:=h0 e.2.1
     rw[h2]at hc
     omega
    ·rw[if_neg hk,if_neg hk]
  ·dsimp only;rw[pVal_set];split
   ·rename_i hk;rw[hk];omega
   ·omega
  ·dsimp only;rw[pVal_set,if_neg hk]
  ·dsimp only;rw[pVal_set,if_pos rfl];exact hc
 ·have e0:litStep h s x=s:=by unfold litStep;rw[if_neg hc]
  rw[e0]
  refine⟨h0,?_,fun k=>by omega,fun _ _=>rfl,fun _=>rfl,fun h=>.inl h⟩
  cases he:edgeL h x with
  |none=>rfl
  |some e=>
   obtain⟨h1,h2⟩:=hl e he
   funext k
   unfold updL valN
   dsimp only
   rw[h1]
   by_cases hk:k=h
   ·rw[if_pos hk,hk]
    rw[h2]at hc
    have:=h0 e.2.1
    omega
   ·rw[if_neg hk]
structure StpL(Hd:PK->Prop)(s t:List (PK×Int)×Bool):Prop where
 nn:NN0 t.1
 le:∀k,pVal s.1 k<=pVal t.1 k
 oth:∀k,¬Hd k->pVal t.1 k=pVal s.1 k
 no:t.2=false->t=s
 yes:t.2=true->s.2=true\/∃k,Hd k/\pVal s.1 k<pVal t.1 k
theorem StpL.refl{Hd:PK->Prop}{s:List (PK×Int)×Bool}(h:NN0 s.1):StpL Hd s s:=⟨h,fun _=>Int.le_refl _,fun _ _=>rfl,fun _=>rfl,fun h=>.inl h⟩
theorem StpL.trans{Hd:PK->Prop}{s t u:List (PK×Int)×Bool}(h1:StpL Hd s t)(h2:StpL Hd t u):StpL Hd s u where
 nn:=h2.nn
 le k:=Int.le_trans (h1.le k) (h2.le k)
 oth k hk:=(h2.oth k hk).trans (h1.oth k hk)
 no h:=by
  have e:=h2.no h
  rw[e]at h ⊢
  exact h1.no h
 yes h:=by
  rcases h2.yes h with h|⟨k,hk,hlt⟩
  ·rcases h1.yes h with h|⟨k,hk,hlt⟩
   ·exact .inl h
   ·exact .inr ⟨k,hk,by have:=h2.le k;omega⟩
  ·exact .inr ⟨k,hk,by have:=h1.le k;omega⟩
theorem StpL.mono{Hd Hd':PK->Prop}{s t:List (PK×Int)×Bool}(h:StpL Hd s t)(hh:∀k,Hd k->Hd' k):StpL Hd' s t where
 nn:=h.nn
 le:=h.le
 oth k hk:=h.oth k fun e=>hk (hh k e)
 no:=h.no
 yes e:=(h.yes e).imp id fun⟨k,hk,hlt⟩=>⟨k,hh k hk,hlt⟩
theorem body_spec{h:PK}:∀(b:List Lit)(s:List (PK×Int)×Bool),NN0 s.1->StpL (fun k=>k=h) s (b.foldl (litStep h) s)/\valN (b.foldl (litStep h) s).1=passL (b.filterMap (edgeL h)) (valN s.1)/\(h∈pKeys s.1->pKeys (b.foldl (litStep h) s).1=pKeys s.1)
 |[],s,h0=>⟨.refl h0,rfl,fun _=>rfl⟩
 |x::b,s,h0=>by
  obtain⟨a1,a2,a3,a4,a5,a6⟩:=litStep_spec (h:=h) (x:=x) h0
  obtain⟨b1,b2,b3⟩:=body_spec b (litStep h s x) a1
  have h1:StpL (fun k=>k=h) s (litStep h s x):=⟨a1,a3,a4,a5,fun e=>(a6 e).imp id fun hlt=>⟨h,rfl,hlt⟩⟩
  rw[List.foldl_cons]
  refine⟨h1.trans b1,?_,fun hk=>?_⟩
  ·rw[b2,a2,List.filterMap_cons]
   cases edgeL h x<;>rfl
  ·have hk':=litStep_keys (x:=x) hk
   rw[b3 (by rw[hk'];exact hk),hk']
def headIn(l:List Clause)(k:PK):Prop:=∃c∈l,ofA c.head=k
theorem passL_append{K:Type}[DecidableEq K](A B:List (Edge K))(f:K->Nat):passL (A++B) f=passL B (passL A f):=List.foldl_append
theorem rnd_spec:∀(l:List Clause)(s:List (PK×Int)×Bool),NN0 s.1->StpL (headIn l) s (l.foldl clStep s)/\valN (l.foldl clStep s).1=passL (edgesOf l) (valN s.1)/\((∀c∈l,ofA c.head∈pKeys s.1)->pKeys (l.foldl clStep s).1=pKeys s.1)
 |[],s,h0=>⟨.refl h0,rfl,fun _=>rfl⟩
 |c::l,s,h0=>by
  obtain⟨a1,a2,a3⟩:=body_spec (h:=ofA c.head) c.body s h0
  obtain⟨b1,b2,b3⟩:=rnd_spec l (clStep s c) a1.nn
  rw[List.foldl_cons]
  refine⟨(a1.mono fun k hk=>⟨c,List.mem_cons_self,hk.symm⟩).trans (b1.mono fun k ⟨c',h1,h2⟩=>⟨c',List.mem_cons_of_mem _ h1,h2⟩),?_,fun hk=>?_⟩
  ·rw[b2]
   show passL (edgesOf l) (valN (clStep s c).1)=passL (edgesC c++edgesOf l) (valN s.1)
   rw[passL_append]
   show _=passL (edgesOf l) (passL (edgesC c) (valN s.1))
   unfold clStep
   rw[a2]
   rfl
  ·have hc:=a3 (hk c List.mem_cons_self)
   have hc':pKeys (clStep s c).1=pKeys s.1:=hc
   rw[b3 fun c' h'=>by rw[hc'];exact hk c' (List.mem_cons_of_mem _ h'),hc']
theorem rndL_some{N:Int}:∀(l:List Clause)(s t:List (PK×Int)×Bool),NN0 s.1->(∀c∈l,ofA c.head∈pKeys s.1)->((pKeys s.1).length:Int)=N->rndL l s=some t->t=l.foldl clStep s/\(InP s.1 N->InP t.1 N)
 |[],s,t,_,_,_,h=>by cases h;exact⟨rfl,id⟩
 |c::l,s,t,h0,hk,hN,h=>by
  obtain⟨a1,a2,a3⟩:=body_spec (h:=ofA c.head) c.body s h0
  have hc:=a3 (hk c List.mem_cons_self)
  have hc':pKeys (clStep s c).1=pKeys s.1:=hc
  simp only[rndL]at h
  split at h
  ·cases h
  ·rename_i hle
   obtain⟨b1,b2⟩:=rndL_some (N:=N) l (clStep s c) t a1.nn (fun c' h'=>by rw[hc'];exact hk c' (List.mem_cons_of_mem _ h')) (by rw[hc'];exact hN) h
   refine⟨b1,fun hin=>b2 fun k=>⟨a1.nn k,?_⟩⟩
   have hlen:((clStep s c).1.length:Int)=N:=by rw[<-hN,<-hc',pKeys_len]
   by_cases hkh:k=ofA c.head
   ·rw[hkh];omega
   ·have:pVal (clStep s c).1 k=pVal s.1 k:=a1.oth k hkh
    rw[this];exact(hin k).2
theorem rndL_none{F:PK->Nat}{N:Nat}:∀(l:List Clause)(s:List (PK×Int)×Bool),NN0 s.1->(∀c∈l,ofA c.head∈pKeys s.1)->(pKeys s.1).length=N->(∀k,valN s.1 k<=F k)->SolL (edgesOf l) F->(∀k∈pKeys s.1,F k<N)->rndL l s≠none
 |[],_,_,_,_,_,_,_=>by simp[rndL]
 |c::l,s,h0,hk,hN,hle,hs,hF=>by
  obtain⟨a1,a2,a3⟩:=body_spec (h:=ofA c.head) c.body s h0
  have hc:=a3 (hk c List.mem_cons_self)
  have hc':pKeys (clStep s c).1=pKeys s.1:=hc
  have hs1:SolL (edgesC c) F:=fun e he=>hs e (List.mem_append_left _ he)
  have hs2:SolL (edgesOf l) F:=fun e he=>hs e (List.mem_append_right _ he)
  have hle2:∀k,valN (clStep s c).1 k<=F k:=by
   intro k
   have:valN (clStep s c).1=passL (edgesC c) (valN s.1):=a2
   rw[this]
   exact passL_le hs1 hle k
  have hlen:(clStep s c).1.length=N:=by rw[<-hN,<-hc',pKeys_len]
  simp only[rndL]
  rw[if_neg]
  ·exact rndL_none (N:=N) l (clStep s c) a1.nn (fun c' h'=>by rw[hc'];exact hk c' (List.mem_cons_of_mem _ h')) (by rw[hc'];exact hN) hle2 hs2 (by rw[hc'];exact hF)
  ·have h1:=hle2 (ofA c.head)
   have h2:=hF _ (hk c List.mem_cons_self)
   have h3:=a1.nn (ofA c.head)
   unfold valN at h1
   have h3':0<=pVal (clStep s c).1 (ofA c.head):=h3
   omega
structure LeastL(l:List Clause)(V:List PK)(m:List (PK×Int)):Prop where
 keys:pKeys m=V
 nn:NN0 m
 sol:SolL (edgesOf l) (valN m)
 le:∀g,SolL (edgesOf l) g->∀k,valN m k<=g k
def EndL(l:List Clause)(V:List PK)(R:Option (List (PK×Int))):Prop:=match R with
 |none=>¬∃g,SolL (edgesOf l) g
 |some m=>LeastL l V m
theorem edge_in{l:List Clause}{V:List PK}(hV:∀c∈l,∀k∈predC c,k∈V):∀e∈edgesOf l,e.1∈V/\e.2.1∈V/\e.2.2<=1:=by
 intro e he
 obtain⟨c,hc,he⟩:=List.mem_flatMap.1 he
 obtain⟨x,hx,he⟩:=List.mem_filterMap.1 he
 have h1:ofA c.head∈V:=hV c hc _ List.mem_cons_self
 have h2:x.kind=1\/x.kind=2->ofA x.atom∈V:=fun hk=>hV c hc _ (List.mem_cons_of_mem _ (List.mem_map.2 ⟨x,List.mem_filter.2 ⟨hx,by simpa using hk⟩,rfl⟩))
 unfold edgeL at he
 split at he
 ·rename_i hk;cases he;exact⟨h1,h2 (.inl hk),by simp⟩
 ·split at he
  ·rename_i hk;cases he;exact⟨h1,h2 (.inr hk),by simp⟩
  ·cases he
theorem sumL_bd{V:List PK}{f:PK->Nat}{N:Nat}(h:∀k∈V,f k<=N):sumL V f<=V.length*N:=by
 induction V with
 |nil=>exact Nat.zero_le _
 |cons a V ih=>
  have h1:=h a List.mem_cons_self
  have h2:=ih fun k hk=>h k (List.mem_cons_of_mem _ hk)
  simp only[sumL,List.map_cons,List.sum_cons,List.length_cons,Nat.add_mul]at h2 ⊢
  omega
theorem no_change{l:List Clause}{m m':List (PK×Int)}(h0:NN0 m)(h:(m',false)=l.foldl clStep (m,false)):m'=m/\SolL (edgesOf l) (valN m):=by
 obtain⟨a1,a2,a3⟩:=rnd_spec l (m,false) h0
 have e:m'=m:=by
  have:=a1.no (by rw[<-h])
  rw[<-h]at this
  exact(Prod.mk.inj this).1
 refine⟨e,sol_of_fix fun e' _=>?_⟩
 rw[<-h,e]at a2
 have a2':valN m=passL (edgesOf l) (valN m):=a2
 rw[<-a2']
theorem change_up{l:List Clause}{V:List PK}{m m':List (PK×Int)}(hh:∀c∈l,ofA c.head∈V)(h0:NN0 m)(h:(m',true)=l.foldl clStep (m,false)):∃k∈V,valN m k<valN m' k/\∀k,valN m k<=valN m' k:=by
 obtain⟨a1,a2,a3⟩:=rnd_spec l (m,false) h0
 rw[<-h]at a1
 rcases a1.yes rfl with h|⟨k,⟨c,hc,hk⟩,hlt⟩
 ·cases h
 ·have hlt':pVal m k<pVal m' k:=hlt
  refine⟨k,hk▸hh c hc,?_,fun k=>?_⟩
  ·have:=h0 k
   unfold valN;omega
  ·have:pVal m k<=pVal m' k:=a1.le k
   unfold valN;omega
theorem cust_levels{l:List Clause}{V:List PK}(hV:∀c∈l,∀k∈predC c,k∈V):∀(d:Nat)(m:List (PK×Int)),pKeys m=V->InP m V.length->(∀g,SolL (edgesOf l) g->∀k,valN m k<=g k)->V.length*V.length<=sumL V (valN m)+d ->
  ∃R,levN l (d+1) m=some R/\EndL l V R:=by
 have hh:∀c∈l,ofA c.head∈V:=fun c hc=>hV c hc _ List.mem_cons_self
 have hE:=edge_in hV
 intro d
 induction d with
 |zero=>
  intro m hk hin hle hd
  have h0:NN0 m:=fun k=>(hin k).1
  cases hr:rndL l (m,false) with
  |none=>
   refine⟨none,by simp[levN,hr],?_⟩
   rintro⟨g,hg⟩
   obtain⟨F,hF,hmin⟩:=least_ex V hg
   exact rndL_none l (m,false) h0 (by rw[hk];exact hh) (by rw[hk]) (hle F hF) hF (fun k hk'=>least_bound hF hmin (fun e he=>⟨(hE e he).1,(hE e he).2.1⟩) (fun e he=>(hE e he).2.2) (by rw[hk]at hk';exact hk')) hr
  |some t=>
   obtain⟨m',b⟩:=t
   obtain⟨h1,h2⟩:=rndL_some (N:=V.length) l (m,false) _ h0 (by rw[hk];exact hh) (by rw[hk]) hr
   have hin':=h2 hin
   cases b with
   |false=>
    obtain⟨rfl,hs⟩:=no_change h0 h1
    exact⟨some m',by simp[levN,hr],hk,h0,hs,hle⟩
   |true=>
    obtain⟨k,hkV,hlt,hle'⟩:=change_up hh h0 h1
    have hs1:=sumL_lt (V:=V) (fun k _=>hle' k) hkV hlt
    have hs2:=sumL_bd (V:=V) (f:=valN m') (N:=V.length) fun k _=>by
     have:pVal m' k<=V.length:=(hin' k).2
     unfold valN;omega
    omega
 |succ d ih=>
  intro m hk hin hle hd
  have h0:NN0 m:=fun k=>(hin k).1
  cases hr:rndL l (m,false) with
  |none=>
   refine⟨none,by simp[levN,hr],?_⟩
   rintro⟨g,hg⟩
   obtain⟨F,hF,hmin⟩:=least_ex V hg
   exact rndL_none l (m,false) h0 (by rw[hk];exact hh) (by rw[hk]) (hle F hF) hF (fun k hk'=>least_bound hF hmin (fun e he=>⟨(hE e he).1,(hE e he).2.1⟩) (fun e he=>(hE e he).2.2) (by rw[hk]at hk';exact hk')) hr
  |some t=>
   obtain⟨m',b⟩:=t
   obtain⟨h1,h2⟩:=rndL_some (N:=V.length) l (m,false) _ h0 (by rw[hk];exact hh) (by rw[hk]) hr
   have hin':=h2 hin
   cases b with
   |false=>
    obtain⟨rfl,hs⟩:=no_change h0 h1
    exact⟨some m',by simp[levN,hr],hk,h0,hs,hle⟩
   |true=>
    obtain⟨k,hkV,hlt,hle'⟩:=change_up hh h0 h1
    have hs1:=sumL_lt (V:=V) (fun k _=>hle' k) hkV hlt
    obtain⟨a1,a2,a3⟩:=rnd_spec l (m,false) h0
    rw[<-h1]at a2 a3
    have hk':pKeys m'=V:=(a3 (by rw[hk];exact hh)).trans hk
    obtain⟨R,hR,hE'⟩:=ih m' hk' hin' (fun g hg k=>by
     have a2':valN m'=passL (edgesOf l) (valN m):=a2
     rw[a2']
     exact passL_le hg (hle g hg) k) (by omega)
    exact⟨R,by simp only[levN,hr];exact hR,hE'⟩
def refN(l:List Clause):Nat->List (PK×Int)->Option (List (PK×Int))
 |0,_=>none
 |n+1,m=>match l.foldl clStep (m,false) with
  |(m',false)=>some m'
  |(m',true)=>if m'.any (fun e=>decide ((m'.length:Int)<e.2)) then none else refN l n m'
theorem pVal_mem:∀{m:List (PK×Int)},(pKeys m).Nodup->∀e∈m,pVal m e.1=e.2
 |[],_,e,h=>by cases h
 |(j,u)::r,hn,e,h=>by
  obtain⟨h1,h2⟩:=List.nodup_cons.1 (show (j::pKeys r).Nodup from hn)
  unfold pVal pGet
  rcases List.mem_cons.1 h with rfl|h
  ·simp only;rw[if_pos (eqPK_iff.2 rfl)];rfl
  ·have:¬eqPK e.1 j=true:=fun he=>h1 (by rw[<-eqPK_iff.1 he];exact List.mem_map_of_mem h)
   rw[if_neg this]
   exact pVal_mem h2 e h
end Go.Abs.Tz
namespace Go.Abs.Tz
open Go Go.Abs Go.Proofs
set_option maxRecDepth 20000
set_option linter.unusedSimpArgs false
attribute [local simp ↓] getP_nil getP_node setP_nil setP_node oneP_eq vP_map vP_some vP_none vP_bind eP_some bP_true bP_false gP_yes gP_tf gP_ft gP_tup runP_skip runP_ops runP_drw runP_seq runP_cond runP_blk runP_loop runP_exit runP_ret seqK_n seqK_r seqK_e seqK_p blkK_n blkK_r blkK_e blkK_p loopK_n loopK_r loopK_e loopK_p finK_n finK_r finK_p resP_one resP_two resP_three resP_nil resP_c nxP_nil argsP_nil argsP_cons evP_t evP_c evP_g evsP_nil evsP_cons clP_fn pnP_i opsP_nil opsP_d opsP_x opsP_gt opsP_gf opP_cf opP_cl opP_pn opP_nx valP_mv valP_pk valP_eq valP_bn valP_nt valP_ld valP_fa valP_fd valP_ia valP_ix valP_ln valP_srn valP_srl valP_srh valP_srb valP_cv valP_mi valP_mf valP_xt valP_bs valP_bd valP_nc valP_mn valP_lk valP_ta opP_mv opP_pk opP_eq opP_bn opP_nt opP_ld opP_fa opP_fd opP_ia opP_ix opP_ln opP_sr opP_cv opP_mi opP_mf opP_xt opP_bs opP_bd opP_nc opP_mn opP_lk opP_ta opP_al opP_bx opP_st opP_ap opP_mk opP_nb opP_mu opP_rg opP_en pendP_nil pendP_d pendP_g drwP_nil drwP_d drwP_x drwP_gt drwP_gf look_self natOf_nat
attribute [local simp] faL fdL iaL ixL loadL partL lenL eqK eqL natOf eqB_s eqB_i eqB_b bn_add bn_sub bn_lss bn_leq bn_gtr bn_geq bn_adds bn_lsss bn_gtrs bn_leqs bn_geqs sliceL LV.cells LV.whole look_self put_self putO_self put_eq stL fillL termC dopP LHeap.alloc oneI oneS oneB nth0 nth1 nth2 nth3 nth4 nth5 nth6 nth7 nth8 nth9 look_ne putO_ne
def keyS(x:Strat):PK:=(x.pred,x.args)
def matchS(x:Strat)(k:PK):Bool:=eqBA x.pred k.1&&decide (x.args=k.2)
def findSt:List Strat->PK->Nat->Int
 |[],_,_=>-1
 |x::r,k,i=>if matchS x k then (i:Int) else findSt r k (i+1)
def litAs(x:Lit):List Atom:=if x.kind<=2 then [x.atom] else []
def clAs(c:Clause):List Atom:=c.head::c.body.flatMap litAs
def allA(l:List Clause):List Atom:=l.flatMap clAs
theorem atoms_all(G:List Atom):(G.map atomL).all (fun e=>e.cells.length==2)=true:=by simp[LV.cells]
def RowT(H:LHeap)(sz len:Nat)(own:Own)(ob:List (Nat×LObj))(n:Nat):Prop:=(own=.full/\ob=H.objs/\H.next<=n)\/∃t,own=.tok t/\H.next<=t/\t<n/\ob=(t,.tok len sz)::H.objs
theorem row_ap{H:LHeap}{sz:Nat}{es:List LV}{own:Own}{ob:List (Nat×LObj)}{n:Nat}(hsz:0<sz/\sz<=2^10)(hes:(es.all fun e=>e.cells.length==sz)=true)(hl:es.length+1<=2^30)(h:RowT H sz es.length own ob n){x:LV}(hx:x.cells.length=sz)(ow:Own):
  ∃own' ob' n',apL ⟨ob,n⟩ sz (.sl es own) (.sl [x] ow)=some (.sl (es++[x]) own',⟨ob',n'⟩)/\RowT H sz (es.length+1) own' ob' n'/\n<=n':=by
 have hxs:([x].all fun e=>e.cells.length==sz)=true:=by
  show (x.cells.length==sz&&true)=true
  rw[hx];simp
 rcases h with⟨rfl,rfl,h⟩|⟨t,rfl,h1,h2,rfl⟩
 ·refine⟨.tok n,(n,.tok (es.length+1) sz)::H.objs,n+1,?_,.inr ⟨n,rfl,h,Nat.lt_succ_self _,rfl⟩,Nat.le_succ _⟩
  unfold apL
  simp only
  rw[hes,hxs]
  simp only[Bool.and_self,if_true]
  rw[if_pos ⟨hl,hsz.2,rfl⟩]
  rfl
 ·refine⟨.tok t,(t,.tok (es.length+1) sz)::H.objs,n,?_,.inr ⟨t,rfl,h1,h2,rfl⟩,Nat.le_refl _⟩
  have hcan:canApp ⟨(t,.tok es.length sz)::H.objs,n⟩ sz (.tok t) es.length=true:=by
   have:sz≠0:=by omega
   simp[canApp,look,this]
  unfold apL
  simp only
  rw[hes,hxs]
  simp only[Bool.and_self,if_true]
  rw[if_pos ⟨hl,hsz.2,hcan⟩]
  simp[LHeap.put,putO]
structure NNAs where
 i:Nat
 n:Nat
 aa:List Atom
 own:Own
 ob:List (Nat×LObj)
end Go.Abs.Tz
namespace Go.Abs
open Go
section
variable{E:Env}{F:Fns}
theorem cP_of_fnW{b:BFn}{f:FuncId}{args:List LV}{H:LHeap}{kv kp:HP}(hf:F.fn f b)
  (h:H.Ok->fnP E F b args H (fun v H'=>∃v' H'',Wk v v'/\HWk H' H''/\(H'.Ok->H''.Ok)/\kv v' H'') kp):cP E F f args H kv kp:=by
 intro hH
 obtain⟨hn,h⟩:=h hH
 obtain⟨t,h1,h2⟩:=argsP_spec h
 have ht:t.get=frOf args:=by
  funext j
  rw[h2 j]
  simp only[frOf]
  by_cases hj:j<args.length
  ·rw[if_pos (by omega)];simp
  ·rw[if_neg (by omega)]
   have:args[j]? = none:=List.getElem?_eq_none (by omega)
   simp[List.getD_eq_getElem?_getD,this,FT.get_nil]
 have hb:=runP_ok b.body t H _ hH h1
 rw[ht]at hb
 refine .enter hf hn hb (fun fr df H' hT=>?_) (fun v fr df H' hT=>?_) (fun n fr df H' hT=>?_)
 ·have:∃(t':FT),fr=t'.get/\df=[]/\H'.Ok/\resP E b.res t' H' fun v=>∃v' H'',Wk v v'/\HWk H' H''/\(H'.Ok->H''.Ok)/\kv v' H'':=by
   rcases hT with⟨e,t',H'',he,hok,hk⟩|⟨e,t',H'',he,hok,hk⟩<;>cases he
   ·exact⟨t',rfl,rfl,hok,hk⟩
   ·exact⟨t',rfl,rfl,hok,hk⟩
  obtain⟨t',rfl,rfl,hok,v,hv,v',H1,hw,h3,h4,h5⟩:=this
  exact⟨rfl,v,v',H1,hv,hw,h3,.inl ⟨v',H1,rfl,h4 hok,h5⟩⟩
 ·obtain⟨e,t',H'',he,hok,hk⟩:=hT
  cases he
  exact⟨rfl,v,H',.inl rfl,⟨Nat.le_refl _,fun _ _ h=>h⟩,.inr ⟨v,H',rfl,hok,hk⟩⟩
 ·obtain⟨e,t',H'',he,hok,hk⟩:=hT
  cases he
  cases hk
end
end Go.Abs
namespace Go.Abs.Tz
open Go Go.Abs Go.Proofs
set_option maxRecDepth 20000
set_option linter.unusedSimpArgs false
attribute [local simp ↓] getP_nil getP_node setP_nil setP_node oneP_eq vP_map vP_some vP_none vP_bind eP_some bP_true bP_false gP_yes gP_tf gP_ft gP_tup runP_skip runP_ops runP_drw runP_seq runP_cond runP_blk runP_loop runP_exit runP_ret seqK_n seqK_r seqK_e seqK_p blkK_n blkK_r blkK_e blkK_p loopK_n loopK_r loopK_e loopK_p finK_n finK_r finK_p resP_one resP_two resP_three resP_nil resP_c nxP_nil argsP_nil argsP_cons evP_t evP_c evP_g evsP_nil evsP_cons clP_fn pnP_i opsP_nil opsP_d opsP_x opsP_gt opsP_gf opP_cf opP_cl opP_pn opP_nx valP_mv valP_pk valP_eq valP_bn valP_nt valP_ld valP_fa valP_fd valP_ia valP_ix valP_ln valP_srn valP_srl valP_srh valP_srb valP_cv valP_mi valP_mf valP_xt valP_bs valP_bd valP_nc valP_mn valP_lk valP_ta opP_mv opP_pk opP_eq opP_bn opP_nt opP_ld opP_fa opP_fd opP_ia opP_ix opP_ln opP_sr opP_cv opP_mi opP_mf opP_xt opP_bs opP_bd opP_nc opP_mn opP_lk opP_ta opP_al opP_bx opP_st opP_ap opP_mk opP_nb opP_mu opP_rg opP_en pendP_nil pendP_d pendP_g drwP_nil drwP_d drwP_x drwP_gt drwP_gf look_self natOf_nat
attribute [local simp] faL fdL iaL ixL loadL partL lenL eqK eqL natOf eqB_s eqB_i eqB_b bn_add bn_sub bn_lss bn_leq bn_gtr bn_geq bn_adds bn_lsss bn_gtrs bn_leqs bn_geqs sliceL LV.cells LV.whole look_self put_self putO_self put_eq stL fillL termC dopP LHeap.alloc oneI oneS oneB nth0 nth1 nth2 nth3 nth4 nth5 nth6 nth7 nth8 nth9 look_ne putO_ne
theorem findU_enc{k:ByteArray}:∀{K:Bind},(keysB K).Nodup->findU (.pl 1) (.str k) (encE K)=some ((findB k K).map termL)
 |[],_=>rfl
 |(j,v)::r,hn=>by
  obtain⟨h1,h2⟩:=List.nodup_cons.1 (show (j::keysB r).Nodup from hn)
  have ih:=findU_enc (k:=k) h2
  show (match eqK (.pl 1) (.str k) (.str j),findU (.pl 1) (.str k) (encE r) with
   |some true,some none=>some (some (termL v))
   |some false,some x=>some x
   |_,_=>none)=_
  rw[ih]
  by_cases he:k=j
  ·subst he
   have hnone:findB k r=none:=by
    cases hf:findB k r with
    |none=>rfl
    |some t=>exact absurd (List.mem_map.2 ⟨_,(findB_iff h2).1 hf,rfl⟩) h1
   simp[hnone,findB,eqBA_self]
  ·have:eqBA k j=false:=by
    cases h:eqBA k j with
    |false=>rfl
    |true=>exact absurd (eqBA_iff.1 h) he
   simp[findB,this]
theorem lkU{H:LHeap}{o:Nat}{K:Bind}(hl:look o H.objs=some (.um (encE K)))(hn:(keysB K).Nodup)(k:ByteArray)(z:LV):lkL H (.pl 1) false z (.map o) (.str k)=some (match findB k K with|some t=>termL t|none=>z):=by
 simp only[lkL,hl,findU_enc hn]
 cases findB k K<;>rfl
def zT:Term:=⟨0,0,⟨⟨[]⟩⟩⟩
def fillT(K:Bind)(t:Term):Term:=if t.kind=3 then (findB t.s K).getD zT else t
def fillA(K:Bind)(a:Atom):Atom:=⟨a.pred,a.args.map (fillT K)⟩
theorem t_fillM(t:Term)(K:Bind)(hn:(keysB K).Nodup)(o:Nat)(H:LHeap)(hl:look o H.objs=some (.um (encE K))){kv kp:HP}(hk:∀n,H.next<=n->kv (termL (fillT K t)) ⟨H.objs,n⟩):
  cP E0 F0 121 [termL t,.map o] H kv kp:=by
 refine cP_of_fn c121 fun hH=>⟨Nat.le_of_ble_eq_true rfl,?_⟩
 have ho:o<H.next:=hH.look hl
 have fin:∀(x y:LObj)(v:LV),v=termL (fillT K t)->∃H'',HWk ⟨(H.next+1,x)::(H.next,y)::H.objs,H.next+1+1⟩ H''/\(LHeap.Ok ⟨(H.next+1,x)::(H.next,y)::H.objs,H.next+1+1⟩->H''.Ok)/\kv v H'':=fun x y v hv=>by
  obtain⟨g1,g2⟩:=back hH (HExt.cons' hH (i:=H.next+1) (m:=H.next+1+1) (o:=x) (by omega) (by omega) (HExt.cons' hH (i:=H.next) (m:=H.next) (o:=y) (by omega) (by omega) (HExt.refl' _)))
  exact⟨_,g1,g2,by rw[hv];exact hk _ (by omega)⟩
 by_cases h3:t.kind=3
 ·simp(disch:=omega)[b121,h3]
  rw[lkU (by rw[look_ne (by omega),look_ne (by omega)];exact hl) hn]
  cases hf:findB t.s K with
  |none=>
   simp(disch:=omega)[hf]
   exact fin _ _ _ (by simp[fillT,h3,hf,zT])
  |some u=>
   simp(disch:=omega)[hf]
   exact fin _ _ _ (by simp[fillT,h3,hf])
 ·simp(disch:=omega)[b121,h3]
  exact fin _ _ _ (by simp[fillT,h3])
theorem apL_new{H:LHeap}{sz:Nat}{X:List LV}{x:LV}{ow:Own}(hX:(X.all fun e=>e.cells.length==sz)=true)(hx:x.cells.length=sz)(hc:X.length+1<=2^30)(hs:sz<=2^10):
  apL H sz (.sl X .full) (.sl [x] ow)=some (.sl (X++[x]) (.tok H.next),H.alloc (.tok (X.length+1) sz)):=by
 have hxs:([x].all fun e=>e.cells.length==sz)=true:=by
  show (x.cells.length==sz&&true)=true
  rw[hx];simp
 unfold apL
 simp only
 rw[hX,hxs]
 simp only[Bool.and_self,if_true]
 rw[if_pos ⟨hc,hs,rfl⟩]
 rfl
theorem apL_tok{H:LHeap}{sz t:Nat}{X:List LV}{x:LV}{ow:Own}(hX:(X.all fun e=>e.cells.length==sz)=true)(hx:x.cells.length=sz)(hc:X.length+1<=2^30)(hs:sz<=2^10)(h0:0<sz)(hl:look t H.objs=some (.tok X.length sz)):
  apL H sz (.sl X (.tok t)) (.sl [x] ow)=some (.sl (X++[x]) (.tok t),H.put t (.tok (X.length+1) sz)):=by
 have hxs:([x].all fun e=>e.cells.length==sz)=true:=by
  show (x.cells.length==sz&&true)=true
  rw[hx];simp
 have hcan:canApp H sz (.tok t) X.length=true:=by
  have:sz≠0:=by omega
  simp[canApp,hl,this]
 unfold apL
 simp only
 rw[hX,hxs]
 simp only[Bool.and_self,if_true]
 rw[if_pos ⟨hc,hs,hcan⟩]
 rfl
structure NNFl where
 i:Nat
 n:Nat
 xs:List Term
 own:Own
 ob:List (Nat×LObj)
abbrev fillsL(K:Term->Term)(l:List Term):List LV:=l.map fun t=>termL (K t)
theorem fills_all(K:Term->Term)(l:List Term):(fillsL K l).all (fun e=>e.cells.length==3)=true:=by
 rw[List.all_map,List.all_eq_true]
 intro x _
 rfl
theorem t_filledG(a:Atom)(hA:a.args.length<=2^20)(K:Term->Term)(mv:LV)(H:LHeap)(hf:∀t∈a.args,∀(l:List (Nat×LObj)) (n:Nat) (kv kp:HP),H.next<=n->(∀i,i<H.next->look i l=look i H.objs)->(∀n',n<=n'->kv (termL (K t)) ⟨l,n'⟩)->cP E0 F0 121 [termL t,mv] ⟨l,n⟩ kv kp)
  {kv kp:HP} (hk:∀n,H.next<=n->kv (atomL ⟨a.pred,a.args.map K⟩) ⟨H.objs,n⟩):cP E0 F0 84 [atomL a,mv] H kv kp:=by
 refine cP_of_fnW c84 fun hH=>⟨Nat.le_of_ble_eq_true rfl,?_⟩
 obtain⟨N,hN⟩:∃N,H.next=N:=⟨_,rfl⟩
 obtain⟨ob0,nx0⟩:=H
 dsimp only at hN hf hk
 subst hN
 simp(disch:=omega)[b84]
 refine lP_enter (σ:=NNFl) (fun q=>(.nd (atomL a) (.nd (mv) .nil (.nd (.ptr (nx0+1+1) 0) .nil (.nd (.int a.args.length) .nil .nil))) (.nd (.ptr nx0 0) (.nd (.ptr (nx0+1) 0) .nil (.nd (argsL a.args) .nil .nil)) (.nd .bot .nil (.nd (.int q.i) .nil .nil))))) (fun q=>⟨q.ob,q.n⟩) (fun q=>a.args.length - q.i)
  (fun q=>RowT ⟨(nx0+1+1,.cells [.str a.pred,.sl (fillsL K q.xs) q.own])::(nx0+1,.cells [S [],Nl])::(nx0,.cells [.str a.pred,argsL a.args])::ob0,nx0+1+1+1⟩ 3 q.i q.own q.ob q.n/\q.i<=a.args.length/\q.xs.length=q.i/\q.xs++a.args.drop q.i=a.args)
  ⟨0,nx0+1+1+1,[],.full,(nx0+1+1,.cells [.str a.pred,Nl])::(nx0+1,.cells [S [],Nl])::(nx0,.cells [.str a.pred,argsL a.args])::ob0⟩ ⟨.inl ⟨rfl,rfl,Nat.le_refl _⟩,Nat.zero_le _,rfl,by simp⟩ (by simp[FT.Le,Wk]) ⟨HWk.refl _,fun h=>h⟩ ?_
 rintro⟨i,n,xs,own,ob⟩ ⟨hr,hi,hxl,hxs⟩ hok
 dsimp only at hr hi hok hxl hxs
 have hfin:∀(ow:Own)(H':LHeap),HWk H' ⟨ob0,n⟩->xs=a.args->∃v',Wk (LV.agg [.str a.pred,.sl (fillsL K xs) ow]) v'/\∃H'',HWk H' H''/\(H'.Ok->H''.Ok)/\kv v' H'':=by
  intro ow H' hw hx
  have hn0:nx0<=n:=by
   rcases hr with⟨_,_,h3⟩|⟨t,_,g1,g2,_⟩
   ·dsimp only at h3;omega
   ·dsimp only at g1;omega
  refine⟨atomL ⟨a.pred,a.args.map K⟩,.inr (.inl ?_),⟨ob0,n⟩,hw,fun _=>Desc.mono hH hn0,hk n hn0⟩
  subst hx
  simp[LV.strip,stripL_map,List.map_map,Function.comp_def]
 by_cases hlt:i<a.args.length
 case neg=>
  have hall:xs=a.args:=by rw[List.drop_eq_nil_of_le (by omega),List.append_nil]at hxs;exact hxs
  rcases hr with⟨rfl,rfl,h3⟩|⟨t,rfl,g1,g2,rfl⟩
  ·dsimp only at h3
   simp(disch:=omega)[hlt]
   refine hfin _ _ ⟨Nat.le_refl _,fun i x hx=>?_⟩ hall
   have:i<nx0:=hH.look hx
   rw[look_ne (by omega),look_ne (by omega),look_ne (by omega)]
   exact hx
  ·dsimp only at g1
   simp(disch:=omega)[hlt]
   refine hfin _ _ ⟨Nat.le_refl _,fun i x hx=>?_⟩ hall
   have:i<nx0:=hH.look hx
   rw[look_ne (by omega),look_ne (by omega),look_ne (by omega),look_ne (by omega)]
   exact hx
 have hX:=fills_all K xs
 obtain⟨X,hXe⟩:∃X,fillsL K xs=X:=⟨_,rfl⟩
 have hXl:X.length=i:=by rw[<-hXe,List.length_map];exact hxl
 have hnew:fillsL K (xs++[a.args[i]])=X++[termL (K a.args[i])]:=by rw[<-hXe];simp[fillsL]
 have hxl2:(xs++[a.args[i]]).length=i+1:=by simp[hxl]
 have hxs2:(xs++[a.args[i]])++a.args.drop (i+1)=a.args:=by
  rw[List.append_assoc]
  show xs++(a.args[i]::a.args.drop (i+1))=a.args
  rw[<-List.drop_eq_getElem_cons hlt]
  exact hxs
 rw[hXe]at hX hr
 have hcan:i+1<=2^30:=by omega
 rcases hr with⟨rfl,rfl,h3⟩|⟨t,rfl,g1,g2,rfl⟩
 ·dsimp only at h3
  simp(disch:=omega)[hlt]
  refine hf a.args[i] (List.getElem_mem hlt) _ _ _ _ (by omega) (fun j hj=>by rw[look_ne (by omega),look_ne (by omega),look_ne (by omega),look_ne (by omega)]) fun n2 hn2=>?_
  simp(disch:=omega)
  refine effP_ap ?_
  simp(disch:=omega)
  rw[apL_new hX rfl (by rw[hXl];exact hcan) (by omega)]
  simp(disch:=omega)[hXl,wrap_nat (show i<2^62 by omega)]
  refine⟨⟨i+1,n2+1,xs++[a.args[i]],.tok n2,(n2,.tok (i+1) 3)::(nx0+1+1,.cells [.str a.pred,.sl (fillsL K (xs++[a.args[i]])) (.tok n2)])::(nx0+1,.cells [S [],Nl])::(nx0,.cells [.str a.pred,argsL a.args])::ob0⟩,by dsimp only;omega,⟨.inr ⟨n2,rfl,by dsimp only;omega,Nat.lt_succ_self _,rfl⟩,by dsimp only;omega,hxl2,hxs2⟩,by simp[FT.Le,Wk],?_⟩
  dsimp only
  rw[hnew]
  have hB:Desc ((nx0+1+1,LObj.cells [.str a.pred,.sl (X++[termL (K a.args[i])]) (.tok n2)])::(nx0+1,.cells [S [],Nl])::(nx0,.cells [.str a.pred,argsL a.args])::ob0) n:=⟨by omega,by omega,by omega,hH⟩
  exact⟨hwk_mid hB fun _ _ h=>h,fun _=>⟨Nat.lt_succ_self _,hB.mono (by omega)⟩⟩
 ·dsimp only at g1
  simp(disch:=omega)[hlt]
  refine hf a.args[i] (List.getElem_mem hlt) _ _ _ _ (by omega) (fun j hj=>by rw[look_ne (by omega),look_ne (by omega),look_ne (by omega),look_ne (by omega),look_ne (by omega)]) fun n2 hn2=>?_
  simp(disch:=omega)
  refine effP_ap ?_
  simp(disch:=omega)
  rw[apL_tok hX rfl (by rw[hXl];exact hcan) (by omega) (by omega) (by rw[look_ne (by omega),hXl];simp[look])]
  simp(disch:=omega)[hXl,wrap_nat (show i<2^62 by omega)]
  refine⟨⟨i+1,n2,xs++[a.args[i]],.tok t,(t,.tok (i+1) 3)::(nx0+1+1,.cells [.str a.pred,.sl (fillsL K (xs++[a.args[i]])) (.tok t)])::(nx0+1,.cells [S [],Nl])::(nx0,.cells [.str a.pred,argsL a.args])::ob0⟩,by dsimp only;omega,⟨.inr ⟨t,rfl,g1,by dsimp only;omega,rfl⟩,by dsimp only;omega,hxl2,hxs2⟩,by simp[FT.Le,Wk],?_⟩
  dsimp only
  rw[hnew]
  have hOk3:LHeap.Ok ⟨(t,.tok (i+1) 3)::(nx0+1+1,LObj.cells [.str a.pred,.sl (X++[termL (K a.args[i])]) (.tok t)])::(nx0+1,.cells [S [],Nl])::(nx0,.cells [.str a.pred,argsL a.args])::ob0,n⟩:=⟨g2,g1,by omega,by omega,hH⟩
  exact back hOk3 (HExt.cons hOk3 (Nat.le_refl _) (HExt.refl (Nat.le_refl _)) (by dsimp only;omega))
theorem t_filledM(a:Atom)(hA:a.args.length<=2^20)(K:Bind)(hn:(keysB K).Nodup)(o:Nat)(H:LHeap)(hl:look o H.objs=some (.um (encE K))){kv kp:HP}(hk:∀n,H.next<=n->kv (atomL (fillA K a)) ⟨H.objs,n⟩):
  cP E0 F0 84 [atomL a,.map o] H kv kp:=fun hH=>
 t_filledG a hA (fillT K) (.map o) H (fun t _ l n kv kp _ hs hk2=>t_fillM t K hn o ⟨l,n⟩ (by dsimp only;rw[hs o (hH.look hl)];exact hl) hk2) hk hH
theorem t_fillN(t:Term)(h3:t.kind≠3)(H:LHeap){kv kp:HP}(hk:∀n,H.next<=n->kv (termL t) ⟨H.objs,n⟩):cP E0 F0 121 [termL t,.sc (.map none)] H kv kp:=by
 refine cP_of_fn c121 fun hH=>⟨Nat.le_of_ble_eq_true rfl,?_⟩
 simp(disch:=omega)[b121,h3]
 obtain⟨g1,g2⟩:=back hH (HExt.cons' hH (i:=H.next+1) (m:=H.next+1+1) (o:=.cells [.int t.kind,.int t.n,.str t.s]) (by omega) (by omega) (HExt.cons' hH (i:=H.next) (m:=H.next) (o:=.cells [.int t.kind,.int t.n,.str t.s]) (by omega) (by omega) (HExt.refl' _)))
 exact⟨_,g1,g2,hk _ (by omega)⟩
theorem t_filledN(a:Atom)(hA:a.args.length<=2^20)(hg:∀t∈a.args,t.kind≠3)(H:LHeap){kv kp:HP}(hk:∀n,H.next<=n->kv (atomL a) ⟨H.objs,n⟩):cP E0 F0 84 [atomL a,.sc (.map none)] H kv kp:=
 t_filledG a hA id (.sc (.map none)) H (fun t ht l n kv kp _ _ hk2=>t_fillN t (hg t ht) ⟨l,n⟩ hk2) (by simpa using hk)
def numT(t:Term):Bool:=decide (t.kind=1)
def cmpLit(K:Bind)(x:Lit):Bool:=
 if x.kind=3 then eqT (fillT K x.a) (fillT K x.b)
 else if x.kind=4 then !eqT (fillT K x.a) (fillT K x.b)
 else if x.kind=5 then numT (fillT K x.a)&&numT (fillT K x.b)&&decide ((fillT K x.a).n<(fillT K x.b).n)
 else numT (fillT K x.a)&&numT (fillT K x.b)&&decide ((fillT K x.a).n<=(fillT K x.b).n)
theorem t_comparesM(x:Lit)(K:Bind)(hn:(keysB K).Nodup)(o:Nat)(H:LHeap)(hl:look o H.objs=some (.um (encE K))){kv kp:HP}(hk:∀n,H.next<=n->kv (.bool (cmpLit K x)) ⟨H.objs,n⟩):
  cP E0 F0 93 [litL x,.map o] H kv kp:=by
 refine cP_of_fn c93 fun hH=>⟨Nat.le_of_ble_eq_true rfl,?_⟩
 have ho:o<H.next:=hH.look hl
 obtain⟨ob0,nx0⟩:=H
 dsimp only at hl ho hk
 simp(disch:=omega)[b93]
 refine t_fillM x.a K hn o _ (by dsimp only;rw[look_ne (by omega)];exact hl) fun n2 hn2=>?_
 dsimp only at hn2
 simp(disch:=omega)
 refine t_fillM x.b K hn o _ (by dsimp only;rw[look_ne (by omega)];exact hl) fun n3 hn3=>?_
 dsimp only at hn3
 have hfin:∀(H':LHeap)(v:LV),HWk H' ⟨ob0,n3+1+1⟩->v=.bool (cmpLit K x)->∃H'',HWk H' H''/\(H'.Ok->H''.Ok)/\kv v H'':=fun H' v hw hv=>⟨⟨ob0,n3+1+1⟩,hw,fun _=>Desc.mono hH (by dsimp only;omega),by rw[hv];exact hk _ (by omega)⟩
 have hw:∀(c1 c2 c3:LObj),HWk ⟨(n3+1,c1)::(n3,c2)::(nx0,c3)::ob0,n3+1+1⟩ ⟨ob0,n3+1+1⟩:=fun c1 c2 c3=>⟨Nat.le_refl _,fun i y hy=>by
  have:i<nx0:=hH.look hy
  rw[look_ne (by omega),look_ne (by omega),look_ne (by omega)]
  exact hy⟩
 obtain⟨P,hP⟩:∃P,fillT K x.a=P:=⟨_,rfl⟩
 obtain⟨Q,hQ⟩:∃Q,fillT K x.b=Q:=⟨_,rfl⟩
 have hcl:cmpLit K x=if x.kind=3 then eqT P Q else if x.kind=4 then !eqT P Q else if x.kind=5 then numT P&&numT Q&&decide (P.n<Q.n) else numT P&&numT Q&&decide (P.n<=Q.n):=by rw[<-hP,<-hQ];rfl
 rw[hcl]at hfin
 rw[hP,hQ]
 simp(disch:=omega)
 rcases Classical.em (P.kind=1) with p1|p1<;>rcases Classical.em (Q.kind=1) with q1|q1<;>rcases Classical.em (x.kind=3) with k3|k3<;>rcases Classical.em (x.kind=4) with k4|k4<;>rcases Classical.em (x.kind=5) with k5|k5<;>(try (exfalso;omega))
 all_goals (simp(disch:=omega)[p1,q1,k3,k4,k5])
 all_goals (exact hfin _ _ (hw _ _ _) (by simp[k3,k4,k5,numT,eqT,p1,q1]))
end Go.Abs.Tz
namespace Go.Abs.Tz
open Go
def HeadNot(p:UInt8->Bool)(r:List UInt8):Prop:=∀c t,r=c::t->p c=false
theorem split_uniq{p:UInt8->Bool}:∀{xs ys r s:List UInt8},(∀x∈xs,p x=true)->(∀y∈ys,p y=true)->HeadNot p r->HeadNot p s->xs++r=ys++s->xs=ys/\r=s
 |[],[],_,_,_,_,_,_,h=>⟨rfl,h⟩
 |[],y::ys,r,s,_,hy,hr,_,h=>by
  have:=hr y (ys++s) h
  rw[hy y List.mem_cons_self]at this
  cases this
 |x::xs,[],r,s,hx,_,_,hs,h=>by
  have:=hs x (xs++r) h.symm
  rw[hx x List.mem_cons_self]at this
  cases this
 |x::xs,y::ys,r,s,hx,hy,hr,hs,h=>by
  simp only[List.cons_append,List.cons.injEq]at h
  obtain⟨h1,h2⟩:=split_uniq (fun z hz=>hx z (List.mem_cons_of_mem _ hz)) (fun z hz=>hy z (List.mem_cons_of_mem _ hz)) hr hs h.2
  exact⟨by rw[h.1,h1],h2⟩
theorem digit_toNat{d:Nat}(h:d<10):(UInt8.ofNat (48+d)).toNat=48+d:=by
 rw[UInt8.toNat_ofNat']
 omega
theorem decDigits_ne(u:Nat):Lib.decDigits u≠[]:=by
 rw[Lib.decDigits]
 split<;>simp
theorem dec_lo{u:Nat}(h:u<10):Lib.decDigits u=[UInt8.ofNat (48+u)]:=by rw[Lib.decDigits,dif_pos h]
theorem dec_hi{u:Nat}(h:¬u<10):Lib.decDigits u=Lib.decDigits (u / 10)++[UInt8.ofNat (48+u % 10)]:=by rw[Lib.decDigits,dif_neg h]
theorem decDigits_inj(u:Nat):∀v,Lib.decDigits u=Lib.decDigits v->u=v:=by
 induction u using Nat.strongRecOn with
 |_ u ih=>
  intro v h
  by_cases hu:u<10
  ·rw[dec_lo hu]at h
   by_cases hv:v<10
   ·rw[dec_lo hv]at h
    have:=congrArg UInt8.toNat (List.cons.inj h).1
    rw[digit_toNat hu,digit_toNat hv]at this
    omega
   ·rw[dec_hi hv]at h
    have hl:=congrArg List.length h
    rw[List.length_append]at hl
    have:=List.length_pos_iff.2 (decDigits_ne (v / 10))
    simp only[List.length_cons,List.length_nil]at hl
    omega
  ·rw[dec_hi hu]at h
   by_cases hv:v<10
   ·rw[dec_lo hv]at h
    have hl:=congrArg List.length h
    rw[List.length_append]at hl
    have:=List.length_pos_iff.2 (decDigits_ne (u / 10))
    simp only[List.length_cons,List.length_nil]at hl
    omega
   ·rw[dec_hi hv]at h
    obtain⟨h1,h2⟩:=List.append_inj' h rfl
    have e1:=ih (u / 10) (by omega) (v / 10) h1
    have:=congrArg UInt8.toNat (List.cons.inj h2).1
    rw[digit_toNat (Nat.mod_lt _ (by omega)),digit_toNat (Nat.mod_lt _ (by omega))]at this
    omega
theorem decDigits_mem(u:Nat):∀c∈Lib.decDigits u,48<=c.toNat/\c.toNat<=57:=by
 induction u using Nat.strongRecOn with
 |_ u ih=>
  intro c hc
  by_cases hu:u<10
  ·rw[dec_lo hu,List.mem_singleton]at hc
   subst hc
   rw[digit_toNat hu];omega
  ·rw[dec_hi hu,List.mem_append,List.mem_singleton]at hc
   rcases hc with hc|rfl
   ·exact ih (u / 10) (by omega) c hc
   ·rw[digit_toNat (Nat.mod_lt _ (by omega))]
    have:=Nat.mod_lt u (show 0<10 by omega)
    omega
theorem itoa_mem(n:Int):∀c∈Lib.itoa n,c=45\/(48<=c.toNat/\c.toNat<=57):=by
 intro c hc
 unfold Lib.itoa at hc
 split at hc
 ·rcases List.mem_cons.1 hc with h|h
  ·exact .inl h
  ·exact .inr (decDigits_mem _ c h)
 ·exact .inr (decDigits_mem _ c hc)
theorem itoa_ne(n:Int):Lib.itoa n≠[]:=by
 unfold Lib.itoa
 split
 ·simp
 ·exact decDigits_ne _
theorem itoa_inj{m n:Int}(h:Lib.itoa m=Lib.itoa n):m=n:=by
 have no:∀(u:Nat)(r:List UInt8),Lib.decDigits u≠45::r:=by
  intro u r e
  have:=decDigits_mem u 45 (by rw[e];exact List.mem_cons_self)
  have h45:(45:UInt8).toNat=45:=rfl
  omega
 unfold Lib.itoa at h
 by_cases hm:m<0
 ·rw[if_pos hm]at h
  by_cases hn:n<0
  ·rw[if_pos hn]at h
   have:=decDigits_inj _ _ (List.cons.inj h).2
   omega
  ·rw[if_neg hn]at h
   exact absurd h.symm (no _ _)
 ·rw[if_neg hm]at h
  by_cases hn:n<0
  ·rw[if_pos hn]at h
   exact absurd h (no _ _)
  ·rw[if_neg hn]at h
   have:=decDigits_inj _ _ h
   omega
end Go.Abs.Tz
namespace Go.Abs.Tz
open Go Go.Abs Go.Proofs
set_option maxRecDepth 20000
set_option linter.unusedSimpArgs false
attribute [local simp ↓] getP_nil getP_node setP_nil setP_node oneP_eq vP_map vP_some vP_none vP_bind eP_some bP_true bP_false gP_yes gP_tf gP_ft gP_tup runP_skip runP_ops runP_drw runP_seq runP_cond runP_blk runP_loop runP_exit runP_ret seqK_n seqK_r seqK_e seqK_p blkK_n blkK_r blkK_e blkK_p loopK_n loopK_r loopK_e loopK_p finK_n finK_r finK_p resP_one resP_two resP_three resP_nil resP_c nxP_nil argsP_nil argsP_cons evP_t evP_c evP_g evsP_nil evsP_cons clP_fn pnP_i opsP_nil opsP_d opsP_x opsP_gt opsP_gf opP_cf opP_cl opP_pn opP_nx valP_mv valP_pk valP_eq valP_bn valP_nt valP_ld valP_fa valP_fd valP_ia valP_ix valP_ln valP_srn valP_srl valP_srh valP_srb valP_cv valP_mi valP_mf valP_xt valP_bs valP_bd valP_nc valP_mn valP_lk valP_ta opP_mv opP_pk opP_eq opP_bn opP_nt opP_ld opP_fa opP_fd opP_ia opP_ix opP_ln opP_sr opP_cv opP_mi opP_mf opP_xt opP_bs opP_bd opP_nc opP_mn opP_lk opP_ta opP_al opP_bx opP_st opP_ap opP_mk opP_nb opP_mu opP_rg opP_en pendP_nil pendP_d pendP_g drwP_nil drwP_d drwP_x drwP_gt drwP_gf look_self natOf_nat
attribute [local simp] faL fdL iaL ixL loadL partL lenL eqK eqL natOf eqB_s eqB_i eqB_b bn_add bn_sub bn_lss bn_leq bn_gtr bn_geq bn_adds bn_lsss bn_gtrs bn_leqs bn_geqs sliceL LV.cells LV.whole look_self put_self putO_self put_eq stL fillL termC dopP LHeap.alloc oneI oneS oneB nth0 nth1 nth2 nth3 nth4 nth5 nth6 nth7 nth8 nth9 look_ne putO_ne
theorem ba_app(a b:List UInt8):((⟨⟨a⟩⟩:ByteArray)++(⟨⟨b⟩⟩:ByteArray))=⟨⟨a++b⟩⟩:=by
 apply ByteArray.ext
 simp
theorem ba_size(a:List UInt8):(⟨⟨a⟩⟩:ByteArray).size=a.length:=rfl
theorem bn_rem(a b:Int)(k:IntKind)(hb:b≠0):binL .rem (.sc (.int k a)) (.sc (.int k b))=some (.sc (.int k (a.tmod b))):=by simp[binL,hb]
theorem digits_le:∀(k u:Nat),u<10^(k+1)->(Lib.decDigits u).length<=k+1
 |0,u,h=>by
  have h':u<10:=by simpa using h
  rw[Lib.decDigits,dif_pos h'];simp
 |k+1,u,h=>by
  by_cases h':u<10
  ·rw[Lib.decDigits,dif_pos h'];simp
  ·have:=digits_le k (u / 10) (by rw[Nat.pow_succ]at h;omega)
   rw[Lib.decDigits,dif_neg h',List.length_append]
   simp only[List.length_cons,List.length_nil]
   omega
theorem digits_13{u:Nat}(h:u<=2^40):(Lib.decDigits u).length<=13:=digits_le 12 u (by omega)
def termX(t:Term):ByteArray:=if t.kind=1 then ⟨⟨Lib.itoa t.n⟩⟩ else t.s
theorem t_showTerm(t:Term)(h:t.kind=1->-(2^40)<=t.n/\t.n<=2^40):PureT 90 [termL t] (.str (termX t)):=by
 refine PureT.of c90 fun H hH=>⟨Nat.le_of_ble_eq_true rfl,?_⟩
 by_cases h1:t.kind=1
 ·have:=h h1
  simp(disch:=omega)[b90,h1]
  refine(t_itoaG t.n (by omega) (by omega)).go fun n hn=>?_
  simp(disch:=omega)
  exact doneK hH (by simp[termX,h1])
 ·simp(disch:=omega)[b90,h1]
  exact doneK hH (by simp[termX,h1])
def argsX:List Term->Bool->List UInt8
 |[],first=>if first then [] else [41]
 |t::r,first=>(if first then [40] else [44,32])++(termX t).data.toList++argsX r false
def atomX(a:Atom):ByteArray:=⟨⟨a.pred.data.toList++argsX a.args true⟩⟩
theorem ba_len(a:ByteArray):a.data.toList.length=a.size:=rfl
theorem word_size{lo hi:Int}{s:ByteArray}(h:wordOk lo hi s=true):s.size<=24:=by
 unfold wordOk at h
 simp only[Bool.and_eq_true,decide_eq_true_eq]at h
 omega
theorem term_size{t:Term}(h:termOk t=true):(termX t).size<=24/\(t.kind=1->-(2^40)<=t.n/\t.n<=2^40):=by
 unfold termOk at h
 unfold termX
 by_cases h1:t.kind=1
 ·rw[if_pos h1]at h ⊢
  simp only[Bool.and_eq_true,decide_eq_true_eq]at h
  refine⟨?_,fun _=>by omega⟩
  show (Lib.itoa t.n).length<=24
  unfold Lib.itoa
  split
  ·have:=digits_13 (u:=t.n.natAbs) (by omega)
   rw[List.length_cons];omega
  ·have:=digits_13 (u:=t.n.toNat) (by omega)
   omega
 ·rw[if_neg h1]at h ⊢
  refine⟨?_,fun h=>absurd h h1⟩
  split at h
  ·simp only[Bool.and_eq_true]at h;exact word_size h.2
  ·split at h
   ·simp only[Bool.and_eq_true]at h;exact word_size h.2
   ·cases h
theorem argsX_len:∀{l:List Term}{b:Bool},l.all termOk=true->(argsX l b).length<=26*l.length+1
 |[],b,_=>by unfold argsX;split<;>simp
 |t::r,b,h=>by
  simp only[List.all_cons,Bool.and_eq_true]at h
  have h1:=(term_size h.1).1
  have h2:=argsX_len (b:=false) h.2
  have h3:(termX t).data.toList.length<=24:=h1
  simp only[argsX,List.length_append,List.length_cons]
  split<;>simp only[List.length_cons,List.length_nil]<;>omega
theorem atom_parts{a:Atom}(h:atomOk a=true):a.pred.size<=24/\a.args.length<=3/\a.args.all termOk=true:=by
 unfold atomOk at h
 simp only[Bool.and_eq_true,decide_eq_true_eq]at h
 exact⟨word_size h.1,h.2⟩
theorem atomX_len{a:Atom}(h:atomOk a=true):(atomX a).size<=110:=by
 obtain⟨h1,h2,h3⟩:=atom_parts h
 have:=argsX_len (b:=true) h3
 show (a.pred.data.toList++argsX a.args true).length<=110
 rw[List.length_append,ba_len]
 omega
structure NNX where
 i:Nat
 n:Nat
 s:List UInt8
theorem join_cons(sep:List UInt8):∀(x:List UInt8)(r:List (List UInt8)),Lib.join (x::r) sep=x++(r.map (sep++·)).flatten
 |x,[]=>by simp[Lib.join,List.intercalate,List.intersperse]
 |x,y::r=>by
  have ih:=join_cons sep y r
  unfold Lib.join at ih ⊢
  unfold List.intercalate at ih ⊢
  rw[show List.intersperse sep (x::y::r)=x::sep::List.intersperse sep (y::r) from rfl]
  rw[List.flatten_cons,List.flatten_cons,ih]
  simp
theorem argsX_false:∀l:List Term,argsX l false=((l.map fun t=>(termX t).data.toList).map ([44,32]++·)).flatten++[41]
 |[]=>rfl
 |t::r=>by
  have ih:=argsX_false r
  rw[argsX,ih]
  simp
theorem argsX_true{l:List Term}(h:l≠[]):argsX l true=[40]++Lib.join (l.map fun t=>(termX t).data.toList) [44,32]++[41]:=by
 cases l with
 |nil=>exact absurd rfl h
 |cons t r=>
  rw[List.map_cons,join_cons,argsX,argsX_false]
  simp
structure NNY where
 i:Nat
 n:Nat
 xs:List ByteArray
 own:Own
 ob:List (Nat×LObj)
abbrev strsL(xs:List ByteArray):List LV:=xs.map fun x=>.str x
theorem strs_all(xs:List ByteArray):(strsL xs).all (fun e=>e.cells.length==1)=true:=by
 rw[List.all_map,List.all_eq_true]
 intro x _
 rfl
theorem t_show(a:Atom)(h:atomOk a=true):PureT 47 [atomL a] (.str (atomX a)):=by
 obtain⟨h1,h2,h3⟩:=atom_parts h
 have hX:(atomX a).size<=110:=atomX_len h
 refine PureT.of c47 fun H hH=>⟨Nat.le_of_ble_eq_true rfl,?_⟩
 by_cases h0:a.args.length=0
 ·have h0':(a.args.length:Int)=0:=by omega
  have hn:a.args=[]:=List.length_eq_zero_iff.1 h0
  have hX2:atomX a=a.pred:=by
   unfold atomX
   rw[hn]
   simp[argsX]
  simp(disch:=omega)[b47,h0,h0']
  exact doneK hH (by simp[hX2])
 have h0':¬(a.args.length:Int)=0:=by omega
 simp(disch:=omega)[b47,h0,h0']
 have hbase:LHeap.Ok ⟨(H.next,.cells [.str a.pred,argsL a.args])::H.objs,H.next+1⟩:=⟨Nat.lt_succ_self _,hH⟩
 obtain⟨L,hL⟩:∃L,a.args.map termX=L:=⟨_,rfl⟩
 have hLl:L.length<=3:=by rw[<-hL,List.length_map];exact h2
 refine lP_enter (σ:=NNY) (fun q=>(.nd .bot (.nd (.ptr H.next 0) (.nd (.sl (strsL q.xs) q.own) (.nd .bot (.nd (.int q.i) .nil .nil) .nil) .nil) (.nd .bot .nil (.nd (argsL a.args) .nil .nil))) (.nd .bot .nil (.nd .bot .nil (.nd (.int a.args.length) .nil .nil))))) (fun q=>⟨q.ob,q.n⟩) (fun q=>a.args.length - q.i)
  (fun q=>RowT ⟨(H.next,.cells [.str a.pred,argsL a.args])::H.objs,H.next+1⟩ 1 q.xs.length q.own q.ob q.n/\H.next<q.n/\q.i<=a.args.length/\q.xs++(a.args.drop q.i).map termX=L) ⟨0,H.next+1,[],.full,(H.next,.cells [.str a.pred,argsL a.args])::H.objs⟩
  ⟨.inl ⟨rfl,rfl,Nat.le_refl _⟩,Nat.lt_succ_self _,Nat.zero_le _,by simpa using hL⟩ (by simp[FT.Le,Wk]) ⟨HWk.refl _,fun h=>h⟩ ?_
 rintro⟨i,n,xs,own,ob⟩ ⟨hr,hn,hi,he⟩ hok
 dsimp only at hr hn hi he hok
 have hxl:xs.length<=3:=by
  have:=congrArg List.length he
  rw[List.length_append]at this
  omega
 have hob:ob=(H.next,.cells [.str a.pred,argsL a.args])::H.objs\/∃t,H.next<t/\ob=(t,.tok xs.length 1)::(H.next,.cells [.str a.pred,argsL a.args])::H.objs:=by
  rcases hr with⟨_,rfl,_⟩|⟨t,_,g1,g2,rfl⟩
  ·exact .inl rfl
  ·exact .inr ⟨t,g1,rfl⟩
 have hlk:look H.next ob=some (.cells [.str a.pred,argsL a.args]):=by
  rcases hob with rfl|⟨t,g1,rfl⟩
  ·simp[look]
  ·rw[look_ne (by omega)];simp[look]
 have hfg:HWk ⟨ob,n⟩ ⟨H.objs,n⟩:=⟨Nat.le_refl _,fun j x hx=>by
  have:=hH.look hx
  rcases hob with rfl|⟨t,g1,rfl⟩
  ·simp only[look];rw[if_neg (by omega)];exact hx
  ·simp only[look];rw[if_neg (by omega),if_neg (by omega)];exact hx⟩
 by_cases hlt:i<a.args.length
 case neg=>
  rw[List.drop_eq_nil_of_le (by omega),List.map_nil,List.append_nil]at he
  subst he
  have hdata:xs.map (·.data.toList)=a.args.map fun t=>(termX t).data.toList:=by rw[<-hL,List.map_map];rfl
  have hne:a.args≠[]:=fun e=>h0 (by rw[e];rfl)
  obtain⟨J,hJ⟩:∃J,Lib.join (xs.map (·.data.toList)) [44,32]=J:=⟨_,rfl⟩
  have hAX:atomX a=⟨⟨a.pred.data.toList++[40]++J++[41]⟩⟩:=by
   unfold atomX
   rw[argsX_true hne,<-hdata,hJ]
   simp
  obtain⟨P8,hP8⟩:∃P8,a.pred.data.toList=P8:=⟨_,rfl⟩
  have hpr:a.pred=⟨⟨P8⟩⟩:=by rw[<-hP8]
  have hPl:P8.length<=24:=by rw[<-hP8];exact h1
  rw[hP8]at hAX
  have hJl:J.length<=110:=by
   rw[hAX]at hX
   have:(P8++[40]++J++[41]).length<=110:=hX
   simp only[List.length_append]at this
   omega
  have hb1:P8.length+1<=2^40:=by omega
  have hb2:P8.length+1+J.length<=2^40:=by omega
  have hb3:P8.length+(1+J.length)<=2^40:=by omega
  have hb4:P8.length+1+J.length+1<=2^40:=by omega
  have hb5:P8.length+(1+(J.length+1))<=2^40:=by omega
  have hb6:P8.length+(J.length+1)+1<=2^40:=by omega
  have hb7:P8.length+(J.length+1)<=2^40:=by omega
  have hb8:P8.length+(J.length+1+1)<=2^40:=by omega
  rw[hpr]at hlk
  have lk1:loadL ⟨ob,n⟩ none (.ptr H.next 0)=some (.str ⟨⟨P8⟩⟩):=by simp[loadL,hlk,partL]
  simp(disch:=omega)[hlt,hlk,ba_app,ba_size,hb1]
  refine(t_join xs own ⟨⟨[44,32]⟩⟩ (by omega) (by show (Lib.join _ [44,32]).length<=_;rw[hJ];omega)).x (.sc _) ?_
  rw[show Lib.join (xs.map (·.data.toList)) (ByteArray.mk ⟨[44,32]⟩).data.toList=J from hJ]
  have hJa:(⟨J.toArray⟩:ByteArray)=⟨⟨J⟩⟩:=rfl
  rw[hJa]
  simp(disch:=omega)[hlk,ba_app,ba_size,hb1,hb2,hb3,hb4,hb5,hb6,hb7,hb8]
  refine⟨⟨H.objs,n⟩,hfg,fun _=>Desc.mono hH (by first|omega|(dsimp only;omega)),?_,n,by first|omega|(dsimp only;omega),rfl⟩
  rw[hAX]
  simp
 rw[List.drop_eq_getElem_cons hlt,List.map_cons]at he
 have he':(xs++[termX a.args[i]])++(a.args.drop (i+1)).map termX=L:=by rw[List.append_assoc];exact he
 have htk:=List.all_eq_true.1 h3 _ (mem_at hlt)
 obtain⟨g1,g2⟩:=term_size htk
 simp(disch:=omega)[hlt]
 refine(t_showTerm _ g2).x (.sc _) ?_
 simp(disch:=omega)
 refine effP_ap ?_
 have hcan:xs.length+1<=2^30:=by omega
 have hlen1:(xs++[termX a.args[i]]).length=xs.length+1:=by simp
 rcases hr with⟨rfl,rfl,h3⟩|⟨t,rfl,f1,f2,rfl⟩
 ·dsimp only at h3
  simp(disch:=omega)[apL,canApp,strs_all,hcan,wrap_nat (show i<2^62 by omega)]
  refine⟨⟨i+1,n+1+1,xs++[termX a.args[i]],.tok (n+1),(n+1,.tok (xs.length+1) 1)::(H.next,.cells [.str a.pred,argsL a.args])::H.objs⟩,by dsimp only;omega,⟨.inr ⟨n+1,rfl,by dsimp only;omega,Nat.lt_succ_self _,by dsimp only;rw[hlen1]⟩,by dsimp only;omega,by dsimp only;omega,by simpa using he'⟩,by simp[FT.Le,Wk],?_,fun _=>⟨Nat.lt_succ_self _,⟨by omega,hH⟩⟩⟩
  exact hwk_mid (show Desc ((H.next,LObj.cells [.str a.pred,argsL a.args])::H.objs) n from ⟨hn,hH⟩) fun _ _ h=>h
 ·dsimp only at f1
  simp(disch:=omega)[apL,canApp,strs_all,hcan,wrap_nat (show i<2^62 by omega)]
  refine⟨⟨i+1,n+1,xs++[termX a.args[i]],.tok t,(t,.tok (xs.length+1) 1)::(H.next,.cells [.str a.pred,argsL a.args])::H.objs⟩,by dsimp only;omega,⟨.inr ⟨t,rfl,f1,by dsimp only;omega,by dsimp only;rw[hlen1]⟩,by dsimp only;omega,by dsimp only;omega,by simpa using he'⟩,by simp[FT.Le,Wk],?_⟩
  have hOk3:LHeap.Ok ⟨(t,.tok (xs.length+1) 1)::(H.next,.cells [.str a.pred,argsL a.args])::H.objs,n⟩:=⟨f2,⟨by omega,hH⟩⟩
  exact back hOk3 (HExt.cons hOk3 (Nat.le_refl _) (HExt.refl (Nat.le_refl _)) (Nat.le_succ _))
end Go.Abs.Tz
namespace Go.Abs.Tz
open Go Go.Abs Go.Proofs
def pW(c:UInt8):Bool:=wordC c.toNat||decide (c=45)
theorem runN_all(p:Int->Bool):∀{l:List UInt8},runN p l=l.length->∀c∈l,p c.toNat=true
 |[],_,c,hc=>by cases hc
 |a::l,h,c,hc=>by
  unfold runN at h
  by_cases ha:p a.toNat=true
  ·rw[if_pos ha]at h
   have h':runN p l=l.length:=by simpa using h
   rcases List.mem_cons.1 hc with rfl|hc
   ·exact ha
   ·exact runN_all p h' c hc
  ·rw[if_neg ha]at h
   simp at h
theorem word_pW{lo hi:Int}{s:ByteArray}(h:wordOk lo hi s=true):∀c∈s.data.toList,pW c=true:=by
 unfold wordOk at h
 simp only[Bool.and_eq_true,decide_eq_true_eq]at h
 obtain⟨_,_,_,_,_,h⟩:=h
 intro c hc
 unfold pW
 rw[runN_all wordC h c hc]
 rfl
theorem word_first{lo hi:Int}{s:ByteArray}(h:wordOk lo hi s=true):∃c r,s.data.toList=c::r/\lo<=(c.toNat:Int)/\(c.toNat:Int)<=hi:=by
 unfold wordOk at h
 simp only[Bool.and_eq_true,decide_eq_true_eq]at h
 obtain⟨h1,_,_,_,hf,_⟩:=h
 have e:sL s=s.data.toList:=rfl
 rw[e]at hf
 cases hs:s.data.toList with
 |nil=>rw[hs]at hf;simp[firstB]at hf
 |cons c r=>
  rw[hs]at hf
  simp[firstB]at hf
  exact⟨c,r,rfl,hf.1,hf.2⟩
theorem termX_pW{t:Term}(h:termOk t=true):∀c∈(termX t).data.toList,pW c=true:=by
 unfold termOk at h
 unfold termX
 by_cases h1:t.kind=1
 ·rw[if_pos h1]
  intro c hc
  rcases itoa_mem t.n c (by simpa using hc) with rfl|h
  ·rfl
  ·unfold pW wordC digB
   simp
   omega
 ·rw[if_neg h1]at h ⊢
  by_cases h2:t.kind=2
  ·rw[if_pos h2]at h
   simp only[Bool.and_eq_true]at h
   exact word_pW h.2
  ·rw[if_neg h2]at h
   by_cases h3:t.kind=3
   ·rw[if_pos h3]at h
    simp only[Bool.and_eq_true]at h
    exact word_pW h.2
   ·rw[if_neg h3]at h;cases h
theorem ba_ext{a b:ByteArray}(h:a.data.toList=b.data.toList):a=b:=by
 obtain⟨⟨x⟩⟩:=a
 obtain⟨⟨y⟩⟩:=b
 simp at h
 rw[h]
theorem term_cases{t:Term}(h:termOk t=true):(t.kind=1/\t.s=⟨⟨[]⟩⟩)\/(t.kind=2/\t.n=0/\wordOk 97 122 t.s=true)\/(t.kind=3/\t.n=0/\wordOk 65 90 t.s=true):=by
 unfold termOk at h
 by_cases h1:t.kind=1
 ·rw[if_pos h1]at h
  simp only[Bool.and_eq_true]at h
  exact .inl ⟨h1,eqBA_iff.1 h.1⟩
 ·rw[if_neg h1]at h
  by_cases h2:t.kind=2
  ·rw[if_pos h2]at h
   simp only[Bool.and_eq_true,decide_eq_true_eq]at h
   exact .inr (.inl ⟨h2,h.1,h.2⟩)
  ·rw[if_neg h2]at h
   by_cases h3:t.kind=3
   ·rw[if_pos h3]at h
    simp only[Bool.and_eq_true,decide_eq_true_eq]at h
    exact .inr (.inr ⟨h3,h.1,h.2⟩)
   ·rw[if_neg h3]at h;cases h
theorem termX_one{t:Term}(h:t.kind=1):(termX t).data.toList=Lib.itoa t.n:=by
 unfold termX
 rw[if_pos h]
theorem termX_two{t:Term}(h:t.kind≠1):termX t=t.s:=by
 unfold termX
 rw[if_neg h]
theorem itoa_first(n:Int):∃c r,Lib.itoa n=c::r/\c.toNat<=57:=by
 cases h:Lib.itoa n with
 |nil=>exact absurd h (itoa_ne n)
 |cons c r=>
  refine⟨c,r,rfl,?_⟩
  rcases itoa_mem n c (by rw[h];exact List.mem_cons_self) with rfl|h
  ·decide
  ·exact h.2
theorem termX_inj{t u:Term}(ht:termOk t=true)(hu:termOk u=true)(h:termX t=termX u):t=u:=by
 have num_word:∀{t u:Term},t.kind=1->u.kind≠1->(∃lo hi,(65:Int)<=lo/\wordOk lo hi u.s=true)->termX t≠termX u:=by
  intro t u h1 h2 ⟨lo,hi,hlo,hw⟩ e
  have e1:=congrArg (fun x:ByteArray=>x.data.toList) e
  simp only[termX_one h1,termX_two h2]at e1
  obtain⟨c,r,hc,hc2⟩:=itoa_first t.n
  obtain⟨d,r2,hd,hd2,_⟩:=word_first hw
  rw[hc,hd]at e1
  obtain⟨rfl,_⟩:=List.cons.inj e1
  omega
 obtain⟨tk,tn,ts⟩:=t
 obtain⟨uk,un,us⟩:=u
 rcases term_cases ht with⟨h1,h2⟩|⟨h1,h2,h3⟩|⟨h1,h2,h3⟩<;>rcases term_cases hu with⟨g1,g2⟩|⟨g1,g2,g3⟩|⟨g1,g2,g3⟩<;>dsimp only at h1 h2 g1 g2
 ·subst h1;subst g1;subst h2;subst g2
  have e1:=congrArg (fun x:ByteArray=>x.data.toList) h
  simp only[termX_one]at e1
  rw[itoa_inj e1]
 ·exact absurd h (num_word h1 (by show uk≠1;omega) ⟨97,122,by omega,g3⟩)
 ·exact absurd h (num_word h1 (by show uk≠1;omega) ⟨65,90,by omega,g3⟩)
 ·exact absurd h.symm (num_word g1 (by show tk≠1;omega) ⟨97,122,by omega,h3⟩)
 ·rw[termX_two (by show tk≠1;omega),termX_two (by show uk≠1;omega)]at h
  dsimp only at h
  rw[h1,h2,g1,g2,h]
 ·rw[termX_two (by show tk≠1;omega),termX_two (by show uk≠1;omega)]at h
  dsimp only at h h3 g3
  subst h
  obtain⟨c,r,e,a1,a2⟩:=word_first h3
  obtain⟨d,r2,e2,b1,b2⟩:=word_first g3
  rw[e]at e2
  obtain⟨rfl,_⟩:=List.cons.inj e2
  omega
 ·exact absurd h.symm (num_word g1 (by show tk≠1;omega) ⟨65,90,by omega,h3⟩)
 ·rw[termX_two (by show tk≠1;omega),termX_two (by show uk≠1;omega)]at h
  dsimp only at h h3 g3
  subst h
  obtain⟨c,r,e,a1,a2⟩:=word_first h3
  obtain⟨d,r2,e2,b1,b2⟩:=word_first g3
  rw[e]at e2
  obtain⟨rfl,_⟩:=List.cons.inj e2
  omega
 ·rw[termX_two (by show tk≠1;omega),termX_two (by show uk≠1;omega)]at h
  dsimp only at h
  rw[h1,h2,g1,g2,h]
theorem argsX_head(l:List Term)(b:Bool):HeadNot pW (argsX l b):=by
 intro c t h
 cases l with
 |nil=>
  cases b<;>simp[argsX]at h
  rw[<-h.1];rfl
 |cons x l=>
  cases b<;>simp[argsX]at h
  ·rw[<-h.1];rfl
  ·rw[<-h.1];rfl
theorem argsX_inj:∀{l m:List Term},l.all termOk=true->m.all termOk=true->∀b,argsX l b=argsX m b->l=m
 |[],[],_,_,_,_=>rfl
 |[],u::m,_,_,b,h=>by cases b<;>simp[argsX]at h
 |t::l,[],_,_,b,h=>by cases b<;>simp[argsX]at h
 |t::l,u::m,hl,hm,b,h=>by
  simp only[List.all_cons,Bool.and_eq_true]at hl hm
  have h':(termX t).data.toList++argsX l false=(termX u).data.toList++argsX m false:=by
   cases b<;>simpa [argsX] using h
  obtain⟨h1,h2⟩:=split_uniq (termX_pW hl.1) (termX_pW hm.1) (argsX_head _ _) (argsX_head _ _) h'
  rw[termX_inj hl.1 hm.1 (ba_ext h1),argsX_inj hl.2 hm.2 false h2]
theorem atomX_inj{a b:Atom}(ha:atomOk a=true)(hb:atomOk b=true)(h:atomX a=atomX b):a=b:=by
 have e:=congrArg (fun x:ByteArray=>x.data.toList) h
 have e':a.pred.data.toList++argsX a.args true=b.pred.data.toList++argsX b.args true:=e
 unfold atomOk at ha hb
 simp only[Bool.and_eq_true,decide_eq_true_eq]at ha hb
 obtain⟨h1,h2⟩:=split_uniq (word_pW ha.1) (word_pW hb.1) (argsX_head _ _) (argsX_head _ _) e'
 obtain⟨ap,aa⟩:=a
 obtain⟨bp,ba⟩:=b
 dsimp only at h1 h2 ha hb
 rw[ba_ext h1,argsX_inj ha.2.2 hb.2.2 true h2]
end Go.Abs.Tz
namespace Go.Abs.Tz
open Go Go.Abs Go.Proofs
set_option maxRecDepth 20000
set_option linter.unusedSimpArgs false
attribute [local simp ↓] getP_nil getP_node setP_nil setP_node oneP_eq vP_map vP_some vP_none vP_bind eP_some bP_true bP_false gP_yes gP_tf gP_ft gP_tup runP_skip runP_ops runP_drw runP_seq runP_cond runP_blk runP_loop runP_exit runP_ret seqK_n seqK_r seqK_e seqK_p blkK_n blkK_r blkK_e blkK_p loopK_n loopK_r loopK_e loopK_p finK_n finK_r finK_p resP_one resP_two resP_three resP_nil resP_c nxP_nil argsP_nil argsP_cons evP_t evP_c evP_g evsP_nil evsP_cons clP_fn pnP_i opsP_nil opsP_d opsP_x opsP_gt opsP_gf opP_cf opP_cl opP_pn opP_nx valP_mv valP_pk valP_eq valP_bn valP_nt valP_ld valP_fa valP_fd valP_ia valP_ix valP_ln valP_srn valP_srl valP_srh valP_srb valP_cv valP_mi valP_mf valP_xt valP_bs valP_bd valP_nc valP_mn valP_lk valP_ta opP_mv opP_pk opP_eq opP_bn opP_nt opP_ld opP_fa opP_fd opP_ia opP_ix opP_ln opP_sr opP_cv opP_mi opP_mf opP_xt opP_bs opP_bd opP_nc opP_mn opP_lk opP_ta opP_al opP_bx opP_st opP_ap opP_mk opP_nb opP_mu opP_rg opP_en pendP_nil pendP_d pendP_g drwP_nil drwP_d drwP_x drwP_gt drwP_gf look_self natOf_nat
attribute [local simp] faL fdL iaL ixL loadL partL lenL eqK eqL natOf eqB_s eqB_i eqB_b bn_add bn_sub bn_lss bn_leq bn_gtr bn_geq bn_adds bn_lsss bn_gtrs bn_leqs bn_geqs sliceL LV.cells LV.whole look_self put_self putO_self put_eq stL fillL termC dopP LHeap.alloc oneI oneS oneB nth0 nth1 nth2 nth3 nth4 nth5 nth6 nth7 nth8 nth9 look_ne putO_ne
def ltPK(x:Strat)(k:PK):Bool:=lessB x.pred k.1||(eqBA x.pred k.1&&decide (x.args<k.2))
def posS:List Strat->PK->Nat
 |[],_=>0
 |x::r,k=>if ltPK x k then posS r k+1 else 0
def insS(A:List Strat)(k:PK):List Strat:=A.take (posS A k)++[⟨k.1,k.2,0⟩]++A.drop (posS A k)
def foundS(A:List Strat)(a:Atom):Prop:=0<=findSt A (ofA a) 0
instance (A:List Strat) (a:Atom):Decidable (foundS A a):=by unfold foundS;infer_instance
def predF(A:List Strat)(a:Atom):List Strat:=if foundS A a then A else insS A (ofA a)
inductive RepO (H:LHeap) (A:List Strat):LV->List (Nat×LObj)->Nat->Prop
 |sl (own:Own) (n:Nat):H.next<=n->RepO H A (.sl (A.map stratL) own) H.objs n
 |asl (o n:Nat):H.next<=o->o<n->RepO H A (.asl o 0 A.length) ((o,arrS A)::H.objs) n
inductive RepS (H:LHeap):List Strat->LV->List (Nat×LObj)->Nat->Prop
 |nil (n:Nat):H.next<=n->RepS H [] Nl H.objs n
 |asl (A:List Strat) (o n:Nat):H.next<=o->o<n->RepS H A (.asl o 0 A.length) ((o,arrS A)::H.objs) n
theorem del_base{H:LHeap}(hH:H.Ok){o:Nat}(ho:H.next<=o):delO o H.objs=H.objs:=by
 have go:∀(l:List (Nat×LObj))(n:Nat),Desc l n->n<=o->delO o l=l:=by
  intro l
  induction l with
  |nil=>intro n _ _;rfl
  |cons e l ih=>
   obtain⟨i,x⟩:=e
   intro n hd hn
   have h1:i<n:=hd.1
   simp only[delO]
   rw[if_neg (by omega),ih i hd.2 (by omega)]
 exact go _ _ hH ho
structure NNP2 where
 i:Nat
 n:Nat
 a:List Strat
 v:LV
 ob:List (Nat×LObj)
def predsL(l:List Clause):List Strat:=(allA l).foldl predF []
def stratsOf(m:List (PK×Int)):List Strat:=m.map fun e=>⟨e.1.1,e.1.2,e.2⟩
section
variable{m:List (PK×Int)}{V:List PK}{k:PK}(hV:pKeys m=V)(hk:k∈V){o n:Nat}{ob:List (Nat×LObj)}(hl:look o ob=some (arrS (stratsOf m)))
include hV hk hl
end
structure NNR where
 i:Nat
 n:Nat
 m:List (PK×Int)
 ch:Bool
structure SmallL(l:List Clause):Prop where
 ok3:l.length<=40->∀c∈l,Clause.ok3 c
theorem checkF_ok:∀(l:List Clause)(i:Nat),(checkF l i).1=0->∀c∈l,clauseOk c=true
 |[],_,_,c,hc=>by cases hc
 |c::l,i,h,d,hd=>by
  simp only[checkF]at h
  by_cases hf:clauseOk c=false
  ·rw[if_pos hf]at h;simp at h
  ·rw[if_neg hf]at h
   by_cases hs:safeB c=false
   ·rw[if_pos hs]at h;simp at h
   ·rw[if_neg hs]at h
    rcases List.mem_cons.1 hd with rfl|hd
    ·simpa using hf
    ·exact checkF_ok l (i+1) h d hd
theorem check_ok{l:List Clause}(h:(checkB l).1=0):l.length<=40/\∀c∈l,clauseOk c=true:=by
 unfold checkB at h
 split at h
 ·simp at h
 ·rename_i h1
  exact⟨by omega,checkF_ok l 0 h⟩
theorem lit_kind{x:Lit}(h:litOk x=true):1<=x.kind/\x.kind<=6:=by
 unfold litOk at h
 split at h
 ·omega
 ·split at h
  ·omega
  ·cases h
structure GoodL(l:List Clause):Prop where
 len:l.length<=40
 body:∀c∈l,c.body.length<=5
 kind:∀c∈l,∀x∈c.body,1<=x.kind/\x.kind<=6
theorem good_of{l:List Clause}(h:(checkB l).1=0):GoodL l:=by
 obtain⟨h1,h2⟩:=check_ok h
 exact⟨h1,fun c hc=>(clause_parts (h2 c hc)).2.1,fun c hc x hx=>lit_kind ((clause_parts (h2 c hc)).2.2 x hx)⟩
theorem GoodL.initLen{l:List Clause}(h:GoodL l):(l.foldl initCl []).length<=240:=by
 have h1:=(init_fold l [] fun _=>rfl).2.2.2
 have h2:∀l:List Clause,(∀c∈l,c.body.length<=5)->(l.map fun c=>c.body.length+1).sum<=6*l.length:=by
  intro l
  induction l with
  |nil=>intro _;exact Nat.le_refl _
  |cons c l ih=>
   intro hb
   have a:=ih fun c hc=>hb c (List.mem_cons_of_mem _ hc)
   have b:=hb c List.mem_cons_self
   simp only[List.map_cons,List.sum_cons,List.length_cons]
   omega
 have h3:=h2 l h.body
 have h4:=h.len
 simp only[List.length_nil]at h1
 omega
theorem t_checked(l:List Clause)(hl:SmallL l)(fuel:Nat)(R:Option (List (PK×Int)))(hR:(checkB l).1=0->levN l fuel (l.foldl initCl [])=some R)(H:LHeap){kv kp:HP}
  (h0:(checkB l).1≠0->∀n,H.next<=n->kv (.tup [.sc (.map none),.int (checkB l).1]) ⟨H.objs,n⟩)
  (h1:(checkB l).1=0->R=none->∀n,H.next<=n->kv (.tup [.sc (.map none),.int 81]) ⟨H.objs,n⟩)
  (h2:(checkB l).1=0->∀m,R=some m->∀o n,H.next<=o->o<n->kv (.tup [.map o,.int 0]) ⟨(o,.map (encP m))::H.objs,n⟩):cP E0 F0 66 [clausesL l] H kv kp:=by
 refine cP_of_fn c66 fun hH=>⟨Nat.le_of_ble_eq_true rfl,?_⟩
 simp(disch:=omega)[b66]
 refine(t_Check l hl.ok3).go fun n hn=>?_
 by_cases hc:(checkB l).1=0
 case neg=>
  simp(disch:=omega)[hc]
  exact keep (h0 hc n hn)
 have hg:=good_of hc
 simp(disch:=omega)[hc]
 refine t_levels l (by have:=hg.len;omega) (fun c hcm=>by have:=hg.body c hcm;omega) (by have:=hg.initLen;omega) fuel R (hR hc) _ (fun hRn n2 hn2=>?_) (fun m hRm n2 hn2=>?_)
 ·dsimp only at hn2
  simp(disch:=omega)
  exact keep (h1 hc hRn n2 (by omega))
 ·dsimp only at hn2
  simp(disch:=omega)
  exact keep (h2 hc m hRm n n2 hn hn2)
theorem look_delsO{L:List Nat}{j:Nat}(h:L.contains j=false):∀{l:List (Nat×LObj)},look j (delsO L l)=look j l
 |[]=>rfl
 |(i,x)::r=>by
  simp only[delsO]
  by_cases hi:L.contains i=true
  ·rw[if_pos hi,look_delsO h]
   simp only[look]
   rw[if_neg]
   rintro rfl
   rw[hi]at h;cases h
  ·rw[if_neg hi]
   simp only[look]
   rw[look_delsO h]
def predM(l:List Clause):List (PK×Int):=(predsL l).map fun s=>((s.pred,s.args),s.level)
structure PredOk(l:List Clause):Prop where
 zero:∀k,pVal (predM l) k=0
 has:∀c∈l,∀k∈predC c,k∈pKeys (predM l)
def refS(l:List Clause):Option (List (PK×Int)):=refN l ((predM l).length+2) (predM l)
structure RowOk(aa:List Atom)(A B:List Strat):Prop where
 sub:∀x∈A,x∈B
 new:∀x∈B,x∈A\/(x.level=0/\∃a∈aa,keyS x=ofA a)
 all:∀a∈aa,∃x∈B,keyS x=ofA a
 ord:A.Pairwise keyLt->B.Pairwise keyLt
def hasP(k:PK)(W:List PK):Bool:=W.any (eqPK k)
structure NNG where
 f:Nat
 c:Nat
 n:Nat
 w:List PK
structure NNF where
 i:Nat
 n:Nat
 w:List PK
structure NNI2 where
 i:Nat
 n:Nat
 ns:List Int
 own:Own
 ob:List (Nat×LObj)
abbrev intsL(ns:List Int):List LV:=ns.map LV.int
theorem ints_all(ns:List Int):(intsL ns).all (fun e=>e.cells.length==1)=true:=by
 rw[List.all_map,List.all_eq_true]
 intro x _
 rfl
abbrev arrB(bits:List Bool):LObj:=.arr 1 (bits.map LV.bool)
def bitsOf(V U:List PK):List Bool:=V.map fun k=>hasP k U
section
variable{V U:List PK}{k:PK}(hk:k∈V){o n:Nat}{ob:List (Nat×LObj)}(hl:look o ob=some (arrB (bitsOf V U)))
include hk hl
end
theorem look_putO_ne{i j:Nat}{x:LObj}(h:i≠j):∀{l:List (Nat×LObj)},look i (putO j x l)=look i l
 |[]=>rfl
 |(k,y)::r=>by
  simp only[putO]
  by_cases hk:j=k
  ·subst hk
   rw[if_pos rfl]
   simp only[look]
   rw[if_neg h,if_neg h]
  ·rw[if_neg hk]
   simp only[look]
   rw[look_putO_ne h]
structure NNB where
 i:Nat
 n:Nat
 bs:List Bool
structure Stp where
 atom:Atom
 cl:Int
 frm:List Int
abbrev stepC(s:Stp):List LV:=[.str s.atom.pred,argsL s.atom.args,.int s.cl,.sl (s.frm.map LV.int) .no]
abbrev stepL(s:Stp):LV:=.agg (stepC s)
abbrev encM(M:List (ByteArray×Int)):List (LV×LV):=M.map fun e=>(.str e.1,.int e.2)
def lookM(k:ByteArray):List (ByteArray×Int)->Option Int
 |[]=>none
 |(j,v)::r=>if eqBA k j then some v else lookM k r
theorem findL_M(k:ByteArray):∀M:List (ByteArray×Int),findL (.pl 1) (.str k) (encM M)=some ((lookM k M).map LV.int)
 |[]=>rfl
 |(j,v)::r=>by
  have ih:=findL_M k r
  show (match eqK (.pl 1) (.str k) (.str j) with
   |some true=>some (some (LV.int v))
   |some false=>findL (.pl 1) (.str k) (encM r)
   |none=>none)=_
  rw[ih]
  simp only[eqK,eqB_s,lookM]
  cases eqBA k j<;>rfl
theorem setL_M(k:ByteArray)(v:Int):∀M:List (ByteArray×Int),lookM k M=none->setL (.pl 1) (.str k) (.int v) (encM M)=some (encM (M++[(k,v)]))
 |[],_=>rfl
 |(j,u)::r,h=>by
  simp only[lookM]at h
  by_cases he:eqBA k j=true
  ·rw[if_pos he]at h;cases h
  ·rw[if_neg he]at h
   have he':eqBA k j=false:=by simpa using he
   have ih:=setL_M k v r h
   show (match eqK (.pl 1) (.str k) (.str j) with
    |some true=>some ((LV.str j,LV.int v)::encM r)
    |some false=>(setL (.pl 1) (.str k) (.int v) (encM r)).map ((LV.str j,LV.int u)::·)
    |none=>none)=_
   rw[ih]
   simp only[eqK,eqB_s,he']
   rfl
def idxF:List Stp->Int->List (ByteArray×Int)
 |[],_=>[]
 |s::r,i=>(atomX s.atom,i)::idxF r (i+1)
theorem idxF_append(s:Stp):∀(F:List Stp)(i:Int),idxF (F++[s]) i=idxF F i++[(atomX s.atom,i+F.length)]
 |[],i=>by simp[idxF]
 |q::F,i=>by
  have ih:=idxF_append s F (i+1)
  simp only[List.cons_append,idxF,ih,List.length_cons]
  congr 4
  omega
theorem lookM_none{k:ByteArray}:∀{F:List Stp}{i:Int},lookM k (idxF F i)=none↔∀q∈F,atomX q.atom≠k
 |[],_=>by simp[idxF,lookM]
 |q::F,i=>by
  have ih:=lookM_none (k:=k) (F:=F) (i:=i+1)
  simp only[idxF,lookM]
  by_cases he:eqBA k (atomX q.atom)=true
  ·rw[if_pos he]
   have:=eqBA_iff.1 he
   constructor
   ·intro h;cases h
   ·intro h;exact absurd this.symm (h q List.mem_cons_self)
  ·rw[if_neg he,ih]
   have hne:atomX q.atom≠k:=fun e=>he (eqBA_iff.2 e.symm)
   constructor
   ·intro h x hx
    rcases List.mem_cons.1 hx with rfl|hx
    ·exact hne
    ·exact h x hx
   ·exact fun h x hx=>h x (List.mem_cons_of_mem _ hx)
structure FactsAt(ob:List (Nat×LObj))(fo am:Nat)(F:List Stp)(own:Own):Prop where
 pair:look fo ob=some (.cells [.map am,.sl (F.map stepL) own])
 map:look am ob=some (.map (encM (idxF F 0)))
 ne:fo≠am
 row:(own=.full/\F=[])\/∃t,own=.tok t/\t≠fo/\t≠am/\look t ob=some (.tok F.length 4)
def NoIt(ob:List (Nat×LObj)):Prop:=∀i m l k n,look i ob≠some (.iter m l k n)
def isIt:LObj->Bool
 |.iter _ _ _ _=>true
 |_=>false
theorem noIt_iff{ob:List (Nat×LObj)}:NoIt ob↔∀i x,look i ob=some x->isIt x=false:=by
 constructor
 ·intro h i x hx
  cases x<;>first|rfl|exact absurd hx (h _ _ _ _ _)
 ·intro h i m l k n hx
  exact absurd (h i _ hx) (by simp[isIt])
theorem NoIt.cons{ob:List (Nat×LObj)}(h:NoIt ob)(m:Nat){x:LObj}(hx:isIt x=false):NoIt ((m,x)::ob):=noIt_iff.2 fun i y hy=>by
 simp only[look]at hy
 split at hy
 ·cases hy;exact hx
 ·exact noIt_iff.1 h i y hy
theorem look_putO_or{o:Nat}{x:LObj}:∀{l:List (Nat×LObj)}{i:Nat}{y:LObj},look i (putO o x l)=some y->y=x\/look i l=some y
 |[],_,_,h=>by cases h
 |(j,z)::r,i,y,h=>by
  simp only[putO]at h
  split at h
  ·simp only[look]at h ⊢
   split at h
   ·cases h;exact .inl rfl
   ·rename_i hne;exact .inr (by rw[if_neg hne];exact h)
  ·simp only[look]at h ⊢
   split at h
   ·rename_i he;exact .inr (by rw[if_pos he];exact h)
   ·rename_i hne;rw[if_neg hne];exact look_putO_or h
theorem NoIt.put{ob:List (Nat×LObj)}(h:NoIt ob)(m:Nat){x:LObj}(hx:isIt x=false):NoIt (putO m x ob):=noIt_iff.2 fun i y hy=>by
 rcases look_putO_or hy with rfl|hy
 ·exact hx
 ·exact noIt_iff.1 h i y hy
def OwnNear(n:Nat)(own own':Own):Prop:=own'=own\/∃t,own'=.tok t/\n<=t
theorem lkM{H:LHeap}{o:Nat}{M:List (ByteArray×Int)}(h:look o H.objs=some (.map (encM M)))(k:ByteArray)(z:LV):lkL H (.pl 1) true z (.map o) (.str k)=some (match lookM k M with|some t=>.tup [.int t,.bool true]|none=>.tup [z,.bool false]):=by
 unfold lkL
 simp only[eqK,eqB_s,eqBA_self,Option.isSome_some,if_true,h,findL_M]
 cases lookM k M<;>rfl
theorem muM{H:LHeap}{o:Nat}{M:List (ByteArray×Int)}{k:ByteArray}(h:look o H.objs=some (.map (encM M)))(hn:lookM k M=none)(v:Int):muL H (.pl 1) (.map o) (.str k) (.int v)=some (H.put o (.map (encM (M++[(k,v)])))):=by
 unfold muL
 simp only[h,eqK,eqB_s,eqBA_self,Option.isNone_some,Bool.false_eq_true,if_false,setL_M _ _ _ hn,Option.map_some]
theorem steps_all(F:List Stp):(F.map stepL).all (fun e=>e.cells.length==4)=true:=by
 rw[List.all_map,List.all_eq_true]
 intro x _
 rfl
theorem t_add(s:Stp)(hs:atomOk s.atom=true)(fo am:Nat)(F:List Stp)(hF:F.length<=2^20)(own:Own)(ob:List (Nat×LObj))(n:Nat)(hA:FactsAt ob fo am F own){kv kp:HP}
  (h0:(∃q∈F,atomX q.atom=atomX s.atom)->∀n',n<=n'->kv (.tup []) ⟨ob,n'⟩)
  (h1:(∀q∈F,atomX q.atom≠atomX s.atom)->∀ob' n' own',n<=n'->FactsAt ob' fo am (F++[s]) own'->OwnNear n own own'->(NoIt ob->NoIt ob')->(∀i,i<n->i≠fo->i≠am->(∀t,own=.tok t->i≠t)->look i ob'=look i ob)->kv (.tup []) ⟨ob',n'⟩):
  cP E0 F0 46 [.ptr fo 0,stepL s] ⟨ob,n⟩ kv kp:=by
 refine cP_of_fn c46 fun hH=>⟨Nat.le_of_ble_eq_true rfl,?_⟩
 have hfo:fo<n:=hH.look hA.pair
 have ham:am<n:=hH.look hA.map
 simp(disch:=omega)[b46]
 refine(t_show s.atom hs).go fun n2 hn2=>?_
 simp(disch:=omega)[hA.pair]
 rw[lkM (by rw[look_ne (by omega)];exact hA.map)]
 cases hl:lookM (atomX s.atom) (idxF F 0) with
 |some t=>
  simp(disch:=omega)[resP_nil]
  have hex:∃q∈F,atomX q.atom=atomX s.atom:=by
   apply Classical.byContradiction
   intro hno
   have:=lookM_none (i:=0).2 fun q hq e=>hno ⟨q,hq,e⟩
   rw[hl]at this;cases this
  obtain⟨g1,g2⟩:=back (l:=(n,LObj.cells (stepC s))::ob) (n:=n2) hH (HExt.cons' hH (Nat.le_refl _) (by dsimp only;omega) (HExt.refl' _))
  exact⟨_,g1,g2,h0 hex n2 (by omega)⟩
 |none=>
  have hnone:=lookM_none.1 hl
  simp(disch:=omega)[hA.pair,hA.map]
  rw[muM (by rw[look_ne (by omega)];exact hA.map) hl]
  obtain⟨S,hS⟩:∃S,F.map stepL=S:=⟨_,rfl⟩
  have hall:=steps_all F
  have hpair:=hA.pair
  have hSl:S.length=F.length:=by rw[<-hS,List.length_map]
  have hF2:(F++[s]).map stepL=S++[stepL s]:=by rw[<-hS];simp
  have hidx:idxF (F++[s]) 0=idxF F 0++[(atomX s.atom,(F.length:Int))]:=by rw[idxF_append];simp
  rw[hS]at hall hpair
  rw[<-hidx]
  obtain⟨M2,hM2⟩:∃M2,LObj.map (encM (idxF (F++[s]) 0))=M2:=⟨_,rfl⟩
  have hMi:isIt M2=false:=by rw[<-hM2];rfl
  rw[hM2]
  have hna:fo≠am:=hA.ne
  have hlp:look fo (putO am M2 ob)=some (.cells [.map am,.sl S own]):=by rw[look_putO_ne hna];exact hpair
  simp(disch:=omega)[hlp]
  refine effP_ap ?_
  simp(disch:=omega)
  have hmap:look am (putO am M2 ob)=some M2:=look_putO hA.map
  rcases hA.row with⟨rfl,hFn⟩|⟨t,rfl,t1,t2,t3⟩
  ·rw[apL_new hall rfl (by rw[hSl];omega) (by omega)]
   simp(disch:=omega)[hlp,resP_nil]
   refine⟨_,HWk.refl _,fun h=>h,h1 hnone _ _ (.tok n2) (by omega) ⟨?_,?_,hna,.inr ⟨n2,rfl,by omega,by omega,?_⟩⟩ (.inr ⟨n2,rfl,by omega⟩) ?_ fun i hi hif hia _=>?_⟩
   ·rw[look_ne (by omega),look_ne (by omega),hF2]
    exact look_putO hlp
   ·rw[look_ne (by omega),look_ne (by omega),look_putO_ne (Ne.symm hna),hM2]
    exact hmap
   ·simp[look,hSl]
   ·exact fun hI=>NoIt.cons (NoIt.cons (NoIt.put (NoIt.put hI _ hMi) _ rfl) _ rfl) _ rfl
   ·rw[look_ne (by omega),look_ne (by omega),look_putO_ne hif,look_putO_ne hia]
  ·have htn:t<n:=hH.look t3
   have hlp2:look fo (putO t (LObj.tok (S.length+1) 4) (putO am M2 ob))=some (.cells [.map am,.sl S (.tok t)]):=by rw[look_putO_ne (Ne.symm t1)];exact hlp
   have htt:look t (putO am M2 ob)=some (.tok F.length 4):=by rw[look_putO_ne t2];exact t3
   rw[apL_tok hall rfl (by rw[hSl];omega) (by omega) (by omega) (by rw[look_ne (by omega),hSl];exact htt)]
   simp(disch:=omega)[hlp2,resP_nil]
   refine⟨_,HWk.refl _,fun h=>h,h1 hnone _ _ (.tok t) (by omega) ⟨?_,?_,hna,.inr ⟨t,rfl,t1,t2,?_⟩⟩ (.inl rfl) ?_ fun i hi hif hia hit=>?_⟩
   ·rw[look_ne (by omega),hF2]
    exact look_putO hlp2
   ·rw[look_ne (by omega),look_putO_ne (Ne.symm hna),look_putO_ne (Ne.symm t2),hM2]
    exact hmap
   ·rw[look_ne (by omega),look_putO_ne t1,look_putO htt]
    simp[hSl]
   ·exact fun hI=>NoIt.cons (NoIt.put (NoIt.put (NoIt.put hI _ hMi) _ rfl) _ rfl) _ rfl
   ·rw[look_ne (by omega),look_putO_ne hif,look_putO_ne (hit t rfl),look_putO_ne hia]
def hasF(k:ByteArray)(F:List Stp):Bool:=(lookM k (idxF F 0)).isSome
theorem hasF_iff{k:ByteArray}{F:List Stp}:hasF k F=true↔∃q∈F,atomX q.atom=k:=by
 unfold hasF
 constructor
 ·intro h
  apply Classical.byContradiction
  intro hno
  rw[lookM_none.2 fun q hq e=>hno ⟨q,hq,e⟩]at h
  cases h
 ·rintro⟨q,hq,e⟩
  cases hl:lookM k (idxF F 0) with
  |some v=>rfl
  |none=>exact absurd e (lookM_none.1 hl q hq)
def addF(F:List Stp)(s:Stp):List Stp:=if hasF (atomX s.atom) F then F else F++[s]
def freshF(F G:List Stp)(s:Stp):List Stp:=if hasF (atomX s.atom) F then G else if G.length<=300 then addF G s else G
theorem FactsAt.cons{ob:List (Nat×LObj)}{fo am n m:Nat}{F:List Stp}{own:Own}(h:FactsAt ob fo am F own)(hH:LHeap.Ok ⟨ob,n⟩)(hm:n<=m)(x:LObj):FactsAt ((m,x)::ob) fo am F own:=by
 have b1:fo<n:=hH.look h.pair
 have b2:am<n:=hH.look h.map
 refine⟨by rw[look_ne (by omega)];exact h.pair,by rw[look_ne (by omega)];exact h.map,h.ne,?_⟩
 rcases h.row with h1|⟨t,h1,h2,h3,h4⟩
 ·exact .inl h1
 ·have b3:t<n:=hH.look h4
  exact .inr ⟨t,h1,h2,h3,by rw[look_ne (by omega)];exact h4⟩
theorem t_do(a:Atom)(ha:atomOk a=true)(frm:List Int)(fv hv iv:Nat)(i:Int)(fo am go gm:Nat)(F G:List Stp)(hG:G.length<=2^20)(ownF own:Own)(ob:List (Nat×LObj))(n:Nat)
  (hF:FactsAt ob fo am F ownF) (hA:FactsAt ob go gm G own) (l1:look fv ob=some (.cells [.ptr fo 0])) (l2:look hv ob=some (.cells [.ptr go 0])) (l3:look iv ob=some (.cells [.int i])) {kv kp:HP}
  (hk:∀ob' n' own',n<=n'->FactsAt ob' go gm (freshF F G ⟨a,i,frm⟩) own'->OwnNear n own own'->(NoIt ob->NoIt ob')->(∀i,i<n->i≠go->i≠gm->(∀t,own=.tok t->i≠t)->look i ob'=look i ob)->kv (.tup []) ⟨ob',n'⟩):
  cP E0 F0 71 [atomL a,.sl (frm.map LV.int) .no,.ptr fv 0,.ptr hv 0,.ptr iv 0] ⟨ob,n⟩ kv kp:=by
 refine cP_of_fn c71 fun hH=>⟨Nat.le_of_ble_eq_true rfl,?_⟩
 have b1:fv<n:=hH.look l1
 have b2:hv<n:=hH.look l2
 have b3:iv<n:=hH.look l3
 have b4:fo<n:=hH.look hF.pair
 have b5:am<n:=hH.look hF.map
 have b6:go<n:=hH.look hA.pair
 simp(disch:=omega)[b71,l1,hF.pair]
 refine(t_show a ha).go fun n2 hn2=>?_
 simp(disch:=omega)
 rw[lkM (by rw[look_ne (by omega)];exact hF.map)]
 have hlast:∀(l:LObj),freshF F G ⟨a,i,frm⟩=G->∃H'',HWk ⟨(n,l)::ob,n2⟩ H''/\(LHeap.Ok ⟨(n,l)::ob,n2⟩->H''.Ok)/\kv (.tup []) H'':=fun l e=>by
  obtain⟨g1,g2⟩:=back (l:=(n,l)::ob) (n:=n2) hH (HExt.cons' hH (Nat.le_refl _) (by dsimp only;omega) (HExt.refl' _))
  exact⟨_,g1,g2,hk ob n2 own (by omega) (by rw[e];exact hA) (.inl rfl) id fun _ _ _ _ _=>rfl⟩
 have hGl:(G.map stepL).length=G.length:=List.length_map ..
 cases hl:lookM (atomX a) (idxF F 0) with
 |some t=>
  simp(disch:=omega)[resP_nil,l1,l2,l3,hF.pair,hA.pair]
  exact hlast _ (by simp[freshF,hasF,hl])
 |none=>
  by_cases h300:G.length<=300
  ·have h300':(G.length:Int)<=300:=by omega
   simp(disch:=omega)[l1,l2,l3,hF.pair,hA.pair,h300']
   have hnF:hasF (atomX a) F=false:=by simp[hasF,hl]
   refine t_add ⟨a,i,frm⟩ ha go gm G hG own _ n2 (hA.cons hH (Nat.le_refl _) _) (fun hex n3 hn3=>?_) (fun hno ob' n3 own' hn3 hA' hnear hnoit hsame=>?_)
   ·simp(disch:=omega)[resP_nil]
    have e:freshF F G ⟨a,i,frm⟩=G:=by simp[freshF,hnF,h300,addF,hasF_iff.2 hex]
    refine⟨_,HWk.refl _,fun h=>h,hk _ n3 own (by omega) (by rw[e];exact hA.cons hH (Nat.le_refl _) _) (.inl rfl) (fun hI=>hI.cons _ rfl) fun j hj _ _ _=>by rw[look_ne (by omega)]⟩
   ·simp(disch:=omega)[resP_nil]
    have hnG:hasF (atomX a) G=false:=by
     cases h:hasF (atomX a) G with
     |false=>rfl
     |true=>
      obtain⟨q,hq,e⟩:=hasF_iff.1 h
      exact absurd e (hno q hq)
    have e:freshF F G ⟨a,i,frm⟩=G++[⟨a,i,frm⟩]:=by simp[freshF,hnF,h300,addF,hnG]
    refine⟨_,HWk.refl _,fun h=>h,hk ob' n3 own' (by omega) (by rw[e];exact hA') (hnear.imp id fun⟨t,h1,h2⟩=>⟨t,h1,by omega⟩) (fun hI=>hnoit (hI.cons _ rfl)) fun j hj h1 h2 h3=>?_⟩
    rw[hsame j (by omega) h1 h2 h3,look_ne (by omega)]
  ·have h300':¬(G.length:Int)<=300:=by omega
   simp(disch:=omega)[l1,l2,l3,hF.pair,hA.pair,h300',resP_nil]
   exact hlast _ (by simp[freshF,h300])
end Go.Abs.Tz
namespace Go.Abs.Tz
open Go Go.Abs Go.Proofs
def restOk(F:List Stp)(K:Bind):List Lit->Bool
 |[]=>true
 |x::r=>if x.kind=1 then restOk F K r else if x.kind=2 then !hasF (atomX (fillA K x.atom)) F&&restOk F K r else cmpLit K x&&restOk F K r
def posL(b:List Lit):List Atom:=(b.filter fun x=>decide (x.kind=1)).map Lit.atom
def insts(F:List Stp)(c:Clause):List Atom->Bind->List Int->List (Bind×List Int)
 |[],K,frm=>if restOk F K c.body then [(K,frm)] else []
 |p::ps,K,frm=>(List.range F.length).flatMap fun j=>match F[j]? with
  |some s=>match bindKA K p s.atom with
   |some R=>insts F c ps R (frm++[(j:Int)])
   |none=>[]
  |none=>[]
def foldI{σ:Type}(step:σ->Atom->List Int->σ)(c:Clause)(l:List (Bind×List Int))(s:σ):σ:=l.foldl (fun s x=>step s (fillA x.1 c.head) x.2) s
theorem freshF_len(F G:List Stp)(s:Stp):G.length<=(freshF F G s).length/\(freshF F G s).length<=G.length+1:=by
 unfold freshF addF
 by_cases h1:hasF (atomX s.atom) F=true
 ·rw[if_pos h1];omega
 ·rw[if_neg h1]
  by_cases h2:G.length<=300
  ·rw[if_pos h2]
   by_cases h3:hasF (atomX s.atom) G=true
   ·rw[if_pos h3];omega
   ·rw[if_neg h3];simp
  ·rw[if_neg h2];omega
theorem freshF_max{F G:List Stp}{s:Stp}(h:G.length<=301):(freshF F G s).length<=301:=by
 have h1:=(freshF_len F G s).2
 by_cases h2:G.length<=300
 ·omega
 ·have:freshF F G s=G:=by
   unfold freshF
   by_cases h3:hasF (atomX s.atom) F=true
   ·rw[if_pos h3]
   ·rw[if_neg h3,if_neg h2]
  rw[this];exact h
end Go.Abs.Tz
namespace Go.Abs.Tz
open Go Go.Abs Go.Proofs
def atomG(a:Atom):Prop:=atomOk a=true/\a.args.all notVar=true
structure GoodB(K:Bind):Prop where
 nd:(keysB K).Nodup
 ok:∀e∈K,termOk e.2=true/\notVar e.2=true
theorem GoodB.nil:GoodB []:=⟨.nil,fun e h=>by cases h⟩
def ExtB(K R:Bind):Prop:=∀k v,findB k K=some v->findB k R=some v
theorem ExtB.refl(K:Bind):ExtB K K:=fun _ _ h=>h
theorem ExtB.trans{K L R:Bind}(h:ExtB K L)(k:ExtB L R):ExtB K R:=fun x v hx=>k x v (h x v hx)
def BoundIn(K:Bind)(ts:List Term):Prop:=∀t∈ts,t.kind=3->(findB t.s K).isSome=true
theorem BoundIn.ext{K R:Bind}{ts:List Term}(h:BoundIn K ts)(he:ExtB K R):BoundIn R ts:=fun t ht hk=>by
 obtain⟨v,hv⟩:=Option.isSome_iff_exists.1 (h t ht hk)
 rw[he _ _ hv];rfl
theorem findB_app{k:ByteArray}{v:Term}:∀{E X:Bind},findB k E=some v->findB k (E++X)=some v
 |[],_,h=>by cases h
 |(j,u)::r,X,h=>by
  simp only[findB,List.cons_append]at h ⊢
  split
  ·rename_i hj;rw[if_pos hj]at h;exact h
  ·rename_i hj;rw[if_neg hj]at h;exact findB_app h
theorem findB_last{k:ByteArray}{v:Term}:∀{E:Bind},findB k E=none->findB k (E++[(k,v)])=some v
 |[],_=>by simp[findB,eqBA_self]
 |(j,u)::r,h=>by
  simp only[findB,List.cons_append]at h ⊢
  split
  ·rename_i hj;rw[if_pos hj]at h;cases h
  ·rename_i hj;rw[if_neg hj]at h;exact findB_last h
theorem fillT_ext{K R:Bind}(h:ExtB K R){t:Term}(hb:t.kind=3->(findB t.s K).isSome=true):fillT R t=fillT K t:=by
 unfold fillT
 by_cases hk:t.kind=3
 ·obtain⟨v,hv⟩:=Option.isSome_iff_exists.1 (hb hk)
  rw[if_pos hk,if_pos hk,hv,h _ _ hv]
 ·rw[if_neg hk,if_neg hk]
theorem fillA_ext{K R:Bind}(h:ExtB K R){a:Atom}(hb:BoundIn K a.args):fillA R a=fillA K a:=by
 unfold fillA
 congr 1
 exact List.map_congr_left fun t ht=>fillT_ext h (hb t ht)
theorem bindR_spec:∀(ps qs:List Term)(K R:Bind),GoodB K->(∀q∈qs,termOk q=true/\notVar q=true)->ps.length=qs.length->bindR K ps qs=some R ->
  GoodB R/\ExtB K R/\BoundIn R ps/\ps.map (fillT R)=qs
 |[],[],K,R,hK,_,_,h=>by
  simp only[bindR,Option.some.injEq]at h
  subst h
  exact⟨hK,.refl _,fun t ht=>(by cases ht),rfl⟩
 |[],_::_,_,_,_,_,hl,_=>by simp at hl
 |_::_,[],_,_,_,_,hl,_=>by simp at hl
 |p::ps,q::qs,K,R,hK,hq,hl,h=>by
  have hl':ps.length=qs.length:=by simpa using hl
  have hq':∀x∈qs,termOk x=true/\notVar x=true:=fun x hx=>hq x (List.mem_cons_of_mem _ hx)
  simp only[bindR]at h
  by_cases hk:p.kind=3
  ·rw[if_pos hk]at h
   have fin:∀K':Bind,GoodB K'->ExtB K K'->findB p.s K'=some q->bindR K' ps qs=some R->GoodB R/\ExtB K R/\BoundIn R (p::ps)/\(p::ps).map (fillT R)=q::qs:=by
    intro K' h1 h2 h3 h4
    obtain⟨g1,g2,g3,g4⟩:=bindR_spec ps qs K' R h1 hq' hl' h4
    refine⟨g1,h2.trans g2,fun t ht htk=>?_,?_⟩
    ·rcases List.mem_cons.1 ht with rfl|ht
     ·rw[g2 _ _ h3];rfl
     ·exact g3 t ht htk
    ·rw[List.map_cons,g4]
     congr 1
     unfold fillT
     rw[if_pos hk,g2 _ _ h3];rfl
   cases hf:findB p.s K with
   |some old=>
    rw[hf]at h
    simp only at h
    split at h
    ·rename_i he
     have:=eqT_iff he
     subst this
     exact fin K hK (.refl _) hf h
    ·cases h
   |none=>
    rw[hf]at h
    simp only at h
    refine fin _ ⟨?_,fun e he=>?_⟩ (fun k v hv=>findB_app hv) (findB_last hf) h
    ·unfold keysB
     rw[List.map_append]
     refine List.nodup_append.2 ⟨hK.nd,by simp,fun x hx y hy e=>?_⟩
     simp at hy
     subst hy
     subst e
     exact findB_none hf hx
    ·rcases List.mem_append.1 he with he|he
     ·exact hK.ok e he
     ·simp at he
      subst he
      exact hq q List.mem_cons_self
  ·rw[if_neg hk]at h
   split at h
   ·rename_i he
    have e:=eqT_iff he
    obtain⟨g1,g2,g3,g4⟩:=bindR_spec ps qs K R hK hq' hl' h
    refine⟨g1,g2,fun t ht htk=>?_,?_⟩
    ·rcases List.mem_cons.1 ht with rfl|ht
     ·exact absurd htk hk
     ·exact g3 t ht htk
    ·rw[List.map_cons,g4]
     congr 1
     unfold fillT
     rw[if_neg hk,e]
   ·cases h
theorem atomG.args{a:Atom}(h:atomG a):∀q∈a.args,termOk q=true/\notVar q=true:=fun q hq=>
 ⟨List.all_eq_true.1 (atom_args h.1).2 q hq,List.all_eq_true.1 h.2 q hq⟩
theorem bindKA_spec{K R:Bind}{p a:Atom}(hK:GoodB K)(ha:atomG a)(h:bindKA K p a=some R):GoodB R/\ExtB K R/\BoundIn R p.args/\fillA R p=a:=by
 unfold bindKA at h
 split at h
 ·rename_i hc
  simp only[Bool.and_eq_true,decide_eq_true_eq]at hc
  obtain⟨g1,g2,g3,g4⟩:=bindR_spec _ _ K R hK ha.args hc.2 h
  refine⟨g1,g2,g3,?_⟩
  unfold fillA
  rw[g4,eqBA_iff.1 hc.1]
 ·cases h
theorem GoodB.find{K:Bind}(h:GoodB K){k:ByteArray}{v:Term}(hf:findB k K=some v):termOk v=true/\notVar v=true:=h.ok _ ((findB_iff h.nd).1 hf)
theorem fillT_ok{K:Bind}(h:GoodB K){t:Term}(ht:termOk t=true)(hb:t.kind=3->(findB t.s K).isSome=true):termOk (fillT K t)=true/\notVar (fillT K t)=true:=by
 unfold fillT
 by_cases hk:t.kind=3
 ·obtain⟨v,hv⟩:=Option.isSome_iff_exists.1 (hb hk)
  rw[if_pos hk,hv]
  exact h.find hv
 ·rw[if_neg hk]
  exact⟨ht,by simp[notVar,hk]⟩
theorem fillA_ok{K:Bind}(h:GoodB K){a:Atom}(ha:atomOk a=true)(hb:BoundIn K a.args):atomG (fillA K a):=by
 have h1:=atom_args ha
 have h2:∀t∈(fillA K a).args,termOk t=true/\notVar t=true:=by
  intro t ht
  obtain⟨u,hu,rfl⟩:=List.mem_map.1 (show t∈a.args.map (fillT K) from ht)
  exact fillT_ok h (List.all_eq_true.1 h1.2 u hu) (hb u hu)
 refine⟨?_,List.all_eq_true.2 fun t ht=>(h2 t ht).2⟩
 have h3:wordOk 97 122 a.pred=true:=by
  unfold atomOk at ha
  simp only[Bool.and_eq_true]at ha
  exact ha.1
 unfold atomOk
 rw[show (fillA K a).pred=a.pred from rfl,h3,show (fillA K a).args.length=a.args.length from List.length_map _,List.all_eq_true.2 fun t ht=>(h2 t ht).1]
 simp[h1.1]
theorem ofA_fill(K:Bind)(a:Atom):ofA (fillA K a)=ofA a:=by
 unfold ofA fillA
 simp
theorem termOk_ok{t:Term}(h:termOk t=true):t.ok:=by
 unfold Term.ok
 rcases term_cases h with⟨_,e⟩|⟨_,_,e⟩|⟨_,_,e⟩
 ·rw[e];exact Nat.pow_pos (by omega)
 ·have:=word_size e;omega
 ·have:=word_size e;omega
theorem atomOk_ok{a:Atom}(h:atomOk a=true):a.ok:=by
 have h1:=atom_args h
 unfold atomOk at h
 simp only[Bool.and_eq_true]at h
 have:=word_size h.1
 exact⟨by omega,by omega,fun t ht=>termOk_ok (List.all_eq_true.1 h1.2 t ht)⟩
structure CGood(c:Clause):Prop where
 ok:clauseOk c=true
 safe:safeB c=true
theorem posL_mem{c:Clause}{p:Atom}(h:p∈posL c.body):∃x∈c.body,x.kind=1/\x.atom=p:=by
 obtain⟨x,hx,e⟩:=List.mem_map.1 h
 obtain⟨h1,h2⟩:=List.mem_filter.1 hx
 exact⟨x,h1,by simpa using h2,e⟩
theorem mem_posL{c:Clause}{x:Lit}(h:x∈c.body)(hk:x.kind=1):x.atom∈posL c.body:=List.mem_map.2 ⟨x,List.mem_filter.2 ⟨h,by simp[hk]⟩,rfl⟩
theorem litOk_atom{x:Lit}(h:litOk x=true)(hk:x.kind=1\/x.kind=2):atomOk x.atom=true:=by
 unfold litOk at h
 rw[if_pos hk]at h
 simp only[Bool.and_eq_true]at h
 exact h.1
theorem CGood.posOk{c:Clause}(h:CGood c):∀p∈posL c.body,atomOk p=true:=fun p hp=>by
 obtain⟨x,hx,hk,rfl⟩:=posL_mem hp
 exact litOk_atom ((clause_parts h.ok).2.2 x hx) (.inl hk)
theorem CGood.bound{c:Clause}(h:CGood c){K:Bind}(hp:∀p∈posL c.body,BoundIn K p.args):BoundIn K c.head.args/\(∀x∈c.body,x.kind=2->BoundIn K x.atom.args)/\∀x∈c.body,x.kind≠1->x.kind≠2->BoundIn K [x.a,x.b]:=by
 have hs:=h.safe
 unfold safeB at hs
 rw[List.all_eq_true]at hs
 have key:∀v,v∈(litsV c.body ([],addVs c.head.args [])).2->(findB v K).isSome=true:=by
  intro v hv
  have h1:=hasV_iff.1 (hs v hv)
  rcases litsV_1.1 h1 with h2|⟨x,hx,hk,t,ht,htk,rfl⟩
  ·cases h2
  ·exact hp _ (mem_posL hx hk) t ht htk
 refine⟨fun t ht hk=>key _ (litsV_2.2 (.inl (mem_addVs.2 (.inr ⟨t,ht,hk,rfl⟩)))),fun x hx hk t ht htk=>key _ (litsV_2.2 (.inr ⟨x,hx,by omega,t,by rw[if_pos hk];exact ht,htk,rfl⟩)),fun x hx h1 h2 t ht htk=>key _ (litsV_2.2 (.inr ⟨x,hx,h1,t,by rw[if_neg h2];exact ht,htk,rfl⟩))⟩
theorem CGood.leaf{c:Clause}(h:CGood c){K:Bind}(hK:GoodB K)(hp:∀p∈posL c.body,BoundIn K p.args):(∀x∈c.body,x.kind=2->atomG (fillA K x.atom))/\atomG (fillA K c.head):=by
 obtain⟨h1,h2,_⟩:=h.bound hp
 exact⟨fun x hx hk=>fillA_ok hK (litOk_atom ((clause_parts h.ok).2.2 x hx) (.inr hk)) (h2 x hx hk),fillA_ok hK (clause_parts h.ok).1 h1⟩
end Go.Abs.Tz
