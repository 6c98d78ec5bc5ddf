/- Part of the proof that for every row of clauses, every atom and every source the law CustomTexts returns true. Conditions: none. -/
import Derived.Test.YtjdooijejbmbnaaGreatDoorPartG
import Derived.Test.YtjdooijejbmbnaaGreatDoorPartI
import Derived.Test.YtjdooijejbmbnaaGreatDoorPartD
import Derived.Lib.AtoiAllCases
set_option linter.unusedVariables false
set_option linter.unusedSimpArgs false
set_option linter.unusedSectionVars false
namespace Go.Abs.Tz
open Go Go.Abs Go.Proofs
set_option maxRecDepth 20000
set_option linter.unusedSimpArgs false
attribute [local simp ↓] getP_nil getP_node setP_nil setP_node oneP_eq vP_map vP_some vP_none vP_bind eP_some bP_true bP_false gP_yes gP_tf gP_ft gP_tup runP_skip runP_ops runP_drw runP_seq runP_cond runP_blk runP_loop runP_exit runP_ret seqK_n seqK_r seqK_e seqK_p blkK_n blkK_r blkK_e blkK_p loopK_n loopK_r loopK_e loopK_p finK_n finK_r finK_p resP_one resP_two resP_three resP_nil resP_c nxP_nil argsP_nil argsP_cons evP_t evP_c evP_g evsP_nil evsP_cons clP_fn clP_yld clfP_fn pnP_i opsP_nil opsP_d opsP_x opsP_gt opsP_gf opP_cf opP_cl opP_pn opP_nx valP_mv valP_pk valP_eq valP_bn valP_nt valP_ld valP_fa valP_fd valP_ia valP_ix valP_ln valP_srn valP_srl valP_srh valP_srb valP_cv valP_mi valP_mf valP_xt valP_bs valP_bd valP_nc valP_mn valP_lk valP_ta opP_mv opP_pk opP_eq opP_bn opP_nt opP_ld opP_fa opP_fd opP_ia opP_ix opP_ln opP_sr opP_cv opP_mi opP_mf opP_xt opP_bs opP_bd opP_nc opP_mn opP_lk opP_ta opP_al opP_bx opP_st opP_ap opP_mk opP_nb opP_mu opP_rg opP_en pendP_nil pendP_d pendP_g drwP_nil drwP_d drwP_x drwP_gt drwP_gf look_self natOf_nat
attribute [local simp] faL fdL iaL ixL loadL partL lenL eqK eqL natOf eqB_s eqB_i eqB_b bn_add bn_sub bn_lss bn_leq bn_gtr bn_geq bn_adds bn_lsss bn_gtrs bn_leqs bn_geqs sliceL LV.cells LV.whole look_self put_self putO_self put_eq stL fillL termC dopP LHeap.alloc oneI oneS oneB nth0 nth1 nth2 nth3 nth4 nth5 nth6 nth7 nth8 nth9 look_ne putO_ne
def endN(p:Int->Bool)(s:ByteArray)(i:Nat):Nat:=i+runN p ((sL s).drop i)
theorem runN_len(p:Int->Bool):∀l:List UInt8,runN p l<=l.length
 |[]=>Nat.le_refl _
 |c::r=>by
  have:=runN_len p r
  unfold runN
  rw[List.length_cons]
  split<;>omega
theorem sL_len(s:ByteArray):(sL s).length=s.size:=by
 unfold sL
 rw[Array.length_toList]
 rfl
theorem byteG{s:ByteArray}{i:Nat}(h:i<s.size):∃c,s.data[i]? = some c/\(sL s).drop i=c::(sL s).drop (i+1):=by
 obtain⟨c,h1,h2⟩:=byte_at h
 exact⟨c,by rw[<-h1];exact Array.getElem?_eq_getElem _,h2⟩
theorem endN_le{p:Int->Bool}{s:ByteArray}{i:Nat}(hi:i<=s.size):i<=endN p s i/\endN p s i<=s.size:=by
 have h:=runN_len p ((sL s).drop i)
 rw[List.length_drop,sL_len]at h
 unfold endN
 omega
structure NNInA where
 i:Nat
 n:Nat
theorem t_runF(s:ByteArray)(hs:s.size<2^40)(i0:Nat)(hi0:i0<=s.size)(f:FuncId)(p:Int->Bool)(hp:∀n,PureT f [U n] (.bool (p n))):PureT 96 [.str s,.int i0,.fn (.func f) [] []] (.int (endN p s i0)):=by
 refine PureT.of c96 fun H hH=>⟨Nat.le_of_ble_eq_true rfl,?_⟩
 obtain⟨V,hV⟩:∃V,endN p s i0=V:=⟨_,rfl⟩
 rw[hV]
 simp(disch:=omega)[b96]
 refine lP_enter (σ:=NNInA) (fun q=>(.nd (.str s) (.nd (.int q.i) .nil .nil) (.nd (.fn (.func f) [] []) .nil .nil))) (fun q=>⟨H.objs,q.n⟩) (fun q=>s.size - q.i)
  (fun q=>H.next<=q.n/\q.i<=s.size/\endN p s q.i=V) ⟨i0,H.next⟩ ⟨Nat.le_refl _,hi0,hV⟩ (by simp[FT.Le,Wk]) ⟨HWk.refl _,fun h=>h⟩ ?_
 rintro⟨i,n⟩ ⟨hn,hi,he⟩ hok
 simp only at hn hi he
 unfold endN at he
 by_cases hlt:i<s.size
 case neg=>
  rw[List.drop_eq_nil_of_le (by rw[sL_len];omega)]at he
  have he2:i=V:=he
  subst he2
  simp(disch:=omega)[hlt]
  exact doneK hH (by first|rfl|simp[])
 obtain⟨c,hc,hd⟩:=byteG hlt
 rw[hd]at he
 simp(disch:=omega)[hlt,hc]
 refine(hp _).go fun n1 h1=>?_
 cases hl:p (c.toNat:Int)
 ·have he2:i=V:=by rw[<-he];unfold runN;rw[if_neg (by rw[hl];simp)];rfl
  subst he2
  simp(disch:=omega)
  exact doneK hH (by first|rfl|simp[])
 ·have he2:endN p s (i+1)=V:=by
   rw[<-he]
   unfold endN
   conv=>rhs;unfold runN
   rw[if_pos hl]
   omega
  simp(disch:=omega)[wrap_nat (show i<2^62 by omega)]
  exact⟨⟨i+1,n1⟩,by dsimp only;omega,⟨by dsimp only;omega,by dsimp only;omega,he2⟩,by simp[FT.Le,Wk],HWk.refl _,fun h=>h⟩
def zeroT(t:Term):Bool:=decide (t.kind=0)&&(decide (t.n=0)&&eqBA t.s ⟨⟨[]⟩⟩)
def litOk(l:Lit):Bool:=
 if l.kind=1\/l.kind=2 then atomOk l.atom&&(zeroT l.a&&zeroT l.b)
 else if l.kind=3\/l.kind=4\/l.kind=5\/l.kind=6 then termOk l.a&&(termOk l.b&&(eqBA l.atom.pred ⟨⟨[]⟩⟩&&decide (l.atom.args.length=0)))
 else false
def Lit.ok2(l:Lit):Prop:=l.atom.ok/\l.a.ok/\l.b.ok
theorem t_formedLiteral(l:Lit)(hl:l.ok2):PureT 74 [litL l] (.bool (litOk l)):=by
 refine PureT.of c74 fun H hH=>⟨Nat.le_of_ble_eq_true rfl,?_⟩
 by_cases h12:l.kind=1\/l.kind=2
 ·have e1:(decide (l.a.kind=0)&&(decide (l.a.n=0)&&eqBA l.a.s ⟨⟨[]⟩⟩))=zeroT l.a:=rfl
  have e2:(decide (l.b.kind=0)&&(decide (l.b.n=0)&&eqBA l.b.s ⟨⟨[]⟩⟩))=zeroT l.b:=rfl
  rcases h12 with h1|h1
  all_goals
   simp[b74,h1]
   refine(t_formedAtom l.atom hl.1).go fun n hn=>?_
   cases ha:atomOk l.atom
   ·simp
    exact doneK hH (by simp[litOk,h1,ha])
   simp[e1]
   cases hz:zeroT l.a
   ·simp
    exact doneK hH (by simp[litOk,h1,ha,hz])
   simp[e2]
   exact doneK hH (by simp[litOk,h1,ha,hz])
 have h1:¬l.kind=1:=fun e=>h12 (.inl e)
 have h2:¬l.kind=2:=fun e=>h12 (.inr e)
 by_cases hk:l.kind=3\/l.kind=4\/l.kind=5\/l.kind=6
 ·rcases hk with h3|h3|h3|h3
  all_goals
   simp[b74,h3]
   refine(t_formedTerm l.a hl.2.1).go fun n hn=>?_
   cases ha:termOk l.a
   ·simp
    exact doneK hH (by simp[litOk,h3,ha])
   simp
   refine(t_formedTerm l.b hl.2.2).go fun n1 hn1=>?_
   cases hb:termOk l.b
   ·simp
    exact doneK hH (by simp[litOk,h3,ha,hb])
   simp
   cases hp:eqBA l.atom.pred ⟨⟨[]⟩⟩
   ·simp
    exact doneK hH (by simp[litOk,h3,ha,hb,hp])
   simp
   exact doneK hH (by simp[litOk,h3,ha,hb,hp])
 ·have h3:¬l.kind=3:=fun e=>hk (.inl e)
  have h4:¬l.kind=4:=fun e=>hk (.inr (.inl e))
  have h5:¬l.kind=5:=fun e=>hk (.inr (.inr (.inl e)))
  have h6:¬l.kind=6:=fun e=>hk (.inr (.inr (.inr e)))
  simp[b74,h1,h2,h3,h4,h5,h6]
  exact doneK hH (by simp[litOk,h1,h2,h3,h4,h5,h6])
def Clause.ok2(c:Clause):Prop:=c.head.ok/\c.body.length<2^40/\∀l∈c.body,Lit.ok2 l
def clauseOk(c:Clause):Bool:=atomOk c.head&&(decide (c.body.length<=5)&&c.body.all litOk)
theorem t_formed(c:Clause)(hc:c.ok2):PureT 37 [clauseL c] (.bool (clauseOk c)):=by
 refine PureT.of c37 fun H hH=>⟨Nat.le_of_ble_eq_true rfl,?_⟩
 simp[b37]
 refine(t_formedAtom c.head hc.1).go fun n hn=>?_
 cases h1:atomOk c.head
 ·simp
  exact doneK hH (by simp[clauseOk,h1])
 by_cases h2:(5:Int)<(c.body.length:Int)
 ·simp[h2]
  exact doneK hH (by simp[clauseOk,h1,show ¬c.body.length<=5 by omega])
 have h3:c.body.length<=5:=by omega
 simp[h2]
 obtain⟨A,hA⟩:∃A,c.body.all litOk=A:=⟨_,rfl⟩
 refine lP_enter (σ:=NN) (fun q=>(.nd (clauseL c) (.nd .bot .nil (.nd .bot (.nd .bot (.nd (.int c.body.length) .nil .nil) .nil) .nil)) (.nd (.bool false) (.nd .bot (.nd .bot (.nd (bodyL c.body) .nil .nil) .nil) .nil) (.nd .bot (.nd .bot (.nd (.int q.i) .nil .nil) .nil) .nil)))) (fun q=>⟨H.objs,q.n⟩) (fun q=>c.body.length - q.i)
  (fun q=>H.next<=q.n/\q.i<=c.body.length/\(c.body.drop q.i).all litOk=A) ⟨0,n⟩ ⟨by dsimp only;omega,Nat.zero_le _,hA⟩ (by simp[FT.Le,Wk]) (backK hH) ?_
 rintro⟨i,n⟩ ⟨hn,hi,he⟩ hok
 simp only at hn hi he
 by_cases hlt:i<c.body.length
 ·rw[all_drop litOk hlt]at he
  simp[hlt]
  refine(t_formedLiteral c.body[i] (hc.2.2 _ (mem_at hlt))).go fun n1 h1'=>?_
  cases ht:litOk c.body[i]
  ·rw[ht,Bool.false_and]at he
   simp
   exact doneK hH (by simp[clauseOk,h1,hA,<-he])
  ·rw[ht,Bool.true_and]at he
   simp[wrap_nat (show i<2^62 by omega)]
   exact⟨⟨i+1,n1⟩,by dsimp only;omega,⟨by dsimp only;omega,by dsimp only;omega,he⟩,by simp[FT.Le,Wk],backK hH⟩
 ·obtain rfl:i=c.body.length:=by omega
  rw[List.drop_eq_nil_of_le (Nat.le_refl _),List.all_nil]at he
  simp
  exact doneK hH (by simp[clauseOk,h1,h3,hA,<-he])
abbrev clausesL(l:List Clause):LV:=.sl (l.map clauseL) .no
def Clause.ok3(c:Clause):Prop:=c.ok2/\c.ok
theorem ba_app(a b:List UInt8):((⟨⟨a⟩⟩:ByteArray)++(⟨⟨b⟩⟩:ByteArray))=⟨⟨a++b⟩⟩:=by
 apply ByteArray.ext
 simp
theorem ba_size(a:List UInt8):(⟨⟨a⟩⟩:ByteArray).size=a.length:=rfl
theorem digits_le:∀(k u:Nat),u<10^(k+1)->(Lib.decDigits u).length<=k+1
 |0,u,h=>by
  have h':u<10:=by simpa using h
  rw[Lib.decDigits,dif_pos h'];simp
 |k+1,u,h=>by
  by_cases h':u<10
  ·rw[Lib.decDigits,dif_pos h'];simp
  ·have:=digits_le k (u / 10) (by rw[Nat.pow_succ]at h;omega)
   rw[Lib.decDigits,dif_neg h',List.length_append]
   simp only[List.length_cons,List.length_nil]
   omega
theorem digits_13{u:Nat}(h:u<=2^40):(Lib.decDigits u).length<=13:=digits_le 12 u (by omega)
def termX(t:Term):ByteArray:=if t.kind=1 then ⟨⟨Lib.itoa t.n⟩⟩ else t.s
theorem t_showTerm(t:Term)(h:t.kind=1->-(2^40)<=t.n/\t.n<=2^40):PureT 76 [termL t] (.str (termX t)):=by
 refine PureT.of c76 fun H hH=>⟨Nat.le_of_ble_eq_true rfl,?_⟩
 by_cases h1:t.kind=1
 ·have:=h h1
  simp(disch:=omega)[b76,h1]
  refine(t_itoaG t.n (by omega) (by omega)).go fun n hn=>?_
  simp(disch:=omega)
  exact doneK hH (by simp[termX,h1])
 ·simp(disch:=omega)[b76,h1]
  exact doneK hH (by simp[termX,h1])
def valL:Int->List UInt8->Int
 |n,[]=>n
 |n,c::r=>valL (if 1099511627776<10*n+((c.toNat:Int) - 48) then 1099511627776 else 10*n+((c.toNat:Int) - 48)) r
structure NNIo where
 i:Nat
 n:Nat
 v:Int
theorem extr_list(s:ByteArray)(i j:Nat):(s.extract i j).data.toList=((sL s).drop i).take (j - i):=by
 rw[ByteArray.data_extract,Array.toList_extract,List.extract_eq_take_drop]
 rfl
def oneMark(n:Int):Bool:=decide (n=40)||(decide (n=41)||(decide (n=44)||(decide (n=46)||(decide (n=61)||(decide (n=60)||decide (n=62))))))
def twoMark(n k:Int):Bool:=decide (k=61)&&(decide (n=33)||(decide (n=60)||decide (n=62)))
def markL:List UInt8->Nat
 |[]=>0
 |[c]=>if oneMark (c.toNat:Int) then 1 else 0
 |c::d::_=>if twoMark (c.toNat:Int) (d.toNat:Int) then 2 else if oneMark (c.toNat:Int) then 1 else 0
structure Tok where
 kind:Int
 text:ByteArray
 at_:Int
 n:Int
abbrev tokC(t:Tok):List LV:=[.int t.kind,.str t.text,.int t.at_]
abbrev tokL(t:Tok):LV:=.agg (tokC t)
abbrev parC(L:List Tok)(own:Own)(i:Nat)(b:Bool):LObj:=.cells [.sl (L.map tokL) own,.int i,.bool b]
def kAt(L:List Tok)(i:Nat):Int:=if h:i<L.length then L[i].kind else 0
theorem kAt_lt{L:List Tok}{i:Nat}(h:i<L.length):kAt L i=L[i].kind:=by unfold kAt;rw[dif_pos h]
theorem kAt_ge{L:List Tok}{i:Nat}(h:¬i<L.length):kAt L i=0:=by unfold kAt;rw[dif_neg h]
section
variable{L:List Tok}{own:Own}{i:Nat}{b:Bool}{m n:Nat}{ob:List (Nat×LObj)}
theorem t_kind(hL:L.length<=2^20)(hi:i<=L.length)(j:Nat)(hj:j<=1)(hl:look m ob=some (parC L own i b)){kv kp:HP}(hk:∀n',n<=n'->kv (.int (kAt L (i+j))) ⟨ob,n'⟩):
  cP E0 F0 69 [.ptr m 0,.int j] ⟨ob,n⟩ kv kp:=by
 refine cP_of_fn c69 fun hH=>⟨Nat.le_of_ble_eq_true rfl,?_⟩
 obtain⟨s,hs⟩:∃s,i+j=s:=⟨_,rfl⟩
 have hw:IntKind.wrap .i64 ((i:Int)+(j:Int))=(s:Int):=by rw[wrap_id (by omega) (by omega)];omega
 rw[hs]at hk
 by_cases h:s<L.length
 ·rw[kAt_lt h]at hk
  simp(disch:=omega)[b69,hl,hw,h]
  exact⟨⟨ob,n⟩,HWk.refl _,fun h=>h,hk _ (Nat.le_refl _)⟩
 ·rw[kAt_ge h]at hk
  simp(disch:=omega)[b69,hl,hw,h]
  exact⟨⟨ob,n⟩,HWk.refl _,fun h=>h,hk _ (Nat.le_refl _)⟩
def isM(L:List Tok)(i:Nat)(x:ByteArray):Bool:=if h:i<L.length then decide (L[i].kind=4)&&eqBA L[i].text x else false
def anyM(L:List Tok)(i:Nat)(xs:List ByteArray):Bool:=xs.any (isM L i)
abbrev marksL(xs:List ByteArray):List LV:=xs.map LV.str
structure NNIa where
 i:Nat
 n:Nat
theorem t_is(hL:L.length<=2^20)(hi:i<=L.length)(xs:List ByteArray)(hx:xs.length<=100)(ow:Own)(hl:look m ob=some (parC L own i b)){kv kp:HP}
  (hk0:anyM L i xs=false->∀n',n<=n'->kv (.bool false) ⟨ob,n'⟩) (hk1:anyM L i xs=true->i<L.length->∀n',n<=n'->kv (.bool true) ⟨putO m (parC L own (i+1) b) ob,n'⟩):
  cP E0 F0 56 [.ptr m 0,.sl (marksL xs) ow] ⟨ob,n⟩ kv kp:=by
 refine cP_of_fn c56 fun hH=>⟨Nat.le_of_ble_eq_true rfl,?_⟩
 have hOb:Desc ob n:=hH
 obtain⟨A,hA⟩:∃A,anyM L i xs=A:=⟨_,rfl⟩
 rw[hA]at hk0 hk1
 simp(disch:=omega)[b56]
 refine lP_enter (σ:=NNIa) (fun q=>(.nd (.ptr m 0) (.nd .bot (.nd .bot (.nd (.sl (marksL xs) ow) .nil .nil) .nil) (.nd .bot (.nd (.int q.i) .nil .nil) .nil)) (.nd .bot (.nd .bot (.nd (.int xs.length) .nil .nil) .nil) .nil))) (fun q=>⟨ob,q.n⟩) (fun q=>xs.length - q.i)
  (fun q=>n<=q.n/\q.i<=xs.length/\(xs.drop q.i).any (isM L i)=A) ⟨0,n⟩ ⟨Nat.le_refl _,Nat.zero_le _,hA⟩ (by simp[FT.Le,Wk]) ⟨HWk.refl _,fun h=>h⟩ ?_
 rintro⟨j,n2⟩ ⟨hn2,hj,he⟩ hok
 dsimp only at hn2 hj he hok
 by_cases hlt:j<xs.length
 case neg=>
  rw[List.drop_eq_nil_of_le (by omega),List.any_nil]at he
  simp(disch:=omega)[hlt]
  exact⟨⟨ob,n2⟩,HWk.refl _,fun h=>h,hk0 he.symm _ hn2⟩
 rw[List.drop_eq_getElem_cons hlt,List.any_cons]at he
 simp(disch:=omega)[hlt]
 refine t_kind hL hi 0 (by omega) hl fun n3 hn3=>?_
 rw[show i+0=i from rfl]
 by_cases h:i<L.length
 case neg=>
  rw[kAt_ge h]
  have hm0:isM L i xs[j]=false:=by unfold isM;rw[dif_neg h]
  rw[hm0,Bool.false_or]at he
  simp(disch:=omega)[wrap_nat (show j<2^62 by omega)]
  exact⟨⟨j+1,n3⟩,by dsimp only;omega,⟨by dsimp only;omega,by dsimp only;omega,he⟩,by simp[FT.Le,Wk],HWk.refl _,fun h=>h⟩
 have hm0:isM L i xs[j]=(decide (L[i].kind=4)&&eqBA L[i].text xs[j]):=by unfold isM;rw[dif_pos h]
 rw[kAt_lt h]
 rw[hm0]at he
 by_cases h4:L[i].kind=4
 case neg=>
  rw[decide_eq_false h4,Bool.false_and,Bool.false_or]at he
  simp(disch:=omega)[h4,wrap_nat (show j<2^62 by omega)]
  exact⟨⟨j+1,n3⟩,by dsimp only;omega,⟨by dsimp only;omega,by dsimp only;omega,he⟩,by simp[FT.Le,Wk],HWk.refl _,fun h=>h⟩
 rw[decide_eq_true h4,Bool.true_and]at he
 cases hx2:eqBA L[i].text xs[j]
 ·rw[hx2,Bool.false_or]at he
  simp(disch:=omega)[h4,hl,h,hlt,hx2,wrap_nat (show j<2^62 by omega)]
  exact⟨⟨j+1,n3⟩,by dsimp only;omega,⟨by dsimp only;omega,by dsimp only;omega,he⟩,by simp[FT.Le,Wk],HWk.refl _,fun h=>h⟩
 ·rw[hx2,Bool.true_or]at he
  simp(disch:=omega)[h4,hl,h,hlt,hx2,wrap_nat (show i<2^62 by omega)]
  exact⟨⟨putO m (parC L own (i+1) b) ob,n3⟩,HWk.refl _,fun h=>h,hk1 he.symm h _ (by omega)⟩
end
end Go.Abs.Tz
namespace Go.Abs
open Go
section
variable{E:Env}{F:Fns}
end
end Go.Abs
namespace Go.Abs
open Go
section
variable{E:Env}{F:Fns}
theorem cP_of_fnB{b:BFn}{f:FuncId}{args:List LV}{H:LHeap}{kv kp:HP}(hf:F.fn f b)
  (h:H.Ok->fnP E F b args H (fun v H'=>∃v' H'',Wk v v'/\HWk H' H''/\(H'.Ok->H''.Ok)/\kv v' H'') (fun v H'=>∃H'',HWk H' H''/\(H'.Ok->H''.Ok)/\kp v H'')):cP E F f args H kv kp:=by
 intro hH
 obtain⟨hn,h⟩:=h hH
 obtain⟨t,h1,h2⟩:=argsP_spec h
 have ht:t.get=frOf args:=by
  funext j
  rw[h2 j]
  simp only[frOf]
  by_cases hj:j<args.length
  ·rw[if_pos (by omega)];simp
  ·rw[if_neg (by omega)]
   have:args[j]? = none:=List.getElem?_eq_none (by omega)
   simp[List.getD_eq_getElem?_getD,this,FT.get_nil]
 have hb:=runP_ok b.body t H _ hH h1
 rw[ht]at hb
 refine .enter hf hn hb (fun fr df H' hT=>?_) (fun v fr df H' hT=>?_) (fun n fr df H' hT=>?_)
 ·have:∃(t':FT),fr=t'.get/\df=[]/\H'.Ok/\resP E b.res t' H' fun v=>∃v' H'',Wk v v'/\HWk H' H''/\(H'.Ok->H''.Ok)/\kv v' H'':=by
   rcases hT with⟨e,t',H'',he,hok,hk⟩|⟨e,t',H'',he,hok,hk⟩<;>cases he
   ·exact⟨t',rfl,rfl,hok,hk⟩
   ·exact⟨t',rfl,rfl,hok,hk⟩
  obtain⟨t',rfl,rfl,hok,v,hv,v',H1,hw,h3,h4,h5⟩:=this
  exact⟨rfl,v,v',H1,hv,hw,h3,.inl ⟨v',H1,rfl,h4 hok,h5⟩⟩
 ·obtain⟨e,t',H'',he,hok,hq⟩:=hT
  cases he
  obtain⟨H1,h3,h4,h5⟩:=hq
  exact⟨rfl,v,H1,.inl rfl,h3,.inr ⟨v,H1,rfl,h4 hok,h5⟩⟩
 ·obtain⟨e,t',H'',he,hok,hk⟩:=hT
  cases he
  cases hk
end
end Go.Abs
namespace Go.Abs.Tz
open Go Go.Abs Go.Proofs
set_option maxRecDepth 20000
set_option linter.unusedSimpArgs false
attribute [local simp ↓] getP_nil getP_node setP_nil setP_node oneP_eq vP_map vP_some vP_none vP_bind eP_some bP_true bP_false gP_yes gP_tf gP_ft gP_tup runP_skip runP_ops runP_drw runP_seq runP_cond runP_blk runP_loop runP_exit runP_ret seqK_n seqK_r seqK_e seqK_p blkK_n blkK_r blkK_e blkK_p loopK_n loopK_r loopK_e loopK_p finK_n finK_r finK_p resP_one resP_two resP_three resP_nil resP_c nxP_nil argsP_nil argsP_cons evP_t evP_c evP_g evsP_nil evsP_cons clP_fn clP_yld clfP_fn pnP_i opsP_nil opsP_d opsP_x opsP_gt opsP_gf opP_cf opP_cl opP_pn opP_nx valP_mv valP_pk valP_eq valP_bn valP_nt valP_ld valP_fa valP_fd valP_ia valP_ix valP_ln valP_srn valP_srl valP_srh valP_srb valP_cv valP_mi valP_mf valP_xt valP_bs valP_bd valP_nc valP_mn valP_lk valP_ta opP_mv opP_pk opP_eq opP_bn opP_nt opP_ld opP_fa opP_fd opP_ia opP_ix opP_ln opP_sr opP_cv opP_mi opP_mf opP_xt opP_bs opP_bd opP_nc opP_mn opP_lk opP_ta opP_al opP_bx opP_st opP_ap opP_mk opP_nb opP_mu opP_rg opP_en pendP_nil pendP_d pendP_g drwP_nil drwP_d drwP_x drwP_gt drwP_gf look_self natOf_nat
attribute [local simp] faL fdL iaL ixL loadL partL lenL eqK eqL natOf eqB_s eqB_i eqB_b bn_add bn_sub bn_lss bn_leq bn_gtr bn_geq bn_adds bn_lsss bn_gtrs bn_leqs bn_geqs sliceL LV.cells LV.whole look_self put_self putO_self put_eq stL fillL termC dopP LHeap.alloc oneI oneS oneB nth0 nth1 nth2 nth3 nth4 nth5 nth6 nth7 nth8 nth9 look_ne putO_ne
abbrev faultV:LV:=.iface 89 (.agg [])
def NumOk(L:List Tok):Prop:=∀t∈L,t.kind=3->t.text.size<=2^40/\Lib.atoiAll t.text.data.toList=.ok t.n
def tokT(t:Tok):Option Term:=if t.kind=1 then some ⟨2,0,t.text⟩ else if t.kind=2 then some ⟨3,0,t.text⟩ else if t.kind=3 then some ⟨1,t.n,⟨⟨[]⟩⟩⟩ else none
def termP(L:List Tok)(i:Nat):Option Term:=if h:i<L.length then tokT L[i] else none
section
variable{L:List Tok}{own:Own}{i:Nat}{b:Bool}{m n:Nat}{ob:List (Nat×LObj)}
theorem t_must(hL:L.length<=2^20)(hi:i<=L.length)(x:ByteArray)(hl:look m ob=some (parC L own i b)){kv kp:HP}
  (hk0:isM L i x=false->∀n',n<=n'->kp faultV ⟨ob,n'⟩) (hk1:isM L i x=true->i<L.length->∀n',n<=n'->kv (.tup []) ⟨putO m (parC L own (i+1) b) ob,n'⟩):
  cP E0 F0 58 [.ptr m 0,.str x] ⟨ob,n⟩ kv kp:=by
 refine cP_of_fn c58 fun hH=>⟨Nat.le_of_ble_eq_true rfl,?_⟩
 simp(disch:=omega)[b58]
 refine t_is hL hi [x] (by simp) .full hl (fun h n' hn'=>?_) (fun h hi' n' hn'=>?_)
 ·have h':isM L i x=false:=by simpa [anyM] using h
  simp(disch:=omega)
  exact hk0 h' _ hn'
 ·have h':isM L i x=true:=by simpa [anyM] using h
  simp(disch:=omega)
  exact⟨⟨putO m (parC L own (i+1) b) ob,n'⟩,HWk.refl _,fun h=>h,hk1 h' hi' _ hn'⟩
theorem t_term(hL:L.length<=2^20)(hN:NumOk L)(hi:i<=L.length)(hl:look m ob=some (parC L own i b)){kv kp:HP}
  (hk0:termP L i=none->∀n',n<=n'->kp faultV ⟨ob,n'⟩) (hk1:∀t,termP L i=some t->i<L.length->∀n',n<=n'->kv (termL t) ⟨putO m (parC L own (i+1) b) ob,n'⟩):
  cP E0 F0 70 [.ptr m 0] ⟨ob,n⟩ kv kp:=by
 refine cP_of_fnB c70 fun hH=>⟨Nat.le_of_ble_eq_true rfl,?_⟩
 have hOb:Desc ob n:=hH
 have hm:m<n:=hH.look hl
 have hlp:∀x,look m (putO m x ob)=some x:=fun x=>look_putO hl
 have hwi:IntKind.wrap .i64 (i:Int)=(i:Int):=wrap_id (by omega) (by omega)
 have fin:∀(x:LObj)(m':Nat)(t:Term),termP L i=some t->i<L.length->n<=m'->∃v',Wk (termL t) v'/\∃H'',HWk ⟨(n,x)::putO m (parC L own (i+1) b) ob,m'⟩ H''/\(LHeap.Ok ⟨(n,x)::putO m (parC L own (i+1) b) ob,m'⟩->H''.Ok)/\kv v' H'':=
  fun x m' t ht hi' hm'=>⟨_,.inl rfl,⟨putO m (parC L own (i+1) b) ob,m'⟩,hwk_skip hOb.put (Nat.le_refl _),fun _=>hOb.put.mono hm',hk1 t ht hi' m' hm'⟩
 simp(disch:=omega)[b70]
 refine t_kind hL hi 0 (by omega) (by rw[look_ne (by omega)];exact hl) fun n3 hn3=>?_
 rw[show i+0=i from rfl]
 by_cases h:i<L.length
 case neg=>
  rw[kAt_ge h]
  have ht:termP L i=none:=by unfold termP;rw[dif_neg h]
  simp(disch:=omega)
  exact⟨⟨ob,n3⟩,hwk_skip hOb (Nat.le_refl _),fun _=>hOb.mono (show n<=n3 by omega),hk0 ht n3 (by omega)⟩
 rw[kAt_lt h]
 have ht:termP L i=tokT L[i]:=by unfold termP;rw[dif_pos h]
 by_cases h1:L[i].kind=1
 ·have ht1:termP L i=some ⟨2,0,L[i].text⟩:=by rw[ht];unfold tokT;rw[if_pos h1]
  simp(disch:=omega)[h1,hl,hlp,h,hwi,wrap_nat (show i<2^62 by omega)]
  exact fin _ _ _ ht1 h (by omega)
 by_cases h2:L[i].kind=2
 ·have ht1:termP L i=some ⟨3,0,L[i].text⟩:=by rw[ht];unfold tokT;rw[if_neg h1,if_pos h2]
  simp(disch:=omega)[h1,h2,hl,hlp,h,hwi,wrap_nat (show i<2^62 by omega)]
  exact fin _ _ _ ht1 h (by omega)
 by_cases h3:L[i].kind=3
 ·have ht1:termP L i=some ⟨1,L[i].n,⟨⟨[]⟩⟩⟩:=by rw[ht];unfold tokT;rw[if_neg h1,if_neg h2,if_pos h3]
  obtain⟨q1,q2⟩:=hN _ (mem_at h) h3
  simp(disch:=omega)[h1,h2,h3,hl,hlp,h,hwi,wrap_nat (show i<2^62 by omega)]
  refine(t_atoi L[i].text (by omega) L[i].n q2).go fun n4 hn4=>?_
  simp(disch:=omega)[hlp,h]
  exact fin _ _ _ ht1 h (by omega)
 have ht1:termP L i=none:=by rw[ht];unfold tokT;rw[if_neg h1,if_neg h2,if_neg h3]
 simp(disch:=omega)[h1,h2,h3]
 exact⟨⟨ob,n3⟩,hwk_skip hOb (Nat.le_refl _),fun _=>hOb.mono (show n<=n3 by omega),hk0 ht1 n3 (by omega)⟩
end
theorem isM_lt{L:List Tok}{i:Nat}{x:ByteArray}(h:isM L i x=true):i<L.length:=by
 unfold isM at h
 by_cases hi:i<L.length
 ·exact hi
 ·rw[dif_neg hi]at h
  cases h
theorem termP_lt{L:List Tok}{i:Nat}{t:Term}(h:termP L i=some t):i<L.length:=by
 unfold termP at h
 by_cases hi:i<L.length
 ·exact hi
 ·rw[dif_neg hi]at h
  cases h
abbrev bComma:ByteArray:=⟨⟨[44]⟩⟩
abbrev bOpen:ByteArray:=⟨⟨[40]⟩⟩
abbrev bClose:ByteArray:=⟨⟨[41]⟩⟩
def argsLp(L:List Tok)(i:Nat)(acc:List Term):Except Nat (List Term×Nat):=
 if _h:isM L i bComma=true then
  match termP L (i+1) with
  |none=>.error (i+1)
  |some t=>argsLp L (i+2) (acc++[t])
 else .ok (acc,i)
termination_by L.length - i
decreasing_by
 have:=isM_lt _h
 omega
theorem argsLp_no{L:List Tok}{i:Nat}{acc:List Term}(h:isM L i bComma=false):argsLp L i acc=.ok (acc,i):=by
 unfold argsLp
 rw[dif_neg (by rw[h];simp)]
theorem argsLp_bad{L:List Tok}{i:Nat}{acc:List Term}(h:isM L i bComma=true)(ht:termP L (i+1)=none):argsLp L i acc=.error (i+1):=by
 unfold argsLp
 rw[dif_pos h,ht]
theorem argsLp_go{L:List Tok}{i:Nat}{acc:List Term}{t:Term}(h:isM L i bComma=true)(ht:termP L (i+1)=some t):argsLp L i acc=argsLp L (i+2) (acc++[t]):=by
 conv=>lhs;unfold argsLp
 rw[dif_pos h,ht]
def txtAt(L:List Tok)(i:Nat):ByteArray:=if h:i<L.length then L[i].text else ⟨⟨[]⟩⟩
def atomP(L:List Tok)(i:Nat):Except Nat (Atom×Nat):=
 if kAt L i≠1 then .error i
 else if isM L (i+1) bOpen=true then
  match termP L (i+2) with
  |none=>.error (i+2)
  |some t=>match argsLp L (i+3) [t] with
   |.error e=>.error e
   |.ok (ts,j)=>if isM L j bClose=true then .ok (⟨txtAt L i,ts⟩,j+1) else .error j
 else .ok (⟨txtAt L i,[]⟩,i+1)
theorem RowT.put{H:LHeap}{sz len:Nat}{own:Own}{ob:List (Nat×LObj)}{n j:Nat}{x:LObj}(h:RowT H sz len own ob n)(hj:j<H.next):RowT ⟨putO j x H.objs,H.next⟩ sz len own (putO j x ob) n:=by
 rcases h with⟨h1,rfl,h⟩|⟨t,h0,h1,h2,rfl⟩
 ·exact .inl ⟨h1,rfl,h⟩
 ·exact .inr ⟨t,h0,h1,h2,putO_ne (by omega) _ _ _⟩
structure NNIc where
 i:Nat
 n:Nat
 es:List Term
 ow:Own
 ob:List (Nat×LObj)
section
variable{L:List Tok}{own:Own}{i:Nat}{b:Bool}{m n:Nat}{ob:List (Nat×LObj)}
theorem strip_atomO(s:ByteArray)(es:List Term)(ow:Own):Wk (.agg [.str s,.sl (es.map termL) ow]) (atomL ⟨s,es⟩):=by
 refine .inr (.inl ?_)
 simp[LV.strip,stripL,stripL_map,List.map_map,Function.comp_def]
set_option maxHeartbeats 1000000 in
theorem t_atom(hL:L.length<=2^20)(hN:NumOk L)(hi:i<=L.length)(hl:look m ob=some (parC L own i b)){kv kp:HP}
  (hk0:∀e,atomP L i=.error e->∀n',n<=n'->kp faultV ⟨putO m (parC L own e b) ob,n'⟩)
  (hk1:∀a j,atomP L i=.ok (a,j)->∀n',n<=n'->kv (atomL a) ⟨putO m (parC L own j (b||decide (3<a.args.length))) ob,n'⟩):
  cP E0 F0 32 [.ptr m 0] ⟨ob,n⟩ kv kp:=by
 refine cP_of_fnB c32 fun hH=>⟨Nat.le_of_ble_eq_true rfl,?_⟩
 have hOb:Desc ob n:=hH
 have hm:m<n:=hH.look hl
 have hlp:∀x,look m (putO m x ob)=some x:=fun x=>look_putO hl
 obtain⟨V,hV⟩:∃V,atomP L i=V:=⟨_,rfl⟩
 have fin0:∀(e:Nat)(ob':List (Nat×LObj))(m':Nat),V=.error e->n<=m'->(∀j,j<n->look j ob'=look j (putO m (parC L own e b) ob))->∃H'',HWk ⟨ob',m'⟩ H''/\(LHeap.Ok ⟨ob',m'⟩->H''.Ok)/\kp faultV H'':=fun e ob' m' he hm' ho=>
  ⟨⟨putO m (parC L own e b) ob,m'⟩,hwk_old (n:=n) (show LHeap.Ok ⟨putO m (parC L own e b) ob,n⟩ from hOb.put) ho (Nat.le_refl _),fun _=>hOb.put.mono hm',hk0 e (by rw[hV,he]) m' hm'⟩
 have fin1:∀(s:ByteArray)(es:List Term)(ow:Own)(j:Nat)(b':Bool)(ob':List (Nat×LObj))(m':Nat),V=.ok (⟨s,es⟩,j)->(b||decide (3<es.length))=b'->n<=m'->(∀k,k<n->look k ob'=look k (putO m (parC L own j b') ob)) ->
   ∃v',Wk (.agg [.str s,.sl (es.map termL) ow]) v'/\∃H'',HWk ⟨ob',m'⟩ H''/\(LHeap.Ok ⟨ob',m'⟩->H''.Ok)/\kv v' H'':=fun s es ow j b' ob' m' he hb hm' ho=>by
  subst hb
  exact⟨_,strip_atomO s es ow,⟨putO m (parC L own j (b||decide (3<es.length))) ob,m'⟩,hwk_old (n:=n) (show LHeap.Ok ⟨putO m (parC L own j (b||decide (3<es.length))) ob,n⟩ from hOb.put) ho (Nat.le_refl _),fun _=>hOb.put.mono hm',hk1 _ _ (by rw[hV,he]) m' hm'⟩
 unfold atomP at hV
 simp(disch:=omega)[b32]
 refine t_kind hL hi 0 (by omega) (by rw[look_ne (by omega)];exact hl) fun n3 hn3=>?_
 rw[show i+0=i from rfl]
 by_cases hk:kAt L i=1
 case neg=>
  rw[if_pos hk]at hV
  simp(disch:=omega)[hk]
  exact fin0 i _ n3 hV.symm (by omega) fun j hj=>by rw[look_ne (by omega),putO_same hl]
 rw[if_neg (by simpa using hk)]at hV
 rw[hk]
 have h:i<L.length:=by
  by_cases h:i<L.length
  ·exact h
  ·rw[kAt_ge h]at hk;cases hk
 have htx:txtAt L i=L[i].text:=by unfold txtAt;rw[dif_pos h]
 rw[htx]at hV
 simp(disch:=omega)[hl,hlp,h,wrap_nat (show i<2^62 by omega)]
 refine t_is hL (show i+1<=L.length from h) [bOpen] (by simp) .full (b:=b) (own:=own) (by rw[look_ne (by omega),look_ne (by omega)];exact hlp _) (fun h1 n4 hn4=>?_) (fun h1 h1l n4 hn4=>?_)
 ·have h1':isM L (i+1) bOpen=false:=by simpa [anyM] using h1
  rw[if_neg (by rw[h1'];simp)]at hV
  simp(disch:=omega)
  exact fin1 _ [] .full (i+1) b _ n4 hV.symm (by simp) (by omega) fun j hj=>by rw[look_ne (by omega),look_ne (by omega)];rfl
 have h1':isM L (i+1) bOpen=true:=by simpa [anyM] using h1
 rw[if_pos h1']at hV
 obtain⟨p,hp⟩:∃p,i+1+1=p:=⟨_,rfl⟩
 have hp2:i+2=p:=hp
 have hp3:i+3=p+1:=by omega
 rw[hp2,hp3]at hV
 rw[hp]
 have hpl:p<=L.length:=by omega
 simp(disch:=omega)[hlp,putO_putO]
 refine t_term hL hN hpl (b:=b) (own:=own) (by simp(disch:=omega)[putO_putO,hlp]) (fun ht n5 hn5=>?_) (fun t ht htl n5 hn5=>?_)
 ·rw[ht]at hV
  simp(disch:=omega)
  exact fin0 p _ n5 hV.symm (by omega) fun j hj=>by simp(disch:=omega)[putO_putO]
 rw[ht]at hV
 simp only at hV
 obtain⟨W,hW⟩:∃W,argsLp L (p+1) [t]=W:=⟨_,rfl⟩
 rw[hW]at hV
 simp(disch:=omega)[hlp,putO_putO]
 refine effP_ap ?_
 simp(disch:=omega)
 obtain⟨ow1,ob1,m1,e1,hr1,hm1⟩:=row_apY (sz:=3) (es:=[]) (own:=.full) (Y:=[termL t]) (H:=⟨(n3,.cells [.str L[i].text,Nl])::(n,.cells [.str ⟨⟨[]⟩⟩,Nl])::putO m (parC L own (p+1) b) ob,n5⟩) (by omega) rfl rfl (by simp) (.inl ⟨rfl,rfl,Nat.le_refl _⟩)
 have hold:=hr1.old
 dsimp only at hold
 have ka:look n3 ob1=some (.cells [.str L[i].text,Nl]):=by rw[hold.2 n3 (by omega)];exact look_self _ _ _
 have hr2:=hr1.put (j:=n3) (x:=.cells [.str L[i].text,.sl ([t].map termL) ow1]) (by dsimp only;omega)
 dsimp only at hr2
 rw[putO_self]at hr2
 rw[e1]
 simp(disch:=omega)[ka]
 refine lP_enter (σ:=NNIc) (fun q=>(.nd (.ptr m 0) (.nd .bot (.nd (.ptr n3 0) .nil .nil) .nil) (.nd (.ptr n 0) .nil .nil))) (fun q=>⟨q.ob,q.n⟩) (fun q=>L.length - q.i)
  (fun q=>RowT ⟨(n3,.cells [.str L[i].text,.sl (q.es.map termL) q.ow])::(n,.cells [.str ⟨⟨[]⟩⟩,Nl])::putO m (parC L own q.i b) ob,n5⟩ 3 q.es.length q.ow q.ob q.n/\q.i<=L.length/\q.es.length<=q.i/\argsLp L q.i q.es=W) ⟨p+1,m1,[t],ow1,putO n3 (.cells [.str L[i].text,.sl ([t].map termL) ow1]) ob1⟩ ⟨hr2,htl,by simp,hW⟩ (by simp[FT.Le,Wk]) ⟨HWk.refl _,fun h=>h⟩ ?_
 rintro⟨k,n6,es,ow,ob2⟩ ⟨hr,hk2,hel,he⟩ hok
 dsimp only at hr hk2 hel he hok
 have hold2:=hr.old
 dsimp only at hold2
 have kb:look n3 ob2=some (.cells [.str L[i].text,.sl (es.map termL) ow]):=by rw[hold2.2 n3 (by omega)];exact look_self _ _ _
 have kz:look n ob2=some (.cells [.str ⟨⟨[]⟩⟩,Nl]):=by rw[hold2.2 n (by omega),look_ne (by omega)];exact look_self _ _ _
 have kc:look m ob2=some (parC L own k b):=by rw[hold2.2 m (by omega),look_ne (by omega),look_ne (by omega)];exact hlp _
 have ko:∀j,j<n->look j ob2=look j (putO m (parC L own k b) ob):=fun j hj=>by rw[hold2.2 j (by omega),look_ne (by omega),look_ne (by omega)]
 have kp2:∀x,look m (putO m x ob2)=some x:=fun x=>look_putO kc
 have ko2:∀(x:LObj)(j:Nat),j<n->look j (putO m x ob2)=look j (putO m x ob):=fun x j hj=>by
  by_cases hjm:j=m
  ·subst hjm;rw[kp2,hlp]
  ·rw[look_putO_ne hjm,look_putO_ne hjm,ko j hj,look_putO_ne hjm]
 simp(disch:=omega)
 refine t_is hL hk2 [bComma] (by simp) .full kc (fun h2 n7 hn7=>?_) (fun h2 h2l n7 hn7=>?_)
 ·have h2':isM L k bComma=false:=by simpa [anyM] using h2
  rw[argsLp_no h2']at he
  subst he
  simp only at hV
  simp(disch:=omega)
  refine t_must hL hk2 bClose kc (fun h3 n8 hn8=>?_) (fun h3 h3l n8 hn8=>?_)
  ·rw[if_neg (by rw[h3];simp)]at hV
   simp(disch:=omega)
   exact fin0 k _ n8 hV.symm (by omega) ko
  ·rw[if_pos h3]at hV
   have ka2:∀x,look n3 (putO m x ob2)=some (.cells [.str L[i].text,.sl (es.map termL) ow]):=fun x=>by rw[look_putO_ne (by omega)];exact kb
   have kn2:∀x y,look n (putO n y (putO m x ob2))=some y:=fun x y=>look_putO (show look n (putO m x ob2)=some (.cells [.str ⟨⟨[]⟩⟩,Nl]) by rw[look_putO_ne (by omega)];exact kz)
   have kn3:∀x,look n (putO m x ob2)=some (.cells [.str ⟨⟨[]⟩⟩,Nl]):=fun x=>by rw[look_putO_ne (by omega)];exact kz
   have hes:es.length<=2^20:=by omega
   have last:∀(y:LObj)(b':Bool),(b||decide (3<es.length))=b'->∃v',Wk (.agg [.str L[i].text,.sl (es.map termL) ow]) v'/\∃H'',HWk ⟨putO n y (putO m (parC L own (k+1) b') ob2),n8⟩ H''/\(LHeap.Ok ⟨putO n y (putO m (parC L own (k+1) b') ob2),n8⟩->H''.Ok)/\kv v' H'':=fun y b' hb=>
    fin1 _ es ow (k+1) b' _ n8 hV.symm hb (by omega) fun j hj=>by rw[look_putO_ne (by omega)];exact ko2 _ j hj
   cases b
   ·simp(disch:=omega)[kp2,kn2,kn3,ka2,putO_putO]
    exact last _ (decide ((3:Int)<(es.length:Int))) (by rw[Bool.false_or];exact decide_eq_decide.2 (by omega))
   ·simp(disch:=omega)[kp2,kn2,kn3,ka2,putO_putO]
    exact last _ true rfl
 ·have h2':isM L k bComma=true:=by simpa [anyM] using h2
  have ka2:∀x,look n3 (putO m x ob2)=some (.cells [.str L[i].text,.sl (es.map termL) ow]):=fun x=>by rw[look_putO_ne (by omega)];exact kb
  simp(disch:=omega)[ka2]
  refine t_term hL hN (show k+1<=L.length from h2l) (b:=b) (own:=own) (kp2 _) (fun ht n8 hn8=>?_) (fun t2 ht htl n8 hn8=>?_)
  ·rw[argsLp_bad h2' ht]at he
   subst he
   simp only at hV
   simp(disch:=omega)
   exact fin0 (k+1) _ n8 hV.symm (by omega) fun j hj=>ko2 _ j hj
  rw[argsLp_go h2' ht]at he
  obtain⟨s,hs⟩:∃s,k+1+1=s:=⟨_,rfl⟩
  have hs2:k+2=s:=hs
  rw[hs2]at he
  rw[hs]
  have hr3:=(hr.put (j:=m) (x:=parC L own s b) (by dsimp only;omega)).mono (show n6<=n8 by omega)
  dsimp only at hr3
  rw[putO_ne (by omega),putO_ne (by omega),putO_putO]at hr3
  simp(disch:=omega)[ka2,putO_putO]
  refine effP_ap ?_
  simp(disch:=omega)
  obtain⟨ow3,ob3,m3,e3,hr4,hm3⟩:=row_apY (sz:=3) (es:=es.map termL) (Y:=[termL t2]) (by omega) (terms_all es) rfl (by simp;omega) (by rw[List.length_map];exact hr3)
  rw[List.length_map,List.length_singleton]at hr4
  have hold4:=hr4.old
  dsimp only at hold4
  have ka4:look n3 ob3=some (.cells [.str L[i].text,.sl (es.map termL) ow]):=by rw[hold4.2 n3 (by omega)];exact look_self _ _ _
  have e4:es.map termL++[termL t2]=(es++[t2]).map termL:=by simp
  rw[e4]at e3
  have hr5:=hr4.put (j:=n3) (x:=.cells [.str L[i].text,.sl ((es++[t2]).map termL) ow3]) (by dsimp only;omega)
  dsimp only at hr5
  rw[putO_self]at hr5
  rw[e3]
  simp(disch:=omega)[ka4]
  exact⟨⟨s,m3,es++[t2],ow3,putO n3 (.cells [.str L[i].text,.sl ((es++[t2]).map termL) ow3]) ob3⟩,by dsimp only;omega,⟨by rw[List.length_append,List.length_singleton];exact hr5,by dsimp only;omega,by simp;omega,he⟩,by simp[FT.Le,Wk],by simp;exact HWk.refl _,by simp⟩
end
abbrev bEq:ByteArray:=⟨⟨[61]⟩⟩
abbrev bNe:ByteArray:=⟨⟨[33,61]⟩⟩
abbrev bLt:ByteArray:=⟨⟨[60]⟩⟩
abbrev bLe:ByteArray:=⟨⟨[60,61]⟩⟩
abbrev bGt:ByteArray:=⟨⟨[62]⟩⟩
abbrev bGe:ByteArray:=⟨⟨[62,61]⟩⟩
abbrev opsB:List ByteArray:=[bEq,bNe,bLt,bLe,bGt,bGe]
abbrev atom0:Atom:=⟨⟨⟨[]⟩⟩,[]⟩
def mkOp(x:ByteArray)(a c:Term):Lit:=if eqBA x bEq=true then ⟨3,atom0,a,c⟩ else if eqBA x bNe=true then ⟨4,atom0,a,c⟩ else if eqBA x bLt=true then ⟨5,atom0,a,c⟩ else if eqBA x bLe=true then ⟨6,atom0,a,c⟩ else if eqBA x bGt=true then ⟨5,atom0,c,a⟩ else ⟨6,atom0,c,a⟩
def opP(L:List Tok)(i:Nat)(a:Term):Except Nat (Lit×Nat):=
 if anyM L i opsB=true then
  match termP L (i+1) with
  |none=>.error (i+1)
  |some c=>.ok (mkOp (txtAt L i) a c,i+2)
 else .error i
theorem anyM_lt{L:List Tok}{i:Nat}{xs:List ByteArray}(h:anyM L i xs=true):i<L.length:=by
 obtain⟨x,_,hx⟩:=List.any_eq_true.1 h
 exact isM_lt hx
theorem anyM_kind{L:List Tok}{i:Nat}{xs:List ByteArray}(h:anyM L i xs=true):kAt L i=4:=by
 obtain⟨x,_,hx⟩:=List.any_eq_true.1 h
 have hi:=isM_lt hx
 unfold isM at hx
 rw[dif_pos hi]at hx
 simp only[Bool.and_eq_true,decide_eq_true_iff]at hx
 rw[kAt_lt hi]
 exact hx.1
theorem isM_of{L:List Tok}{i:Nat}(x:ByteArray)(hi:i<L.length)(hk:L[i].kind=4):isM L i x=eqBA L[i].text x:=by
 unfold isM
 rw[dif_pos hi,decide_eq_true hk,Bool.true_and]
theorem strip_litO(k:Int)(a c:Term):Wk (.agg [.int k,.str ⟨⟨[]⟩⟩,Nl,.int a.kind,.int a.n,.str a.s,.int c.kind,.int c.n,.str c.s]) (litL ⟨k,atom0,a,c⟩):=by
 refine .inr (.inl ?_)
 simp[LV.strip,stripL,litC]
section
variable{L:List Tok}{own:Own}{i:Nat}{b:Bool}{m n:Nat}{ob:List (Nat×LObj)}
theorem t_compared(hL:L.length<=2^20)(hi:i<=L.length)(hl:look m ob=some (parC L own i b)){kv kp:HP}(hk:∀n',n<=n'->kv (.bool (anyM L (i+1) opsB)) ⟨ob,n'⟩):
  cP E0 F0 105 [.ptr m 0,.int 1] ⟨ob,n⟩ kv kp:=by
 refine cP_of_fn c105 fun hH=>⟨Nat.le_of_ble_eq_true rfl,?_⟩
 simp(disch:=omega)[b105]
 refine t_kind hL hi 1 (by omega) hl fun n3 hn3=>?_
 obtain⟨s,hs⟩:∃s,i+1=s:=⟨_,rfl⟩
 have hw:IntKind.wrap .i64 ((i:Int)+1)=(s:Int):=by rw[wrap_id (by omega) (by omega)];omega
 rw[hs]at hk ⊢
 obtain⟨A,hA⟩:∃A,anyM L s opsB=A:=⟨_,rfl⟩
 rw[hA]at hk
 by_cases h4:kAt L s=4
 case neg=>
  have hA0:A=false:=by
   rw[<-hA]
   cases hq:anyM L s opsB
   ·rfl
   ·exact absurd (anyM_kind hq) h4
  subst hA0
  simp(disch:=omega)[h4]
  exact⟨⟨ob,n3⟩,HWk.refl _,fun h=>h,hk n3 hn3⟩
 have h:s<L.length:=by
  by_cases h:s<L.length
  ·exact h
  ·rw[kAt_ge h]at h4;cases h4
 have hk4:L[s].kind=4:=by rw[kAt_lt h]at h4;exact h4
 simp only[anyM,opsB,List.any_cons,List.any_nil,Bool.or_false,isM_of _ h hk4]at hA
 rw[h4]
 have done:A=true->∃H'',HWk ⟨ob,n3⟩ H''/\(LHeap.Ok ⟨ob,n3⟩->H''.Ok)/\kv (.bool true) H'':=fun hA1=>⟨⟨ob,n3⟩,HWk.refl _,fun h=>h,hA1▸hk n3 hn3⟩
 cases h1:eqBA L[s].text bEq
 case true=>
  simp(disch:=omega)[hl,hw,h,h1]
  exact done (by rw[<-hA,h1];rfl)
 cases h2:eqBA L[s].text bNe
 case true=>
  simp(disch:=omega)[hl,hw,h,h1,h2]
  exact done (by rw[<-hA,h1,h2];rfl)
 cases h3:eqBA L[s].text bLt
 case true=>
  simp(disch:=omega)[hl,hw,h,h1,h2,h3]
  exact done (by rw[<-hA,h1,h2,h3];rfl)
 cases h5:eqBA L[s].text bLe
 case true=>
  simp(disch:=omega)[hl,hw,h,h1,h2,h3,h5]
  exact done (by rw[<-hA,h1,h2,h3,h5];rfl)
 cases h6:eqBA L[s].text bGt
 case true=>
  simp(disch:=omega)[hl,hw,h,h1,h2,h3,h5,h6]
  exact done (by rw[<-hA,h1,h2,h3,h5,h6];rfl)
 cases h7:eqBA L[s].text bGe
 case true=>
  simp(disch:=omega)[hl,hw,h,h1,h2,h3,h5,h6,h7]
  exact done (by rw[<-hA,h1,h2,h3,h5,h6,h7];rfl)
 have hA0:A=false:=by rw[<-hA,h1,h2,h3,h5,h6,h7];rfl
 subst hA0
 simp(disch:=omega)[hl,hw,h,h1,h2,h3,h5,h6,h7]
 exact⟨⟨ob,n3⟩,HWk.refl _,fun h=>h,hk n3 hn3⟩
end
structure RTok where
 kind:Int
 s:ByteArray
 n:Int
 at_:Int
section
variable{R:List RTok}{own:Own}{i:Nat}{bad:Int}{b:Bool}{m n:Nat}{ob:List (Nat×LObj)}
end
section
variable{L:List Tok}{own:Own}{i:Nat}{b:Bool}{m n:Nat}{ob:List (Nat×LObj)}
set_option maxHeartbeats 1000000 in
theorem t_op(hL:L.length<=2^20)(hN:NumOk L)(hi:i<=L.length)(hl:look m ob=some (parC L own i b))(a:Term){kv kp:HP}
  (hk0:∀e,opP L i a=.error e->∀n',n<=n'->kp faultV ⟨putO m (parC L own e b) ob,n'⟩)
  (hk1:∀l j,opP L i a=.ok (l,j)->∀n',n<=n'->kv (litL l) ⟨putO m (parC L own j b) ob,n'⟩):
  cP E0 F0 106 [.ptr m 0,termL a] ⟨ob,n⟩ kv kp:=by
 refine cP_of_fnB c106 fun hH=>⟨Nat.le_of_ble_eq_true rfl,?_⟩
 have hOb:Desc ob n:=hH
 have hm:m<n:=hH.look hl
 have hlp:∀x,look m (putO m x ob)=some x:=fun x=>look_putO hl
 obtain⟨V,hV⟩:∃V,opP L i a=V:=⟨_,rfl⟩
 have fin0:∀(e:Nat)(ob':List (Nat×LObj))(m':Nat),V=.error e->n<=m'->(∀j,j<n->look j ob'=look j (putO m (parC L own e b) ob))->∃H'',HWk ⟨ob',m'⟩ H''/\(LHeap.Ok ⟨ob',m'⟩->H''.Ok)/\kp faultV H'':=fun e ob' m' he hm' ho=>
  ⟨⟨putO m (parC L own e b) ob,m'⟩,hwk_old (n:=n) (show LHeap.Ok ⟨putO m (parC L own e b) ob,n⟩ from hOb.put) ho (Nat.le_refl _),fun _=>hOb.put.mono hm',hk0 e (by rw[hV,he]) m' hm'⟩
 have fin1:∀(k:Int)(x y:Term)(j:Nat)(ob':List (Nat×LObj))(m':Nat),V=.ok (⟨k,atom0,x,y⟩,j)->n<=m'->(∀k,k<n->look k ob'=look k (putO m (parC L own j b) ob)) ->
   ∃v',Wk (.agg [.int k,.str ⟨⟨[]⟩⟩,Nl,.int x.kind,.int x.n,.str x.s,.int y.kind,.int y.n,.str y.s]) v'/\∃H'',HWk ⟨ob',m'⟩ H''/\(LHeap.Ok ⟨ob',m'⟩->H''.Ok)/\kv v' H'':=fun k x y j ob' m' he hm' ho=>
  ⟨_,strip_litO k x y,⟨putO m (parC L own j b) ob,m'⟩,hwk_old (n:=n) (show LHeap.Ok ⟨putO m (parC L own j b) ob,n⟩ from hOb.put) ho (Nat.le_refl _),fun _=>hOb.put.mono hm',hk1 _ _ (by rw[hV,he]) m' hm'⟩
 unfold opP at hV
 simp(disch:=omega)[b106]
 refine t_kind hL hi 0 (by omega) (b:=b) (own:=own) (by rw[look_ne (by omega),look_ne (by omega)];exact hl) fun n3 hn3=>?_
 rw[show i+0=i from rfl]
 by_cases h4:kAt L i=4
 case neg=>
  have hA:anyM L i opsB=false:=by
   cases hq:anyM L i opsB
   ·rfl
   ·exact absurd (anyM_kind hq) h4
  rw[if_neg (by rw[hA];simp)]at hV
  simp(disch:=omega)[h4]
  exact fin0 i _ n3 hV.symm (by omega) fun j hj=>by rw[look_ne (by omega),look_ne (by omega),putO_same hl]
 have h:i<L.length:=by
  by_cases h:i<L.length
  ·exact h
  ·rw[kAt_ge h]at h4;cases h4
 have htx:txtAt L i=L[i].text:=by unfold txtAt;rw[dif_pos h]
 rw[htx]at hV
 rw[h4]
 simp(disch:=omega)[hl,h]
 refine t_is hL hi opsB (by simp) .full (b:=b) (own:=own) (by simp(disch:=omega)[look_ne];exact hl) (fun h1 n4 hn4=>?_) (fun h1 h1l n4 hn4=>?_)
 ·rw[if_neg (by rw[h1];simp)]at hV
  simp(disch:=omega)
  exact fin0 i _ n4 hV.symm (by omega) fun j hj=>by rw[look_ne (by omega),look_ne (by omega),putO_same hl]
 rw[if_pos h1]at hV
 simp(disch:=omega)[hlp,putO_putO]
 refine t_term hL hN (show i+1<=L.length from h1l) (b:=b) (own:=own) (by simp(disch:=omega)[putO_putO,hlp]) (fun ht n5 hn5=>?_) (fun c ht htl n5 hn5=>?_)
 ·rw[ht]at hV
  simp(disch:=omega)
  exact fin0 (i+1) _ n5 hV.symm (by omega) fun j hj=>by simp(disch:=omega)[putO_putO]
 rw[ht]at hV
 simp only at hV
 obtain⟨s,hs⟩:∃s,i+1+1=s:=⟨_,rfl⟩
 have hs2:i+2=s:=hs
 rw[hs2]at hV
 rw[hs]
 unfold mkOp at hV
 have lk:∀(x y z:LObj)(j:Nat),j<n->look j ((n5,x)::(n+1,y)::(n,z)::putO m (parC L own s b) ob)=look j (putO m (parC L own s b) ob):=fun x y z j hj=>by rw[look_ne (by omega),look_ne (by omega),look_ne (by omega)]
 cases c1:eqBA L[i].text bEq
 case true=>
  rw[if_pos c1]at hV
  simp(disch:=omega)[hlp,putO_putO,c1]
  exact fin1 _ _ _ _ _ _ hV.symm (by omega) (lk _ _ _)
 rw[if_neg (by rw[c1];simp)]at hV
 cases c2:eqBA L[i].text bNe
 case true=>
  rw[if_pos c2]at hV
  simp(disch:=omega)[hlp,putO_putO,c1,c2]
  exact fin1 _ _ _ _ _ _ hV.symm (by omega) (lk _ _ _)
 rw[if_neg (by rw[c2];simp)]at hV
 cases c3:eqBA L[i].text bLt
 case true=>
  rw[if_pos c3]at hV
  simp(disch:=omega)[hlp,putO_putO,c1,c2,c3]
  exact fin1 _ _ _ _ _ _ hV.symm (by omega) (lk _ _ _)
 rw[if_neg (by rw[c3];simp)]at hV
 cases c4:eqBA L[i].text bLe
 case true=>
  rw[if_pos c4]at hV
  simp(disch:=omega)[hlp,putO_putO,c1,c2,c3,c4]
  exact fin1 _ _ _ _ _ _ hV.symm (by omega) (lk _ _ _)
 rw[if_neg (by rw[c4];simp)]at hV
 cases c5:eqBA L[i].text bGt
 case true=>
  rw[if_pos c5]at hV
  simp(disch:=omega)[hlp,putO_putO,c1,c2,c3,c4,c5]
  exact fin1 _ _ _ _ _ _ hV.symm (by omega) (lk _ _ _)
 rw[if_neg (by rw[c5];simp)]at hV
 simp(disch:=omega)[hlp,putO_putO,c1,c2,c3,c4,c5]
 exact fin1 _ _ _ _ _ _ hV.symm (by omega) (lk _ _ _)
end
theorem argsLp_le{L:List Tok}:∀(k i:Nat)(acc:List Term),L.length - i<=k->i<=L.length ->
  (∀ts j,argsLp L i acc=.ok (ts,j)->i<=j/\j<=L.length/\acc.length+(j - i) ≥ ts.length)/\(∀e,argsLp L i acc=.error e->e<=L.length)
 |k,i,acc,hk,hi=>by
  cases h:isM L i bComma
  ·rw[argsLp_no h]
   exact⟨fun ts j e=>by cases e;exact⟨Nat.le_refl _,hi,by omega⟩,fun e he=>by cases he⟩
  have hlt:=isM_lt h
  cases ht:termP L (i+1) with
  |none=>
   rw[argsLp_bad h ht]
   exact⟨fun ts j e=>(by cases e),fun e he=>by cases he;omega⟩
  |some t=>
   rw[argsLp_go h ht]
   have hl2:=termP_lt ht
   match k with
   |0=>omega
   |k+1=>
    obtain⟨q1,q2⟩:=argsLp_le (L:=L) k (i+2) (acc++[t]) (by omega) (by omega)
    exact⟨fun ts j e=>by
     obtain⟨r1,r2,r3⟩:=q1 ts j e
     rw[List.length_append,List.length_singleton]at r3
     exact⟨by omega,r2,by omega⟩,q2⟩
theorem kAt1_lt{L:List Tok}{i:Nat}(h:kAt L i=1):i<L.length:=by
 by_cases hi:i<L.length
 ·exact hi
 ·rw[kAt_ge hi]at h;cases h
theorem atomP_le{L:List Tok}{i:Nat}(hi:i<=L.length):(∀a j,atomP L i=.ok (a,j)->i<j/\j<=L.length)/\(∀e,atomP L i=.error e->e<=L.length):=by
 unfold atomP
 by_cases hk:kAt L i=1
 case neg=>
  rw[if_pos hk]
  exact⟨fun a j e=>(by cases e),fun e he=>by cases he;exact hi⟩
 rw[if_neg (by simpa using hk)]
 have hlt:=kAt1_lt hk
 cases h1:isM L (i+1) bOpen
 ·rw[if_neg (by simp)]
  exact⟨fun a j e=>by cases e;exact⟨Nat.lt_succ_self _,hlt⟩,fun e he=>by cases he⟩
 rw[if_pos rfl]
 have hl1:=isM_lt h1
 cases ht:termP L (i+2) with
 |none=>exact⟨fun a j e=>(by cases e),fun e he=>by cases he;omega⟩
 |some t=>
  have hl2:=termP_lt ht
  simp only
  obtain⟨q1,q2⟩:=argsLp_le (L:=L) _ (i+3) [t] (Nat.le_refl _) (by omega)
  cases hw:argsLp L (i+3) [t] with
  |error e=>exact⟨fun a j e=>(by cases e),fun e he=>by cases he;exact q2 _ hw⟩
  |ok v=>
   obtain⟨ts,j⟩:=v
   obtain⟨r1,r2,_⟩:=q1 ts j hw
   simp only
   cases h3:isM L j bClose
   ·rw[if_neg (by simp)]
    exact⟨fun a j e=>(by cases e),fun e he=>by cases he;exact r2⟩
   ·rw[if_pos rfl]
    have:=isM_lt h3
    exact⟨fun a j e=>by cases e;exact⟨by omega,by omega⟩,fun e he=>by cases he⟩
theorem opP_le{L:List Tok}{i:Nat}{t:Term}(hi:i<=L.length):(∀a j,opP L i t=.ok (a,j)->i<j/\j<=L.length)/\(∀e,opP L i t=.error e->e<=L.length):=by
 unfold opP
 cases h:anyM L i opsB
 ·rw[if_neg (by simp)]
  exact⟨fun a j e=>(by cases e),fun e he=>by cases he;exact hi⟩
 rw[if_pos rfl]
 have hl:=anyM_lt h
 cases ht:termP L (i+1) with
 |none=>exact⟨fun a j e=>(by cases e),fun e he=>by cases he;exact hl⟩
 |some c=>
  have:=termP_lt ht
  exact⟨fun a j e=>by cases e;exact⟨by omega,by omega⟩,fun e he=>by cases he⟩
abbrev bNot:ByteArray:=⟨⟨[110,111,116]⟩⟩
abbrev bIf:ByteArray:=⟨⟨[105,102]⟩⟩
abbrev bDot:ByteArray:=⟨⟨[46]⟩⟩
abbrev term0:Term:=⟨0,0,⟨⟨[]⟩⟩⟩
def exMap{α β:Type}(f:α->β):Except Nat (α×Nat)->Except Nat (β×Nat)
 |.ok (a,j)=>.ok (f a,j)
 |.error e=>.error e
def litP(L:List Tok)(i:Nat):Except Nat (Lit×Nat):=
 if isM L i bNot=true then exMap (fun a=>(⟨2,a,term0,term0⟩:Lit)) (atomP L (i+1))
 else if kAt L i=1/\anyM L (i+1) opsB=false then exMap (fun a=>(⟨1,a,term0,term0⟩:Lit)) (atomP L i)
 else match termP L i with
  |none=>.error i
  |some t=>opP L (i+1) t
theorem exMap_ok{α β:Type}{f:α->β}{x:Except Nat (α×Nat)}{b:β}{j:Nat}(h:exMap f x=.ok (b,j)):∃a,x=.ok (a,j)/\b=f a:=by
 cases x with
 |error e=>cases h
 |ok v=>
  obtain⟨a,k⟩:=v
  cases h
  exact⟨a,rfl,rfl⟩
theorem exMap_er{α β:Type}{f:α->β}{x:Except Nat (α×Nat)}{e:Nat}(h:exMap f x=.error e):x=.error e:=by
 cases x with
 |error e=>cases h;rfl
 |ok v=>cases h
theorem litP_le{L:List Tok}{i:Nat}(hi:i<=L.length):(∀a j,litP L i=.ok (a,j)->i<j/\j<=L.length)/\(∀e,litP L i=.error e->e<=L.length):=by
 unfold litP
 cases h1:isM L i bNot
 case true=>
  rw[if_pos rfl]
  have hl:=isM_lt h1
  obtain⟨q1,q2⟩:=atomP_le (show i+1<=L.length from hl)
  exact⟨fun a j e=>by
   obtain⟨x,hx,_⟩:=exMap_ok e
   have:=q1 x j hx
   exact⟨by omega,this.2⟩,fun e he=>q2 e (exMap_er he)⟩
 rw[if_neg (by simp)]
 by_cases h2:kAt L i=1/\anyM L (i+1) opsB=false
 ·rw[if_pos h2]
  obtain⟨q1,q2⟩:=atomP_le hi
  exact⟨fun a j e=>by
   obtain⟨x,hx,_⟩:=exMap_ok e
   exact q1 x j hx,fun e he=>q2 e (exMap_er he)⟩
 rw[if_neg h2]
 cases ht:termP L i with
 |none=>exact⟨fun a j e=>(by cases e),fun e he=>by cases he;exact hi⟩
 |some t=>
  have hl:=termP_lt ht
  obtain⟨q1,q2⟩:=opP_le (t:=t) (show i+1<=L.length from hl)
  exact⟨fun a j e=>by
   have:=q1 a j e
   exact⟨by omega,this.2⟩,q2⟩
def litBig(l:Lit):Bool:=decide (3<l.atom.args.length)
theorem opP_big{L:List Tok}{i j:Nat}{t:Term}{l:Lit}(h:opP L i t=.ok (l,j)):litBig l=false:=by
 unfold opP at h
 cases h1:anyM L i opsB
 ·rw[h1,if_neg (by simp)]at h;cases h
 rw[h1,if_pos rfl]at h
 cases ht:termP L (i+1) with
 |none=>rw[ht]at h;cases h
 |some c=>
  rw[ht]at h
  cases h
  unfold mkOp litBig
  repeat' split
  all_goals rfl
section
variable{L:List Tok}{own:Own}{i:Nat}{b:Bool}{m n:Nat}{ob:List (Nat×LObj)}
set_option maxHeartbeats 1000000 in
theorem t_literal(hL:L.length<=2^20)(hN:NumOk L)(hi:i<=L.length)(hl:look m ob=some (parC L own i b)){kv kp:HP}
  (hk0:∀e,litP L i=.error e->∀n',n<=n'->kp faultV ⟨putO m (parC L own e b) ob,n'⟩)
  (hk1:∀l j,litP L i=.ok (l,j)->∀n',n<=n'->kv (litL l) ⟨putO m (parC L own j (b||litBig l)) ob,n'⟩):
  cP E0 F0 57 [.ptr m 0] ⟨ob,n⟩ kv kp:=by
 refine cP_of_fnB c57 fun hH=>⟨Nat.le_of_ble_eq_true rfl,?_⟩
 have hOb:Desc ob n:=hH
 have hm:m<n:=hH.look hl
 have hlp:∀x,look m (putO m x ob)=some x:=fun x=>look_putO hl
 obtain⟨V,hV⟩:∃V,litP L i=V:=⟨_,rfl⟩
 have fin0:∀(e:Nat)(ob':List (Nat×LObj))(m':Nat),V=.error e->n<=m'->(∀j,j<n->look j ob'=look j (putO m (parC L own e b) ob))->∃H'',HWk ⟨ob',m'⟩ H''/\(LHeap.Ok ⟨ob',m'⟩->H''.Ok)/\kp faultV H'':=fun e ob' m' he hm' ho=>
  ⟨⟨putO m (parC L own e b) ob,m'⟩,hwk_old (n:=n) (show LHeap.Ok ⟨putO m (parC L own e b) ob,n⟩ from hOb.put) ho (Nat.le_refl _),fun _=>hOb.put.mono hm',hk0 e (by rw[hV,he]) m' hm'⟩
 have fin1:∀(l:Lit)(j:Nat)(b':Bool)(ob':List (Nat×LObj))(m':Nat),V=.ok (l,j)->(b||litBig l)=b'->n<=m'->(∀k,k<n->look k ob'=look k (putO m (parC L own j b') ob)) ->
   ∃v',Wk (litL l) v'/\∃H'',HWk ⟨ob',m'⟩ H''/\(LHeap.Ok ⟨ob',m'⟩->H''.Ok)/\kv v' H'':=fun l j b' ob' m' he hb hm' ho=>by
  subst hb
  exact⟨_,.inl rfl,⟨putO m (parC L own j (b||litBig l)) ob,m'⟩,hwk_old (n:=n) (show LHeap.Ok ⟨putO m (parC L own j (b||litBig l)) ob,n⟩ from hOb.put) ho (Nat.le_refl _),fun _=>hOb.put.mono hm',hk1 _ _ (by rw[hV,he]) m' hm'⟩
 unfold litP at hV
 simp(disch:=omega)[b57]
 refine t_is hL hi [bNot] (by simp) .full (b:=b) (own:=own) (by rw[look_ne (by omega)];exact hl) (fun h1 n3 hn3=>?_) (fun h1 h1l n3 hn3=>?_)
 ·have h1':isM L i bNot=false:=by simpa [anyM] using h1
  rw[if_neg (by rw[h1'];simp)]at hV
  simp(disch:=omega)
  refine t_kind hL hi 0 (by omega) (b:=b) (own:=own) (by rw[look_ne (by omega)];exact hl) fun n4 hn4=>?_
  rw[show i+0=i from rfl]
  by_cases hk:kAt L i=1
  ·rw[hk]
   simp(disch:=omega)
   refine t_compared hL hi (b:=b) (own:=own) (by rw[look_ne (by omega)];exact hl) fun n5 hn5=>?_
   cases hc:anyM L (i+1) opsB
   ·rw[if_pos ⟨hk,hc⟩]at hV
    simp(disch:=omega)
    refine t_atom hL hN hi (b:=b) (own:=own) (by rw[look_ne (by omega)];exact hl) (fun e he n6 hn6=>?_) (fun a j he n6 hn6=>?_)
    ·rw[he]at hV
     simp(disch:=omega)
     exact fin0 e _ n6 hV.symm (by omega) fun j hj=>look_ne (by omega) _ _
    ·rw[he]at hV
     simp(disch:=omega)
     exact fin1 ⟨1,a,term0,term0⟩ j _ _ n6 hV.symm rfl (by omega) fun j hj=>look_ne (by omega) _ _
   rw[if_neg (by rw[hc];simp)]at hV
   simp(disch:=omega)
   refine t_term hL hN hi (b:=b) (own:=own) (by rw[look_ne (by omega)];exact hl) (fun ht n6 hn6=>?_) (fun t ht htl n6 hn6=>?_)
   ·rw[ht]at hV
    simp(disch:=omega)
    exact fin0 i _ n6 hV.symm (by omega) fun j hj=>by rw[look_ne (by omega),putO_same hl]
   rw[ht]at hV
   simp only at hV
   simp(disch:=omega)
   refine t_op hL hN (show i+1<=L.length from htl) (b:=b) (own:=own) (by simp(disch:=omega)[putO_putO,hlp]) t (fun e he n7 hn7=>?_) (fun l j he n7 hn7=>?_)
   ·rw[he]at hV
    simp(disch:=omega)[putO_putO]
    exact fin0 e _ n7 hV.symm (by omega) fun j hj=>look_ne (by omega) _ _
   ·rw[he]at hV
    simp(disch:=omega)[putO_putO]
    exact fin1 l j _ _ n7 hV.symm (by rw[opP_big he,Bool.or_false]) (by omega) fun j hj=>look_ne (by omega) _ _
  rw[if_neg (by simp[hk])]at hV
  simp(disch:=omega)[hk]
  refine t_term hL hN hi (b:=b) (own:=own) (by rw[look_ne (by omega)];exact hl) (fun ht n6 hn6=>?_) (fun t ht htl n6 hn6=>?_)
  ·rw[ht]at hV
   simp(disch:=omega)
   exact fin0 i _ n6 hV.symm (by omega) fun j hj=>by rw[look_ne (by omega),putO_same hl]
  rw[ht]at hV
  simp only at hV
  simp(disch:=omega)
  refine t_op hL hN (show i+1<=L.length from htl) (b:=b) (own:=own) (by simp(disch:=omega)[putO_putO,hlp]) t (fun e he n7 hn7=>?_) (fun l j he n7 hn7=>?_)
  ·rw[he]at hV
   simp(disch:=omega)[putO_putO]
   exact fin0 e _ n7 hV.symm (by omega) fun j hj=>look_ne (by omega) _ _
  ·rw[he]at hV
   simp(disch:=omega)[putO_putO]
   exact fin1 l j _ _ n7 hV.symm (by rw[opP_big he,Bool.or_false]) (by omega) fun j hj=>look_ne (by omega) _ _
 have h1':isM L i bNot=true:=by simpa [anyM] using h1
 rw[if_pos h1']at hV
 simp(disch:=omega)
 refine t_atom hL hN (show i+1<=L.length from h1l) (b:=b) (own:=own) (by simp(disch:=omega)[putO_putO,hlp]) (fun e he n6 hn6=>?_) (fun a j he n6 hn6=>?_)
 ·rw[he]at hV
  simp(disch:=omega)[putO_putO]
  exact fin0 e _ n6 hV.symm (by omega) fun j hj=>look_ne (by omega) _ _
 ·rw[he]at hV
  simp(disch:=omega)[putO_putO]
  exact fin1 ⟨2,a,term0,term0⟩ j _ _ n6 hV.symm rfl (by omega) fun j hj=>look_ne (by omega) _ _
end
structure RelT(L:List Tok)(R:List RTok):Prop where
 len:R.length=L.length+1
 lim:R.length<=2^20
 kind:∀i (h:i<L.length) (h':i<R.length),R[i].kind=L[i].kind
 num:∀i (h:i<L.length) (h':i<R.length),L[i].kind=3->R[i].n=L[i].n
 text:∀i (h:i<L.length) (h':i<R.length),L[i].kind≠3->R[i].s=L[i].text
 pos:∀i (h:i<L.length) (h':i<R.length),R[i].at_=L[i].at_
 kinds:∀t∈L,1<=t.kind/\t.kind<=4
 ats:∀r∈R,0<=r.at_
 fin:∀h':L.length<R.length,R[L.length].kind=5
section
variable{L:List Tok}{R:List RTok}(hR:RelT L R)
include hR
end
section
variable{L:List Tok}{R:List RTok}{own:Own}{i:Nat}{bad:Int}{b:Bool}{m n:Nat}{ob:List (Nat×LObj)}
end
section
variable{L:List Tok}{R:List RTok}{own:Own}{i:Nat}{bad:Int}{b:Bool}{m n:Nat}{ob:List (Nat×LObj)}
end
structure NNIk where
 i:Nat
 n:Nat
 es:List Term
 ow:Own
 ob:List (Nat×LObj)
 bad:Int
section
variable{L:List Tok}{R:List RTok}{own:Own}{i:Nat}{b:Bool}{m n:Nat}{ob:List (Nat×LObj)}
end
section
variable{L:List Tok}{R:List RTok}{own:Own}{i:Nat}{b:Bool}{m n:Nat}{ob:List (Nat×LObj)}
end
def litsLp(L:List Tok)(i:Nat)(acc:List Lit):Except Nat (List Lit×Nat):=
 if _h:isM L i bComma=true then
  match _hm:litP L (i+1) with
  |.error e=>.error e
  |.ok (l,j)=>litsLp L j (acc++[l])
 else .ok (acc,i)
termination_by L.length - i
decreasing_by
 have h1:=isM_lt _h
 have h2:=(litP_le (show i+1<=L.length from h1)).1 _ _ _hm
 omega
theorem litsLp_no{L:List Tok}{i:Nat}{acc:List Lit}(h:isM L i bComma=false):litsLp L i acc=.ok (acc,i):=by
 unfold litsLp
 rw[dif_neg (by rw[h];simp)]
theorem litsLp_bad{L:List Tok}{i e:Nat}{acc:List Lit}(h:isM L i bComma=true)(ht:litP L (i+1)=.error e):litsLp L i acc=.error e:=by
 unfold litsLp
 rw[dif_pos h]
 split
 ·rename_i e2 h2
  rw[ht]at h2
  cases h2
  rfl
 ·rename_i l j h2
  rw[ht]at h2
  cases h2
theorem litsLp_go{L:List Tok}{i j:Nat}{acc:List Lit}{l:Lit}(h:isM L i bComma=true)(ht:litP L (i+1)=.ok (l,j)):litsLp L i acc=litsLp L j (acc++[l]):=by
 conv=>lhs;unfold litsLp
 rw[dif_pos h]
 split
 ·rename_i e2 h2
  rw[ht]at h2
  cases h2
 ·rename_i l2 j2 h2
  rw[ht]at h2
  cases h2
  rfl
theorem litsLp_le{L:List Tok}:∀(k i:Nat)(acc:List Lit),L.length - i<=k->i<=L.length ->
  (∀ts j,litsLp L i acc=.ok (ts,j)->i<=j/\j<=L.length)/\(∀e,litsLp L i acc=.error e->e<=L.length)
 |k,i,acc,hk,hi=>by
  cases h:isM L i bComma
  ·rw[litsLp_no h]
   exact⟨fun ts j e=>by cases e;exact⟨Nat.le_refl _,hi⟩,fun e he=>by cases he⟩
  have hlt:=isM_lt h
  obtain⟨q1,q2⟩:=litP_le (show i+1<=L.length from hlt)
  cases ht:litP L (i+1) with
  |error e=>
   rw[litsLp_bad h ht]
   exact⟨fun ts j e=>(by cases e),fun e he=>by cases he;exact q2 _ ht⟩
  |ok v=>
   obtain⟨l,j⟩:=v
   rw[litsLp_go h ht]
   obtain⟨r1,r2⟩:=q1 l j ht
   match k with
   |0=>omega
   |k+1=>
    obtain⟨s1,s2⟩:=litsLp_le (L:=L) k j (acc++[l]) (by omega) r2
    exact⟨fun ts j2 e=>by
     obtain⟨u1,u2⟩:=s1 ts j2 e
     exact⟨by omega,u2⟩,s2⟩
def finP(L:List Tok)(h:Atom)(ls:List Lit)(j:Nat):Except Nat (Clause×Nat):=if isM L j bDot=true then .ok (⟨h,ls⟩,j+1) else .error j
def bodyP(L:List Tok)(h:Atom)(j:Nat):Except Nat (Clause×Nat):=
 match litP L j with
 |.error e=>.error e
 |.ok (l,k)=>match litsLp L k [l] with
  |.error e=>.error e
  |.ok (ls,k2)=>finP L h ls k2
def clauseP(L:List Tok)(i:Nat):Except Nat (Clause×Nat):=
 match atomP L i with
 |.error e=>.error e
 |.ok (h,j)=>if isM L j bIf=true then bodyP L h (j+1) else finP L h [] j
def clBig(c:Clause):Bool:=(decide (3<c.head.args.length)||c.body.any litBig)||decide (5<c.body.length)
theorem finP_le{L:List Tok}{h:Atom}{ls:List Lit}{i:Nat}(hi:i<=L.length):(∀a j,finP L h ls i=.ok (a,j)->i<j/\j<=L.length)/\(∀e,finP L h ls i=.error e->e<=L.length):=by
 unfold finP
 cases h1:isM L i bDot
 ·rw[if_neg (by simp)]
  exact⟨fun a j e=>(by cases e),fun e he=>by cases he;exact hi⟩
 ·rw[if_pos rfl]
  have:=isM_lt h1
  exact⟨fun a j e=>by cases e;exact⟨by omega,by omega⟩,fun e he=>by cases he⟩
theorem clauseP_le{L:List Tok}{i:Nat}(hi:i<=L.length):(∀a j,clauseP L i=.ok (a,j)->i<j/\j<=L.length)/\(∀e,clauseP L i=.error e->e<=L.length):=by
 unfold clauseP
 obtain⟨q1,q2⟩:=atomP_le hi
 cases ha:atomP L i with
 |error e=>exact⟨fun a j e=>(by cases e),fun e he=>by cases he;exact q2 _ ha⟩
 |ok v=>
  obtain⟨h,j⟩:=v
  obtain⟨r1,r2⟩:=q1 h j ha
  simp only
  cases h1:isM L j bIf
  ·rw[if_neg (by simp)]
   obtain⟨s1,s2⟩:=finP_le (h:=h) (ls:=[]) r2
   exact⟨fun a j2 e=>by
    have:=s1 a j2 e
    exact⟨by omega,this.2⟩,s2⟩
  rw[if_pos rfl]
  unfold bodyP
  have hl:=isM_lt h1
  obtain⟨s1,s2⟩:=litP_le (show j+1<=L.length from hl)
  cases hb:litP L (j+1) with
  |error e=>exact⟨fun a j e=>(by cases e),fun e he=>by cases he;exact s2 _ hb⟩
  |ok v=>
   obtain⟨l,k⟩:=v
   obtain⟨t1,t2⟩:=s1 l k hb
   simp only
   obtain⟨u1,u2⟩:=litsLp_le (L:=L) _ k [l] (Nat.le_refl _) t2
   cases hc:litsLp L k [l] with
   |error e=>exact⟨fun a j e=>(by cases e),fun e he=>by cases he;exact u2 _ hc⟩
   |ok v=>
    obtain⟨ls,k2⟩:=v
    obtain⟨v1,v2⟩:=u1 ls k2 hc
    simp only
    obtain⟨w1,w2⟩:=finP_le (h:=h) (ls:=ls) v2
    exact⟨fun a j2 e=>by
     have:=w1 a j2 e
     exact⟨by omega,this.2⟩,w2⟩
theorem strip_clauseO(h:Atom)(ls:List Lit)(ow:Own):Wk (.agg [.str h.pred,argsL h.args,.sl (ls.map litL) ow]) (clauseL ⟨h,ls⟩):=by
 refine .inr (.inl ?_)
 simp[LV.strip,stripL,stripL_map,List.map_map,Function.comp_def]
theorem lits_all(l:List Lit):(l.map litL).all (fun e=>e.cells.length==9)=true:=by simp[LV.cells]
structure NNIg where
 i:Nat
 n:Nat
 es:List Lit
 ow:Own
 ob:List (Nat×LObj)
 b:Bool
section
variable{L:List Tok}{own:Own}{i:Nat}{b:Bool}{m n:Nat}{ob:List (Nat×LObj)}
set_option maxHeartbeats 2000000 in
theorem t_clause(hL:L.length<=2^20)(hN:NumOk L)(hi:i<=L.length)(hl:look m ob=some (parC L own i b)){kv kp:HP}
  (hk0:∀e,clauseP L i=.error e->∀b' n',n<=n'->kp faultV ⟨putO m (parC L own e b') ob,n'⟩)
  (hk1:∀c j,clauseP L i=.ok (c,j)->∀n',n<=n'->kv (clauseL c) ⟨putO m (parC L own j (b||clBig c)) ob,n'⟩):
  cP E0 F0 27 [.ptr m 0] ⟨ob,n⟩ kv kp:=by
 refine cP_of_fnB c27 fun hH=>⟨Nat.le_of_ble_eq_true rfl,?_⟩
 have hOb:Desc ob n:=hH
 have hm:m<n:=hH.look hl
 have hlp:∀x,look m (putO m x ob)=some x:=fun x=>look_putO hl
 obtain⟨V,hV⟩:∃V,clauseP L i=V:=⟨_,rfl⟩
 have fin0:∀(e:Nat)(b':Bool)(ob':List (Nat×LObj))(m':Nat),V=.error e->n<=m'->(∀j,j<n->look j ob'=look j (putO m (parC L own e b') ob))->∃H'',HWk ⟨ob',m'⟩ H''/\(LHeap.Ok ⟨ob',m'⟩->H''.Ok)/\kp faultV H'':=fun e b' ob' m' he hm' ho=>
  ⟨⟨putO m (parC L own e b') ob,m'⟩,hwk_old (n:=n) (show LHeap.Ok ⟨putO m (parC L own e b') ob,n⟩ from hOb.put) ho (Nat.le_refl _),fun _=>hOb.put.mono hm',hk0 e (by rw[hV,he]) b' m' hm'⟩
 have fin1:∀(h:Atom)(ls:List Lit)(ow:Own)(j:Nat)(b':Bool)(ob':List (Nat×LObj))(m':Nat),V=.ok (⟨h,ls⟩,j)->(b||clBig ⟨h,ls⟩)=b'->n<=m'->(∀k,k<n->look k ob'=look k (putO m (parC L own j b') ob)) ->
   ∃v',Wk (.agg [.str h.pred,argsL h.args,.sl (ls.map litL) ow]) v'/\∃H'',HWk ⟨ob',m'⟩ H''/\(LHeap.Ok ⟨ob',m'⟩->H''.Ok)/\kv v' H'':=fun h ls ow j b' ob' m' he hb hm' ho=>by
  subst hb
  exact⟨_,strip_clauseO h ls ow,⟨putO m (parC L own j (b||clBig ⟨h,ls⟩)) ob,m'⟩,hwk_old (n:=n) (show LHeap.Ok ⟨putO m (parC L own j (b||clBig ⟨h,ls⟩)) ob,n⟩ from hOb.put) ho (Nat.le_refl _),fun _=>hOb.put.mono hm',hk1 _ _ (by rw[hV,he]) m' hm'⟩
 unfold clauseP at hV
 obtain⟨_,alt⟩:=atomP_le hi
 simp(disch:=omega)[b27]
 refine t_atom hL hN hi (b:=b) (own:=own) (by rw[look_ne (by omega)];exact hl) (fun e he n3 hn3=>?_) (fun hd p he n3 hn3=>?_)
 ·rw[he]at hV
  simp(disch:=omega)
  exact fin0 e b _ n3 hV.symm (by omega) fun j hj=>by simp(disch:=omega)[putO_putO]
 rw[he]at hV
 simp only at hV
 obtain⟨hp1,hpl⟩:=(atomP_le hi).1 hd p he
 obtain⟨b1,hb1⟩:∃b1,(b||decide (3<hd.args.length))=b1:=⟨_,rfl⟩
 rw[hb1]
 simp(disch:=omega)[hlp,putO_putO]
 refine t_is hL hpl [bIf] (by simp) .full (b:=b1) (own:=own) (by simp(disch:=omega)[putO_putO,hlp]) (fun h1 n4 hn4=>?_) (fun h1 h1l n4 hn4=>?_)
 ·have h1':isM L p bIf=false:=by simpa [anyM] using h1
  rw[if_neg (by rw[h1'];simp)]at hV
  unfold finP at hV
  obtain⟨ob2,hob2⟩:∃ob2,(n3,LObj.cells [.str hd.pred,argsL hd.args,Nl])::(n,.cells [.str ⟨⟨[]⟩⟩,Nl,Nl])::putO m (parC L own p b1) ob=ob2:=⟨_,rfl⟩
  obtain⟨k,hk⟩:∃k,p=k:=⟨_,rfl⟩
  obtain⟨es,hes⟩:∃es:List Lit,es=[]:=⟨_,rfl⟩
  obtain⟨ow,how⟩:∃ow:Own,ow=.full:=⟨_,rfl⟩
  obtain⟨b2,hbb⟩:∃b2,b1=b2:=⟨_,rfl⟩
  have hk2:k<=L.length:=by omega
  have hb2:((b||decide (3<hd.args.length))||es.any litBig)=b2:=by rw[hb1,hes,<-hbb];simp
  have kb:look n3 ob2=some (.cells [.str hd.pred,argsL hd.args,.sl (es.map litL) ow]):=by rw[<-hob2,hes,how];exact look_self _ _ _
  have kz:look n ob2=some (.cells [.str ⟨⟨[]⟩⟩,Nl,Nl]):=by rw[<-hob2,look_ne (by omega)];exact look_self _ _ _
  have kc:look m ob2=some (parC L own k b2):=by rw[<-hob2,look_ne (by omega),look_ne (by omega),<-hk,<-hbb];exact hlp _
  have ko:∀j,j<n->look j ob2=look j (putO m (parC L own k b2) ob):=fun j hj=>by rw[<-hob2,look_ne (by omega),look_ne (by omega),<-hk,<-hbb]
  have kp2:∀x,look m (putO m x ob2)=some x:=fun x=>look_putO kc
  have ko2:∀(x:LObj)(j:Nat),j<n->look j (putO m x ob2)=look j (putO m x ob):=fun x j hj=>by
   by_cases hjm:j=m
   ·subst hjm;rw[kp2,hlp]
   ·rw[look_putO_ne hjm,look_putO_ne hjm,ko j hj,look_putO_ne hjm]
  rw[hk]at hV
  rw[hob2]
  rw[<-hes]at hV
  simp(disch:=omega)
  refine t_must hL hk2 bDot kc (fun h3 n8 hn8=>?_) (fun h3 h3l n8 hn8=>?_)
  ·rw[if_neg (by rw[h3];simp)]at hV
   simp(disch:=omega)
   exact fin0 k b2 _ n8 hV.symm (by omega) ko
  ·rw[if_pos h3]at hV
   have ka2:∀x,look n3 (putO m x ob2)=some (.cells [.str hd.pred,argsL hd.args,.sl (es.map litL) ow]):=fun x=>by rw[look_putO_ne (by omega)];exact kb
   have kn3:∀x,look n (putO m x ob2)=some (.cells [.str ⟨⟨[]⟩⟩,Nl,Nl]):=fun x=>by rw[look_putO_ne (by omega)];exact kz
   have kn2:∀x y,look n (putO n y (putO m x ob2))=some y:=fun x y=>look_putO (kn3 x)
   have last:∀(y:LObj)(b':Bool),(b2||decide (5<es.length))=b'->∃v',Wk (.agg [.str hd.pred,argsL hd.args,.sl (es.map litL) ow]) v'/\∃H'',HWk ⟨putO n y (putO m (parC L own (k+1) b') ob2),n8⟩ H''/\(LHeap.Ok ⟨putO n y (putO m (parC L own (k+1) b') ob2),n8⟩->H''.Ok)/\kv v' H'':=fun y b' hb=>
    fin1 hd es ow (k+1) b' _ n8 hV.symm (by rw[<-hb,<-hb2];unfold clBig;simp only[Bool.or_assoc]) (by omega) fun j hj=>by rw[look_putO_ne (by omega)];exact ko2 _ j hj
   cases b2
   ·simp(disch:=omega)[kp2,kn2,kn3,ka2,putO_putO]
    exact last _ (decide ((5:Int)<(es.length:Int))) (by rw[Bool.false_or];exact decide_eq_decide.2 (by omega))
   ·simp(disch:=omega)[kp2,kn2,kn3,ka2,putO_putO]
    exact last _ true rfl
 have h1':isM L p bIf=true:=by simpa [anyM] using h1
 rw[if_pos h1']at hV
 unfold bodyP at hV
 simp(disch:=omega)[hlp,putO_putO]
 obtain⟨_,llt⟩:=litP_le (show p+1<=L.length from h1l)
 refine t_literal hL hN (show p+1<=L.length from h1l) (b:=b1) (own:=own) (by simp(disch:=omega)[putO_putO,hlp]) (fun e he2 n5 hn5=>?_) (fun l q he2 n5 hn5=>?_)
 ·rw[he2]at hV
  simp(disch:=omega)[putO_putO]
  exact fin0 e b1 _ n5 hV.symm (by omega) fun j hj=>by simp(disch:=omega)[putO_putO]
 rw[he2]at hV
 simp only at hV
 obtain⟨hq1,hql⟩:=(litP_le (show p+1<=L.length from h1l)).1 l q he2
 obtain⟨W,hW⟩:∃W,litsLp L q [l]=W:=⟨_,rfl⟩
 rw[hW]at hV
 obtain⟨b3,hb3⟩:∃b3,(b1||litBig l)=b3:=⟨_,rfl⟩
 rw[hb3]
 simp(disch:=omega)[hlp,putO_putO]
 refine effP_ap ?_
 simp(disch:=omega)
 obtain⟨ow1,ob1,m1,e1,hr1,hm1⟩:=row_apY (sz:=9) (es:=[]) (own:=.full) (Y:=[litL l]) (H:=⟨(n3,.cells [.str hd.pred,argsL hd.args,Nl])::(n,.cells [.str ⟨⟨[]⟩⟩,Nl,Nl])::putO m (parC L own q b3) ob,n5⟩) (by omega) rfl rfl (by simp) (.inl ⟨rfl,rfl,Nat.le_refl _⟩)
 have hold:=hr1.old
 dsimp only at hold
 have ka:look n3 ob1=some (.cells [.str hd.pred,argsL hd.args,Nl]):=by rw[hold.2 n3 (by omega)];exact look_self _ _ _
 have hr2:=hr1.put (j:=n3) (x:=.cells [.str hd.pred,argsL hd.args,.sl ([l].map litL) ow1]) (by dsimp only;omega)
 dsimp only at hr2
 rw[putO_self]at hr2
 rw[e1]
 simp(disch:=omega)[ka]
 refine lP_enter (σ:=NNIg) (fun q=>(.nd (.ptr m 0) (.nd .bot (.nd (.ptr n3 0) .nil .nil) .nil) (.nd (.ptr n 0) .nil .nil))) (fun q=>⟨q.ob,q.n⟩) (fun q=>L.length - q.i)
  (fun q=>RowT ⟨(n3,.cells [.str hd.pred,argsL hd.args,.sl (q.es.map litL) q.ow])::(n,.cells [.str ⟨⟨[]⟩⟩,Nl,Nl])::putO m (parC L own q.i q.b) ob,n5⟩ 9 q.es.length q.ow q.ob q.n/\q.i<=L.length/\q.es.length<=q.i/\litsLp L q.i q.es=W/\((b||decide (3<hd.args.length))||q.es.any litBig)=q.b) ⟨q,m1,[l],ow1,putO n3 (.cells [.str hd.pred,argsL hd.args,.sl ([l].map litL) ow1]) ob1,b3⟩ ⟨hr2,hql,by simp;omega,hW,by rw[hb1,<-hb3];simp⟩ (by simp[FT.Le,Wk]) ⟨HWk.refl _,fun h=>h⟩ ?_
 rintro⟨k,n6,es,ow,ob2,b2⟩ ⟨hr,hk2,hel,he,hb2⟩ hok
 dsimp only at hr hk2 hel he hok hb2
 have hold2:=hr.old
 dsimp only at hold2
 have kb:look n3 ob2=some (.cells [.str hd.pred,argsL hd.args,.sl (es.map litL) ow]):=by rw[hold2.2 n3 (by omega)];exact look_self _ _ _
 have kz:look n ob2=some (.cells [.str ⟨⟨[]⟩⟩,Nl,Nl]):=by rw[hold2.2 n (by omega),look_ne (by omega)];exact look_self _ _ _
 have kc:look m ob2=some (parC L own k b2):=by rw[hold2.2 m (by omega),look_ne (by omega),look_ne (by omega)];exact hlp _
 have ko:∀j,j<n->look j ob2=look j (putO m (parC L own k b2) ob):=fun j hj=>by rw[hold2.2 j (by omega),look_ne (by omega),look_ne (by omega)]
 have kp2:∀x,look m (putO m x ob2)=some x:=fun x=>look_putO kc
 have ko2:∀(x:LObj)(j:Nat),j<n->look j (putO m x ob2)=look j (putO m x ob):=fun x j hj=>by
  by_cases hjm:j=m
  ·subst hjm;rw[kp2,hlp]
  ·rw[look_putO_ne hjm,look_putO_ne hjm,ko j hj,look_putO_ne hjm]
 simp(disch:=omega)
 refine t_is hL hk2 [bComma] (by simp) .full kc (fun h2 n7 hn7=>?_) (fun h2 h2l n7 hn7=>?_)
 ·have h2':isM L k bComma=false:=by simpa [anyM] using h2
  rw[litsLp_no h2']at he
  subst he
  simp only at hV
  unfold finP at hV
  simp(disch:=omega)
  refine t_must hL hk2 bDot kc (fun h3 n8 hn8=>?_) (fun h3 h3l n8 hn8=>?_)
  ·rw[if_neg (by rw[h3];simp)]at hV
   simp(disch:=omega)
   exact fin0 k b2 _ n8 hV.symm (by omega) ko
  ·rw[if_pos h3]at hV
   have ka2:∀x,look n3 (putO m x ob2)=some (.cells [.str hd.pred,argsL hd.args,.sl (es.map litL) ow]):=fun x=>by rw[look_putO_ne (by omega)];exact kb
   have kn3:∀x,look n (putO m x ob2)=some (.cells [.str ⟨⟨[]⟩⟩,Nl,Nl]):=fun x=>by rw[look_putO_ne (by omega)];exact kz
   have kn2:∀x y,look n (putO n y (putO m x ob2))=some y:=fun x y=>look_putO (kn3 x)
   have last:∀(y:LObj)(b':Bool),(b2||decide (5<es.length))=b'->∃v',Wk (.agg [.str hd.pred,argsL hd.args,.sl (es.map litL) ow]) v'/\∃H'',HWk ⟨putO n y (putO m (parC L own (k+1) b') ob2),n8⟩ H''/\(LHeap.Ok ⟨putO n y (putO m (parC L own (k+1) b') ob2),n8⟩->H''.Ok)/\kv v' H'':=fun y b' hb=>
    fin1 hd es ow (k+1) b' _ n8 hV.symm (by rw[<-hb,<-hb2];unfold clBig;simp only[Bool.or_assoc]) (by omega) fun j hj=>by rw[look_putO_ne (by omega)];exact ko2 _ j hj
   cases b2
   ·simp(disch:=omega)[kp2,kn2,kn3,ka2,putO_putO]
    exact last _ (decide ((5:Int)<(es.length:Int))) (by rw[Bool.false_or];exact decide_eq_decide.2 (by omega))
   ·simp(disch:=omega)[kp2,kn2,kn3,ka2,putO_putO]
    exact last _ true rfl
 ·have h2':isM L k bComma=true:=by simpa [anyM] using h2
  have ka2:∀x,look n3 (putO m x ob2)=some (.cells [.str hd.pred,argsL hd.args,.sl (es.map litL) ow]):=fun x=>by rw[look_putO_ne (by omega)];exact kb
  simp(disch:=omega)[ka2]
  refine t_literal hL hN (show k+1<=L.length from h2l) (b:=b2) (own:=own) (kp2 _) (fun e ht n8 hn8=>?_) (fun l2 s ht n8 hn8=>?_)
  ·rw[litsLp_bad h2' ht]at he
   subst he
   simp only at hV
   simp(disch:=omega)[putO_putO]
   exact fin0 e b2 _ n8 hV.symm (by omega) fun j hj=>ko2 _ j hj
  rw[litsLp_go h2' ht]at he
  obtain⟨hs1,hsl⟩:=(litP_le (show k+1<=L.length from h2l)).1 l2 s ht
  obtain⟨b4,hb4⟩:∃b4,(b2||litBig l2)=b4:=⟨_,rfl⟩
  rw[hb4]
  have hr3:=(hr.put (j:=m) (x:=parC L own s b4) (by dsimp only;omega)).mono (show n6<=n8 by omega)
  dsimp only at hr3
  rw[putO_ne (by omega),putO_ne (by omega),putO_putO]at hr3
  simp(disch:=omega)[ka2,putO_putO]
  refine effP_ap ?_
  simp(disch:=omega)
  obtain⟨ow3,ob3,m3,e3,hr4,hm3⟩:=row_apY (sz:=9) (es:=es.map litL) (Y:=[litL l2]) (by omega) (lits_all es) rfl (by simp;omega) (by rw[List.length_map];exact hr3)
  rw[List.length_map,List.length_singleton]at hr4
  have hold4:=hr4.old
  dsimp only at hold4
  have ka4:look n3 ob3=some (.cells [.str hd.pred,argsL hd.args,.sl (es.map litL) ow]):=by rw[hold4.2 n3 (by omega)];exact look_self _ _ _
  have e4:es.map litL++[litL l2]=(es++[l2]).map litL:=by simp
  rw[e4]at e3
  have hr5:=hr4.put (j:=n3) (x:=.cells [.str hd.pred,argsL hd.args,.sl ((es++[l2]).map litL) ow3]) (by dsimp only;omega)
  dsimp only at hr5
  rw[putO_self]at hr5
  rw[e3]
  simp(disch:=omega)[ka4]
  exact⟨⟨s,m3,es++[l2],ow3,putO n3 (.cells [.str hd.pred,argsL hd.args,.sl ((es++[l2]).map litL) ow3]) ob3,b4⟩,by dsimp only;omega,⟨by rw[List.length_append,List.length_singleton];exact hr5,by dsimp only;omega,by simp;omega,he,by rw[<-hb4,<-hb2];simp[Bool.or_assoc]⟩,by simp[FT.Le,Wk],by simp;exact HWk.refl _,by simp⟩
end
structure NNIm where
 i:Nat
 n:Nat
 es:List Lit
 ow:Own
 ob:List (Nat×LObj)
 bad:Int
 b:Bool
section
variable{L:List Tok}{R:List RTok}{own:Own}{i:Nat}{b:Bool}{m n:Nat}{ob:List (Nat×LObj)}
end
def byI(s:ByteArray)(i:Nat):Int:=match s.data[i]? with
 |some c=>(c.toNat:Int)
 |none=>-1
theorem byI_of{s:ByteArray}{i:Nat}{c:UInt8}(h:s.data[i]? = some c):byI s i=(c.toNat:Int):=by unfold byI;rw[h]
theorem byI_ge{s:ByteArray}{i:Nat}(h:¬i<s.size):byI s i=-1:=by
 have:s.data[i]? = none:=Array.getElem?_eq_none (by have:s.data.size=s.size:=rfl;omega)
 unfold byI
 rw[this]
inductive LStep where
 |skip (j:Nat)
 |tok (r:RTok) (j:Nat)
 |bad (e:Nat)
def notNl(n:Int):Bool:=decide (n≠10)
def wKind(x:ByteArray)(n:Int):Int:=if (eqBA x bIf||eqBA x bNot)=true then 4 else if n<=90 then 2 else 1
def wordStep(s:ByteArray)(i:Nat):LStep:=if 24<endN wordC s i - i then .bad i else .tok ⟨wKind (s.extract i (endN wordC s i)) (byI s i),s.extract i (endN wordC s i),0,i⟩ (endN wordC s i)
def numFrom(s:ByteArray)(i:Nat):Nat:=if byI s i=45 then i+1 else i
def numEnd(s:ByteArray)(f:Nat):Nat:=if byI s f=48 then f+1 else endN digB s f
def numV(s:ByteArray)(f e:Nat):Int:=valL 0 (((sL s).drop f).take (e - f))
def numAt(s:ByteArray)(i f e:Nat):LStep:=if 1000000000<numV s f e then .bad i else if (digB (byI s e)||letB (byI s e))=true then .bad e else .tok ⟨3,⟨⟨[]⟩⟩,if byI s i=45 then 0 - numV s f e else numV s f e,i⟩ e
def numStep(s:ByteArray)(i:Nat):LStep:=if byI s i=45/\(byI s (i+1)<49\/57<byI s (i+1)) then .bad i else numAt s i (numFrom s i) (numEnd s (numFrom s i))
def markStep(s:ByteArray)(i:Nat):LStep:=if markL ((sL s).drop i)=0 then .bad i else .tok ⟨4,s.extract i (i+markL ((sL s).drop i)),0,i⟩ (i+markL ((sL s).drop i))
def lstep(s:ByteArray)(i:Nat):LStep:=
 if byI s i=32\/byI s i=9\/byI s i=10 then .skip (i+1)
 else if byI s i=35 then .skip (endN notNl s i)
 else if letB (byI s i)=true then wordStep s i
 else if digB (byI s i)=true\/byI s i=45 then numStep s i
 else markStep s i
def lexF(s:ByteArray):Nat->Nat->List RTok->Except Nat (List RTok)
 |0,_,acc=>.ok acc
 |k+1,i,acc=>if i<s.size then
   match lstep s i with
   |.skip j=>lexF s k j acc
   |.tok r j=>lexF s k j (acc++[r])
   |.bad e=>.error e
  else .ok acc
theorem lexF_end{s:ByteArray}{k i:Nat}{acc:List RTok}(h:¬i<s.size):lexF s (k+1) i acc=.ok acc:=by
 unfold lexF
 rw[if_neg h]
theorem lexF_go{s:ByteArray}{k i:Nat}{acc:List RTok}(h:i<s.size):lexF s (k+1) i acc=match lstep s i with
   |.skip j=>lexF s k j acc
   |.tok r j=>lexF s k j (acc++[r])
   |.bad e=>.error e:=by
 conv=>lhs;unfold lexF
 rw[if_pos h]
theorem endN_lt{p:Int->Bool}{s:ByteArray}{i:Nat}{c:UInt8}{r:List UInt8}(hd:(sL s).drop i=c::r)(hp:p (c.toNat:Int)=true):i<endN p s i:=by
 unfold endN
 rw[hd]
 unfold runN
 rw[if_pos hp]
 omega
abbrev endT(s:ByteArray):RTok:=⟨5,⟨⟨[]⟩⟩,0,s.size⟩
theorem runN_take(p:Int->Bool):∀(l:List UInt8)(c:UInt8),c∈l.take (runN p l)->p (c.toNat:Int)=true
 |[],c,h=>by simp at h
 |d::r,c,h=>by
  unfold runN at h
  by_cases hp:p (d.toNat:Int)=true
  ·rw[if_pos hp,List.take_succ_cons]at h
   rcases List.mem_cons.1 h with rfl|h
   ·exact hp
   ·exact runN_take p r c h
  ·rw[if_neg hp]at h
   simp at h
theorem num_digits{s:ByteArray}{f:Nat}{c:UInt8}(hc:s.data[f]? = some c)(hd:(sL s).drop f=c::(sL s).drop (f+1))(hr:digB (c.toNat:Int)=true):∀d∈sL (s.extract f (numEnd s f)),digB (d.toNat:Int)=true:=by
 intro d h
 unfold sL at h
 rw[extr_list]at h
 unfold numEnd at h
 rw[byI_of hc]at h
 by_cases h48:(c.toNat:Int)=48
 ·rw[if_pos h48,show f+1 - f=1 by omega,hd]at h
  simp at h
  rw[h]
  exact hr
 ·rw[if_neg h48]at h
  unfold endN at h
  rw[show f+runN digB ((sL s).drop f) - f=runN digB ((sL s).drop f) by omega]at h
  exact runN_take digB _ d h
theorem valL_range:∀(l:List UInt8)(n:Int),0<=n->n<=2^40->(∀d∈l,digB (d.toNat:Int)=true)->0<=valL n l/\valL n l<=2^40
 |[],n,h0,h1,_=>⟨h0,h1⟩
 |c::r,n,h0,h1,hd=>by
  have hc:48<=(c.toNat:Int)/\(c.toNat:Int)<=57:=by simpa [digB] using hd c List.mem_cons_self
  unfold valL
  refine valL_range r _ ?_ ?_ fun d h=>hd d (List.mem_cons_of_mem _ h)
  ·split<;>omega
  ·split<;>omega
theorem mark_le{s:ByteArray}{i:Nat}(hi:i<s.size):markL ((sL s).drop i)=0\/(0<markL ((sL s).drop i)/\i+markL ((sL s).drop i)<=s.size):=by
 obtain⟨c,hc,hd⟩:=byteG hi
 by_cases h2:i+1<s.size
 ·obtain⟨d,hdd,hd2⟩:=byteG h2
  rw[hd2]at hd
  rw[hd,show markL (c::d::(sL s).drop (i+1+1))=if twoMark (c.toNat:Int) (d.toNat:Int) then 2 else if oneMark (c.toNat:Int) then 1 else 0 from rfl]
  split
  ·exact .inr ⟨by omega,by omega⟩
  ·split
   ·exact .inr ⟨by omega,by omega⟩
   ·exact .inl rfl
 ·have hn:(sL s).drop (i+1)=[]:=List.drop_eq_nil_of_le (by rw[sL_len];omega)
  rw[hn]at hd
  rw[hd,show markL [c]=if oneMark (c.toNat:Int) then 1 else 0 from rfl]
  split
  ·exact .inr ⟨by omega,by omega⟩
  ·exact .inl rfl
structure NNIq where
 i:Nat
 n:Nat
 es:List RTok
 ow:Own
 ob:List (Nat×LObj)
 k:Nat
end Go.Abs.Tz
namespace Go.Abs.Tz
open Go Go.Abs Go.Proofs
theorem t_atoiR(s:ByteArray)(hlim:s.size<=281474976710656)(h:Lib.atoiAll s.data.toList=.range):PureT 102 [.str s] (.tup [.int (Lib.atoiSat s.data.toList),.iface 211 .bot]):=by
 refine Pure.of_callsE (fun _ _ _ _ h=>h) (enters_of (by kernel_rfl)) fun G w us hE ha=>?_
 obtain⟨u,rfl,hu⟩:=args_one ha
 obtain rfl:=hu.sc_inv
 obtain⟨_,vs,t,fz,hw,ty,v,hv⟩:=hE.fix (1,_) (List.mem_cons_of_mem _ List.mem_cons_self)
 have hw:w.heap[(1:Nat)]? = some (.cells vs t fz):=hw
 subst hv
 refine(Tryz.strconv_Atoi_range s hlim h (.iface ty v) w (by unfold World.cell?;simp only[hw];rfl) (.inr ⟨ty,v,rfl⟩)).mono ?_
 rintro e w' ⟨N,rfl,_,_,hb⟩
 refine⟨_,rfl,.tup rfl ?_,grown_of_below hb⟩
 intro i c hi
 match i with
 |0=>simp at hi;subst hi;exact .sc _
 |1=>simp at hi;subst hi;exact .iface (.bot _)
 |i+2=>simp at hi
theorem digB_rng{d:UInt8}(h:digB (d.toNat:Int)=true):48<=d.toNat/\d.toNat<=57:=by
 have:48<=(d.toNat:Int)/\(d.toNat:Int)<=57:=by simpa [digB] using h
 omega
theorem valL_top:∀l:List UInt8,(∀d∈l,digB (d.toNat:Int)=true)->valL 1099511627776 l=1099511627776
 |[],_=>rfl
 |c::r,h=>by
  have hc:=digB_rng (h c List.mem_cons_self)
  unfold valL
  rw[if_pos (by omega)]
  exact valL_top r fun d hd=>h d (List.mem_cons_of_mem _ hd)
def satN(n:Nat):Int:=if n<1099511627776 then (n:Int) else 1099511627776
theorem mag_val:∀(l:List UInt8)(acc:Nat),(∀d∈l,digB (d.toNat:Int)=true) ->
  (∃N:Nat,Lib.parseUint10 acc l=.ok N/\valL (satN acc) l=satN N)\/(Lib.parseUint10 acc l=.range/\valL (satN acc) l=1099511627776)
 |[],acc,_=>.inl ⟨acc,rfl,rfl⟩
 |c::r,acc,h=>by
  have hc:=digB_rng (h c List.mem_cons_self)
  have hr:∀d∈r,digB (d.toNat:Int)=true:=fun d hd=>h d (List.mem_cons_of_mem _ hd)
  have hv:valL (satN acc) (c::r)=valL (satN (acc*10+(c.toNat - 48))) r:=by
   conv=>lhs;unfold valL
   congr 1
   unfold satN
   (repeat' split)<;>omega
  rw[hv]
  simp only[Lib.parseUint10]
  rw[if_pos hc]
  by_cases h1:1844674407370955162<=acc
  ·rw[if_pos h1]
   refine .inr ⟨rfl,?_⟩
   have:satN (acc*10+(c.toNat - 48))=1099511627776:=by unfold satN;rw[if_neg (by omega)]
   rw[this]
   exact valL_top r hr
  rw[if_neg h1]
  by_cases h2:18446744073709551616<=acc*10+(c.toNat - 48)
  ·rw[if_pos h2]
   refine .inr ⟨rfl,?_⟩
   have:satN (acc*10+(c.toNat - 48))=1099511627776:=by unfold satN;rw[if_neg (by omega)]
   rw[this]
   exact valL_top r hr
  rw[if_neg h2]
  exact mag_val r _ hr
theorem atoi_pos{l:List UInt8}(hne:l≠[])(h:∀d∈l,digB (d.toNat:Int)=true):
  (valL 0 l<=1000000000->Lib.atoiAll l=.ok (valL 0 l))/\(¬valL 0 l<=1000000000->Lib.atoiAll l=.range\/∃n,Lib.atoiAll l=.ok n/\1000000000<n):=by
 cases l with
 |nil=>exact absurd rfl hne
 |cons c r=>
  have hc:=digB_rng (h c List.mem_cons_self)
  rw[Lib.atoiAll_plain c r (by omega) (by omega)]
  have hm:Lib.parseMag (c::r)=Lib.parseUint10 0 (c::r):=by unfold Lib.parseMag;rw[if_neg (by simp)]
  rw[hm]
  have h0:valL 0 (c::r)=valL (satN 0) (c::r):=rfl
  rw[h0]
  rcases mag_val (c::r) 0 h with⟨N,e1,e2⟩|⟨e1,e2⟩
  ·rw[e1,e2]
   unfold satN Lib.signless
   constructor
   ·intro hle
    split at hle
    ·rename_i hN
     rw[if_pos hN]
     simp only
     rw[if_neg (by omega)]
    ·omega
   ·intro hle
    split at hle
    ·simp only
     rw[if_neg (by omega)]
     exact .inr ⟨_,rfl,by omega⟩
    ·simp only
     split
     ·exact .inl rfl
     ·exact .inr ⟨_,rfl,by omega⟩
  ·rw[e1,e2]
   exact⟨fun h=>absurd h (by decide),fun _=>.inl rfl⟩
theorem atoi_neg{l:List UInt8}(hne:l≠[])(h:∀d∈l,digB (d.toNat:Int)=true):
  (valL 0 l<=1000000000->Lib.atoiAll (45::l)=.ok (0 - valL 0 l))/\(¬valL 0 l<=1000000000->Lib.atoiAll (45::l)=.range\/∃n,Lib.atoiAll (45::l)=.ok n/\n < -1000000000):=by
 rw[Lib.atoiAll_minus]
 have hm:Lib.parseMag l=Lib.parseUint10 0 l:=by unfold Lib.parseMag;rw[if_neg hne]
 rw[hm]
 have h0:valL 0 l=valL (satN 0) l:=rfl
 rw[h0]
 rcases mag_val l 0 h with⟨N,e1,e2⟩|⟨e1,e2⟩
 ·rw[e1,e2]
  unfold satN Lib.signed
  constructor
  ·intro hle
   split at hle
   ·rename_i hN
    rw[if_pos hN]
    simp only
    rw[if_neg (by omega)]
    simp
   ·omega
  ·intro hle
   split at hle
   ·simp only
    rw[if_neg (by omega)]
    exact .inr ⟨_,rfl,by omega⟩
   ·simp only
    split
    ·exact .inl rfl
    ·exact .inr ⟨_,rfl,by omega⟩
 ·rw[e1,e2]
  exact⟨fun h=>absurd h (by decide),fun _=>.inl rfl⟩
def lexT(s:ByteArray):Nat->Nat->List Tok->Except Nat (List Tok)
 |0,_,acc=>.ok acc
 |k+1,i,acc=>if i<s.size then
   match lstep s i with
   |.skip j=>lexT s k j acc
   |.tok r j=>lexT s k j (acc++[⟨r.kind,s.extract i j,i,r.n⟩])
   |.bad e=>.error e
  else .ok acc
theorem lexT_end{s:ByteArray}{k i:Nat}{acc:List Tok}(h:¬i<s.size):lexT s (k+1) i acc=.ok acc:=by
 unfold lexT
 rw[if_neg h]
theorem lexT_go{s:ByteArray}{k i:Nat}{acc:List Tok}(h:i<s.size):lexT s (k+1) i acc=match lstep s i with
   |.skip j=>lexT s k j acc
   |.tok r j=>lexT s k j (acc++[⟨r.kind,s.extract i j,i,r.n⟩])
   |.bad e=>.error e:=by
 conv=>lhs;unfold lexT
 rw[if_pos h]
theorem byI_some{s:ByteArray}{i:Nat}(h:0<=byI s i):i<s.size/\∃c,s.data[i]? = some c/\byI s i=(c.toNat:Int)/\(sL s).drop i=c::(sL s).drop (i+1):=by
 by_cases hi:i<s.size
 ·obtain⟨c,h1,h2⟩:=byteG hi
  exact⟨hi,c,h1,byI_of h1,h2⟩
 ·rw[byI_ge hi]at h
  omega
structure NumPart(s:ByteArray)(i f e:Nat):Prop where
 fi:f=if byI s i=45 then i+1 else i
 dig:digB (byI s f)=true
 ee:e=numEnd s f
theorem num_le{s:ByteArray}{f:Nat}(hd:digB (byI s f)=true):f<numEnd s f/\numEnd s f<=s.size:=by
 have h0:0<=byI s f:=by
  have:48<=byI s f/\byI s f<=57:=by simpa [digB] using hd
  omega
 obtain⟨hf,c,h1,h2,h3⟩:=byI_some h0
 unfold numEnd
 split
 ·omega
 ·rw[h2]at hd
  have:=endN_lt (p:=digB) h3 hd
  have:=(endN_le (p:=digB) (s:=s) (i:=f) (by omega)).2
  omega
theorem numStep_part{s:ByteArray}{i:Nat}(h:digB (byI s i)=true\/byI s i=45):(byI s i=45/\(byI s (i+1)<49\/57<byI s (i+1))/\numStep s i=.bad i) \/
  (¬(byI s i=45/\(byI s (i+1)<49\/57<byI s (i+1)))/\NumPart s i (numFrom s i) (numEnd s (numFrom s i))/\numStep s i=numAt s i (numFrom s i) (numEnd s (numFrom s i))):=by
 unfold numStep
 by_cases hb:byI s i=45/\(byI s (i+1)<49\/57<byI s (i+1))
 ·rw[if_pos hb]
  exact .inl ⟨hb.1,hb.2,rfl⟩
 ·rw[if_neg hb]
  refine .inr ⟨hb,⟨rfl,?_,rfl⟩,rfl⟩
  unfold numFrom
  by_cases h45:byI s i=45
  ·rw[if_pos h45]
   have:49<=byI s (i+1)/\byI s (i+1)<=57:=by
    constructor
    ·apply Classical.byContradiction;intro hh;exact hb ⟨h45,.inl (by omega)⟩
    ·apply Classical.byContradiction;intro hh;exact hb ⟨h45,.inr (by omega)⟩
   simp[digB];omega
  ·rw[if_neg h45]
   exact h.resolve_right h45
theorem num_text{s:ByteArray}{i f e:Nat}(h:NumPart s i f e):∃l:List UInt8,((sL s).drop f).take (e - f)=l/\l≠[]/\(∀d∈l,digB (d.toNat:Int)=true)/\f<e/\e<=s.size/\i<=f/\(s.extract i e).data.toList=if byI s i=45 then 45::l else l:=by
 obtain⟨hlt,hle⟩:=num_le h.dig
 rw[<-h.ee]at hlt hle
 have h0:0<=byI s f:=by
  have:48<=byI s f/\byI s f<=57:=by simpa [digB] using h.dig
  omega
 obtain⟨hf,c,h1,h2,h3⟩:=byI_some h0
 have hd:=h.dig
 rw[h2]at hd
 have hall:=num_digits h1 h3 hd
 rw[<-h.ee]at hall
 unfold sL at hall
 rw[extr_list]at hall
 refine⟨_,rfl,?_,hall,hlt,hle,by rw[h.fi];split<;>omega,?_⟩
 ·rw[h3,show e - f=(e - f - 1)+1 by omega,List.take_succ_cons]
  simp
 ·have hfi:=h.fi
  rw[extr_list]
  by_cases h45:byI s i=45
  ·rw[if_pos h45]at hfi ⊢
   obtain⟨_,c0,g1,g2,g3⟩:=byI_some (s:=s) (i:=i) (by omega)
   have hc0:c0=45:=by
    have:c0.toNat=45:=by omega
    exact UInt8.toNat_inj.1 this
   rw[g3,show e - i=(e - f)+1 by omega,List.take_succ_cons,hc0,hfi]
  ·rw[if_neg h45]at hfi ⊢
   rw[hfi]
theorem num_atoi{s:ByteArray}{i f e:Nat}(h:NumPart s i f e):
  (¬1000000000<numV s f e->Lib.atoiAll (s.extract i e).data.toList=.ok (if byI s i=45 then 0 - numV s f e else numV s f e)/\0<=numV s f e) /\
  (1000000000<numV s f e->Lib.atoiAll (s.extract i e).data.toList=.range\/∃n,Lib.atoiAll (s.extract i e).data.toList=.ok n/\(n < -1000000000\/1000000000<n)):=by
 obtain⟨l,hl,hne,hd,h1,h2,h3,ht⟩:=num_text h
 unfold numV
 rw[hl,ht]
 have hv0:=(valL_range l 0 (Int.le_refl _) (by decide) hd).1
 by_cases h45:byI s i=45
 ·rw[if_pos h45,if_pos h45]
  obtain⟨g1,g2⟩:=atoi_neg hne hd
  refine⟨fun h=>⟨g1 (by omega),hv0⟩,fun h=>?_⟩
  rcases g2 (by omega) with g|⟨n,g,gn⟩
  ·exact .inl g
  ·exact .inr ⟨n,g,.inl gn⟩
 ·rw[if_neg h45,if_neg h45]
  obtain⟨g1,g2⟩:=atoi_pos hne hd
  refine⟨fun h=>⟨g1 (by omega),hv0⟩,fun h=>?_⟩
  rcases g2 (by omega) with g|⟨n,g,gn⟩
  ·exact .inl g
  ·exact .inr ⟨n,g,.inr gn⟩
theorem lstep_lt{s:ByteArray}{i:Nat}(hi:i<s.size):(∀j,lstep s i=.skip j->i<j/\j<=s.size)/\∀r j,lstep s i=.tok r j->i<j/\j<=s.size:=by
 obtain⟨c,hc,hd⟩:=byteG hi
 have hb:=byI_of hc
 unfold lstep
 rw[hb]
 split
 ·exact⟨fun j h=>(by cases h;omega),fun r j h=>(by cases h)⟩
 split
 ·rename_i _ h35
  refine⟨fun j h=>?_,fun r j h=>(by cases h)⟩
  cases h
  have:=endN_lt (p:=notNl) hd (by rw[h35];rfl)
  have:=(endN_le (p:=notNl) (s:=s) (i:=i) (by omega)).2
  omega
 split
 ·rename_i _ _ hl
  unfold wordStep
  split
  ·exact⟨fun j h=>(by cases h),fun r j h=>(by cases h)⟩
  ·refine⟨fun j h=>(by cases h),fun r j h=>?_⟩
   cases h
   have:=endN_lt (p:=wordC) hd (by simp[wordC,hl])
   have:=(endN_le (p:=wordC) (s:=s) (i:=i) (by omega)).2
   omega
 split
 ·rename_i hn
  rw[<-hb]at hn
  rcases numStep_part hn with⟨_,_,h⟩|⟨_,hp,h⟩
  ·rw[h]
   exact⟨fun j h=>(by cases h),fun r j h=>(by cases h)⟩
  ·rw[h]
   obtain⟨l,_,_,_,h1,h2,h3,_⟩:=num_text hp
   unfold numAt
   split
   ·exact⟨fun j h=>(by cases h),fun r j h=>(by cases h)⟩
   split
   ·exact⟨fun j h=>(by cases h),fun r j h=>(by cases h)⟩
   ·refine⟨fun j h=>(by cases h),fun r j h=>?_⟩
    cases h
    omega
 ·unfold markStep
  split
  ·exact⟨fun j h=>(by cases h),fun r j h=>(by cases h)⟩
  ·rename_i hm
   refine⟨fun j h=>(by cases h),fun r j h=>?_⟩
   cases h
   rcases mark_le hi with h0|⟨h1,h2⟩
   ·exact absurd h0 hm
   ·omega
structure PairT(t:Tok)(r:RTok):Prop where
 kind:r.kind=t.kind
 num:t.kind=3->r.n=t.n
 text:t.kind≠3->r.s=t.text
 pos:r.at_=t.at_
 lo:1<=t.kind
 hi:t.kind<=4
 at0:0<=r.at_
 size:t.kind=3->t.text.size<=2^40/\Lib.atoiAll t.text.data.toList=.ok t.n
theorem lstep_pair{s:ByteArray}(hs:s.size<=2^20){i:Nat}(hi:i<s.size){r:RTok}{j:Nat}(h:lstep s i=.tok r j):PairT ⟨r.kind,s.extract i j,i,r.n⟩ r:=by
 obtain⟨hij,hj⟩:=(lstep_lt hi).2 r j h
 obtain⟨c,hc,hd⟩:=byteG hi
 have hb:=byI_of hc
 unfold lstep at h
 split at h
 ·cases h
 split at h
 ·cases h
 split at h
 ·unfold wordStep at h
  split at h
  ·cases h
  ·cases h
   have hk:∀x n,(1<=wKind x n/\wKind x n<=4)/\wKind x n≠3:=by
    intro x n
    unfold wKind
    split
    ·decide
    split<;>decide
   obtain⟨⟨k1,k2⟩,k3⟩:=hk (s.extract i (endN wordC s i)) (byI s i)
   exact⟨rfl,fun h=>absurd h k3,fun _=>rfl,rfl,k1,k2,by dsimp only;omega,fun h=>absurd h k3⟩
 split at h
 ·rename_i hn
  rcases numStep_part hn with⟨_,_,e⟩|⟨_,hp,e⟩
  ·rw[e]at h;cases h
  ·rw[e]at h
   have ha:=num_atoi hp
   unfold numAt at h
   split at h
   ·cases h
   rename_i hnv
   split at h
   ·cases h
   ·cases h
    refine⟨rfl,fun _=>rfl,fun h=>absurd rfl h,rfl,(by decide:(1:Int)<=3),(by decide:(3:Int)<=4),by dsimp only;omega,fun _=>⟨?_,?_⟩⟩
    ·have:(s.extract i (numEnd s (numFrom s i))).size=min (numEnd s (numFrom s i)) s.size - i:=ByteArray.size_extract
     dsimp only
     omega
    ·exact(ha.1 hnv).1
 ·unfold markStep at h
  split at h
  ·cases h
  ·cases h
   exact⟨rfl,fun h=>absurd h (by decide:¬(4:Int)=3),fun _=>rfl,rfl,(by decide:(1:Int)<=4),(by decide:(4:Int)<=4),by dsimp only;omega,fun h=>absurd h (by decide:¬(4:Int)=3)⟩
def PairL(T:List Tok)(R:List RTok):Prop:=T.length=R.length/\∀(i:Nat)(t:Tok)(r:RTok),T[i]? = some t->R[i]? = some r->PairT t r
theorem PairL.nil:PairL [] []:=⟨rfl,fun i t r h=>by simp at h⟩
theorem PairL.snoc{T:List Tok}{R:List RTok}{t:Tok}{r:RTok}(h:PairL T R)(hp:PairT t r):PairL (T++[t]) (R++[r]):=by
 refine⟨by simp[h.1],fun i t' r' h1 h2=>?_⟩
 rcases Nat.lt_trichotomy i T.length with hi|hi|hi
 ·rw[List.getElem?_append_left hi]at h1
  rw[List.getElem?_append_left (by rw[<-h.1];exact hi)]at h2
  exact h.2 i t' r' h1 h2
 ·rw[List.getElem?_append_right (by omega),show i - T.length=0 by omega]at h1
  have:=h.1
  rw[List.getElem?_append_right (by omega),show i - R.length=0 by omega]at h2
  simp at h1 h2
  rw[<-h1,<-h2];exact hp
 ·rw[List.getElem?_eq_none (by simp;omega)]at h1
  cases h1
theorem lex_same{s:ByteArray}(hs:s.size<=2^20):∀(k i:Nat)(T:List Tok)(R:List RTok),PairL T R ->
  (∃e,lexF s k i R=.error e/\lexT s k i T=.error e)\/∃R' T',lexF s k i R=.ok R'/\lexT s k i T=.ok T'/\PairL T' R'/\T'.length<=T.length+k
 |0,i,T,R,h=>.inr ⟨R,T,rfl,rfl,h,Nat.le_refl _⟩
 |k+1,i,T,R,h=>by
  by_cases hi:i<s.size
  ·rw[lexF_go hi,lexT_go hi]
   cases hl:lstep s i with
   |skip j=>
    simp only
    rcases lex_same hs k j T R h with⟨e,h1,h2⟩|⟨R',T',h1,h2,h3,h4⟩
    ·exact .inl ⟨e,h1,h2⟩
    ·exact .inr ⟨R',T',h1,h2,h3,by omega⟩
   |tok r j=>
    simp only
    rcases lex_same hs k j (T++[⟨r.kind,s.extract i j,i,r.n⟩]) (R++[r]) (h.snoc (lstep_pair hs hi hl)) with⟨e,h1,h2⟩|⟨R',T',h1,h2,h3,h4⟩
    ·exact .inl ⟨e,h1,h2⟩
    ·rw[List.length_append,List.length_singleton]at h4
     exact .inr ⟨R',T',h1,h2,h3,by omega⟩
   |bad e=>exact .inl ⟨e,rfl,rfl⟩
  ·rw[lexF_end hi,lexT_end hi]
   exact .inr ⟨R,T,rfl,rfl,h,by omega⟩
theorem lex_rel{s:ByteArray}(hs:s.size<=6000):(∃e,lexF s (s.size+1) 0 []=.error e/\lexT s (s.size+1) 0 []=.error e) \/
  ∃R L,lexF s (s.size+1) 0 []=.ok R/\lexT s (s.size+1) 0 []=.ok L/\RelT L (R++[endT s])/\NumOk L/\L.length<=6001:=by
 rcases lex_same (s:=s) (by omega) (s.size+1) 0 [] [] .nil with⟨e,h1,h2⟩|⟨R,L,h1,h2,h3,h4⟩
 ·exact .inl ⟨e,h1,h2⟩
 ·refine .inr ⟨R,L,h1,h2,?_,fun t ht h=>?_,by simp at h4;omega⟩
  ·have hlen:=h3.1
   simp at h4
   have at_:∀i (h:i<L.length) (h':i<(R++[endT s]).length),PairT L[i] (R++[endT s])[i]:=fun i h h'=>by
    rw[List.getElem_append_left (by omega)]
    exact h3.2 i _ _ (List.getElem?_eq_getElem h) (List.getElem?_eq_getElem (by omega))
   refine⟨by simp[hlen],by simp;omega,fun i h h'=>(at_ i h h').kind,fun i h h'=>(at_ i h h').num,fun i h h'=>(at_ i h h').text,fun i h h'=>(at_ i h h').pos,fun t ht=>?_,fun r hr=>?_,fun h'=>?_⟩
   ·obtain⟨i,hi,rfl⟩:=List.getElem_of_mem ht
    have:=at_ i hi (by simp;omega)
    exact⟨this.lo,this.hi⟩
   ·rcases List.mem_append.1 hr with hr|hr
    ·obtain⟨i,hi,rfl⟩:=List.getElem_of_mem hr
     exact(h3.2 i _ _ (List.getElem?_eq_getElem (by omega)) (List.getElem?_eq_getElem hi)).at0
    ·simp at hr
     rw[hr]
     show (0:Int)<=(s.size:Int)
     omega
   ·rw[List.getElem_append_right (by omega)]
    simp[hlen]
  ·obtain⟨i,hi,rfl⟩:=List.getElem_of_mem ht
   exact(h3.2 i _ _ (List.getElem?_eq_getElem hi) (List.getElem?_eq_getElem (by have:=h3.1;omega))).size h
end Go.Abs.Tz
namespace Go.Abs
open Go
def FT.Small:FT->Nat->Nat->Nat->Prop
 |.nil,_,_,_=>True
 |.nd v l r,a,b,N=>(b<N\/v=.bot)/\FT.Small l (2*a) (a+b) N/\FT.Small r (2*a) (2*a+b) N
theorem FT.small_get:∀(t:FT)(a b N:Nat),t.Small a b N->∀j,N<=a*j+b->t.get j=.bot
 |.nil,_,_,_,_,_,_=>rfl
 |.nd v l r,a,b,N,h,j,hj=>by
  rw[FT.get_node]
  split
  ·rename_i h0
   subst h0
   rcases h.1 with h1|h1
   ·simp at hj;omega
   ·exact h1
  ·rename_i h0
   obtain⟨q,hq⟩:∃q,j / 2=q:=⟨_,rfl⟩
   split
   ·rename_i h1
    refine FT.small_get l (2*a) (a+b) N h.2.1 (j / 2) ?_
    rw[hq]
    have e:j=2*q+1:=by omega
    rw[e,Nat.mul_add,Nat.mul_one,<-Nat.mul_assoc,Nat.mul_comm a 2]at hj
    omega
   ·rename_i h1
    obtain⟨p,hp⟩:∃p,j / 2 - 1=p:=⟨_,rfl⟩
    refine FT.small_get r (2*a) (2*a+b) N h.2.2 (j / 2 - 1) ?_
    rw[hp]
    have e:j=2*p+2:=by omega
    rw[e,Nat.mul_add,<-Nat.mul_assoc,Nat.mul_comm a 2]at hj
    omega
theorem frOf_frF{t:FT}{N:Nat}(h:t.Small 1 0 N):frOf (frF t N)=t.get:=by
 funext k
 unfold frOf frF
 by_cases hk:k<N
 ·simp[List.getD_eq_getElem?_getD,hk]
 ·have:((List.range N).map t.get)[k]? = none:=List.getElem?_eq_none (by simp;omega)
  rw[List.getD_eq_getElem?_getD,this,FT.small_get t 1 0 N h k (by omega)]
  rfl
theorem frF_len(t:FT)(N:Nat):(frF t N).length=N:=by simp[frF]
section
variable{E:Env}{F:Fns}
def rndK(o:Nat)(fo:List LV)(ps:List Nat)(k:Nat)(kv:HP):XP:=fun e _ H=>match e with
 |.normal=>look o H.objs=some (.rcd true fo ps k)/\kv (.bool true) ⟨putO o (.rcd false fo ps k) H.objs,H.next⟩
 |.ret=>look o H.objs=some (.rcd true fo ps k)/\kv (.bool false) ⟨putO o (.lft none) H.objs,H.next⟩
 |.exit id=>look o H.objs=some (.rcd true fo ps k)/\kv (.bool false) ⟨putO o (.lft (some id)) H.objs,H.next⟩
 |.pan _=>False
def begK(E:Env)(F:Fns)(o:Nat)(fo:List LV)(ps:List Nat)(k:Nat)(bb:BCode)(kv:HP):XP:=fun e t H=>match e with
 |.normal=>look o H.objs=some (.rcd false fo ps k)/\runP E F bb t ⟨putO o (.rcd true fo ps k) H.objs,H.next⟩ (rndK o fo ps k kv)
 |_=>False
theorem rndK_n(o:Nat)(fo:List LV)(ps:List Nat)(k:Nat)(kv:HP)(t:FT)(ob:List (Nat×LObj))(n:Nat):rndK o fo ps k kv .normal t ⟨ob,n⟩=(look o ob=some (.rcd true fo ps k)/\kv (.bool true) ⟨putO o (.rcd false fo ps k) ob,n⟩):=propext Iff.rfl
theorem rndK_r(o:Nat)(fo:List LV)(ps:List Nat)(k:Nat)(kv:HP)(t:FT)(ob:List (Nat×LObj))(n:Nat):rndK o fo ps k kv .ret t ⟨ob,n⟩=(look o ob=some (.rcd true fo ps k)/\kv (.bool false) ⟨putO o (.lft none) ob,n⟩):=propext Iff.rfl
theorem begK_n(o:Nat)(fo:List LV)(ps:List Nat)(k:Nat)(bb:BCode)(kv:HP)(t:FT)(ob:List (Nat×LObj))(n:Nat):begK E F o fo ps k bb kv .normal t ⟨ob,n⟩=(look o ob=some (.rcd false fo ps k)/\runP E F bb t ⟨putO o (.rcd true fo ps k) ob,n⟩ (rndK o fo ps k kv)):=propext Iff.rfl
theorem isR_of{o:Nat}{b:Bool}{H:LHeap}{fo:List LV}{ps:List Nat}{k:Nat}(h:look o H.objs=some (.rcd b fo ps k)):isR o b H=true:=by
 cases b<;>simp[isR,h]
theorem busyH_of{o:Nat}{b b':Bool}{H:LHeap}{fo:List LV}{ps:List Nat}{k:Nat}(h:look o H.objs=some (.rcd b fo ps k)):busyH o b' H=⟨putO o (.rcd b' fo ps k) H.objs,H.next⟩:=by
 simp[busyH,h,LHeap.put]
theorem yP_run{o k p N:Nat}{H:LHeap}{t:FT}{v:LV}{ba bb:BCode}{kv:HP}(hs:t.Small 1 0 N)(hp:p<N)(hl:look o H.objs=some (.rcd false (frF t N) [p] k))(hr:F.rng k N ba bb)
  (h:H.Ok->setP t p v fun t0=>runP E F ba t0 H (begK E F o (frF t N) [p] k bb kv)):yP E F o [v] H kv:=by
 intro hH
 refine⟨frF t N,[p],k,ba,bb,XSP (begK E F o (frF t N) [p] k bb kv),XSP (rndK o (frF t N) [p] k kv),hl,by rw[frF_len];exact hr,rfl,by simp[frF_len,hp],?_,?_,?_,?_,?_,?_⟩
 ·have h1:=runP_ok ba (t.set p v) H _ hH (h hH)
  rw[FT.set_get,<-frOf_frF hs]at h1
  exact h1
 ·rintro e fr1 df1 H1 ⟨e1,t1,H2,he,hok,hk⟩
  cases he
  cases e<;>try exact hk.elim
  exact⟨rfl,isR_of hk.1⟩
 ·rintro fr1 df1 H1 ⟨e1,t1,H2,he,hok,hk⟩
  cases he
  have:=runP_ok bb t1 _ _ (by exact Desc.put hok) hk.2
  rw[busyH_of hk.1]
  exact this
 ·rintro e fr2 df2 H2 ⟨e1,t1,H3,he,hok,hk⟩
  cases he
  cases e with
  |pan v=>exact hk.elim
  |normal=>exact⟨trivial,isR_of hk.1⟩
  |ret=>exact⟨trivial,isR_of hk.1⟩
  |exit id=>exact⟨trivial,isR_of hk.1⟩
 ·rintro fr2 df2 H2 ⟨e1,t1,H3,he,hok,hk⟩
  cases he
  rw[busyH_of hk.1]
  exact⟨by exact Desc.put hok,hk.2⟩
 ·rintro j fr2 df2 H2 ⟨e1,t1,H3,he,hok,hk⟩
  cases j with
  |none=>
   cases he
   exact⟨by exact Desc.put hok,hk.2⟩
  |some id=>
   cases he
   exact⟨by exact Desc.put hok,hk.2⟩
end
def rgP(v:LV)(k:FuncId->List LV->Prop):Prop:=∃f cap,v=.fn (.func f) [] cap/\k f cap
def endP(E:Env)(res:List BRes)(t:FT)(H:LHeap)(kv:HP):Prop:=resP E res t H fun v=>∃H'',HWk H H''/\(H.Ok->H''.Ok)/\kv v H''
def earlyK(E:Env)(res:List BRes)(kv:HP):XP:=fun e t H=>e=.ret/\endP E res t H kv
def lastK(E:Env)(res:List BRes)(t7:FT)(m:Nat)(kv:HP):XP:=fun e _ H=>(e=.normal\/e=.ret)/\look m H.objs=some .dfr/\endP E res t7 ⟨delO m H.objs,H.next⟩ kv
def lastP(E:Env)(F:Fns)(r:RFn)(cs:List LV)(m:Nat)(kv:HP)(y:LV)(t7:FT)(H:LHeap):Prop:=argsP cs 0 .nil fun u=>setP u r.dr y fun u=>runP E F r.rest u H (lastK E r.res t7 m kv)
def behK(E:Env)(F:Fns)(r:RFn)(cs:List LV)(m:Nat)(kv:HP):XP:=fun e t7 H=>match e with
 |.normal=>lastP E F r cs m kv (.sc .nilIface) t7 H
 |.ret=>lastP E F r cs m kv (.sc .nilIface) t7 H
 |.pan v=>lastP E F r cs m kv v t7 H
 |.exit _=>False
def behP(E:Env)(F:Fns)(r:RFn)(t4:FT)(m:Nat)(kv:HP)(H:LHeap):Prop:=r.cs.length<=r.ng/\evsP E r.cs t4 fun cs=>setP t4 r.dd (.fn (.func r.g) [] cs) fun t6=>runP E F r.Z t6 H (behK E F r cs m kv)
def afterK(E:Env)(F:Fns)(r:RFn)(t4:FT)(m:Nat)(kv:HP):HP:=fun _ H=>
 (look (m+1) H.objs=some (.rcd false (frF t4 r.n) r.ps r.k)/\behP E F r t4 m kv ⟨delO (m+1) H.objs,H.next⟩) \/
 (look (m+1) H.objs=some (.lft none)/\look m H.objs=some .dfr/\endP E r.res t4 ⟨delO m (delO (m+1) H.objs),H.next⟩ kv)
def rangeP(E:Env)(F:Fns)(r:RFn)(kv:HP)(t4:FT)(H:LHeap):Prop:=evP E r.x t4 fun v=>rgP v fun f cap=>
 cP E F f (.fn (.yield (H.next+1)) [] []::cap) ⟨(H.next+1,.rcd false (frF t4 r.n) r.ps r.k)::(H.next,.dfr)::H.objs,H.next+1+1⟩ (afterK E F r t4 H.next kv) (fun _ _=>False)
section
variable{E:Env}{F:Fns}
theorem earlyK_r(res:List BRes)(kv:HP)(t:FT)(H:LHeap):earlyK E res kv .ret t H=endP E res t H kv:=propext ⟨fun h=>h.2,fun h=>⟨rfl,h⟩⟩
theorem lastK_n(res:List BRes)(t7:FT)(m:Nat)(kv:HP)(t:FT)(ob:List (Nat×LObj))(n:Nat):lastK E res t7 m kv .normal t ⟨ob,n⟩=(look m ob=some .dfr/\endP E res t7 ⟨delO m ob,n⟩ kv):=propext ⟨fun h=>h.2,fun h=>⟨.inl rfl,h⟩⟩
theorem behK_r(r:RFn)(cs:List LV)(m:Nat)(kv:HP)(t:FT)(H:LHeap):behK E F r cs m kv .ret t H=lastP E F r cs m kv (.sc .nilIface) t H:=propext Iff.rfl
theorem behK_p(r:RFn)(cs:List LV)(m:Nat)(kv:HP)(v:LV)(t:FT)(H:LHeap):behK E F r cs m kv (.pan v) t H=lastP E F r cs m kv v t H:=propext Iff.rfl
theorem endP_cc(n m:Nat)(t:FT)(H:LHeap)(kv:HP):endP E [.c n none,.c m none] t H kv=getP t n fun a=>getP t m fun b=>vP (loadL H none a) fun x=>vP (loadL H none b) fun y=>∃H'',HWk H H''/\(H.Ok->H''.Ok)/\kv (.tup [x,y]) H'':=by
 unfold endP resP getP vP
 apply propext
 simp only[resultL,List.mapM_cons,List.mapM_nil,resL]
 cases hx:loadL H none (t.get n) with
 |none=>simp
 |some x=>
  cases hy:loadL H none (t.get m) with
  |none=>simp
  |some y=>simp
theorem look_delne{i m:Nat}(h:i≠m)(l:List (Nat×LObj)):look i (delO m l)=look i l:=by rw[look_del,if_neg h]
end
section
variable{P:Program}{E:Env}{G:Ghost}{w:World}{fr:Fr}{H:LHeap}{N:Nat}{a:Act}{T:Res->Prop}
theorem rf_wp2{nf:Nat}{Q:Exit->Act->World->Prop}{code:Code}{x:BO}{ps:List Nat}{ba bb:BCode}{k f:Nat}{cap:List LV}(hc:cCode P N code=some (.rf x ps ba bb))(hrc:∀d pa a b,code=.rangeFunc d pa a b->E.rc k=(a,b))
  (hI:Inv G w H) (hE:EnvR E G w) (hf:FR G w N fr a) (hx:E.ev fr x=.fn (.func f) [] cap)
  (hcall:CallOk P E f (.fn (.yield (H.next+1)) [] []::cap) ((H.alloc .dfr).alloc (.rcd false (frL fr N) ps k)) T)
  (hT:∀r,T r->∃v H',r=.ret v H'/\(isR (H.next+1) false H'=true\/isL (H.next+1) none H'=true))
  (hK:∀v H' G' w',T (.ret v H')->isR (H.next+1) false H'=true->Inv G' w' (H'.del (H.next+1))->Ext G w G' w'->H.next<G'.n->Q .normal { a with defers:={ target:=.collected (G'.loc H.next),args:=#[] }::a.defers } w')
  (hL:∀v H' G' w',T (.ret v H')->isL (H.next+1) none H'=true->Inv G' w' (H'.del (H.next+1))->Ext G w G' w'->H.next<G'.n->Q .ret { a with defers:={ target:=.collected (G'.loc H.next),args:=#[] }::a.defers } w'):
  code.wpIn (fen none) nf P Q a w:=by
 obtain⟨d,pa,ca,cb,rfl,hd,rfl,_,_⟩:=cCode_rf hc
 have hv:=ev_VR hE hf d x hd
 rw[hx]at hv
 obtain⟨us,vs,hv,hu0,hvs,_,hvr⟩:=hv.fn_inv
 obtain rfl:us=#[]:=Array.eq_empty_of_size_eq_zero (by simpa using hu0)
 have hv:a.eval d=.func (.func f) #[] vs:=hv
 refine wpIn_rangeFunc fun fn _=>?_
 obtain⟨i1,x1⟩:=hI.alloc (.deferred (some [])) .dfr (0,0) (fun hx=>⟨by rw[Ghost.add_loc];exact heap_alloc_new,by rw[Ghost.add_loc];exact hI.hB',by rw[Ghost.add_loc];exact Ghost.add_own _ _ _ _ _⟩)
 have hrck:=hrc _ _ _ _ rfl
 have hEr:=hE.rc
 let L:Loop:={ state:=.ready,pending:=none,fn:=fn,tmps:=a.tmps,params:=pa,assign:=ca,body:=cb,defers:=w.heap.size }
 obtain⟨i2,x2⟩:=i1.alloc (.loop L) (.rcd false (frL fr N) pa.toList k) (0,0) (fun hx=>by
  refine⟨fn,a.tmps,w.heap.size,?_,by rw[Ghost.add_loc];exact i1.hB',by rw[Ghost.add_loc];exact Ghost.add_own _ _ _ _ _,by rw[hf.size];simp[frL],fun i y hi=>?_⟩
  ·rw[Ghost.add_loc]
   have e1:(((G.add H.next w.heap.size (0,0)).add (H.alloc .dfr).next (w.alloc (.deferred (some []))).heap.size (0,0)).rc k)=(ca,cb):=by
    show G.rc k=_
    rw[hEr,hrck]
   rw[e1]
   exact heap_alloc_new
  ·obtain⟨j,hj,rfl⟩:=List.getElem?_eq_some_iff.1 hi
   simp only[frL,List.getElem_map,List.getElem_range]
   exact((hf.slot i).mono x1).mono hx)
 have x12:=x1.trans x2
 have hE2:=hE.mono x12
 generalize hG2:(G.add H.next w.heap.size (0,0)).add (H.alloc .dfr).next (w.alloc (.deferred (some []))).heap.size (0,0)=G2 at i2 x2 x12 hE2
 have hl2:G2.loc (H.next+1)=w.heap.size+1:=by rw[<-hG2];simp[Ghost.add,LHeap.alloc]
 have hn2:G2.n=H.next+2:=by rw[<-hG2];simp[Ghost.add,LHeap.alloc]
 have hargs:ArgsR G2 ((w.alloc (.deferred (some []))).alloc (.loop L)) (.fn (.yield (H.next+1)) [] []::cap) (#[.func (.yield (w.heap.size+1)) #[] #[]]++vs):=by
  have h1:ArgsR G2 ((w.alloc (.deferred (some []))).alloc (.loop L)) [.fn (.yield (H.next+1)) [] []] #[.func (.yield (w.heap.size+1)) #[] #[]]:=by
   refine⟨rfl,fun i y hi=>?_⟩
   match i with
   |0=>
    simp at hi;subst hi
    have:=VR.fn (G:=G2) (w:=(w.alloc (.deferred (some []))).alloc (.loop L)) (f:=.yield (H.next+1)) (a:=[]) (c:=[]) (us:=#[]) (vs:=#[]) (by show _<G2.n;rw[hn2];omega) rfl rfl (fun i x h=>by simp at h) (fun i x h=>by simp at h)
    simpa [fnW,hl2] using this
   |i+1=>simp at hi
  exact h1.append ⟨hvs,fun i y hi=>(hvr i y hi).mono x12⟩
 obtain⟨he,hc2⟩:=hcall
 refine⟨w.heap.size+1,[{ target:=.collected w.heap.size,args:=#[] }],(w.alloc (.deferred (some []))).alloc (.loop L),{ target:=.fn (.func f) vs,args:=#[.func (.yield (w.heap.size+1)) #[] #[]] },(w.alloc (.deferred (some []))).alloc (.loop L),f,
  #[.func (.yield (w.heap.size+1)) #[] #[]]++vs,(w.alloc (.deferred (some []))).alloc (.loop L),run_enterLoop_outer _ _ _ _ _,?_,fun _ _=>trivial,?_,fun h=>(by cases h),?_⟩
 ·simp only[resolve,hv]
  simp[go_sem]
 ·obtain⟨fn',hf',hb',hn'⟩:=he
  simp only[invoke]
  exact call_enter hf' hb' hn' _
 ·refine CallsIn.mono (F:=fen none) (callsIn_wide.2 (hc2 G2 _ _ i2 hE2 hargs)) fun e w' hp=>?_
  cases e with
  |outgrown=>exact hp.elim
  |panicked ch=>
   obtain⟨v,u,H',G',hTT,_⟩:=hp
   obtain⟨_,_,h,_⟩:=hT _ hTT
   cases h
  |returned u=>
   obtain⟨v,H',G',hTT,hv',hI',hx'⟩:=hp
   obtain⟨v1,H1,h,hR⟩:=hT _ hTT
   cases h
   have hloc:G'.loc (H.next+1)=w.heap.size+1:=by rw[hx'.loc _ (by omega),hl2]
   have hlD:G'.loc H.next=w.heap.size:=by
    rw[hx'.loc _ (by omega),<-hG2]
    simp[Ghost.add,LHeap.alloc]
   rcases hR with hR|hR
   ·obtain⟨fo1,ps1,k1,hl,_⟩:=isR_spec (b':=false) hR
    obtain⟨hm,fn1,tmps1,df1,q1,q2,q3,_⟩:=hI'.objs _ _ hl
    have hend:=run_endLoop (P:=P) q1 (by simp)
    rw[hloc]at hend
    obtain⟨y1,y2⟩:=hI'.setDel (ob':=.loop { (rcL G' false fn1 tmps1 ps1 k1 df1) with state:=.exhausted }) hl q1 (by simp) q2 q3
    rw[hloc]at y1 y2
    refine⟨_,_,hend,?_⟩
    have:=hK v H' G' _ hTT hR y2 (x12.trans (hx'.trans y1)) (by have:=hx'.n;omega)
    rw[hlD]at this
    exact this
   ·have hl:=isL_spec hR
    obtain⟨hm,⟨Lp,q1,q4,q5⟩,q2,q3⟩:=hI'.objs _ _ hl
    have hend:=run_endLoop (P:=P) q1 (by rw[q4];simp)
    rw[hloc]at hend
    obtain⟨y1,y2⟩:=hI'.setDel (ob':=.loop { Lp with state:=.exhausted }) hl q1 (by simp) q2 q3
    rw[hloc]at y1 y2
    refine⟨_,_,hend,?_⟩
    have h5:=hL v H' G' _ hTT hR y2 (x12.trans (hx'.trans y1)) (by have:=hx'.n;omega)
    rw[hlD]at h5
    split
    ·rename_i hp
     rw[q5]at hp;cases hp
    ·rename_i c hp
     rw[q5]at hp
     obtain rfl:Code.ret=c:=Option.some.inj hp
     exact wpIn_ret h5
theorem stageP{F:Fns}{c:BCode}{code:Code}{nf:Nat}{t:FT}{K:FT->LHeap->Prop}{R:FT->LHeap->Prop}{next:Act->World->Prop}{Q:Exit->Act->World->Prop}(hmix:P.follows .mixedOrders=true)(hF:FnsOk P E F)
  (hcc:cCode P N code=some c) (hI:Inv G w H) (hE:EnvR E G w) (hf:FR G w N t.get a) (hH:H.Ok) (h:runP E F c t H (seqK K fun e t H=>e=.ret/\R t H))
  (hK:∀t' H' G' w' a',K t' H'->H'.Ok->Inv G' w' H'->FR G' w' N t'.get a'->a'.defers=a.defers->Ext G w G' w'->next a' w')
  (hR:∀t' H' G' w' a',R t' H'->H'.Ok->Inv G' w' H'->FR G' w' N t'.get a'->a'.defers=a.defers->Ext G w G' w'->Q .ret a' w'):code.wpIn (fen none) nf P (Exit.then next Q) a w:=by
 have hs:CodeOk P E c t.get H _:=sound hmix hF (runP_ok c t H _ hH h)
 refine hs.wp none nf N code G w a _ hcc hI hE hf fun e a' w' hp=>?_
 obtain⟨le,fr',df',H',G',hX,he,hI',hf',hd,hx⟩:=hp
 obtain⟨e0,t',H'',hr,hok,hk⟩:=hX
 cases hr
 cases le with
 |normal=>
  cases e<;>try exact he.elim
  exact hK _ _ _ _ _ hk hok hI' hf' hd hx
 |ret=>
  cases e<;>try exact he.elim
  exact hR _ _ _ _ _ hk.2 hok hI' hf' hd hx
 |exit n=>exact absurd hk.1 (by simp)
 |pan v=>exact absurd hk.1 (by simp)
theorem cP_of_rfn{F:Fns}{r:RFn}{f:FuncId}(hmix:P.follows .mixedOrders=true)(hF:FnsOk P E F)(hfn:F.fn f r.fn)(hg:F.fn r.g r.gn)(hrc:∀fn c,P.funcs[f]? = some fn->fn.body=some c->rfOf c=E.rc r.k)
  {args:List LV} {kv kp:HP} (hH:H.Ok)
  (h:args.length<=r.n/\argsP args 0 .nil fun t=>runP E F r.A t H (seqK (fun t1 H1=>runP E F r.I t1 H1 (seqK (fun t2 H2=>runP E F r.B t2 H2 (seqK (fun t3 H3=>runP E F r.C t3 H3 (seqK (fun t4 H4=>∃t5,FT.Le t5 t4/\rangeP E F r kv t5 H4) (earlyK E r.res kv))) (earlyK E r.res kv))) (earlyK E r.res kv))) (earlyK E r.res kv))):
  CallOk P E f args H (CSP kv kp):=by
 obtain⟨fn,hff,hcF,hname⟩:=hF.fn _ _ hfn
 obtain⟨gn,hgf,hgc,hgname⟩:=hF.fn _ _ hg
 obtain⟨c,hb,hcode,hbn,hres⟩:=cFn_inv hcF
 have hrc:=hrc fn c hff hb
 simp only[RFn.fn]at hcode hbn hres
 obtain⟨cA,c1,rfl,eA,hcode⟩:=cCode_seq hcode
 obtain⟨cI,c2,rfl,eI,hcode⟩:=cCode_seq hcode
 obtain⟨cB,c3,rfl,eB,hcode⟩:=cCode_seq hcode
 obtain⟨c4,c5,rfl,e4,e5⟩:=cCode_seq hcode
 obtain⟨cC,cl,rfl,eC,e4⟩:=cCode_seq e4
 obtain⟨cr,rfl,er⟩:=cCode_blk e4
 obtain⟨cD,cZ,rfl,eD,eZ⟩:=cCode_seq e5
 have hrc':∀d pa a b,cr=.rangeFunc d pa a b->E.rc r.k=(a,b):=by
  intro d pa a b e
  subst e
  exact hrc.symm
 obtain⟨hn,h⟩:=h
 obtain⟨t,h,ht0⟩:=argsP_spec h
 have ht:t.get=frOf args:=by
  funext j
  rw[ht0 j]
  simp only[frOf]
  by_cases hj:j<args.length
  ·rw[if_pos (by omega)];simp
  ·rw[if_neg (by omega)]
   have:args[j]? = none:=List.getElem?_eq_none (by omega)
   simp[List.getD_eq_getElem?_getD,this,FT.get_nil]
 refine⟨⟨fn,hff,by simp[hb],hname⟩,fun G w us hI hE ha=>(callsIn_wide (n:=0)).1 (callsIn_of_wp_marks (F:=fen none) (n:=0) hff hb trivial ?_)⟩
 have hf0:FR G w fn.ntmps t.get { tmps:=us++Array.replicate (fn.ntmps - us.size) undef,defers:=[] }:=by
  rw[ht];exact args_FR ha (hbn▸hn)
 have early:∀(t':FT)(H':LHeap)(G':Ghost)(w':World)(a':Act),endP E r.res t' H' kv->H'.Ok->Inv G' w' H'->FR G' w' fn.ntmps t'.get a'->a'.defers=[]->Ext G w G' w'->bodyPostM (fen none) 0 P fn (CallPost G w (CSP kv kp)) .ret a' w':=by
  intro t' H' G' w' a' he hok hI' hf' hd hx
  obtain⟨vr,hvr,H'',k1,k2,k3⟩:=he
  obtain⟨uv,hr1,hr2⟩:=run_results hI' hf' hres hvr
  show LeavesInM (fen none) 0 P fn a'.tmps _ a'.defers .returning w'
  rw[hd]
  exact⟨uv,hr1,vr,_,G',.inl ⟨vr,_,rfl,k2 hok,k3⟩,hr2,hI'.wk k1,hx⟩
 refine wpIn_seq (stageP hmix hF eA hI hE hf0 hH h (fun t1 H1 G1 w1 a1 h ok1 hI1 hf1 hd1 hx1=>?_) fun t1 H1 G1 w1 a1 h ok1 hI1 hf1 hd1 hx1=>early _ _ _ _ _ h ok1 hI1 hf1 hd1 hx1)
 have hE1:=hE.mono hx1
 refine wpIn_seq (stageP hmix hF eI hI1 hE1 hf1 ok1 h (fun t2 H2 G2 w2 a2 h ok2 hI2 hf2 hd2 hx2=>?_) fun t2 H2 G2 w2 a2 h ok2 hI2 hf2 hd2 hx2=>early _ _ _ _ _ h ok2 hI2 hf2 (hd2.trans hd1) (hx1.trans hx2))
 have hE2:=hE1.mono hx2
 refine wpIn_seq (stageP hmix hF eB hI2 hE2 hf2 ok2 h (fun t3 H3 G3 w3 a3 h ok3 hI3 hf3 hd3 hx3=>?_) fun t3 H3 G3 w3 a3 h ok3 hI3 hf3 hd3 hx3=>early _ _ _ _ _ h ok3 hI3 hf3 (hd3.trans (hd2.trans hd1)) ((hx1.trans hx2).trans hx3))
 have hE3:=hE2.mono hx3
 refine wpIn_seq (wpIn_seq (stageP hmix hF eC hI3 hE3 hf3 ok3 h (fun t4 H4 G4 w4 a4 h ok4 hI4 hf4 hd4 hx4=>?_) fun t4 H4 G4 w4 a4 h ok4 hI4 hf4 hd4 hx4=>early _ _ _ _ _ h ok4 hI4 hf4 (hd4.trans (hd3.trans (hd2.trans hd1))) (((hx1.trans hx2).trans hx3).trans hx4)))
 have hE4:=hE3.mono hx4
 have hx04:=((hx1.trans hx2).trans hx3).trans hx4
 have hd04:a4.defers=[]:=hd4.trans (hd3.trans (hd2.trans hd1))
 refine wpIn_block ?_
 obtain⟨t5,hle,h⟩:=h
 have hf4:=hf4.wk hle.fwk
 clear hle
 revert h hf4
 generalize t5=t4
 intro h hf4
 obtain⟨fi,cap,hx,h⟩:=(show rgP (E.ev t4.get r.x) _ from h)
 have hO:=h (show LHeap.Ok ⟨(Nat.succ H4.next,.rcd false (frF t4 r.n) r.ps r.k)::(H4.next,.dfr)::H4.objs,Nat.succ (Nat.succ H4.next)⟩ from ⟨Nat.lt_succ_self _,Nat.lt_succ_self _,ok4⟩)
 have hC:CallOk P E _ _ _ _:=sound hmix hF hO
 have afterT:∀q,CSP (afterK E F r t4 H4.next kv) (fun _ _=>False) q->∃v H',q=.ret v H'/\H'.Ok/\afterK E F r t4 H4.next kv v H':=by
  rintro q (⟨v,H',rfl,hok,hk⟩|⟨v,H',rfl,hok,hk⟩)
  ·exact⟨v,H',rfl,hok,hk⟩
  ·exact hk.elim
 refine rf_wp2 (k:=r.k) (T:=CSP (afterK E F r t4 H4.next kv) fun _ _=>False) er hrc' hI4 hE4 hf4 hx (by rw[<-hbn];exact hC) (fun q hq=>?_) (fun v H5 G5 w5 hT hR hI5 hx5 hlt5=>?_) (fun v H5 G5 w5 hT hR hI5 hx5 hlt5=>?_)
 ·obtain⟨v,H',rfl,_,hk⟩:=afterT q hq
  rcases hk with⟨hk,_⟩|⟨hk,_⟩
  ·exact⟨v,H',rfl,.inl (isR_of hk)⟩
  ·exact⟨v,H',rfl,.inr (by simp[isL,hk])⟩
 rotate_left
 ·
  obtain⟨v',H',he,ok5,hk⟩:=afterT _ hT
  cases he
  have hlk:=isL_spec hR
  rcases hk with⟨hk,_⟩|⟨_,hD,hk⟩
  ·rw[hlk]at hk;cases hk
  have ok5':(H5.del (H4.next+1)).Ok:=Desc.del ok5
  have hD':look H4.next (H5.del (H4.next+1)).objs=some .dfr:=by
   simp only[LHeap.del,look_del]
   rw[if_neg (by omega)]
   exact hD
  obtain⟨hlt5',q1,q2,q3⟩:=hI5.objs _ _ hD'
  obtain⟨y1,y2⟩:=hI5.setDel (ob':=.deferred none) hD' q1 (by simp) q2 q3
  have htd:=run_takeDeferred (P:=P) q1
  obtain⟨vr,hvr,H'',k1,k2,k3⟩:=hk
  have hx05:=(hx04.trans hx5).trans y1
  obtain⟨uv,hr1,hr2⟩:=run_results (a:={ a4 with defers:={ target:=.collected (G5.loc H4.next),args:=#[] }::a4.defers }) y2 (show FR _ _ fn.ntmps t4.get _ from ⟨((hf4.mono hx5).mono y1).size,((hf4.mono hx5).mono y1).slot⟩) hres hvr
  show LeavesInM (fen none) 0 P fn a4.tmps _ ({ target:=.collected (G5.loc H4.next),args:=#[] }::a4.defers) .returning w5
  rw[hd04]
  refine⟨by simp,.inl ⟨_,_,rfl,htd,?_⟩⟩
  exact⟨uv,hr1,vr,_,G5,.inl ⟨vr,_,rfl,k2 (Desc.del ok5'),k3⟩,hr2,y2.wk k1,hx05⟩
 ·obtain⟨v',H',he,ok5,hk⟩:=afterT _ hT
  cases he
  rcases hk with⟨_,hk⟩|⟨hk,_⟩
  rotate_left
  ·obtain⟨_,_,_,hlk,_⟩:=isR_spec (b':=false) hR
   rw[hlk]at hk;cases hk
  have ok5':(H5.del (Nat.succ H4.next)).Ok:=Desc.del ok5
  have hE5:=hE4.mono hx5
  have hx05:=hx04.trans hx5
  show (Code.seq cD cZ).wpIn (fen none) 0 P (bodyPostM (fen none) 0 P fn (CallPost G w (CSP kv kp))) _ _
  obtain⟨hcl,hk⟩:=hk
  have hk:runP E F r.Z (t4.set r.dd (.fn (.func r.g) [] (r.cs.map (E.ev t4.get)))) (H5.del (H4.next+1)) (behK E F r (r.cs.map (E.ev t4.get)) H4.next kv):=hk
  refine wpIn_seq (defer_wp (fr:=t4.get) eD hI5 hE5 ⟨(hf4.mono hx5).size,(hf4.mono hx5).slot⟩ fun a6 w6 G6 vs hf6 hvs hd6 hx6 hI6=>?_)
  have hE6:=hE5.mono hx6
  have hx06:=hx05.trans hx6
  rw[<-FT.set_get]at hf6
  have hs:CodeOk P E r.Z _ (H5.del (H4.next+1)) _:=sound hmix hF (runP_ok _ _ _ _ ok5' hk)
  refine hs.wp none 0 fn.ntmps cZ G6 w6 a6 _ eZ hI6 hE6 hf6 fun e a7 w7 hp=>?_
  obtain⟨le,fr7,df7,H7,G7,hX,he7,hI7,hf7,hd7,hx7⟩:=hp
  obtain⟨e0,t7,H7',hr,ok7,hk⟩:=hX
  cases hr
  have hE7:=hE6.mono hx7
  have hx07:=hx06.trans hx7
  have hdefs:a7.defers=[{ target:=.fn (.func r.g) vs,args:=#[] },{ target:=.collected (G5.loc H4.next),args:=#[] }]:=by rw[hd7,hd6];simp[hd04]
  have hvs7:=(hvs.mono hx7)
  have last:∀(y:LV)(u:FrameMode),u≠.run->((u=.returning/\y=.sc .nilIface)\/∃v,u=.panicking [{ v:=v,recovered:=false }]/\VR G7 w7 y v)->lastP E F r (r.cs.map (E.ev t4.get)) H4.next kv y t7 H7 ->
    LeavesInM (fen none) 0 P fn a7.tmps (CallPost G w (CSP kv kp)) a7.defers u w7:=by
   intro y u hur hu hk
   obtain⟨u1,hk,hu10⟩:=argsP_spec hk
   have hu1:u1.get=frOf (r.cs.map (E.ev t4.get)):=by
    funext j
    rw[hu10 j]
    simp only[frOf]
    by_cases hj:j<(r.cs.map (E.ev t4.get)).length
    ·rw[if_pos (by omega)];simp
    ·rw[if_neg (by omega)]
     have:(r.cs.map (E.ev t4.get))[j]? = none:=List.getElem?_eq_none (by omega)
     simp only[List.getD_eq_getElem?_getD,this,FT.get_nil]
     rfl
   have hk:runP E F r.rest (u1.set r.dr y) H7 (lastK E r.res t7 H4.next kv):=hk
   have hs:CodeOk P E r.rest _ H7 _:=sound hmix hF (runP_ok _ _ _ _ ok7 hk)
   rw[hdefs]
   refine⟨hur,.inr ⟨fun h=>(by cases h),.func r.g,vs,r.g,vs,rfl,?_,fun _ _=>trivial,?_⟩⟩
   ·obtain⟨cg,hgb,_⟩:=cFn_inv hgc
    have:=call_enter (P:=P) (w:=w7) hgf (by simp[hgb]) hgname vs
    simpa [invoke] using this
   ·refine CallsDIn.mono (rec_calls (nf:=0 - 1) hgf hgc (by simpa using hcl) hI7 hE7 hvs7 hu (by rw[<-hu1,<-FT.set_get];exact hs.wp) fun e fr' df' H' hT=>?_) fun e u' w' hq=>?_
    ·obtain⟨e1,t',H'',he,_,hk⟩:=hT
     cases he
     exact hk.1
    ·obtain⟨v,le,fr',df',H8,G8,rfl,hst,hT,hI8,hx8⟩:=hq
     obtain⟨e1,t',H'',he,ok8,hk⟩:=hT
     cases he
     obtain⟨_,hlD,vr,hvr,H9,k1,k2,k3⟩:=hk
     obtain⟨hlt8,q1,q2,q3⟩:=hI8.objs _ _ hlD
     have hloc:G8.loc H4.next=G5.loc H4.next:=by
      have h8:=hx8.loc H4.next
      have h7:=hx7.loc H4.next
      have h6:=hx6.loc H4.next
      have n6:=hx6.n
      have n7:=hx7.n
      rw[h8 (by omega),h7 (by omega),h6 (by omega)]
     obtain⟨y1,y2⟩:=hI8.setDel (ob':=.deferred none) hlD q1 (by simp) q2 q3
     have htd:=run_takeDeferred (P:=P) q1
     rw[hloc]at y1 y2 htd
     simp only
     rw[hst]
     refine⟨by simp,.inl ⟨_,_,rfl,htd,?_⟩⟩
     have hxx:=hx8.trans y1
     obtain⟨uv,hr1,hr2⟩:=run_results y2 (hf7.mono hxx) hres hvr
     have okd:(H8.del H4.next).Ok:=Desc.del ok8
     exact⟨uv,hr1,vr,_,G8,.inl ⟨vr,_,rfl,k2 okd,k3⟩,hr2,y2.wk k1,hx07.trans hxx⟩
  cases le with
  |normal=>
   cases e<;>try exact he7.elim
   exact last _ .returning (by simp) (.inl ⟨rfl,rfl⟩) hk
  |ret=>
   cases e<;>try exact he7.elim
   exact last _ .returning (by simp) (.inl ⟨rfl,rfl⟩) hk
  |exit n=>exact hk.elim
  |pan v=>
   cases e<;>try exact he7.elim
   obtain⟨u,rfl,hv⟩:=he7
   exact last v (.panicking [{ v:=u,recovered:=false }]) (by simp) (.inr ⟨u,rfl,hv⟩) hk
end
end Go.Abs
namespace Go.Abs
open Go
section
variable{E:Env}{F:Fns}
theorem lP_seq{a b:BCode}{t:FT}{H:LHeap}{k:XP}(h:lP E F a t H (seqK (fun t' H'=>lP E F b t' H' k) k)):lP E F (.seq a b) t H k:=by
 intro hH
 refine .seq (h hH) (fun fr df H' hT=>?_) (fun e fr df H' hT hne=>?_)
 ·obtain⟨e,t',H'',he,hok,hk⟩:=hT
  cases he
  exact hk hok
 ·obtain⟨e',t',H'',he,hok,hk⟩:=hT
  cases he
  cases e with
  |normal=>exact absurd rfl hne
  |exit n=>exact⟨_,t',H',rfl,hok,hk⟩
  |ret=>exact⟨_,t',H',rfl,hok,hk⟩
  |pan v=>exact⟨_,t',H',rfl,hok,hk⟩
theorem cP_of_lP{b:BFn}{f:FuncId}{args:List LV}{H:LHeap}{kv kp:HP}(hf:F.fn f b)(hn:args.length<=b.n)
  (h:H.Ok->argsP args 0 .nil fun t=>lP E F b.body t H (finK E b (fun v H'=>∃H'',HWk H' H''/\(H'.Ok->H''.Ok)/\kv v H'') kp)):cP E F f args H kv kp:=by
 intro hH
 obtain⟨t,h1,h2⟩:=argsP_spec (h hH)
 have ht:t.get=frOf args:=by
  funext j
  rw[h2 j]
  simp only[frOf]
  by_cases hj:j<args.length
  ·rw[if_pos (by omega)];simp
  ·rw[if_neg (by omega)]
   have:args[j]? = none:=List.getElem?_eq_none (by omega)
   simp[List.getD_eq_getElem?_getD,this,FT.get_nil]
 have hb:=h1 hH
 rw[ht]at hb
 refine .enter hf hn hb (fun fr df H' hT=>?_) (fun v fr df H' hT=>?_) (fun n fr df H' hT=>?_)
 ·have:∃(t':FT),fr=t'.get/\df=[]/\H'.Ok/\resP E b.res t' H' fun v=>∃H'',HWk H' H''/\(H'.Ok->H''.Ok)/\kv v H'':=by
   rcases hT with⟨e,t',H'',he,hok,hk⟩|⟨e,t',H'',he,hok,hk⟩<;>cases he
   ·exact⟨t',rfl,rfl,hok,hk⟩
   ·exact⟨t',rfl,rfl,hok,hk⟩
  obtain⟨t',rfl,rfl,hok,v,hv,H1,h3,h4,h5⟩:=this
  exact⟨rfl,v,v,H1,hv,.inl rfl,h3,.inl ⟨v,H1,rfl,h4 hok,h5⟩⟩
 ·obtain⟨e,t',H'',he,hok,hk⟩:=hT
  cases he
  exact⟨rfl,v,H',.inl rfl,⟨Nat.le_refl _,fun _ _ h=>h⟩,.inr ⟨v,H',rfl,hok,hk⟩⟩
 ·obtain⟨e,t',H'',he,hok,hk⟩:=hT
  cases he
  cases hk
end
end Go.Abs
namespace Go.Abs
open Go
section
variable{E:Env}{F:Fns}
theorem lP_blk{id:Nat}{c:BCode}{t:FT}{H:LHeap}{k:XP}(h:lP E F c t H (blkK id k)):lP E F (.blk id c) t H k:=by
 intro hH
 refine .blk (h hH) (fun fr df H' hT=>?_) (fun fr df H' hT=>?_) (fun e fr df H' hT hne hid=>?_)
 ·obtain⟨e,t',H'',he,hok,hk⟩:=hT
  cases he
  exact⟨_,t',H',rfl,hok,hk⟩
 ·obtain⟨e,t',H'',he,hok,hk⟩:=hT
  cases he
  exact⟨_,t',H',rfl,hok,by simpa [blkK] using hk⟩
 ·obtain⟨e',t',H'',he,hok,hk⟩:=hT
  cases he
  cases e with
  |normal=>exact absurd rfl hne
  |exit j=>exact⟨_,t',H',rfl,hok,by
    have:j≠id:=fun e=>hid (by rw[e])
    simpa [blkK,this] using hk⟩
  |ret=>exact⟨_,t',H',rfl,hok,hk⟩
  |pan v=>exact⟨_,t',H',rfl,hok,hk⟩
theorem lP_loopL{σ:Type}{c:BCode}{k:XP}(fr:σ->FT)(hp:σ->LHeap)(m:σ->Nat)(I:σ->Prop)
  (h:∀s,I s->(hp s).Ok->lP E F c (fr s) (hp s) (loopK (fun t' H'=>∃s',m s'<m s/\I s'/\FT.Le (fr s') t'/\HWk H' (hp s')/\(H'.Ok->(hp s').Ok)) k)):
  ∀s,I s->lP E F (.loop c) (fr s) (hp s) k:=by
 intro s
 induction hn:m s using Nat.strongRecOn generalizing s with
 |ind n ih=>
  intro hI hH
  refine .loop (h s hI hH hH) (fun fr' df H' hT=>?_) (fun e fr' df H' hT hne=>?_)
  ·obtain⟨e,t',H'',he,hok,hk⟩:=hT
   cases he
   obtain⟨s',h1,h2,h3,h4,h5⟩:=hk
   exact .weak (fun l=>(by simp)) h3.fwk h4 (ih (m s') (hn▸h1) s' rfl h2 (h5 hok))
  ·obtain⟨e',t',H'',he,hok,hk⟩:=hT
   cases he
   cases e with
   |normal=>exact absurd rfl hne
   |exit n=>exact⟨_,t',H',rfl,hok,hk⟩
   |ret=>exact⟨_,t',H',rfl,hok,hk⟩
   |pan v=>exact⟨_,t',H',rfl,hok,hk⟩
theorem lP_enterL{σ:Type}{c:BCode}{k:XP}(fr:σ->FT)(hp:σ->LHeap)(m:σ->Nat)(I:σ->Prop)(s:σ){t:FT}{H:LHeap}
  (hI:I s) (ht:FT.Le (fr s) t) (hh:HWk H (hp s)/\(H.Ok->(hp s).Ok))
  (h:∀s,I s->(hp s).Ok->lP E F c (fr s) (hp s) (loopK (fun t' H'=>∃s',m s'<m s/\I s'/\FT.Le (fr s') t'/\HWk H' (hp s')/\(H'.Ok->(hp s').Ok)) k)):
  lP E F (.loop c) t H k:=
 lP_weak (fun l=>(by simp)) ht hh.1 hh.2 (lP_loopL fr hp m I h s hI)
end
end Go.Abs
