/- Part of the proof that for every source the law CustomReadsAsSpecified returns true. Conditions: none. -/
import Derived.Test.YtjdooijejbmbnaaGreatDoorPartG
import Derived.Test.YtjdooijejbmbnaaGreatDoorPartI
import Derived.Test.YtjdooijejbmbnaaGreatDoorPartD
namespace Go.Abs.Tz
open Go Go.Abs Go.Proofs
set_option maxRecDepth 20000
set_option linter.unusedSimpArgs false
attribute [local simp ↓] getP_nil getP_node setP_nil setP_node oneP_eq vP_map vP_some vP_none vP_bind eP_some bP_true bP_false gP_yes gP_tf gP_ft gP_tup runP_skip runP_ops runP_drw runP_seq runP_cond runP_blk runP_loop runP_exit runP_ret seqK_n seqK_r seqK_e seqK_p blkK_n blkK_r blkK_e blkK_p loopK_n loopK_r loopK_e loopK_p finK_n finK_r finK_p resP_one resP_two resP_three resP_nil resP_c nxP_nil argsP_nil argsP_cons evP_t evP_c evP_g evsP_nil evsP_cons clP_fn clP_yld clfP_fn pnP_i opsP_nil opsP_d opsP_x opsP_gt opsP_gf opP_cf opP_cl opP_pn opP_nx valP_mv valP_pk valP_eq valP_bn valP_nt valP_ld valP_fa valP_fd valP_ia valP_ix valP_ln valP_srn valP_srl valP_srh valP_srb valP_cv valP_mi valP_mf valP_xt valP_bs valP_bd valP_nc valP_mn valP_lk valP_ta opP_mv opP_pk opP_eq opP_bn opP_nt opP_ld opP_fa opP_fd opP_ia opP_ix opP_ln opP_sr opP_cv opP_mi opP_mf opP_xt opP_bs opP_bd opP_nc opP_mn opP_lk opP_ta opP_al opP_bx opP_st opP_ap opP_mk opP_nb opP_mu opP_rg opP_en pendP_nil pendP_d pendP_g drwP_nil drwP_d drwP_x drwP_gt drwP_gf look_self natOf_nat
attribute [local simp] faL fdL iaL ixL loadL partL lenL eqK eqL natOf eqB_s eqB_i eqB_b bn_add bn_sub bn_lss bn_leq bn_gtr bn_geq bn_adds bn_lsss bn_gtrs bn_leqs bn_geqs sliceL LV.cells LV.whole look_self put_self putO_self put_eq stL fillL termC dopP LHeap.alloc oneI oneS oneB nth0 nth1 nth2 nth3 nth4 nth5 nth6 nth7 nth8 nth9 look_ne putO_ne
def endN(p:Int->Bool)(s:ByteArray)(i:Nat):Nat:=i+runN p ((sL s).drop i)
theorem runN_len(p:Int->Bool):∀l:List UInt8,runN p l<=l.length
 |[]=>Nat.le_refl _
 |c::r=>by
  have:=runN_len p r
  unfold runN
  rw[List.length_cons]
  split<;>omega
theorem sL_len(s:ByteArray):(sL s).length=s.size:=by
 unfold sL
 rw[Array.length_toList]
 rfl
theorem byteG{s:ByteArray}{i:Nat}(h:i<s.size):∃c,s.data[i]? = some c/\(sL s).drop i=c::(sL s).drop (i+1):=by
 obtain⟨c,h1,h2⟩:=byte_at h
 exact⟨c,by rw[<-h1];exact Array.getElem?_eq_getElem _,h2⟩
theorem endN_le{p:Int->Bool}{s:ByteArray}{i:Nat}(hi:i<=s.size):i<=endN p s i/\endN p s i<=s.size:=by
 have h:=runN_len p ((sL s).drop i)
 rw[List.length_drop,sL_len]at h
 unfold endN
 omega
structure NNInA where
 i:Nat
 n:Nat
theorem t_runF(s:ByteArray)(hs:s.size<2^40)(i0:Nat)(hi0:i0<=s.size)(f:FuncId)(p:Int->Bool)(hp:∀n,PureT f [U n] (.bool (p n))):PureT 96 [.str s,.int i0,.fn (.func f) [] []] (.int (endN p s i0)):=by
 refine PureT.of c96 fun H hH=>⟨Nat.le_of_ble_eq_true rfl,?_⟩
 obtain⟨V,hV⟩:∃V,endN p s i0=V:=⟨_,rfl⟩
 rw[hV]
 simp(disch:=omega)[b96]
 refine lP_enter (σ:=NNInA) (fun q=>(.nd (.str s) (.nd (.int q.i) .nil .nil) (.nd (.fn (.func f) [] []) .nil .nil))) (fun q=>⟨H.objs,q.n⟩) (fun q=>s.size - q.i)
  (fun q=>H.next<=q.n/\q.i<=s.size/\endN p s q.i=V) ⟨i0,H.next⟩ ⟨Nat.le_refl _,hi0,hV⟩ (by simp[FT.Le,Wk]) ⟨HWk.refl _,fun h=>h⟩ ?_
 rintro⟨i,n⟩ ⟨hn,hi,he⟩ hok
 simp only at hn hi he
 unfold endN at he
 by_cases hlt:i<s.size
 case neg=>
  rw[List.drop_eq_nil_of_le (by rw[sL_len];omega)]at he
  have he2:i=V:=he
  subst he2
  simp(disch:=omega)[hlt]
  exact doneK hH (by first|rfl|simp[])
 obtain⟨c,hc,hd⟩:=byteG hlt
 rw[hd]at he
 simp(disch:=omega)[hlt,hc]
 refine(hp _).go fun n1 h1=>?_
 cases hl:p (c.toNat:Int)
 ·have he2:i=V:=by rw[<-he];unfold runN;rw[if_neg (by rw[hl];simp)];rfl
  subst he2
  simp(disch:=omega)
  exact doneK hH (by first|rfl|simp[])
 ·have he2:endN p s (i+1)=V:=by
   rw[<-he]
   unfold endN
   conv=>rhs;unfold runN
   rw[if_pos hl]
   omega
  simp(disch:=omega)[wrap_nat (show i<2^62 by omega)]
  exact⟨⟨i+1,n1⟩,by dsimp only;omega,⟨by dsimp only;omega,by dsimp only;omega,he2⟩,by simp[FT.Le,Wk],HWk.refl _,fun h=>h⟩
theorem t_rword(s:ByteArray)(hs:s.size<2^40)(i0:Nat)(hi0:i0<=s.size):PureT 60 [.str s,.int i0] (.int (endN wordC s i0)):=by
 refine PureT.of c60 fun H hH=>⟨Nat.le_of_ble_eq_true rfl,?_⟩
 obtain⟨V,hV⟩:∃V,endN wordC s i0=V:=⟨_,rfl⟩
 rw[hV]
 simp(disch:=omega)[b60]
 refine lP_enter (σ:=NNInA) (fun q=>(.nd (.str s) (.nd (.int q.i) .nil .nil) .nil)) (fun q=>⟨H.objs,q.n⟩) (fun q=>s.size - q.i)
  (fun q=>H.next<=q.n/\q.i<=s.size/\endN wordC s q.i=V) ⟨i0,H.next⟩ ⟨Nat.le_refl _,hi0,hV⟩ (by simp[FT.Le,Wk]) ⟨HWk.refl _,fun h=>h⟩ ?_
 rintro⟨i,n⟩ ⟨hn,hi,he⟩ hok
 simp only at hn hi he
 unfold endN at he
 by_cases hlt:i<s.size
 case neg=>
  rw[List.drop_eq_nil_of_le (by rw[sL_len];omega)]at he
  have he2:i=V:=he
  subst he2
  simp(disch:=omega)[hlt]
  exact doneK hH (by first|rfl|simp[])
 obtain⟨c,hc,hd⟩:=byteG hlt
 rw[hd]at he
 simp(disch:=omega)[hlt,hc]
 refine(t_rletter _).go fun n1 h1=>?_
 have go:wordC (c.toNat:Int)=true->endN wordC s (i+1)=V:=fun hl=>by
  rw[<-he]
  unfold endN
  conv=>rhs;unfold runN
  rw[if_pos hl]
  omega
 cases hl:letB (c.toNat:Int)
 ·simp(disch:=omega)[hlt,hc]
  refine(t_rdigit _).go fun n2 h2=>?_
  cases hd2:digB (c.toNat:Int)
  ·have he2:i=V:=by rw[<-he];unfold runN;rw[if_neg (by simp[wordC,hl,hd2])];rfl
   subst he2
   simp(disch:=omega)
   exact doneK hH (by first|rfl|simp[])
  ·simp(disch:=omega)[wrap_nat (show i<2^62 by omega)]
   exact⟨⟨i+1,n2⟩,by dsimp only;omega,⟨by dsimp only;omega,by dsimp only;omega,go (by simp[wordC,hd2])⟩,by simp[FT.Le,Wk],HWk.refl _,fun h=>h⟩
 ·simp(disch:=omega)[wrap_nat (show i<2^62 by omega)]
  exact⟨⟨i+1,n1⟩,by dsimp only;omega,⟨by dsimp only;omega,by dsimp only;omega,go (by simp[wordC,hl])⟩,by simp[FT.Le,Wk],HWk.refl _,fun h=>h⟩
theorem t_rdigits(s:ByteArray)(hs:s.size<2^40)(i0:Nat)(hi0:i0<=s.size):PureT 63 [.str s,.int i0] (.int (endN digB s i0)):=by
 refine PureT.of c63 fun H hH=>⟨Nat.le_of_ble_eq_true rfl,?_⟩
 obtain⟨V,hV⟩:∃V,endN digB s i0=V:=⟨_,rfl⟩
 rw[hV]
 simp(disch:=omega)[b63]
 refine lP_enter (σ:=NNInA) (fun q=>(.nd (.str s) (.nd (.int q.i) .nil .nil) .nil)) (fun q=>⟨H.objs,q.n⟩) (fun q=>s.size - q.i)
  (fun q=>H.next<=q.n/\q.i<=s.size/\endN digB s q.i=V) ⟨i0,H.next⟩ ⟨Nat.le_refl _,hi0,hV⟩ (by simp[FT.Le,Wk]) ⟨HWk.refl _,fun h=>h⟩ ?_
 rintro⟨i,n⟩ ⟨hn,hi,he⟩ hok
 simp only at hn hi he
 unfold endN at he
 by_cases hlt:i<s.size
 case neg=>
  rw[List.drop_eq_nil_of_le (by rw[sL_len];omega)]at he
  have he2:i=V:=he
  subst he2
  simp(disch:=omega)[hlt]
  exact doneK hH (by first|rfl|simp[])
 obtain⟨c,hc,hd⟩:=byteG hlt
 rw[hd]at he
 simp(disch:=omega)[hlt,hc]
 refine(t_rdigit _).go fun n2 h2=>?_
 cases hd2:digB (c.toNat:Int)
 ·have he2:i=V:=by rw[<-he];unfold runN;rw[if_neg (by rw[hd2];simp)];rfl
  subst he2
  simp(disch:=omega)
  exact doneK hH (by first|rfl|simp[])
 ·have he2:endN digB s (i+1)=V:=by
   rw[<-he]
   unfold endN
   conv=>rhs;unfold runN
   rw[if_pos hd2]
   omega
  simp(disch:=omega)[wrap_nat (show i<2^62 by omega)]
  exact⟨⟨i+1,n2⟩,by dsimp only;omega,⟨by dsimp only;omega,by dsimp only;omega,he2⟩,by simp[FT.Le,Wk],HWk.refl _,fun h=>h⟩
def zeroT(t:Term):Bool:=decide (t.kind=0)&&(decide (t.n=0)&&eqBA t.s ⟨⟨[]⟩⟩)
def litOk(l:Lit):Bool:=
 if l.kind=1\/l.kind=2 then atomOk l.atom&&(zeroT l.a&&zeroT l.b)
 else if l.kind=3\/l.kind=4\/l.kind=5\/l.kind=6 then termOk l.a&&(termOk l.b&&(eqBA l.atom.pred ⟨⟨[]⟩⟩&&decide (l.atom.args.length=0)))
 else false
def Lit.ok2(l:Lit):Prop:=l.atom.ok/\l.a.ok/\l.b.ok
def Clause.ok2(c:Clause):Prop:=c.head.ok/\c.body.length<2^40/\∀l∈c.body,Lit.ok2 l
def clauseOk(c:Clause):Bool:=atomOk c.head&&(decide (c.body.length<=5)&&c.body.all litOk)
abbrev clausesL(l:List Clause):LV:=.sl (l.map clauseL) .no
def Clause.ok3(c:Clause):Prop:=c.ok2/\c.ok
theorem wrap_u8{n:Nat}(h:n<256):IntKind.wrap .u8 (n:Int)=n:=by
 have e:IntKind.u8.bits=8:=rfl
 have e2:IntKind.u8.signed=false:=rfl
 simp only[IntKind.wrap,e,e2,Bool.false_and]
 rw[if_neg (by decide)]
 omega
theorem t_wrong(a:Int):PureT 61 [.int a] (.agg [Nl,.int 7,.int a]):=by
 refine PureT.of c61 fun H hH=>⟨Nat.le_of_ble_eq_true rfl,?_⟩
 simp(disch:=omega)[b61]
 exact doneK hH (by first|rfl|simp[])
def valL:Int->List UInt8->Int
 |n,[]=>n
 |n,c::r=>valL (if 1099511627776<10*n+((c.toNat:Int) - 48) then 1099511627776 else 10*n+((c.toNat:Int) - 48)) r
theorem bn_mulI(a b:Int)(k:IntKind):binL .mul (.sc (.int k a)) (.sc (.int k b))=some (.sc (.int k (k.wrap (a*b)))):=by simp[binL]
structure NNIo where
 i:Nat
 n:Nat
 v:Int
theorem t_value(s:ByteArray)(hs:s.size<2^40)(hd:∀c∈sL s,digB (c.toNat:Int)=true):PureT 64 [.str s] (.int (valL 0 (sL s))):=by
 refine PureT.of c64 fun H hH=>⟨Nat.le_of_ble_eq_true rfl,?_⟩
 obtain⟨V,hV⟩:∃V,valL 0 (sL s)=V:=⟨_,rfl⟩
 rw[hV]
 simp(disch:=omega)[b64]
 refine lP_enter (σ:=NNIo) (fun q=>(.nd (.str s) (.nd .bot (.nd (.int q.v) .nil .nil) .nil) (.nd .bot (.nd (.int q.i) .nil .nil) .nil))) (fun q=>⟨H.objs,q.n⟩) (fun q=>s.size - q.i)
  (fun q=>H.next<=q.n/\q.i<=s.size/\0<=q.v/\q.v<=2^40/\valL q.v ((sL s).drop q.i)=V) ⟨0,H.next,0⟩ ⟨Nat.le_refl _,Nat.zero_le _,Int.le_refl _,by dsimp only;omega,hV⟩ (by simp[FT.Le,Wk]) ⟨HWk.refl _,fun h=>h⟩ ?_
 rintro⟨i,n,v⟩ ⟨hn,hi,hv0,hv1,he⟩ hok
 simp only at hn hi he hv0 hv1
 by_cases hlt:i<s.size
 case neg=>
  rw[List.drop_eq_nil_of_le (by rw[sL_len];omega)]at he
  have he2:v=V:=he
  subst he2
  simp(disch:=omega)[hlt]
  exact doneK hH (by first|rfl|simp[])
 obtain⟨c,hc,hdr⟩:=byteG hlt
 have hcd:=hd c (List.drop_subset i _ (by rw[hdr];exact List.mem_cons_self))
 have hcr:48<=(c.toNat:Int)/\(c.toNat:Int)<=57:=by simpa [digB] using hcd
 rw[hdr]at he
 have w1:IntKind.wrap .i64 (10*v)=10*v:=wrap_id (by omega) (by omega)
 have w2:IntKind.wrap .u8 ((c.toNat:Int) - 48)=(c.toNat:Int) - 48:=by
  obtain⟨k,hk⟩:∃k:Nat,(c.toNat:Int) - 48=(k:Int):=⟨c.toNat - 48,by omega⟩
  rw[hk]
  exact wrap_u8 (by omega)
 have w3:IntKind.wrap .i64 ((c.toNat:Int) - 48)=(c.toNat:Int) - 48:=wrap_id (by omega) (by omega)
 have w4:IntKind.wrap .i64 (10*v+((c.toNat:Int) - 48))=10*v+((c.toNat:Int) - 48):=wrap_id (by omega) (by omega)
 simp(disch:=omega)[hlt,hc,bn_mulI,w1,w2,w3,w4,wrap_nat (show i<2^62 by omega)]
 refine⟨⟨i+1,n,if 1099511627776<10*v+((c.toNat:Int) - 48) then 1099511627776 else 10*v+((c.toNat:Int) - 48)⟩,by dsimp only;omega,⟨by dsimp only;omega,by dsimp only;omega,?_,?_,he⟩,by simp[FT.Le,Wk],HWk.refl _,fun h=>h⟩
 ·dsimp only
  split<;>omega
 ·dsimp only
  split<;>omega
theorem extr_list(s:ByteArray)(i j:Nat):(s.extract i j).data.toList=((sL s).drop i).take (j - i):=by
 rw[ByteArray.data_extract,Array.toList_extract,List.extract_eq_take_drop]
 rfl
theorem extr_two{s:ByteArray}{i:Nat}{c d:UInt8}{r:List UInt8}(h:(sL s).drop i=c::d::r):s.extract i (i+2)=⟨⟨[c,d]⟩⟩:=by
 apply ByteArray.ext
 apply Array.toList_inj.1
 rw[extr_list,h,show i+2 - i=2 by omega]
 rfl
theorem u8_int(c x:UInt8):(c=x)↔(c.toNat:Int)=(x.toNat:Int):=⟨fun h=>by rw[h],fun h=>UInt8.toNat_inj.1 (by omega)⟩
theorem eq_two(c d x y:UInt8):eqBA ⟨⟨[c,d]⟩⟩ ⟨⟨[x,y]⟩⟩=(decide ((c.toNat:Int)=(x.toNat:Int))&&decide ((d.toNat:Int)=(y.toNat:Int))):=by
 rw[Bool.eq_iff_iff,eqBA_iff]
 simp[u8_int]
def oneMark(n:Int):Bool:=decide (n=40)||(decide (n=41)||(decide (n=44)||(decide (n=46)||(decide (n=61)||(decide (n=60)||decide (n=62))))))
def twoMark(n k:Int):Bool:=decide (k=61)&&(decide (n=33)||(decide (n=60)||decide (n=62)))
def markL:List UInt8->Nat
 |[]=>0
 |[c]=>if oneMark (c.toNat:Int) then 1 else 0
 |c::d::_=>if twoMark (c.toNat:Int) (d.toNat:Int) then 2 else if oneMark (c.toNat:Int) then 1 else 0
theorem e33:(((33:UInt8).toNat:Nat):Int)=33:=rfl
theorem e60:(((60:UInt8).toNat:Nat):Int)=60:=rfl
theorem e61:(((61:UInt8).toNat:Nat):Int)=61:=rfl
theorem e62:(((62:UInt8).toNat:Nat):Int)=62:=rfl
theorem t_mark(s:ByteArray)(hs:s.size<2^40)(i:Nat)(hi:i<s.size):PureT 65 [.str s,.int i] (.int (markL ((sL s).drop i))):=by
 refine PureT.of c65 fun H hH=>⟨Nat.le_of_ble_eq_true rfl,?_⟩
 obtain⟨c,hc,hd⟩:=byteG hi
 obtain⟨p,hp⟩:∃p,i+1=p:=⟨_,rfl⟩
 have hw:IntKind.wrap .i64 ((i:Int)+1)=(p:Int):=by rw[wrap_id (by omega) (by omega)];omega
 rw[hp]at hd
 by_cases h2:p<s.size
 case neg=>
  have hn:(sL s).drop p=[]:=List.drop_eq_nil_of_le (by rw[sL_len];omega)
  rw[hn]at hd
  rw[hd]
  have em:markL [c]=if oneMark (c.toNat:Int) then 1 else 0:=rfl
  rw[em]
  by_cases m1:(c.toNat:Int)=40
  ·simp(disch:=omega)[b65,hw,h2,hi,hc,eqBA,m1]
   exact doneK hH (by simp[oneMark,m1])
  by_cases m2:(c.toNat:Int)=41
  ·simp(disch:=omega)[b65,hw,h2,hi,hc,eqBA,m1,m2]
   exact doneK hH (by simp[oneMark,m1,m2])
  by_cases m3:(c.toNat:Int)=44
  ·simp(disch:=omega)[b65,hw,h2,hi,hc,eqBA,m1,m2,m3]
   exact doneK hH (by simp[oneMark,m1,m2,m3])
  by_cases m4:(c.toNat:Int)=46
  ·simp(disch:=omega)[b65,hw,h2,hi,hc,eqBA,m1,m2,m3,m4]
   exact doneK hH (by simp[oneMark,m1,m2,m3,m4])
  by_cases m5:(c.toNat:Int)=61
  ·simp(disch:=omega)[b65,hw,h2,hi,hc,eqBA,m1,m2,m3,m4,m5]
   exact doneK hH (by simp[oneMark,m1,m2,m3,m4,m5])
  by_cases m6:(c.toNat:Int)=60
  ·simp(disch:=omega)[b65,hw,h2,hi,hc,eqBA,m1,m2,m3,m4,m5,m6]
   exact doneK hH (by simp[oneMark,m1,m2,m3,m4,m5,m6])
  by_cases m7:(c.toNat:Int)=62
  ·simp(disch:=omega)[b65,hw,h2,hi,hc,eqBA,m1,m2,m3,m4,m5,m6,m7]
   exact doneK hH (by simp[oneMark,m1,m2,m3,m4,m5,m6,m7])
  simp(disch:=omega)[b65,hw,h2,hi,hc,eqBA,m1,m2,m3,m4,m5,m6,m7]
  exact doneK hH (by simp[oneMark,m1,m2,m3,m4,m5,m6,m7])
 obtain⟨d,hdd,hd2⟩:=byteG h2
 rw[hd2]at hd
 rw[hd]
 have hx:=extr_two hd
 have em:markL (c::d::(sL s).drop (p+1))=if twoMark (c.toNat:Int) (d.toNat:Int) then 2 else if oneMark (c.toNat:Int) then 1 else 0:=rfl
 rw[em]
 obtain⟨q,hq⟩:∃q,i+2=q:=⟨_,rfl⟩
 have hw2:IntKind.wrap .i64 ((i:Int)+2)=(q:Int):=by rw[wrap_id (by omega) (by omega)];omega
 rw[hq]at hx
 have hiq:i<=q/\q<=s.size:=by omega
 by_cases k1:(d.toNat:Int)=61
 ·by_cases k2:(c.toNat:Int)=33
  ·simp(disch:=omega)[b65,hw,hw2,h2,hi,hc,hx,hiq,eq_two,e33,e60,e61,e62,k1,k2]
   exact doneK hH (by simp[twoMark,k1,k2])
  by_cases k3:(c.toNat:Int)=60
  ·simp(disch:=omega)[b65,hw,hw2,h2,hi,hc,hx,hiq,eq_two,e33,e60,e61,e62,k1,k2,k3]
   exact doneK hH (by simp[twoMark,k1,k2,k3])
  by_cases k4:(c.toNat:Int)=62
  ·simp(disch:=omega)[b65,hw,hw2,h2,hi,hc,hx,hiq,eq_two,e33,e60,e61,e62,k1,k2,k3,k4]
   exact doneK hH (by simp[twoMark,k1,k2,k3,k4])
  by_cases m1:(c.toNat:Int)=40
  ·simp(disch:=omega)[b65,hw,hw2,h2,hi,hc,hx,hiq,eq_two,e33,e60,e61,e62,k1,k2,k3,k4,m1]
   exact doneK hH (by simp[twoMark,k1,k2,k3,k4,oneMark,m1])
  by_cases m2:(c.toNat:Int)=41
  ·simp(disch:=omega)[b65,hw,hw2,h2,hi,hc,hx,hiq,eq_two,e33,e60,e61,e62,k1,k2,k3,k4,m1,m2]
   exact doneK hH (by simp[twoMark,k1,k2,k3,k4,oneMark,m1,m2])
  by_cases m3:(c.toNat:Int)=44
  ·simp(disch:=omega)[b65,hw,hw2,h2,hi,hc,hx,hiq,eq_two,e33,e60,e61,e62,k1,k2,k3,k4,m1,m2,m3]
   exact doneK hH (by simp[twoMark,k1,k2,k3,k4,oneMark,m1,m2,m3])
  by_cases m4:(c.toNat:Int)=46
  ·simp(disch:=omega)[b65,hw,hw2,h2,hi,hc,hx,hiq,eq_two,e33,e60,e61,e62,k1,k2,k3,k4,m1,m2,m3,m4]
   exact doneK hH (by simp[twoMark,k1,k2,k3,k4,oneMark,m1,m2,m3,m4])
  by_cases m5:(c.toNat:Int)=61
  ·simp(disch:=omega)[b65,hw,hw2,h2,hi,hc,hx,hiq,eq_two,e33,e60,e61,e62,k1,k2,k3,k4,m1,m2,m3,m4,m5]
   exact doneK hH (by simp[twoMark,k1,k2,k3,k4,oneMark,m1,m2,m3,m4,m5])
  simp(disch:=omega)[b65,hw,hw2,h2,hi,hc,hx,hiq,eq_two,e33,e60,e61,e62,k1,k2,k3,k4,m1,m2,m3,m4,m5]
  exact doneK hH (by simp[twoMark,k1,k2,k3,k4,oneMark,m1,m2,m3,m4,m5])
 by_cases m1:(c.toNat:Int)=40
 ·simp(disch:=omega)[b65,hw,hw2,h2,hi,hc,hx,hiq,eq_two,e33,e60,e61,e62,k1,m1]
  exact doneK hH (by simp[twoMark,k1,oneMark,m1])
 by_cases m2:(c.toNat:Int)=41
 ·simp(disch:=omega)[b65,hw,hw2,h2,hi,hc,hx,hiq,eq_two,e33,e60,e61,e62,k1,m1,m2]
  exact doneK hH (by simp[twoMark,k1,oneMark,m1,m2])
 by_cases m3:(c.toNat:Int)=44
 ·simp(disch:=omega)[b65,hw,hw2,h2,hi,hc,hx,hiq,eq_two,e33,e60,e61,e62,k1,m1,m2,m3]
  exact doneK hH (by simp[twoMark,k1,oneMark,m1,m2,m3])
 by_cases m4:(c.toNat:Int)=46
 ·simp(disch:=omega)[b65,hw,hw2,h2,hi,hc,hx,hiq,eq_two,e33,e60,e61,e62,k1,m1,m2,m3,m4]
  exact doneK hH (by simp[twoMark,k1,oneMark,m1,m2,m3,m4])
 by_cases m5:(c.toNat:Int)=61
 ·simp(disch:=omega)[b65,hw,hw2,h2,hi,hc,hx,hiq,eq_two,e33,e60,e61,e62,k1,m1,m2,m3,m4,m5]
  exact doneK hH (by simp[twoMark,k1,oneMark,m1,m2,m3,m4,m5])
 by_cases m6:(c.toNat:Int)=60
 ·simp(disch:=omega)[b65,hw,hw2,h2,hi,hc,hx,hiq,eq_two,e33,e60,e61,e62,k1,m1,m2,m3,m4,m5,m6]
  exact doneK hH (by simp[twoMark,k1,oneMark,m1,m2,m3,m4,m5,m6])
 by_cases m7:(c.toNat:Int)=62
 ·simp(disch:=omega)[b65,hw,hw2,h2,hi,hc,hx,hiq,eq_two,e33,e60,e61,e62,k1,m1,m2,m3,m4,m5,m6,m7]
  exact doneK hH (by simp[twoMark,k1,oneMark,m1,m2,m3,m4,m5,m6,m7])
 simp(disch:=omega)[b65,hw,hw2,h2,hi,hc,hx,hiq,eq_two,e33,e60,e61,e62,k1,m1,m2,m3,m4,m5,m6,m7]
 exact doneK hH (by simp[twoMark,k1,oneMark,m1,m2,m3,m4,m5,m6,m7])
structure Tok where
 kind:Int
 text:ByteArray
 at_:Int
 n:Int
abbrev tokC(t:Tok):List LV:=[.int t.kind,.str t.text,.int t.at_]
abbrev tokL(t:Tok):LV:=.agg (tokC t)
abbrev parC(L:List Tok)(own:Own)(i:Nat)(b:Bool):LObj:=.cells [.sl (L.map tokL) own,.int i,.bool b]
def kAt(L:List Tok)(i:Nat):Int:=if h:i<L.length then L[i].kind else 0
theorem kAt_lt{L:List Tok}{i:Nat}(h:i<L.length):kAt L i=L[i].kind:=by unfold kAt;rw[dif_pos h]
theorem kAt_ge{L:List Tok}{i:Nat}(h:¬i<L.length):kAt L i=0:=by unfold kAt;rw[dif_neg h]
section
variable{L:List Tok}{own:Own}{i:Nat}{b:Bool}{m n:Nat}{ob:List (Nat×LObj)}
theorem t_kind(hL:L.length<=2^20)(hi:i<=L.length)(j:Nat)(hj:j<=1)(hl:look m ob=some (parC L own i b)){kv kp:HP}(hk:∀n',n<=n'->kv (.int (kAt L (i+j))) ⟨ob,n'⟩):
  cP E0 F0 69 [.ptr m 0,.int j] ⟨ob,n⟩ kv kp:=by
 refine cP_of_fn c69 fun hH=>⟨Nat.le_of_ble_eq_true rfl,?_⟩
 obtain⟨s,hs⟩:∃s,i+j=s:=⟨_,rfl⟩
 have hw:IntKind.wrap .i64 ((i:Int)+(j:Int))=(s:Int):=by rw[wrap_id (by omega) (by omega)];omega
 rw[hs]at hk
 by_cases h:s<L.length
 ·rw[kAt_lt h]at hk
  simp(disch:=omega)[b69,hl,hw,h]
  exact⟨⟨ob,n⟩,HWk.refl _,fun h=>h,hk _ (Nat.le_refl _)⟩
 ·rw[kAt_ge h]at hk
  simp(disch:=omega)[b69,hl,hw,h]
  exact⟨⟨ob,n⟩,HWk.refl _,fun h=>h,hk _ (Nat.le_refl _)⟩
def isM(L:List Tok)(i:Nat)(x:ByteArray):Bool:=if h:i<L.length then decide (L[i].kind=4)&&eqBA L[i].text x else false
def anyM(L:List Tok)(i:Nat)(xs:List ByteArray):Bool:=xs.any (isM L i)
abbrev marksL(xs:List ByteArray):List LV:=xs.map LV.str
structure NNIa where
 i:Nat
 n:Nat
theorem t_is(hL:L.length<=2^20)(hi:i<=L.length)(xs:List ByteArray)(hx:xs.length<=100)(ow:Own)(hl:look m ob=some (parC L own i b)){kv kp:HP}
  (hk0:anyM L i xs=false->∀n',n<=n'->kv (.bool false) ⟨ob,n'⟩) (hk1:anyM L i xs=true->i<L.length->∀n',n<=n'->kv (.bool true) ⟨putO m (parC L own (i+1) b) ob,n'⟩):
  cP E0 F0 56 [.ptr m 0,.sl (marksL xs) ow] ⟨ob,n⟩ kv kp:=by
 refine cP_of_fn c56 fun hH=>⟨Nat.le_of_ble_eq_true rfl,?_⟩
 have hOb:Desc ob n:=hH
 obtain⟨A,hA⟩:∃A,anyM L i xs=A:=⟨_,rfl⟩
 rw[hA]at hk0 hk1
 simp(disch:=omega)[b56]
 refine lP_enter (σ:=NNIa) (fun q=>(.nd (.ptr m 0) (.nd .bot (.nd .bot (.nd (.sl (marksL xs) ow) .nil .nil) .nil) (.nd .bot (.nd (.int q.i) .nil .nil) .nil)) (.nd .bot (.nd .bot (.nd (.int xs.length) .nil .nil) .nil) .nil))) (fun q=>⟨ob,q.n⟩) (fun q=>xs.length - q.i)
  (fun q=>n<=q.n/\q.i<=xs.length/\(xs.drop q.i).any (isM L i)=A) ⟨0,n⟩ ⟨Nat.le_refl _,Nat.zero_le _,hA⟩ (by simp[FT.Le,Wk]) ⟨HWk.refl _,fun h=>h⟩ ?_
 rintro⟨j,n2⟩ ⟨hn2,hj,he⟩ hok
 dsimp only at hn2 hj he hok
 by_cases hlt:j<xs.length
 case neg=>
  rw[List.drop_eq_nil_of_le (by omega),List.any_nil]at he
  simp(disch:=omega)[hlt]
  exact⟨⟨ob,n2⟩,HWk.refl _,fun h=>h,hk0 he.symm _ hn2⟩
 rw[List.drop_eq_getElem_cons hlt,List.any_cons]at he
 simp(disch:=omega)[hlt]
 refine t_kind hL hi 0 (by omega) hl fun n3 hn3=>?_
 rw[show i+0=i from rfl]
 by_cases h:i<L.length
 case neg=>
  rw[kAt_ge h]
  have hm0:isM L i xs[j]=false:=by unfold isM;rw[dif_neg h]
  rw[hm0,Bool.false_or]at he
  simp(disch:=omega)[wrap_nat (show j<2^62 by omega)]
  exact⟨⟨j+1,n3⟩,by dsimp only;omega,⟨by dsimp only;omega,by dsimp only;omega,he⟩,by simp[FT.Le,Wk],HWk.refl _,fun h=>h⟩
 have hm0:isM L i xs[j]=(decide (L[i].kind=4)&&eqBA L[i].text xs[j]):=by unfold isM;rw[dif_pos h]
 rw[kAt_lt h]
 rw[hm0]at he
 by_cases h4:L[i].kind=4
 case neg=>
  rw[decide_eq_false h4,Bool.false_and,Bool.false_or]at he
  simp(disch:=omega)[h4,wrap_nat (show j<2^62 by omega)]
  exact⟨⟨j+1,n3⟩,by dsimp only;omega,⟨by dsimp only;omega,by dsimp only;omega,he⟩,by simp[FT.Le,Wk],HWk.refl _,fun h=>h⟩
 rw[decide_eq_true h4,Bool.true_and]at he
 cases hx2:eqBA L[i].text xs[j]
 ·rw[hx2,Bool.false_or]at he
  simp(disch:=omega)[h4,hl,h,hlt,hx2,wrap_nat (show j<2^62 by omega)]
  exact⟨⟨j+1,n3⟩,by dsimp only;omega,⟨by dsimp only;omega,by dsimp only;omega,he⟩,by simp[FT.Le,Wk],HWk.refl _,fun h=>h⟩
 ·rw[hx2,Bool.true_or]at he
  simp(disch:=omega)[h4,hl,h,hlt,hx2,wrap_nat (show i<2^62 by omega)]
  exact⟨⟨putO m (parC L own (i+1) b) ob,n3⟩,HWk.refl _,fun h=>h,hk1 he.symm h _ (by omega)⟩
end
end Go.Abs.Tz
namespace Go.Abs
open Go
section
variable{E:Env}{F:Fns}
theorem cP_of_fnW{b:BFn}{f:FuncId}{args:List LV}{H:LHeap}{kv kp:HP}(hf:F.fn f b)
  (h:H.Ok->fnP E F b args H (fun v H'=>∃v' H'',Wk v v'/\HWk H' H''/\(H'.Ok->H''.Ok)/\kv v' H'') kp):cP E F f args H kv kp:=by
 intro hH
 obtain⟨hn,h⟩:=h hH
 obtain⟨t,h1,h2⟩:=argsP_spec h
 have ht:t.get=frOf args:=by
  funext j
  rw[h2 j]
  simp only[frOf]
  by_cases hj:j<args.length
  ·rw[if_pos (by omega)];simp
  ·rw[if_neg (by omega)]
   have:args[j]? = none:=List.getElem?_eq_none (by omega)
   simp[List.getD_eq_getElem?_getD,this,FT.get_nil]
 have hb:=runP_ok b.body t H _ hH h1
 rw[ht]at hb
 refine .enter hf hn hb (fun fr df H' hT=>?_) (fun v fr df H' hT=>?_) (fun n fr df H' hT=>?_)
 ·have:∃(t':FT),fr=t'.get/\df=[]/\H'.Ok/\resP E b.res t' H' fun v=>∃v' H'',Wk v v'/\HWk H' H''/\(H'.Ok->H''.Ok)/\kv v' H'':=by
   rcases hT with⟨e,t',H'',he,hok,hk⟩|⟨e,t',H'',he,hok,hk⟩<;>cases he
   ·exact⟨t',rfl,rfl,hok,hk⟩
   ·exact⟨t',rfl,rfl,hok,hk⟩
  obtain⟨t',rfl,rfl,hok,v,hv,v',H1,hw,h3,h4,h5⟩:=this
  exact⟨rfl,v,v',H1,hv,hw,h3,.inl ⟨v',H1,rfl,h4 hok,h5⟩⟩
 ·obtain⟨e,t',H'',he,hok,hk⟩:=hT
  cases he
  exact⟨rfl,v,H',.inl rfl,⟨Nat.le_refl _,fun _ _ h=>h⟩,.inr ⟨v,H',rfl,hok,hk⟩⟩
 ·obtain⟨e,t',H'',he,hok,hk⟩:=hT
  cases he
  cases hk
end
end Go.Abs
namespace Go.Abs
open Go
section
variable{E:Env}{F:Fns}
theorem cP_of_fnB{b:BFn}{f:FuncId}{args:List LV}{H:LHeap}{kv kp:HP}(hf:F.fn f b)
  (h:H.Ok->fnP E F b args H (fun v H'=>∃v' H'',Wk v v'/\HWk H' H''/\(H'.Ok->H''.Ok)/\kv v' H'') (fun v H'=>∃H'',HWk H' H''/\(H'.Ok->H''.Ok)/\kp v H'')):cP E F f args H kv kp:=by
 intro hH
 obtain⟨hn,h⟩:=h hH
 obtain⟨t,h1,h2⟩:=argsP_spec h
 have ht:t.get=frOf args:=by
  funext j
  rw[h2 j]
  simp only[frOf]
  by_cases hj:j<args.length
  ·rw[if_pos (by omega)];simp
  ·rw[if_neg (by omega)]
   have:args[j]? = none:=List.getElem?_eq_none (by omega)
   simp[List.getD_eq_getElem?_getD,this,FT.get_nil]
 have hb:=runP_ok b.body t H _ hH h1
 rw[ht]at hb
 refine .enter hf hn hb (fun fr df H' hT=>?_) (fun v fr df H' hT=>?_) (fun n fr df H' hT=>?_)
 ·have:∃(t':FT),fr=t'.get/\df=[]/\H'.Ok/\resP E b.res t' H' fun v=>∃v' H'',Wk v v'/\HWk H' H''/\(H'.Ok->H''.Ok)/\kv v' H'':=by
   rcases hT with⟨e,t',H'',he,hok,hk⟩|⟨e,t',H'',he,hok,hk⟩<;>cases he
   ·exact⟨t',rfl,rfl,hok,hk⟩
   ·exact⟨t',rfl,rfl,hok,hk⟩
  obtain⟨t',rfl,rfl,hok,v,hv,v',H1,hw,h3,h4,h5⟩:=this
  exact⟨rfl,v,v',H1,hv,hw,h3,.inl ⟨v',H1,rfl,h4 hok,h5⟩⟩
 ·obtain⟨e,t',H'',he,hok,hq⟩:=hT
  cases he
  obtain⟨H1,h3,h4,h5⟩:=hq
  exact⟨rfl,v,H1,.inl rfl,h3,.inr ⟨v,H1,rfl,h4 hok,h5⟩⟩
 ·obtain⟨e,t',H'',he,hok,hk⟩:=hT
  cases he
  cases hk
end
end Go.Abs
namespace Go.Abs.Tz
open Go Go.Abs Go.Proofs
set_option maxRecDepth 20000
set_option linter.unusedSimpArgs false
attribute [local simp ↓] getP_nil getP_node setP_nil setP_node oneP_eq vP_map vP_some vP_none vP_bind eP_some bP_true bP_false gP_yes gP_tf gP_ft gP_tup runP_skip runP_ops runP_drw runP_seq runP_cond runP_blk runP_loop runP_exit runP_ret seqK_n seqK_r seqK_e seqK_p blkK_n blkK_r blkK_e blkK_p loopK_n loopK_r loopK_e loopK_p finK_n finK_r finK_p resP_one resP_two resP_three resP_nil resP_c nxP_nil argsP_nil argsP_cons evP_t evP_c evP_g evsP_nil evsP_cons clP_fn clP_yld clfP_fn pnP_i opsP_nil opsP_d opsP_x opsP_gt opsP_gf opP_cf opP_cl opP_pn opP_nx valP_mv valP_pk valP_eq valP_bn valP_nt valP_ld valP_fa valP_fd valP_ia valP_ix valP_ln valP_srn valP_srl valP_srh valP_srb valP_cv valP_mi valP_mf valP_xt valP_bs valP_bd valP_nc valP_mn valP_lk valP_ta opP_mv opP_pk opP_eq opP_bn opP_nt opP_ld opP_fa opP_fd opP_ia opP_ix opP_ln opP_sr opP_cv opP_mi opP_mf opP_xt opP_bs opP_bd opP_nc opP_mn opP_lk opP_ta opP_al opP_bx opP_st opP_ap opP_mk opP_nb opP_mu opP_rg opP_en pendP_nil pendP_d pendP_g drwP_nil drwP_d drwP_x drwP_gt drwP_gf look_self natOf_nat
attribute [local simp] faL fdL iaL ixL loadL partL lenL eqK eqL natOf eqB_s eqB_i eqB_b bn_add bn_sub bn_lss bn_leq bn_gtr bn_geq bn_adds bn_lsss bn_gtrs bn_leqs bn_geqs sliceL LV.cells LV.whole look_self put_self putO_self put_eq stL fillL termC dopP LHeap.alloc oneI oneS oneB nth0 nth1 nth2 nth3 nth4 nth5 nth6 nth7 nth8 nth9 look_ne putO_ne
abbrev faultV:LV:=.iface 89 (.agg [])
def NumOk(L:List Tok):Prop:=∀t∈L,t.kind=3->t.text.size<=2^40/\Lib.atoiAll t.text.data.toList=.ok t.n
def tokT(t:Tok):Option Term:=if t.kind=1 then some ⟨2,0,t.text⟩ else if t.kind=2 then some ⟨3,0,t.text⟩ else if t.kind=3 then some ⟨1,t.n,⟨⟨[]⟩⟩⟩ else none
def termP(L:List Tok)(i:Nat):Option Term:=if h:i<L.length then tokT L[i] else none
section
variable{L:List Tok}{own:Own}{i:Nat}{b:Bool}{m n:Nat}{ob:List (Nat×LObj)}
theorem t_must(hL:L.length<=2^20)(hi:i<=L.length)(x:ByteArray)(hl:look m ob=some (parC L own i b)){kv kp:HP}
  (hk0:isM L i x=false->∀n',n<=n'->kp faultV ⟨ob,n'⟩) (hk1:isM L i x=true->i<L.length->∀n',n<=n'->kv (.tup []) ⟨putO m (parC L own (i+1) b) ob,n'⟩):
  cP E0 F0 58 [.ptr m 0,.str x] ⟨ob,n⟩ kv kp:=by
 refine cP_of_fn c58 fun hH=>⟨Nat.le_of_ble_eq_true rfl,?_⟩
 simp(disch:=omega)[b58]
 refine t_is hL hi [x] (by simp) .full hl (fun h n' hn'=>?_) (fun h hi' n' hn'=>?_)
 ·have h':isM L i x=false:=by simpa [anyM] using h
  simp(disch:=omega)
  exact hk0 h' _ hn'
 ·have h':isM L i x=true:=by simpa [anyM] using h
  simp(disch:=omega)
  exact⟨⟨putO m (parC L own (i+1) b) ob,n'⟩,HWk.refl _,fun h=>h,hk1 h' hi' _ hn'⟩
theorem t_term(hL:L.length<=2^20)(hN:NumOk L)(hi:i<=L.length)(hl:look m ob=some (parC L own i b)){kv kp:HP}
  (hk0:termP L i=none->∀n',n<=n'->kp faultV ⟨ob,n'⟩) (hk1:∀t,termP L i=some t->i<L.length->∀n',n<=n'->kv (termL t) ⟨putO m (parC L own (i+1) b) ob,n'⟩):
  cP E0 F0 70 [.ptr m 0] ⟨ob,n⟩ kv kp:=by
 refine cP_of_fnB c70 fun hH=>⟨Nat.le_of_ble_eq_true rfl,?_⟩
 have hOb:Desc ob n:=hH
 have hm:m<n:=hH.look hl
 have hlp:∀x,look m (putO m x ob)=some x:=fun x=>look_putO hl
 have hwi:IntKind.wrap .i64 (i:Int)=(i:Int):=wrap_id (by omega) (by omega)
 have fin:∀(x:LObj)(m':Nat)(t:Term),termP L i=some t->i<L.length->n<=m'->∃v',Wk (termL t) v'/\∃H'',HWk ⟨(n,x)::putO m (parC L own (i+1) b) ob,m'⟩ H''/\(LHeap.Ok ⟨(n,x)::putO m (parC L own (i+1) b) ob,m'⟩->H''.Ok)/\kv v' H'':=
  fun x m' t ht hi' hm'=>⟨_,.inl rfl,⟨putO m (parC L own (i+1) b) ob,m'⟩,hwk_skip hOb.put (Nat.le_refl _),fun _=>hOb.put.mono hm',hk1 t ht hi' m' hm'⟩
 simp(disch:=omega)[b70]
 refine t_kind hL hi 0 (by omega) (by rw[look_ne (by omega)];exact hl) fun n3 hn3=>?_
 rw[show i+0=i from rfl]
 by_cases h:i<L.length
 case neg=>
  rw[kAt_ge h]
  have ht:termP L i=none:=by unfold termP;rw[dif_neg h]
  simp(disch:=omega)
  exact⟨⟨ob,n3⟩,hwk_skip hOb (Nat.le_refl _),fun _=>hOb.mono (show n<=n3 by omega),hk0 ht n3 (by omega)⟩
 rw[kAt_lt h]
 have ht:termP L i=tokT L[i]:=by unfold termP;rw[dif_pos h]
 by_cases h1:L[i].kind=1
 ·have ht1:termP L i=some ⟨2,0,L[i].text⟩:=by rw[ht];unfold tokT;rw[if_pos h1]
  simp(disch:=omega)[h1,hl,hlp,h,hwi,wrap_nat (show i<2^62 by omega)]
  exact fin _ _ _ ht1 h (by omega)
 by_cases h2:L[i].kind=2
 ·have ht1:termP L i=some ⟨3,0,L[i].text⟩:=by rw[ht];unfold tokT;rw[if_neg h1,if_pos h2]
  simp(disch:=omega)[h1,h2,hl,hlp,h,hwi,wrap_nat (show i<2^62 by omega)]
  exact fin _ _ _ ht1 h (by omega)
 by_cases h3:L[i].kind=3
 ·have ht1:termP L i=some ⟨1,L[i].n,⟨⟨[]⟩⟩⟩:=by rw[ht];unfold tokT;rw[if_neg h1,if_neg h2,if_pos h3]
  obtain⟨q1,q2⟩:=hN _ (mem_at h) h3
  simp(disch:=omega)[h1,h2,h3,hl,hlp,h,hwi,wrap_nat (show i<2^62 by omega)]
  refine(t_atoi L[i].text (by omega) L[i].n q2).go fun n4 hn4=>?_
  simp(disch:=omega)[hlp,h]
  exact fin _ _ _ ht1 h (by omega)
 have ht1:termP L i=none:=by rw[ht];unfold tokT;rw[if_neg h1,if_neg h2,if_neg h3]
 simp(disch:=omega)[h1,h2,h3]
 exact⟨⟨ob,n3⟩,hwk_skip hOb (Nat.le_refl _),fun _=>hOb.mono (show n<=n3 by omega),hk0 ht1 n3 (by omega)⟩
end
theorem isM_lt{L:List Tok}{i:Nat}{x:ByteArray}(h:isM L i x=true):i<L.length:=by
 unfold isM at h
 by_cases hi:i<L.length
 ·exact hi
 ·rw[dif_neg hi]at h
  cases h
theorem termP_lt{L:List Tok}{i:Nat}{t:Term}(h:termP L i=some t):i<L.length:=by
 unfold termP at h
 by_cases hi:i<L.length
 ·exact hi
 ·rw[dif_neg hi]at h
  cases h
abbrev bComma:ByteArray:=⟨⟨[44]⟩⟩
abbrev bOpen:ByteArray:=⟨⟨[40]⟩⟩
abbrev bClose:ByteArray:=⟨⟨[41]⟩⟩
def argsLp(L:List Tok)(i:Nat)(acc:List Term):Except Nat (List Term×Nat):=
 if _h:isM L i bComma=true then
  match termP L (i+1) with
  |none=>.error (i+1)
  |some t=>argsLp L (i+2) (acc++[t])
 else .ok (acc,i)
termination_by L.length - i
decreasing_by
 have:=isM_lt _h
 omega
theorem argsLp_no{L:List Tok}{i:Nat}{acc:List Term}(h:isM L i bComma=false):argsLp L i acc=.ok (acc,i):=by
 unfold argsLp
 rw[dif_neg (by rw[h];simp)]
theorem argsLp_bad{L:List Tok}{i:Nat}{acc:List Term}(h:isM L i bComma=true)(ht:termP L (i+1)=none):argsLp L i acc=.error (i+1):=by
 unfold argsLp
 rw[dif_pos h,ht]
theorem argsLp_go{L:List Tok}{i:Nat}{acc:List Term}{t:Term}(h:isM L i bComma=true)(ht:termP L (i+1)=some t):argsLp L i acc=argsLp L (i+2) (acc++[t]):=by
 conv=>lhs;unfold argsLp
 rw[dif_pos h,ht]
def txtAt(L:List Tok)(i:Nat):ByteArray:=if h:i<L.length then L[i].text else ⟨⟨[]⟩⟩
def atomP(L:List Tok)(i:Nat):Except Nat (Atom×Nat):=
 if kAt L i≠1 then .error i
 else if isM L (i+1) bOpen=true then
  match termP L (i+2) with
  |none=>.error (i+2)
  |some t=>match argsLp L (i+3) [t] with
   |.error e=>.error e
   |.ok (ts,j)=>if isM L j bClose=true then .ok (⟨txtAt L i,ts⟩,j+1) else .error j
 else .ok (⟨txtAt L i,[]⟩,i+1)
theorem RowT.put{H:LHeap}{sz len:Nat}{own:Own}{ob:List (Nat×LObj)}{n j:Nat}{x:LObj}(h:RowT H sz len own ob n)(hj:j<H.next):RowT ⟨putO j x H.objs,H.next⟩ sz len own (putO j x ob) n:=by
 rcases h with⟨h1,rfl,h⟩|⟨t,h0,h1,h2,rfl⟩
 ·exact .inl ⟨h1,rfl,h⟩
 ·exact .inr ⟨t,h0,h1,h2,putO_ne (by omega) _ _ _⟩
structure NNIc where
 i:Nat
 n:Nat
 es:List Term
 ow:Own
 ob:List (Nat×LObj)
section
variable{L:List Tok}{own:Own}{i:Nat}{b:Bool}{m n:Nat}{ob:List (Nat×LObj)}
theorem strip_atomO(s:ByteArray)(es:List Term)(ow:Own):Wk (.agg [.str s,.sl (es.map termL) ow]) (atomL ⟨s,es⟩):=by
 refine .inr (.inl ?_)
 simp[LV.strip,stripL,stripL_map,List.map_map,Function.comp_def]
set_option maxHeartbeats 1000000 in
theorem t_atom(hL:L.length<=2^20)(hN:NumOk L)(hi:i<=L.length)(hl:look m ob=some (parC L own i b)){kv kp:HP}
  (hk0:∀e,atomP L i=.error e->∀n',n<=n'->kp faultV ⟨putO m (parC L own e b) ob,n'⟩)
  (hk1:∀a j,atomP L i=.ok (a,j)->∀n',n<=n'->kv (atomL a) ⟨putO m (parC L own j (b||decide (3<a.args.length))) ob,n'⟩):
  cP E0 F0 32 [.ptr m 0] ⟨ob,n⟩ kv kp:=by
 refine cP_of_fnB c32 fun hH=>⟨Nat.le_of_ble_eq_true rfl,?_⟩
 have hOb:Desc ob n:=hH
 have hm:m<n:=hH.look hl
 have hlp:∀x,look m (putO m x ob)=some x:=fun x=>look_putO hl
 obtain⟨V,hV⟩:∃V,atomP L i=V:=⟨_,rfl⟩
 have fin0:∀(e:Nat)(ob':List (Nat×LObj))(m':Nat),V=.error e->n<=m'->(∀j,j<n->look j ob'=look j (putO m (parC L own e b) ob))->∃H'',HWk ⟨ob',m'⟩ H''/\(LHeap.Ok ⟨ob',m'⟩->H''.Ok)/\kp faultV H'':=fun e ob' m' he hm' ho=>
  ⟨⟨putO m (parC L own e b) ob,m'⟩,hwk_old (n:=n) (show LHeap.Ok ⟨putO m (parC L own e b) ob,n⟩ from hOb.put) ho (Nat.le_refl _),fun _=>hOb.put.mono hm',hk0 e (by rw[hV,he]) m' hm'⟩
 have fin1:∀(s:ByteArray)(es:List Term)(ow:Own)(j:Nat)(b':Bool)(ob':List (Nat×LObj))(m':Nat),V=.ok (⟨s,es⟩,j)->(b||decide (3<es.length))=b'->n<=m'->(∀k,k<n->look k ob'=look k (putO m (parC L own j b') ob)) ->
   ∃v',Wk (.agg [.str s,.sl (es.map termL) ow]) v'/\∃H'',HWk ⟨ob',m'⟩ H''/\(LHeap.Ok ⟨ob',m'⟩->H''.Ok)/\kv v' H'':=fun s es ow j b' ob' m' he hb hm' ho=>by
  subst hb
  exact⟨_,strip_atomO s es ow,⟨putO m (parC L own j (b||decide (3<es.length))) ob,m'⟩,hwk_old (n:=n) (show LHeap.Ok ⟨putO m (parC L own j (b||decide (3<es.length))) ob,n⟩ from hOb.put) ho (Nat.le_refl _),fun _=>hOb.put.mono hm',hk1 _ _ (by rw[hV,he]) m' hm'⟩
 unfold atomP at hV
 simp(disch:=omega)[b32]
 refine t_kind hL hi 0 (by omega) (by rw[look_ne (by omega)];exact hl) fun n3 hn3=>?_
 rw[show i+0=i from rfl]
 by_cases hk:kAt L i=1
 case neg=>
  rw[if_pos hk]at hV
  simp(disch:=omega)[hk]
  exact fin0 i _ n3 hV.symm (by omega) fun j hj=>by rw[look_ne (by omega),putO_same hl]
 rw[if_neg (by simpa using hk)]at hV
 rw[hk]
 have h:i<L.length:=by
  by_cases h:i<L.length
  ·exact h
  ·rw[kAt_ge h]at hk;cases hk
 have htx:txtAt L i=L[i].text:=by unfold txtAt;rw[dif_pos h]
 rw[htx]at hV
 simp(disch:=omega)[hl,hlp,h,wrap_nat (show i<2^62 by omega)]
 refine t_is hL (show i+1<=L.length from h) [bOpen] (by simp) .full (b:=b) (own:=own) (by rw[look_ne (by omega),look_ne (by omega)];exact hlp _) (fun h1 n4 hn4=>?_) (fun h1 h1l n4 hn4=>?_)
 ·have h1':isM L (i+1) bOpen=false:=by simpa [anyM] using h1
  rw[if_neg (by rw[h1'];simp)]at hV
  simp(disch:=omega)
  exact fin1 _ [] .full (i+1) b _ n4 hV.symm (by simp) (by omega) fun j hj=>by rw[look_ne (by omega),look_ne (by omega)];rfl
 have h1':isM L (i+1) bOpen=true:=by simpa [anyM] using h1
 rw[if_pos h1']at hV
 obtain⟨p,hp⟩:∃p,i+1+1=p:=⟨_,rfl⟩
 have hp2:i+2=p:=hp
 have hp3:i+3=p+1:=by omega
 rw[hp2,hp3]at hV
 rw[hp]
 have hpl:p<=L.length:=by omega
 simp(disch:=omega)[hlp,putO_putO]
 refine t_term hL hN hpl (b:=b) (own:=own) (by simp(disch:=omega)[putO_putO,hlp]) (fun ht n5 hn5=>?_) (fun t ht htl n5 hn5=>?_)
 ·rw[ht]at hV
  simp(disch:=omega)
  exact fin0 p _ n5 hV.symm (by omega) fun j hj=>by simp(disch:=omega)[putO_putO]
 rw[ht]at hV
 simp only at hV
 obtain⟨W,hW⟩:∃W,argsLp L (p+1) [t]=W:=⟨_,rfl⟩
 rw[hW]at hV
 simp(disch:=omega)[hlp,putO_putO]
 refine effP_ap ?_
 simp(disch:=omega)
 obtain⟨ow1,ob1,m1,e1,hr1,hm1⟩:=row_apY (sz:=3) (es:=[]) (own:=.full) (Y:=[termL t]) (H:=⟨(n3,.cells [.str L[i].text,Nl])::(n,.cells [.str ⟨⟨[]⟩⟩,Nl])::putO m (parC L own (p+1) b) ob,n5⟩) (by omega) rfl rfl (by simp) (.inl ⟨rfl,rfl,Nat.le_refl _⟩)
 have hold:=hr1.old
 dsimp only at hold
 have ka:look n3 ob1=some (.cells [.str L[i].text,Nl]):=by rw[hold.2 n3 (by omega)];exact look_self _ _ _
 have hr2:=hr1.put (j:=n3) (x:=.cells [.str L[i].text,.sl ([t].map termL) ow1]) (by dsimp only;omega)
 dsimp only at hr2
 rw[putO_self]at hr2
 rw[e1]
 simp(disch:=omega)[ka]
 refine lP_enter (σ:=NNIc) (fun q=>(.nd (.ptr m 0) (.nd .bot (.nd (.ptr n3 0) .nil .nil) .nil) (.nd (.ptr n 0) .nil .nil))) (fun q=>⟨q.ob,q.n⟩) (fun q=>L.length - q.i)
  (fun q=>RowT ⟨(n3,.cells [.str L[i].text,.sl (q.es.map termL) q.ow])::(n,.cells [.str ⟨⟨[]⟩⟩,Nl])::putO m (parC L own q.i b) ob,n5⟩ 3 q.es.length q.ow q.ob q.n/\q.i<=L.length/\q.es.length<=q.i/\argsLp L q.i q.es=W) ⟨p+1,m1,[t],ow1,putO n3 (.cells [.str L[i].text,.sl ([t].map termL) ow1]) ob1⟩ ⟨hr2,htl,by simp,hW⟩ (by simp[FT.Le,Wk]) ⟨HWk.refl _,fun h=>h⟩ ?_
 rintro⟨k,n6,es,ow,ob2⟩ ⟨hr,hk2,hel,he⟩ hok
 dsimp only at hr hk2 hel he hok
 have hold2:=hr.old
 dsimp only at hold2
 have kb:look n3 ob2=some (.cells [.str L[i].text,.sl (es.map termL) ow]):=by rw[hold2.2 n3 (by omega)];exact look_self _ _ _
 have kz:look n ob2=some (.cells [.str ⟨⟨[]⟩⟩,Nl]):=by rw[hold2.2 n (by omega),look_ne (by omega)];exact look_self _ _ _
 have kc:look m ob2=some (parC L own k b):=by rw[hold2.2 m (by omega),look_ne (by omega),look_ne (by omega)];exact hlp _
 have ko:∀j,j<n->look j ob2=look j (putO m (parC L own k b) ob):=fun j hj=>by rw[hold2.2 j (by omega),look_ne (by omega),look_ne (by omega)]
 have kp2:∀x,look m (putO m x ob2)=some x:=fun x=>look_putO kc
 have ko2:∀(x:LObj)(j:Nat),j<n->look j (putO m x ob2)=look j (putO m x ob):=fun x j hj=>by
  by_cases hjm:j=m
  ·subst hjm;rw[kp2,hlp]
  ·rw[look_putO_ne hjm,look_putO_ne hjm,ko j hj,look_putO_ne hjm]
 simp(disch:=omega)
 refine t_is hL hk2 [bComma] (by simp) .full kc (fun h2 n7 hn7=>?_) (fun h2 h2l n7 hn7=>?_)
 ·have h2':isM L k bComma=false:=by simpa [anyM] using h2
  rw[argsLp_no h2']at he
  subst he
  simp only at hV
  simp(disch:=omega)
  refine t_must hL hk2 bClose kc (fun h3 n8 hn8=>?_) (fun h3 h3l n8 hn8=>?_)
  ·rw[if_neg (by rw[h3];simp)]at hV
   simp(disch:=omega)
   exact fin0 k _ n8 hV.symm (by omega) ko
  ·rw[if_pos h3]at hV
   have ka2:∀x,look n3 (putO m x ob2)=some (.cells [.str L[i].text,.sl (es.map termL) ow]):=fun x=>by rw[look_putO_ne (by omega)];exact kb
   have kn2:∀x y,look n (putO n y (putO m x ob2))=some y:=fun x y=>look_putO (show look n (putO m x ob2)=some (.cells [.str ⟨⟨[]⟩⟩,Nl]) by rw[look_putO_ne (by omega)];exact kz)
   have kn3:∀x,look n (putO m x ob2)=some (.cells [.str ⟨⟨[]⟩⟩,Nl]):=fun x=>by rw[look_putO_ne (by omega)];exact kz
   have hes:es.length<=2^20:=by omega
   have last:∀(y:LObj)(b':Bool),(b||decide (3<es.length))=b'->∃v',Wk (.agg [.str L[i].text,.sl (es.map termL) ow]) v'/\∃H'',HWk ⟨putO n y (putO m (parC L own (k+1) b') ob2),n8⟩ H''/\(LHeap.Ok ⟨putO n y (putO m (parC L own (k+1) b') ob2),n8⟩->H''.Ok)/\kv v' H'':=fun y b' hb=>
    fin1 _ es ow (k+1) b' _ n8 hV.symm hb (by omega) fun j hj=>by rw[look_putO_ne (by omega)];exact ko2 _ j hj
   cases b
   ·simp(disch:=omega)[kp2,kn2,kn3,ka2,putO_putO]
    exact last _ (decide ((3:Int)<(es.length:Int))) (by rw[Bool.false_or];exact decide_eq_decide.2 (by omega))
   ·simp(disch:=omega)[kp2,kn2,kn3,ka2,putO_putO]
    exact last _ true rfl
 ·have h2':isM L k bComma=true:=by simpa [anyM] using h2
  have ka2:∀x,look n3 (putO m x ob2)=some (.cells [.str L[i].text,.sl (es.map termL) ow]):=fun x=>by rw[look_putO_ne (by omega)];exact kb
  simp(disch:=omega)[ka2]
  refine t_term hL hN (show k+1<=L.length from h2l) (b:=b) (own:=own) (kp2 _) (fun ht n8 hn8=>?_) (fun t2 ht htl n8 hn8=>?_)
  ·rw[argsLp_bad h2' ht]at he
   subst he
   simp only at hV
   simp(disch:=omega)
   exact fin0 (k+1) _ n8 hV.symm (by omega) fun j hj=>ko2 _ j hj
  rw[argsLp_go h2' ht]at he
  obtain⟨s,hs⟩:∃s,k+1+1=s:=⟨_,rfl⟩
  have hs2:k+2=s:=hs
  rw[hs2]at he
  rw[hs]
  have hr3:=(hr.put (j:=m) (x:=parC L own s b) (by dsimp only;omega)).mono (show n6<=n8 by omega)
  dsimp only at hr3
  rw[putO_ne (by omega),putO_ne (by omega),putO_putO]at hr3
  simp(disch:=omega)[ka2,putO_putO]
  refine effP_ap ?_
  simp(disch:=omega)
  obtain⟨ow3,ob3,m3,e3,hr4,hm3⟩:=row_apY (sz:=3) (es:=es.map termL) (Y:=[termL t2]) (by omega) (terms_all es) rfl (by simp;omega) (by rw[List.length_map];exact hr3)
  rw[List.length_map,List.length_singleton]at hr4
  have hold4:=hr4.old
  dsimp only at hold4
  have ka4:look n3 ob3=some (.cells [.str L[i].text,.sl (es.map termL) ow]):=by rw[hold4.2 n3 (by omega)];exact look_self _ _ _
  have e4:es.map termL++[termL t2]=(es++[t2]).map termL:=by simp
  rw[e4]at e3
  have hr5:=hr4.put (j:=n3) (x:=.cells [.str L[i].text,.sl ((es++[t2]).map termL) ow3]) (by dsimp only;omega)
  dsimp only at hr5
  rw[putO_self]at hr5
  rw[e3]
  simp(disch:=omega)[ka4]
  exact⟨⟨s,m3,es++[t2],ow3,putO n3 (.cells [.str L[i].text,.sl ((es++[t2]).map termL) ow3]) ob3⟩,by dsimp only;omega,⟨by rw[List.length_append,List.length_singleton];exact hr5,by dsimp only;omega,by simp;omega,he⟩,by simp[FT.Le,Wk],by simp;exact HWk.refl _,by simp⟩
end
abbrev bEq:ByteArray:=⟨⟨[61]⟩⟩
abbrev bNe:ByteArray:=⟨⟨[33,61]⟩⟩
abbrev bLt:ByteArray:=⟨⟨[60]⟩⟩
abbrev bLe:ByteArray:=⟨⟨[60,61]⟩⟩
abbrev bGt:ByteArray:=⟨⟨[62]⟩⟩
abbrev bGe:ByteArray:=⟨⟨[62,61]⟩⟩
abbrev opsB:List ByteArray:=[bEq,bNe,bLt,bLe,bGt,bGe]
abbrev atom0:Atom:=⟨⟨⟨[]⟩⟩,[]⟩
def mkOp(x:ByteArray)(a c:Term):Lit:=if eqBA x bEq=true then ⟨3,atom0,a,c⟩ else if eqBA x bNe=true then ⟨4,atom0,a,c⟩ else if eqBA x bLt=true then ⟨5,atom0,a,c⟩ else if eqBA x bLe=true then ⟨6,atom0,a,c⟩ else if eqBA x bGt=true then ⟨5,atom0,c,a⟩ else ⟨6,atom0,c,a⟩
def opP(L:List Tok)(i:Nat)(a:Term):Except Nat (Lit×Nat):=
 if anyM L i opsB=true then
  match termP L (i+1) with
  |none=>.error (i+1)
  |some c=>.ok (mkOp (txtAt L i) a c,i+2)
 else .error i
theorem anyM_lt{L:List Tok}{i:Nat}{xs:List ByteArray}(h:anyM L i xs=true):i<L.length:=by
 obtain⟨x,_,hx⟩:=List.any_eq_true.1 h
 exact isM_lt hx
theorem anyM_kind{L:List Tok}{i:Nat}{xs:List ByteArray}(h:anyM L i xs=true):kAt L i=4:=by
 obtain⟨x,_,hx⟩:=List.any_eq_true.1 h
 have hi:=isM_lt hx
 unfold isM at hx
 rw[dif_pos hi]at hx
 simp only[Bool.and_eq_true,decide_eq_true_iff]at hx
 rw[kAt_lt hi]
 exact hx.1
theorem isM_of{L:List Tok}{i:Nat}(x:ByteArray)(hi:i<L.length)(hk:L[i].kind=4):isM L i x=eqBA L[i].text x:=by
 unfold isM
 rw[dif_pos hi,decide_eq_true hk,Bool.true_and]
theorem strip_litO(k:Int)(a c:Term):Wk (.agg [.int k,.str ⟨⟨[]⟩⟩,Nl,.int a.kind,.int a.n,.str a.s,.int c.kind,.int c.n,.str c.s]) (litL ⟨k,atom0,a,c⟩):=by
 refine .inr (.inl ?_)
 simp[LV.strip,stripL,litC]
section
variable{L:List Tok}{own:Own}{i:Nat}{b:Bool}{m n:Nat}{ob:List (Nat×LObj)}
theorem t_compared(hL:L.length<=2^20)(hi:i<=L.length)(hl:look m ob=some (parC L own i b)){kv kp:HP}(hk:∀n',n<=n'->kv (.bool (anyM L (i+1) opsB)) ⟨ob,n'⟩):
  cP E0 F0 105 [.ptr m 0,.int 1] ⟨ob,n⟩ kv kp:=by
 refine cP_of_fn c105 fun hH=>⟨Nat.le_of_ble_eq_true rfl,?_⟩
 simp(disch:=omega)[b105]
 refine t_kind hL hi 1 (by omega) hl fun n3 hn3=>?_
 obtain⟨s,hs⟩:∃s,i+1=s:=⟨_,rfl⟩
 have hw:IntKind.wrap .i64 ((i:Int)+1)=(s:Int):=by rw[wrap_id (by omega) (by omega)];omega
 rw[hs]at hk ⊢
 obtain⟨A,hA⟩:∃A,anyM L s opsB=A:=⟨_,rfl⟩
 rw[hA]at hk
 by_cases h4:kAt L s=4
 case neg=>
  have hA0:A=false:=by
   rw[<-hA]
   cases hq:anyM L s opsB
   ·rfl
   ·exact absurd (anyM_kind hq) h4
  subst hA0
  simp(disch:=omega)[h4]
  exact⟨⟨ob,n3⟩,HWk.refl _,fun h=>h,hk n3 hn3⟩
 have h:s<L.length:=by
  by_cases h:s<L.length
  ·exact h
  ·rw[kAt_ge h]at h4;cases h4
 have hk4:L[s].kind=4:=by rw[kAt_lt h]at h4;exact h4
 simp only[anyM,opsB,List.any_cons,List.any_nil,Bool.or_false,isM_of _ h hk4]at hA
 rw[h4]
 have done:A=true->∃H'',HWk ⟨ob,n3⟩ H''/\(LHeap.Ok ⟨ob,n3⟩->H''.Ok)/\kv (.bool true) H'':=fun hA1=>⟨⟨ob,n3⟩,HWk.refl _,fun h=>h,hA1▸hk n3 hn3⟩
 cases h1:eqBA L[s].text bEq
 case true=>
  simp(disch:=omega)[hl,hw,h,h1]
  exact done (by rw[<-hA,h1];rfl)
 cases h2:eqBA L[s].text bNe
 case true=>
  simp(disch:=omega)[hl,hw,h,h1,h2]
  exact done (by rw[<-hA,h1,h2];rfl)
 cases h3:eqBA L[s].text bLt
 case true=>
  simp(disch:=omega)[hl,hw,h,h1,h2,h3]
  exact done (by rw[<-hA,h1,h2,h3];rfl)
 cases h5:eqBA L[s].text bLe
 case true=>
  simp(disch:=omega)[hl,hw,h,h1,h2,h3,h5]
  exact done (by rw[<-hA,h1,h2,h3,h5];rfl)
 cases h6:eqBA L[s].text bGt
 case true=>
  simp(disch:=omega)[hl,hw,h,h1,h2,h3,h5,h6]
  exact done (by rw[<-hA,h1,h2,h3,h5,h6];rfl)
 cases h7:eqBA L[s].text bGe
 case true=>
  simp(disch:=omega)[hl,hw,h,h1,h2,h3,h5,h6,h7]
  exact done (by rw[<-hA,h1,h2,h3,h5,h6,h7];rfl)
 have hA0:A=false:=by rw[<-hA,h1,h2,h3,h5,h6,h7];rfl
 subst hA0
 simp(disch:=omega)[hl,hw,h,h1,h2,h3,h5,h6,h7]
 exact⟨⟨ob,n3⟩,HWk.refl _,fun h=>h,hk n3 hn3⟩
end
structure RTok where
 kind:Int
 s:ByteArray
 n:Int
 at_:Int
abbrev rtokC(r:RTok):List LV:=[.int r.kind,.str r.s,.int r.n,.int r.at_]
abbrev rtokL(r:RTok):LV:=.agg (rtokC r)
abbrev rparC(R:List RTok)(own:Own)(i:Nat)(bad:Int)(b:Bool):LObj:=.cells [.sl (R.map rtokL) own,.int i,.int bad,.bool b]
def isR(R:List RTok)(i:Nat)(x:ByteArray):Bool:=if h:i<R.length then decide (R[i].kind=4)&&eqBA R[i].s x else false
section
variable{R:List RTok}{own:Own}{i:Nat}{bad:Int}{b:Bool}{m n:Nat}{ob:List (Nat×LObj)}
theorem t_now(_hL:R.length<=2^20)(hi:i<R.length)(hl:look m ob=some (rparC R own i bad b)){kv kp:HP}(hk:∀n',n<=n'->kv (rtokL R[i]) ⟨ob,n'⟩):
  cP E0 F0 29 [.ptr m 0] ⟨ob,n⟩ kv kp:=by
 refine cP_of_fn c29 fun hH=>⟨Nat.le_of_ble_eq_true rfl,?_⟩
 have hOb:Desc ob n:=hH
 have hm:m<n:=hH.look hl
 simp(disch:=omega)[b29,hl,hi]
 exact⟨⟨ob,n+1⟩,hwk_skip hOb (Nat.le_refl _),fun _=>hOb.mono (Nat.le_succ _),hk _ (Nat.le_succ _)⟩
theorem t_ris(hL:R.length<=2^20)(hi:i<R.length)(hl:look m ob=some (rparC R own i bad b))(x:ByteArray){kv kp:HP}(hk:∀n',n<=n'->kv (.bool (isR R i x)) ⟨ob,n'⟩):
  cP E0 F0 66 [.ptr m 0,.str x] ⟨ob,n⟩ kv kp:=by
 refine cP_of_fn c66 fun hH=>⟨Nat.le_of_ble_eq_true rfl,?_⟩
 have hOb:Desc ob n:=hH
 have e:isR R i x=(decide (R[i].kind=4)&&eqBA R[i].s x):=by unfold isR;rw[dif_pos hi]
 rw[e]at hk
 simp(disch:=omega)[b66]
 refine t_now hL hi hl fun n3 hn3=>?_
 by_cases h4:R[i].kind=4
 ·rw[decide_eq_true h4,Bool.true_and]at hk
  simp(disch:=omega)[h4]
  exact⟨⟨ob,n3+1⟩,hwk_skip (hOb.mono hn3) (Nat.le_refl _),fun _=>hOb.mono (by dsimp only;omega),hk _ (by omega)⟩
 ·rw[decide_eq_false h4,Bool.false_and]at hk
  simp(disch:=omega)[h4]
  exact⟨⟨ob,n3+1⟩,hwk_skip (hOb.mono hn3) (Nat.le_refl _),fun _=>hOb.mono (by dsimp only;omega),hk _ (by omega)⟩
theorem t_fail1(hl:look m ob=some (rparC R own i bad b))(hb:0<=bad){kv kp:HP}(hk:∀n',n<=n'->kv (.tup []) ⟨ob,n'⟩):
  cP E0 F0 34 [.ptr m 0] ⟨ob,n⟩ kv kp:=by
 refine cP_of_fn c34 fun hH=>⟨Nat.le_of_ble_eq_true rfl,?_⟩
 simp(disch:=omega)[b34,hl,show ¬bad<0 by omega]
 exact⟨⟨ob,n⟩,HWk.refl _,fun h=>h,hk _ (Nat.le_refl _)⟩
theorem t_fail0(hL:R.length<=2^20)(hi:i<R.length)(hl:look m ob=some (rparC R own i (-1) b)){kv kp:HP}(hk:∀n',n<=n'->kv (.tup []) ⟨putO m (rparC R own i R[i].at_ b) ob,n'⟩):
  cP E0 F0 34 [.ptr m 0] ⟨ob,n⟩ kv kp:=by
 refine cP_of_fn c34 fun hH=>⟨Nat.le_of_ble_eq_true rfl,?_⟩
 simp(disch:=omega)[b34,hl]
 refine t_now hL hi hl fun n3 hn3=>?_
 simp(disch:=omega)[hl]
 exact⟨⟨putO m (rparC R own i R[i].at_ b) ob,n3⟩,HWk.refl _,fun h=>h,hk _ hn3⟩
theorem t_want1(hl:look m ob=some (rparC R own i bad b))(hb:0<=bad)(x:ByteArray){kv kp:HP}(hk:∀n',n<=n'->kv (.tup []) ⟨ob,n'⟩):
  cP E0 F0 68 [.ptr m 0,.str x] ⟨ob,n⟩ kv kp:=by
 refine cP_of_fn c68 fun hH=>⟨Nat.le_of_ble_eq_true rfl,?_⟩
 simp(disch:=omega)[b68,hl,hb]
 exact⟨⟨ob,n⟩,HWk.refl _,fun h=>h,hk _ (Nat.le_refl _)⟩
theorem t_want0(hL:R.length<=2^20)(hi:i<R.length)(hl:look m ob=some (rparC R own i (-1) b))(x:ByteArray){kv kp:HP}(hk0:isR R i x=false->∀n',n<=n'->kv (.tup []) ⟨putO m (rparC R own i R[i].at_ b) ob,n'⟩)
  (hk1:isR R i x=true->∀n',n<=n'->kv (.tup []) ⟨putO m (rparC R own (i+1) (-1) b) ob,n'⟩):
  cP E0 F0 68 [.ptr m 0,.str x] ⟨ob,n⟩ kv kp:=by
 refine cP_of_fn c68 fun hH=>⟨Nat.le_of_ble_eq_true rfl,?_⟩
 simp(disch:=omega)[b68,hl]
 refine t_ris hL hi hl x fun n3 hn3=>?_
 cases hx:isR R i x
 ·simp(disch:=omega)
  refine t_fail0 hL hi hl fun n4 hn4=>?_
  simp(disch:=omega)
  exact⟨⟨putO m (rparC R own i R[i].at_ b) ob,n4⟩,HWk.refl _,fun h=>h,hk0 hx _ (by omega)⟩
 ·simp(disch:=omega)[hl,wrap_nat (show i<2^62 by omega)]
  exact⟨⟨putO m (rparC R own (i+1) (-1) b) ob,n3⟩,HWk.refl _,fun h=>h,hk1 hx _ (by omega)⟩
def rtermV(r:RTok):Term:=if r.kind=3 then ⟨1,r.n,⟨⟨[]⟩⟩⟩ else if r.kind=2 then ⟨3,0,r.s⟩ else ⟨2,0,r.s⟩
theorem t_rterm(hL:R.length<=2^20)(hi:i<R.length)(hl:look m ob=some (rparC R own i (-1) b)){kv kp:HP}
  (hk0:R[i].kind=4\/R[i].kind=5->∀n',n<=n'->kv (termL ⟨0,0,⟨⟨[]⟩⟩⟩) ⟨putO m (rparC R own i R[i].at_ b) ob,n'⟩)
  (hk1:¬(R[i].kind=4\/R[i].kind=5)->∀n',n<=n'->kv (termL (rtermV R[i])) ⟨putO m (rparC R own (i+1) (-1) b) ob,n'⟩):
  cP E0 F0 71 [.ptr m 0] ⟨ob,n⟩ kv kp:=by
 refine cP_of_fn c71 fun hH=>⟨Nat.le_of_ble_eq_true rfl,?_⟩
 have hOb:Desc ob n:=hH
 have hm:m<n:=hH.look hl
 have hlp:∀x,look m (putO m x ob)=some x:=fun x=>look_putO hl
 have fin:∀(x:LObj)(ob':List (Nat×LObj))(m':Nat)(v:LV),n<=m'->(∀n',n<=n'->kv v ⟨putO m x ob,n'⟩)->(∀j,j<n->look j ob'=look j (putO m x ob))->∃H'',HWk ⟨ob',m'⟩ H''/\(LHeap.Ok ⟨ob',m'⟩->H''.Ok)/\kv v H'':=fun x ob' m' v hm' h ho=>
  ⟨⟨putO m x ob,m'⟩,hwk_old (n:=n) (show LHeap.Ok ⟨putO m x ob,n⟩ from hOb.put) ho (Nat.le_refl _),fun _=>hOb.put.mono hm',h m' hm'⟩
 simp(disch:=omega)[b71]
 refine t_now hL hi (own:=own) (bad:=-1) (b:=b) (by rw[look_ne (by omega)];exact hl) fun n3 hn3=>?_
 by_cases h4:R[i].kind=4
 ·simp(disch:=omega)[hl,h4]
  refine t_fail0 hL hi (own:=own) (b:=b) (by simp(disch:=omega)[look_ne];exact hl) fun n4 hn4=>?_
  simp(disch:=omega)
  exact fin _ _ _ _ (by omega) (hk0 (.inl h4)) fun j hj=>by simp(disch:=omega)
 by_cases h5:R[i].kind=5
 ·simp(disch:=omega)[hl,h4,h5]
  refine t_fail0 hL hi (own:=own) (b:=b) (by simp(disch:=omega)[look_ne];exact hl) fun n4 hn4=>?_
  simp(disch:=omega)
  exact fin _ _ _ _ (by omega) (hk0 (.inr h5)) fun j hj=>by simp(disch:=omega)
 have hno:¬(R[i].kind=4\/R[i].kind=5):=by simp[h4,h5]
 by_cases h3:R[i].kind=3
 ·have e:rtermV R[i]=⟨1,R[i].n,⟨⟨[]⟩⟩⟩:=by unfold rtermV;rw[if_pos h3]
  rw[e]at hk1
  simp(disch:=omega)[hl,h3,wrap_nat (show i<2^62 by omega)]
  exact fin (rparC R own (i+1) (-1) b) _ _ _ (by omega) (hk1 hno) fun j hj=>by rw[look_ne (by omega),look_ne (by omega)];rfl
 by_cases h2:R[i].kind=2
 ·have e:rtermV R[i]=⟨3,0,R[i].s⟩:=by unfold rtermV;rw[if_neg h3,if_pos h2]
  rw[e]at hk1
  simp(disch:=omega)[hl,h3,h2,wrap_nat (show i<2^62 by omega)]
  exact fin (rparC R own (i+1) (-1) b) _ _ _ (by omega) (hk1 hno) fun j hj=>by rw[look_ne (by omega),look_ne (by omega)];rfl
 have e:rtermV R[i]=⟨2,0,R[i].s⟩:=by unfold rtermV;rw[if_neg h3,if_neg h2]
 rw[e]at hk1
 simp(disch:=omega)[hl,h3,h2,h4,h5,wrap_nat (show i<2^62 by omega)]
 exact fin (rparC R own (i+1) (-1) b) _ _ _ (by omega) (hk1 hno) fun j hj=>by rw[look_ne (by omega),look_ne (by omega)];rfl
end
section
variable{L:List Tok}{own:Own}{i:Nat}{b:Bool}{m n:Nat}{ob:List (Nat×LObj)}
set_option maxHeartbeats 1000000 in
theorem t_op(hL:L.length<=2^20)(hN:NumOk L)(hi:i<=L.length)(hl:look m ob=some (parC L own i b))(a:Term){kv kp:HP}
  (hk0:∀e,opP L i a=.error e->∀n',n<=n'->kp faultV ⟨putO m (parC L own e b) ob,n'⟩)
  (hk1:∀l j,opP L i a=.ok (l,j)->∀n',n<=n'->kv (litL l) ⟨putO m (parC L own j b) ob,n'⟩):
  cP E0 F0 106 [.ptr m 0,termL a] ⟨ob,n⟩ kv kp:=by
 refine cP_of_fnB c106 fun hH=>⟨Nat.le_of_ble_eq_true rfl,?_⟩
 have hOb:Desc ob n:=hH
 have hm:m<n:=hH.look hl
 have hlp:∀x,look m (putO m x ob)=some x:=fun x=>look_putO hl
 obtain⟨V,hV⟩:∃V,opP L i a=V:=⟨_,rfl⟩
 have fin0:∀(e:Nat)(ob':List (Nat×LObj))(m':Nat),V=.error e->n<=m'->(∀j,j<n->look j ob'=look j (putO m (parC L own e b) ob))->∃H'',HWk ⟨ob',m'⟩ H''/\(LHeap.Ok ⟨ob',m'⟩->H''.Ok)/\kp faultV H'':=fun e ob' m' he hm' ho=>
  ⟨⟨putO m (parC L own e b) ob,m'⟩,hwk_old (n:=n) (show LHeap.Ok ⟨putO m (parC L own e b) ob,n⟩ from hOb.put) ho (Nat.le_refl _),fun _=>hOb.put.mono hm',hk0 e (by rw[hV,he]) m' hm'⟩
 have fin1:∀(k:Int)(x y:Term)(j:Nat)(ob':List (Nat×LObj))(m':Nat),V=.ok (⟨k,atom0,x,y⟩,j)->n<=m'->(∀k,k<n->look k ob'=look k (putO m (parC L own j b) ob)) ->
   ∃v',Wk (.agg [.int k,.str ⟨⟨[]⟩⟩,Nl,.int x.kind,.int x.n,.str x.s,.int y.kind,.int y.n,.str y.s]) v'/\∃H'',HWk ⟨ob',m'⟩ H''/\(LHeap.Ok ⟨ob',m'⟩->H''.Ok)/\kv v' H'':=fun k x y j ob' m' he hm' ho=>
  ⟨_,strip_litO k x y,⟨putO m (parC L own j b) ob,m'⟩,hwk_old (n:=n) (show LHeap.Ok ⟨putO m (parC L own j b) ob,n⟩ from hOb.put) ho (Nat.le_refl _),fun _=>hOb.put.mono hm',hk1 _ _ (by rw[hV,he]) m' hm'⟩
 unfold opP at hV
 simp(disch:=omega)[b106]
 refine t_kind hL hi 0 (by omega) (b:=b) (own:=own) (by rw[look_ne (by omega),look_ne (by omega)];exact hl) fun n3 hn3=>?_
 rw[show i+0=i from rfl]
 by_cases h4:kAt L i=4
 case neg=>
  have hA:anyM L i opsB=false:=by
   cases hq:anyM L i opsB
   ·rfl
   ·exact absurd (anyM_kind hq) h4
  rw[if_neg (by rw[hA];simp)]at hV
  simp(disch:=omega)[h4]
  exact fin0 i _ n3 hV.symm (by omega) fun j hj=>by rw[look_ne (by omega),look_ne (by omega),putO_same hl]
 have h:i<L.length:=by
  by_cases h:i<L.length
  ·exact h
  ·rw[kAt_ge h]at h4;cases h4
 have htx:txtAt L i=L[i].text:=by unfold txtAt;rw[dif_pos h]
 rw[htx]at hV
 rw[h4]
 simp(disch:=omega)[hl,h]
 refine t_is hL hi opsB (by simp) .full (b:=b) (own:=own) (by simp(disch:=omega)[look_ne];exact hl) (fun h1 n4 hn4=>?_) (fun h1 h1l n4 hn4=>?_)
 ·rw[if_neg (by rw[h1];simp)]at hV
  simp(disch:=omega)
  exact fin0 i _ n4 hV.symm (by omega) fun j hj=>by rw[look_ne (by omega),look_ne (by omega),putO_same hl]
 rw[if_pos h1]at hV
 simp(disch:=omega)[hlp,putO_putO]
 refine t_term hL hN (show i+1<=L.length from h1l) (b:=b) (own:=own) (by simp(disch:=omega)[putO_putO,hlp]) (fun ht n5 hn5=>?_) (fun c ht htl n5 hn5=>?_)
 ·rw[ht]at hV
  simp(disch:=omega)
  exact fin0 (i+1) _ n5 hV.symm (by omega) fun j hj=>by simp(disch:=omega)[putO_putO]
 rw[ht]at hV
 simp only at hV
 obtain⟨s,hs⟩:∃s,i+1+1=s:=⟨_,rfl⟩
 have hs2:i+2=s:=hs
 rw[hs2]at hV
 rw[hs]
 unfold mkOp at hV
 have lk:∀(x y z:LObj)(j:Nat),j<n->look j ((n5,x)::(n+1,y)::(n,z)::putO m (parC L own s b) ob)=look j (putO m (parC L own s b) ob):=fun x y z j hj=>by rw[look_ne (by omega),look_ne (by omega),look_ne (by omega)]
 cases c1:eqBA L[i].text bEq
 case true=>
  rw[if_pos c1]at hV
  simp(disch:=omega)[hlp,putO_putO,c1]
  exact fin1 _ _ _ _ _ _ hV.symm (by omega) (lk _ _ _)
 rw[if_neg (by rw[c1];simp)]at hV
 cases c2:eqBA L[i].text bNe
 case true=>
  rw[if_pos c2]at hV
  simp(disch:=omega)[hlp,putO_putO,c1,c2]
  exact fin1 _ _ _ _ _ _ hV.symm (by omega) (lk _ _ _)
 rw[if_neg (by rw[c2];simp)]at hV
 cases c3:eqBA L[i].text bLt
 case true=>
  rw[if_pos c3]at hV
  simp(disch:=omega)[hlp,putO_putO,c1,c2,c3]
  exact fin1 _ _ _ _ _ _ hV.symm (by omega) (lk _ _ _)
 rw[if_neg (by rw[c3];simp)]at hV
 cases c4:eqBA L[i].text bLe
 case true=>
  rw[if_pos c4]at hV
  simp(disch:=omega)[hlp,putO_putO,c1,c2,c3,c4]
  exact fin1 _ _ _ _ _ _ hV.symm (by omega) (lk _ _ _)
 rw[if_neg (by rw[c4];simp)]at hV
 cases c5:eqBA L[i].text bGt
 case true=>
  rw[if_pos c5]at hV
  simp(disch:=omega)[hlp,putO_putO,c1,c2,c3,c4,c5]
  exact fin1 _ _ _ _ _ _ hV.symm (by omega) (lk _ _ _)
 rw[if_neg (by rw[c5];simp)]at hV
 simp(disch:=omega)[hlp,putO_putO,c1,c2,c3,c4,c5]
 exact fin1 _ _ _ _ _ _ hV.symm (by omega) (lk _ _ _)
end
theorem argsLp_le{L:List Tok}:∀(k i:Nat)(acc:List Term),L.length - i<=k->i<=L.length ->
  (∀ts j,argsLp L i acc=.ok (ts,j)->i<=j/\j<=L.length/\acc.length+(j - i) ≥ ts.length)/\(∀e,argsLp L i acc=.error e->e<=L.length)
 |k,i,acc,hk,hi=>by
  cases h:isM L i bComma
  ·rw[argsLp_no h]
   exact⟨fun ts j e=>by cases e;exact⟨Nat.le_refl _,hi,by omega⟩,fun e he=>by cases he⟩
  have hlt:=isM_lt h
  cases ht:termP L (i+1) with
  |none=>
   rw[argsLp_bad h ht]
   exact⟨fun ts j e=>(by cases e),fun e he=>by cases he;omega⟩
  |some t=>
   rw[argsLp_go h ht]
   have hl2:=termP_lt ht
   match k with
   |0=>omega
   |k+1=>
    obtain⟨q1,q2⟩:=argsLp_le (L:=L) k (i+2) (acc++[t]) (by omega) (by omega)
    exact⟨fun ts j e=>by
     obtain⟨r1,r2,r3⟩:=q1 ts j e
     rw[List.length_append,List.length_singleton]at r3
     exact⟨by omega,r2,by omega⟩,q2⟩
theorem kAt1_lt{L:List Tok}{i:Nat}(h:kAt L i=1):i<L.length:=by
 by_cases hi:i<L.length
 ·exact hi
 ·rw[kAt_ge hi]at h;cases h
theorem atomP_le{L:List Tok}{i:Nat}(hi:i<=L.length):(∀a j,atomP L i=.ok (a,j)->i<j/\j<=L.length)/\(∀e,atomP L i=.error e->e<=L.length):=by
 unfold atomP
 by_cases hk:kAt L i=1
 case neg=>
  rw[if_pos hk]
  exact⟨fun a j e=>(by cases e),fun e he=>by cases he;exact hi⟩
 rw[if_neg (by simpa using hk)]
 have hlt:=kAt1_lt hk
 cases h1:isM L (i+1) bOpen
 ·rw[if_neg (by simp)]
  exact⟨fun a j e=>by cases e;exact⟨Nat.lt_succ_self _,hlt⟩,fun e he=>by cases he⟩
 rw[if_pos rfl]
 have hl1:=isM_lt h1
 cases ht:termP L (i+2) with
 |none=>exact⟨fun a j e=>(by cases e),fun e he=>by cases he;omega⟩
 |some t=>
  have hl2:=termP_lt ht
  simp only
  obtain⟨q1,q2⟩:=argsLp_le (L:=L) _ (i+3) [t] (Nat.le_refl _) (by omega)
  cases hw:argsLp L (i+3) [t] with
  |error e=>exact⟨fun a j e=>(by cases e),fun e he=>by cases he;exact q2 _ hw⟩
  |ok v=>
   obtain⟨ts,j⟩:=v
   obtain⟨r1,r2,_⟩:=q1 ts j hw
   simp only
   cases h3:isM L j bClose
   ·rw[if_neg (by simp)]
    exact⟨fun a j e=>(by cases e),fun e he=>by cases he;exact r2⟩
   ·rw[if_pos rfl]
    have:=isM_lt h3
    exact⟨fun a j e=>by cases e;exact⟨by omega,by omega⟩,fun e he=>by cases he⟩
theorem opP_le{L:List Tok}{i:Nat}{t:Term}(hi:i<=L.length):(∀a j,opP L i t=.ok (a,j)->i<j/\j<=L.length)/\(∀e,opP L i t=.error e->e<=L.length):=by
 unfold opP
 cases h:anyM L i opsB
 ·rw[if_neg (by simp)]
  exact⟨fun a j e=>(by cases e),fun e he=>by cases he;exact hi⟩
 rw[if_pos rfl]
 have hl:=anyM_lt h
 cases ht:termP L (i+1) with
 |none=>exact⟨fun a j e=>(by cases e),fun e he=>by cases he;exact hl⟩
 |some c=>
  have:=termP_lt ht
  exact⟨fun a j e=>by cases e;exact⟨by omega,by omega⟩,fun e he=>by cases he⟩
abbrev bNot:ByteArray:=⟨⟨[110,111,116]⟩⟩
abbrev bIf:ByteArray:=⟨⟨[105,102]⟩⟩
abbrev bDot:ByteArray:=⟨⟨[46]⟩⟩
abbrev term0:Term:=⟨0,0,⟨⟨[]⟩⟩⟩
def exMap{α β:Type}(f:α->β):Except Nat (α×Nat)->Except Nat (β×Nat)
 |.ok (a,j)=>.ok (f a,j)
 |.error e=>.error e
def litP(L:List Tok)(i:Nat):Except Nat (Lit×Nat):=
 if isM L i bNot=true then exMap (fun a=>(⟨2,a,term0,term0⟩:Lit)) (atomP L (i+1))
 else if kAt L i=1/\anyM L (i+1) opsB=false then exMap (fun a=>(⟨1,a,term0,term0⟩:Lit)) (atomP L i)
 else match termP L i with
  |none=>.error i
  |some t=>opP L (i+1) t
theorem exMap_ok{α β:Type}{f:α->β}{x:Except Nat (α×Nat)}{b:β}{j:Nat}(h:exMap f x=.ok (b,j)):∃a,x=.ok (a,j)/\b=f a:=by
 cases x with
 |error e=>cases h
 |ok v=>
  obtain⟨a,k⟩:=v
  cases h
  exact⟨a,rfl,rfl⟩
theorem exMap_er{α β:Type}{f:α->β}{x:Except Nat (α×Nat)}{e:Nat}(h:exMap f x=.error e):x=.error e:=by
 cases x with
 |error e=>cases h;rfl
 |ok v=>cases h
theorem litP_le{L:List Tok}{i:Nat}(hi:i<=L.length):(∀a j,litP L i=.ok (a,j)->i<j/\j<=L.length)/\(∀e,litP L i=.error e->e<=L.length):=by
 unfold litP
 cases h1:isM L i bNot
 case true=>
  rw[if_pos rfl]
  have hl:=isM_lt h1
  obtain⟨q1,q2⟩:=atomP_le (show i+1<=L.length from hl)
  exact⟨fun a j e=>by
   obtain⟨x,hx,_⟩:=exMap_ok e
   have:=q1 x j hx
   exact⟨by omega,this.2⟩,fun e he=>q2 e (exMap_er he)⟩
 rw[if_neg (by simp)]
 by_cases h2:kAt L i=1/\anyM L (i+1) opsB=false
 ·rw[if_pos h2]
  obtain⟨q1,q2⟩:=atomP_le hi
  exact⟨fun a j e=>by
   obtain⟨x,hx,_⟩:=exMap_ok e
   exact q1 x j hx,fun e he=>q2 e (exMap_er he)⟩
 rw[if_neg h2]
 cases ht:termP L i with
 |none=>exact⟨fun a j e=>(by cases e),fun e he=>by cases he;exact hi⟩
 |some t=>
  have hl:=termP_lt ht
  obtain⟨q1,q2⟩:=opP_le (t:=t) (show i+1<=L.length from hl)
  exact⟨fun a j e=>by
   have:=q1 a j e
   exact⟨by omega,this.2⟩,q2⟩
def litBig(l:Lit):Bool:=decide (3<l.atom.args.length)
theorem opP_big{L:List Tok}{i j:Nat}{t:Term}{l:Lit}(h:opP L i t=.ok (l,j)):litBig l=false:=by
 unfold opP at h
 cases h1:anyM L i opsB
 ·rw[h1,if_neg (by simp)]at h;cases h
 rw[h1,if_pos rfl]at h
 cases ht:termP L (i+1) with
 |none=>rw[ht]at h;cases h
 |some c=>
  rw[ht]at h
  cases h
  unfold mkOp litBig
  repeat' split
  all_goals rfl
section
variable{L:List Tok}{own:Own}{i:Nat}{b:Bool}{m n:Nat}{ob:List (Nat×LObj)}
set_option maxHeartbeats 1000000 in
theorem t_literal(hL:L.length<=2^20)(hN:NumOk L)(hi:i<=L.length)(hl:look m ob=some (parC L own i b)){kv kp:HP}
  (hk0:∀e,litP L i=.error e->∀n',n<=n'->kp faultV ⟨putO m (parC L own e b) ob,n'⟩)
  (hk1:∀l j,litP L i=.ok (l,j)->∀n',n<=n'->kv (litL l) ⟨putO m (parC L own j (b||litBig l)) ob,n'⟩):
  cP E0 F0 57 [.ptr m 0] ⟨ob,n⟩ kv kp:=by
 refine cP_of_fnB c57 fun hH=>⟨Nat.le_of_ble_eq_true rfl,?_⟩
 have hOb:Desc ob n:=hH
 have hm:m<n:=hH.look hl
 have hlp:∀x,look m (putO m x ob)=some x:=fun x=>look_putO hl
 obtain⟨V,hV⟩:∃V,litP L i=V:=⟨_,rfl⟩
 have fin0:∀(e:Nat)(ob':List (Nat×LObj))(m':Nat),V=.error e->n<=m'->(∀j,j<n->look j ob'=look j (putO m (parC L own e b) ob))->∃H'',HWk ⟨ob',m'⟩ H''/\(LHeap.Ok ⟨ob',m'⟩->H''.Ok)/\kp faultV H'':=fun e ob' m' he hm' ho=>
  ⟨⟨putO m (parC L own e b) ob,m'⟩,hwk_old (n:=n) (show LHeap.Ok ⟨putO m (parC L own e b) ob,n⟩ from hOb.put) ho (Nat.le_refl _),fun _=>hOb.put.mono hm',hk0 e (by rw[hV,he]) m' hm'⟩
 have fin1:∀(l:Lit)(j:Nat)(b':Bool)(ob':List (Nat×LObj))(m':Nat),V=.ok (l,j)->(b||litBig l)=b'->n<=m'->(∀k,k<n->look k ob'=look k (putO m (parC L own j b') ob)) ->
   ∃v',Wk (litL l) v'/\∃H'',HWk ⟨ob',m'⟩ H''/\(LHeap.Ok ⟨ob',m'⟩->H''.Ok)/\kv v' H'':=fun l j b' ob' m' he hb hm' ho=>by
  subst hb
  exact⟨_,.inl rfl,⟨putO m (parC L own j (b||litBig l)) ob,m'⟩,hwk_old (n:=n) (show LHeap.Ok ⟨putO m (parC L own j (b||litBig l)) ob,n⟩ from hOb.put) ho (Nat.le_refl _),fun _=>hOb.put.mono hm',hk1 _ _ (by rw[hV,he]) m' hm'⟩
 unfold litP at hV
 simp(disch:=omega)[b57]
 refine t_is hL hi [bNot] (by simp) .full (b:=b) (own:=own) (by rw[look_ne (by omega)];exact hl) (fun h1 n3 hn3=>?_) (fun h1 h1l n3 hn3=>?_)
 ·have h1':isM L i bNot=false:=by simpa [anyM] using h1
  rw[if_neg (by rw[h1'];simp)]at hV
  simp(disch:=omega)
  refine t_kind hL hi 0 (by omega) (b:=b) (own:=own) (by rw[look_ne (by omega)];exact hl) fun n4 hn4=>?_
  rw[show i+0=i from rfl]
  by_cases hk:kAt L i=1
  ·rw[hk]
   simp(disch:=omega)
   refine t_compared hL hi (b:=b) (own:=own) (by rw[look_ne (by omega)];exact hl) fun n5 hn5=>?_
   cases hc:anyM L (i+1) opsB
   ·rw[if_pos ⟨hk,hc⟩]at hV
    simp(disch:=omega)
    refine t_atom hL hN hi (b:=b) (own:=own) (by rw[look_ne (by omega)];exact hl) (fun e he n6 hn6=>?_) (fun a j he n6 hn6=>?_)
    ·rw[he]at hV
     simp(disch:=omega)
     exact fin0 e _ n6 hV.symm (by omega) fun j hj=>look_ne (by omega) _ _
    ·rw[he]at hV
     simp(disch:=omega)
     exact fin1 ⟨1,a,term0,term0⟩ j _ _ n6 hV.symm rfl (by omega) fun j hj=>look_ne (by omega) _ _
   rw[if_neg (by rw[hc];simp)]at hV
   simp(disch:=omega)
   refine t_term hL hN hi (b:=b) (own:=own) (by rw[look_ne (by omega)];exact hl) (fun ht n6 hn6=>?_) (fun t ht htl n6 hn6=>?_)
   ·rw[ht]at hV
    simp(disch:=omega)
    exact fin0 i _ n6 hV.symm (by omega) fun j hj=>by rw[look_ne (by omega),putO_same hl]
   rw[ht]at hV
   simp only at hV
   simp(disch:=omega)
   refine t_op hL hN (show i+1<=L.length from htl) (b:=b) (own:=own) (by simp(disch:=omega)[putO_putO,hlp]) t (fun e he n7 hn7=>?_) (fun l j he n7 hn7=>?_)
   ·rw[he]at hV
    simp(disch:=omega)[putO_putO]
    exact fin0 e _ n7 hV.symm (by omega) fun j hj=>look_ne (by omega) _ _
   ·rw[he]at hV
    simp(disch:=omega)[putO_putO]
    exact fin1 l j _ _ n7 hV.symm (by rw[opP_big he,Bool.or_false]) (by omega) fun j hj=>look_ne (by omega) _ _
  rw[if_neg (by simp[hk])]at hV
  simp(disch:=omega)[hk]
  refine t_term hL hN hi (b:=b) (own:=own) (by rw[look_ne (by omega)];exact hl) (fun ht n6 hn6=>?_) (fun t ht htl n6 hn6=>?_)
  ·rw[ht]at hV
   simp(disch:=omega)
   exact fin0 i _ n6 hV.symm (by omega) fun j hj=>by rw[look_ne (by omega),putO_same hl]
  rw[ht]at hV
  simp only at hV
  simp(disch:=omega)
  refine t_op hL hN (show i+1<=L.length from htl) (b:=b) (own:=own) (by simp(disch:=omega)[putO_putO,hlp]) t (fun e he n7 hn7=>?_) (fun l j he n7 hn7=>?_)
  ·rw[he]at hV
   simp(disch:=omega)[putO_putO]
   exact fin0 e _ n7 hV.symm (by omega) fun j hj=>look_ne (by omega) _ _
  ·rw[he]at hV
   simp(disch:=omega)[putO_putO]
   exact fin1 l j _ _ n7 hV.symm (by rw[opP_big he,Bool.or_false]) (by omega) fun j hj=>look_ne (by omega) _ _
 have h1':isM L i bNot=true:=by simpa [anyM] using h1
 rw[if_pos h1']at hV
 simp(disch:=omega)
 refine t_atom hL hN (show i+1<=L.length from h1l) (b:=b) (own:=own) (by simp(disch:=omega)[putO_putO,hlp]) (fun e he n6 hn6=>?_) (fun a j he n6 hn6=>?_)
 ·rw[he]at hV
  simp(disch:=omega)[putO_putO]
  exact fin0 e _ n6 hV.symm (by omega) fun j hj=>look_ne (by omega) _ _
 ·rw[he]at hV
  simp(disch:=omega)[putO_putO]
  exact fin1 ⟨2,a,term0,term0⟩ j _ _ n6 hV.symm rfl (by omega) fun j hj=>look_ne (by omega) _ _
end
structure RelT(L:List Tok)(R:List RTok):Prop where
 len:R.length=L.length+1
 lim:R.length<=2^20
 kind:∀i (h:i<L.length) (h':i<R.length),R[i].kind=L[i].kind
 num:∀i (h:i<L.length) (h':i<R.length),L[i].kind=3->R[i].n=L[i].n
 text:∀i (h:i<L.length) (h':i<R.length),L[i].kind≠3->R[i].s=L[i].text
 pos:∀i (h:i<L.length) (h':i<R.length),R[i].at_=L[i].at_
 kinds:∀t∈L,1<=t.kind/\t.kind<=4
 ats:∀r∈R,0<=r.at_
 fin:∀h':L.length<R.length,R[L.length].kind=5
def atR(R:List RTok)(e:Nat):Int:=if h:e<R.length then R[e].at_ else 0
section
variable{L:List Tok}{R:List RTok}(hR:RelT L R)
include hR
theorem RelT.lt{i:Nat}(hi:i<=L.length):i<R.length:=by have:=hR.len;omega
theorem RelT.at0{e:Nat}(hi:e<=L.length):0<=atR R e:=by
 unfold atR
 rw[dif_pos (hR.lt hi)]
 exact hR.ats _ (List.getElem_mem _)
theorem RelT.is{i:Nat}(hi:i<=L.length)(x:ByteArray):isR R i x=isM L i x:=by
 unfold isR isM
 rw[dif_pos (hR.lt hi)]
 by_cases h:i<L.length
 ·rw[dif_pos h,hR.kind i h (hR.lt hi)]
  by_cases h4:L[i].kind=4
  ·rw[hR.text i h (hR.lt hi) (by omega)]
  ·rw[decide_eq_false h4];rfl
 ·rw[dif_neg h]
  obtain rfl:i=L.length:=by omega
  rw[hR.fin (hR.lt hi)]
  rfl
theorem RelT.kAt{i:Nat}(hi:i<=L.length):(R[i]'(hR.lt hi)).kind=if i<L.length then kAt L i else 5:=by
 by_cases h:i<L.length
 ·rw[if_pos h,kAt_lt h,hR.kind i h]
 ·rw[if_neg h]
  obtain rfl:i=L.length:=by omega
  exact hR.fin _
theorem RelT.term{i:Nat}(hi:i<=L.length):(termP L i=none↔(R[i]'(hR.lt hi)).kind=4\/(R[i]'(hR.lt hi)).kind=5)/\∀t,termP L i=some t->t=rtermV (R[i]'(hR.lt hi)):=by
 have hk:=hR.kAt hi
 unfold termP
 by_cases h:i<L.length
 ·rw[if_pos h,kAt_lt h]at hk
  rw[dif_pos h,hk]
  have hkd:=hR.kinds _ (List.getElem_mem h)
  unfold tokT rtermV
  rw[hk]
  by_cases h1:L[i].kind=1
  ·rw[if_pos h1,h1]
   exact⟨by simp,fun t e=>by cases e;rw[if_neg (by decide),if_neg (by decide),hR.text i h (hR.lt hi) (by omega)]⟩
  by_cases h2:L[i].kind=2
  ·rw[if_neg h1,if_pos h2,h2]
   exact⟨by simp,fun t e=>by cases e;rw[if_neg (by decide),if_pos rfl,hR.text i h (hR.lt hi) (by omega)]⟩
  by_cases h3:L[i].kind=3
  ·rw[if_neg h1,if_neg h2,if_pos h3,h3]
   exact⟨by simp,fun t e=>by cases e;rw[if_pos rfl,hR.num i h (hR.lt hi) h3]⟩
  rw[if_neg h1,if_neg h2,if_neg h3]
  exact⟨by simp;omega,fun t e=>by cases e⟩
 ·rw[dif_neg h]
  rw[if_neg h]at hk
  rw[hk]
  exact⟨by simp,fun t e=>by cases e⟩
end
section
variable{L:List Tok}{R:List RTok}{own:Own}{i:Nat}{bad:Int}{b:Bool}{m n:Nat}{ob:List (Nat×LObj)}
theorem isR_of(x:ByteArray)(hi:i<R.length)(hk:R[i].kind=4):isR R i x=eqBA R[i].s x:=by
 unfold isR
 rw[dif_pos hi,decide_eq_true hk,Bool.true_and]
theorem t_comparison(hR:RelT L R)(hi:i<=L.length)(hl:look m ob=some (rparC R own i bad b)){kv kp:HP}(hk:∀n',n<=n'->kv (.bool (anyM L (i+1) opsB)) ⟨ob,n'⟩):
  cP E0 F0 107 [.ptr m 0] ⟨ob,n⟩ kv kp:=by
 refine cP_of_fn c107 fun hH=>⟨Nat.le_of_ble_eq_true rfl,?_⟩
 have hOb:Desc ob n:=hH
 have hm:m<n:=hH.look hl
 have hlim:=hR.lim
 have hlen:=hR.len
 obtain⟨s,hs⟩:∃s,i+1=s:=⟨_,rfl⟩
 have hw:IntKind.wrap .i64 ((i:Int)+1)=(s:Int):=by rw[wrap_id (by omega) (by omega)];omega
 rw[hs]at hk
 obtain⟨A,hA⟩:∃A,anyM L s opsB=A:=⟨_,rfl⟩
 rw[hA]at hk
 by_cases h:s<R.length
 case neg=>
  have hA0:A=false:=by
   rw[<-hA]
   cases hq:anyM L s opsB
   ·rfl
   ·have:=anyM_lt hq;omega
  subst hA0
  have hge:R.length<=s:=by omega
  simp(disch:=omega)[b107,hl,hw,h,hge]
  exact⟨⟨ob,n⟩,HWk.refl _,fun h=>h,hk n (Nat.le_refl _)⟩
 have done:∀(x:LObj)(B:Bool),A=B->∃H'',HWk ⟨(n,x)::ob,n+1⟩ H''/\(LHeap.Ok ⟨(n,x)::ob,n+1⟩->H''.Ok)/\kv (.bool B) H'':=fun x B e=>⟨⟨ob,n+1⟩,hwk_skip hOb (Nat.le_refl _),fun _=>hOb.mono (Nat.le_succ _),e▸hk (n+1) (Nat.le_succ _)⟩
 have hge:¬R.length<=s:=by omega
 have hAR:A=opsB.any (isR R s):=by
  rw[<-hA]
  unfold anyM
  congr 1
  funext x
  exact(hR.is (by omega) x).symm
 by_cases h4:R[s].kind=4
 case neg=>
  have hA0:A=false:=by
   rw[hAR]
   simp only[List.any_eq_false]
   intro x _
   unfold isR
   rw[dif_pos h,decide_eq_false h4]
   simp
  simp(disch:=omega)[b107,hl,hw,h,hge,h4]
  exact done _ _ hA0
 simp only[opsB,List.any_cons,List.any_nil,Bool.or_false,isR_of _ h h4]at hAR
 cases h1:eqBA R[s].s bEq
 case true=>
  simp(disch:=omega)[b107,hl,hw,h,hge,h4,h1]
  exact done _ _ (by rw[hAR,h1];rfl)
 cases h2:eqBA R[s].s bNe
 case true=>
  simp(disch:=omega)[b107,hl,hw,h,hge,h4,h1,h2]
  exact done _ _ (by rw[hAR,h1,h2];rfl)
 cases h3:eqBA R[s].s bLt
 case true=>
  simp(disch:=omega)[b107,hl,hw,h,hge,h4,h1,h2,h3]
  exact done _ _ (by rw[hAR,h1,h2,h3];rfl)
 cases h5:eqBA R[s].s bLe
 case true=>
  simp(disch:=omega)[b107,hl,hw,h,hge,h4,h1,h2,h3,h5]
  exact done _ _ (by rw[hAR,h1,h2,h3,h5];rfl)
 cases h6:eqBA R[s].s bGt
 case true=>
  simp(disch:=omega)[b107,hl,hw,h,hge,h4,h1,h2,h3,h5,h6]
  exact done _ _ (by rw[hAR,h1,h2,h3,h5,h6];rfl)
 cases h7:eqBA R[s].s bGe
 case true=>
  simp(disch:=omega)[b107,hl,hw,h,hge,h4,h1,h2,h3,h5,h6,h7]
  exact done _ _ (by rw[hAR,h1,h2,h3,h5,h6,h7];rfl)
 simp(disch:=omega)[b107,hl,hw,h,hge,h4,h1,h2,h3,h5,h6,h7]
 exact done _ _ (by rw[hAR,h1,h2,h3,h5,h6,h7];rfl)
end
abbrev lit0:Lit:=⟨0,atom0,term0,term0⟩
section
variable{L:List Tok}{R:List RTok}{own:Own}{i:Nat}{bad:Int}{b:Bool}{m n:Nat}{ob:List (Nat×LObj)}
set_option maxHeartbeats 1000000 in
theorem t_rcompared1(hR:RelT L R)(hi:i<=L.length)(hl:look m ob=some (rparC R own i bad b))(hb:0<=bad)(a:Term){kv kp:HP}(hk:∀n',n<=n'->kv (litL lit0) ⟨ob,n'⟩):
  cP E0 F0 108 [.ptr m 0,termL a] ⟨ob,n⟩ kv kp:=by
 refine cP_of_fnB c108 fun hH=>⟨Nat.le_of_ble_eq_true rfl,?_⟩
 have hOb:Desc ob n:=hH
 have hm:m<n:=hH.look hl
 have hi':=hR.lt hi
 have hne:¬bad<0:=by omega
 have fin:∀(ob':List (Nat×LObj))(m':Nat),n<=m'->(∀j,j<n->look j ob'=look j ob)->∃v',Wk (.agg [.int 0,.str ⟨⟨[]⟩⟩,Nl,.int 0,.int 0,.str ⟨⟨[]⟩⟩,.int 0,.int 0,.str ⟨⟨[]⟩⟩]) v'/\∃H'',HWk ⟨ob',m'⟩ H''/\(LHeap.Ok ⟨ob',m'⟩->H''.Ok)/\kv v' H'':=fun ob' m' hm' ho=>
  ⟨_,strip_litO 0 term0 term0,⟨ob,m'⟩,hwk_old hH ho (Nat.le_refl _),fun _=>hOb.mono hm',hk m' hm'⟩
 simp(disch:=omega)[b108]
 refine t_now hR.lim hi' (own:=own) (bad:=bad) (b:=b) (by rw[look_ne (by omega),look_ne (by omega)];exact hl) fun n3 hn3=>?_
 by_cases h4:R[i].kind=4
 case neg=>
  simp(disch:=omega)[hl,hb,hne,h4]
  refine t_fail1 (own:=own) (b:=b) (bad:=bad) (R:=R) (i:=i) (by simp(disch:=omega)[look_ne];exact hl) hb fun n4 hn4=>?_
  simp(disch:=omega)
  exact fin _ _ (by omega) fun j hj=>by rw[look_ne (by omega),look_ne (by omega),look_ne (by omega)]
 cases c1:eqBA R[i].s bEq
 case true=>
  simp(disch:=omega)[hl,hb,hne,h4,c1]
  refine t_fail1 (own:=own) (b:=b) (bad:=bad) (R:=R) (i:=i) (by simp(disch:=omega)[look_ne];exact hl) hb fun n4 hn4=>?_
  simp(disch:=omega)
  exact fin _ _ (by omega) fun j hj=>by rw[look_ne (by omega),look_ne (by omega),look_ne (by omega)]
 cases c2:eqBA R[i].s bNe
 case true=>
  simp(disch:=omega)[hl,hb,hne,h4,c1,c2]
  refine t_fail1 (own:=own) (b:=b) (bad:=bad) (R:=R) (i:=i) (by simp(disch:=omega)[look_ne];exact hl) hb fun n4 hn4=>?_
  simp(disch:=omega)
  exact fin _ _ (by omega) fun j hj=>by rw[look_ne (by omega),look_ne (by omega),look_ne (by omega)]
 cases c3:eqBA R[i].s bLt
 case true=>
  simp(disch:=omega)[hl,hb,hne,h4,c1,c2,c3]
  refine t_fail1 (own:=own) (b:=b) (bad:=bad) (R:=R) (i:=i) (by simp(disch:=omega)[look_ne];exact hl) hb fun n4 hn4=>?_
  simp(disch:=omega)
  exact fin _ _ (by omega) fun j hj=>by rw[look_ne (by omega),look_ne (by omega),look_ne (by omega)]
 cases c4:eqBA R[i].s bLe
 case true=>
  simp(disch:=omega)[hl,hb,hne,h4,c1,c2,c3,c4]
  refine t_fail1 (own:=own) (b:=b) (bad:=bad) (R:=R) (i:=i) (by simp(disch:=omega)[look_ne];exact hl) hb fun n4 hn4=>?_
  simp(disch:=omega)
  exact fin _ _ (by omega) fun j hj=>by rw[look_ne (by omega),look_ne (by omega),look_ne (by omega)]
 cases c5:eqBA R[i].s bGt
 case true=>
  simp(disch:=omega)[hl,hb,hne,h4,c1,c2,c3,c4,c5]
  refine t_fail1 (own:=own) (b:=b) (bad:=bad) (R:=R) (i:=i) (by simp(disch:=omega)[look_ne];exact hl) hb fun n4 hn4=>?_
  simp(disch:=omega)
  exact fin _ _ (by omega) fun j hj=>by rw[look_ne (by omega),look_ne (by omega),look_ne (by omega)]
 cases c6:eqBA R[i].s bGe
 case true=>
  simp(disch:=omega)[hl,hb,hne,h4,c1,c2,c3,c4,c5,c6]
  refine t_fail1 (own:=own) (b:=b) (bad:=bad) (R:=R) (i:=i) (by simp(disch:=omega)[look_ne];exact hl) hb fun n4 hn4=>?_
  simp(disch:=omega)
  exact fin _ _ (by omega) fun j hj=>by rw[look_ne (by omega),look_ne (by omega),look_ne (by omega)]
 simp(disch:=omega)[hl,hb,hne,h4,c1,c2,c3,c4,c5,c6]
 refine t_fail1 (own:=own) (b:=b) (bad:=bad) (R:=R) (i:=i) (by simp(disch:=omega)[look_ne];exact hl) hb fun n4 hn4=>?_
 simp(disch:=omega)
 exact fin _ _ (by omega) fun j hj=>by rw[look_ne (by omega),look_ne (by omega),look_ne (by omega)]
set_option maxHeartbeats 2000000 in
theorem t_rcompared0(hR:RelT L R)(hi:i<=L.length)(hl:look m ob=some (rparC R own i (-1) b))(a:Term){kv kp:HP}
  (hk0:∀e,opP L i a=.error e->∀l j' b' n',j'<=L.length->n<=n'->kv (litL l) ⟨putO m (rparC R own j' (atR R e) b') ob,n'⟩)
  (hk1:∀l j,opP L i a=.ok (l,j)->∀n',n<=n'->kv (litL l) ⟨putO m (rparC R own j (-1) b) ob,n'⟩):
  cP E0 F0 108 [.ptr m 0,termL a] ⟨ob,n⟩ kv kp:=by
 refine cP_of_fnB c108 fun hH=>⟨Nat.le_of_ble_eq_true rfl,?_⟩
 have hOb:Desc ob n:=hH
 have hm:m<n:=hH.look hl
 have hi':=hR.lt hi
 have hlim:=hR.lim
 have hlp:∀x,look m (putO m x ob)=some x:=fun x=>look_putO hl
 obtain⟨V,hV⟩:∃V,opP L i a=V:=⟨_,rfl⟩
 rw[hV]at hk0 hk1
 have hati:R[i].at_=atR R i:=by unfold atR;rw[dif_pos hi']
 have fin:∀(k:Int)(x y:Term)(X:LObj)(ob':List (Nat×LObj))(m':Nat),n<=m'->(∀n',n<=n'->kv (litL ⟨k,atom0,x,y⟩) ⟨putO m X ob,n'⟩)->(∀j,j<n->look j ob'=look j (putO m X ob)) ->
   ∃v',Wk (.agg [.int k,.str ⟨⟨[]⟩⟩,Nl,.int x.kind,.int x.n,.str x.s,.int y.kind,.int y.n,.str y.s]) v'/\∃H'',HWk ⟨ob',m'⟩ H''/\(LHeap.Ok ⟨ob',m'⟩->H''.Ok)/\kv v' H'':=fun k x y X ob' m' hm' h ho=>
  ⟨_,strip_litO k x y,⟨putO m X ob,m'⟩,hwk_old (n:=n) (show LHeap.Ok ⟨putO m X ob,n⟩ from hOb.put) ho (Nat.le_refl _),fun _=>hOb.put.mono hm',h m' hm'⟩
 unfold opP at hV
 simp(disch:=omega)[b108]
 refine t_now hR.lim hi' (own:=own) (bad:=-1) (b:=b) (by rw[look_ne (by omega),look_ne (by omega)];exact hl) fun n3 hn3=>?_
 by_cases h4:R[i].kind=4
 case neg=>
  have hA:anyM L i opsB=false:=by
   cases hq:anyM L i opsB
   ·rfl
   ·have h1:=anyM_kind hq
    have h2:=hR.kAt hi
    rw[if_pos (anyM_lt hq),h1]at h2
    exact absurd h2 h4
  rw[if_neg (by rw[hA];simp)]at hV
  simp(disch:=omega)[hl,h4]
  refine t_fail0 hR.lim hi' (own:=own) (b:=b) (by simp(disch:=omega)[look_ne];exact hl) fun n4 hn4=>?_
  rw[hati]
  simp(disch:=omega)
  exact fin 0 term0 term0 _ _ _ (by omega) (fun n'=>hk0 i hV.symm _ i b n' hi) fun j hj=>by simp(disch:=omega)
 have h:i<L.length:=by
  by_cases h:i<L.length
  ·exact h
  ·have h2:=hR.kAt hi
   rw[if_neg h,h4]at h2
   exact absurd h2 (by decide)
 have hp1:i+1<=L.length:=h
 have hk4:L[i].kind=4:=by rw[<-hR.kind i h hi'];exact h4
 have htx:txtAt L i=R[i].s:=by unfold txtAt;rw[dif_pos h,hR.text i h hi' (by omega)]
 have hat:(R[i+1]'(hR.lt hp1)).at_=atR R (i+1):=by unfold atR;rw[dif_pos (hR.lt hp1)]
 rw[htx]at hV
 have hAR:anyM L i opsB=opsB.any (isR R i):=by
  unfold anyM
  congr 1
  funext x
  exact(hR.is hi x).symm
 simp only[opsB,List.any_cons,List.any_nil,Bool.or_false,isR_of _ hi' h4]at hAR
 cases c1:eqBA R[i].s bEq
 case true=>
  have hA:anyM L i opsB=true:=by rw[hAR];simp[c1]
  rw[if_pos hA]at hV
  simp(disch:=omega)[hl,h4,c1,wrap_nat (show i<2^62 by omega)]
  refine t_rterm hR.lim (hR.lt hp1) (own:=own) (b:=b) (by simp(disch:=omega)[putO_putO,hlp]) (fun hq n5 hn5=>?_) (fun hq n5 hn5=>?_)
  ·rw[(hR.term hp1).1.2 hq]at hV
   rw[hat]
   simp(disch:=omega)[putO_putO]
   exact fin (3) a term0 _ _ _ (by omega) (fun n'=>hk0 (i+1) hV.symm _ (i+1) b n' hp1) fun j hj=>by simp(disch:=omega)[putO_putO]
  ·obtain⟨c,hc⟩:∃c,termP L (i+1)=some c:=by
    cases ht:termP L (i+1) with
    |none=>exact absurd ((hR.term hp1).1.1 ht) hq
    |some c=>exact⟨c,rfl⟩
   have hce:=(hR.term hp1).2 c hc
   rw[hc]at hV
   have hv:=hk1 _ _ hV.symm
   simp only[mkOp,c1,if_true,if_false,Bool.false_eq_true]at hv
   rw[<-hce]
   simp(disch:=omega)[putO_putO]
   exact fin (3) a c _ _ _ (by omega) hv fun j hj=>by simp(disch:=omega)[putO_putO]
 cases c2:eqBA R[i].s bNe
 case true=>
  have hA:anyM L i opsB=true:=by rw[hAR];simp[c1,c2]
  rw[if_pos hA]at hV
  simp(disch:=omega)[hl,h4,c1,c2,wrap_nat (show i<2^62 by omega)]
  refine t_rterm hR.lim (hR.lt hp1) (own:=own) (b:=b) (by simp(disch:=omega)[putO_putO,hlp]) (fun hq n5 hn5=>?_) (fun hq n5 hn5=>?_)
  ·rw[(hR.term hp1).1.2 hq]at hV
   rw[hat]
   simp(disch:=omega)[putO_putO]
   exact fin (4) a term0 _ _ _ (by omega) (fun n'=>hk0 (i+1) hV.symm _ (i+1) b n' hp1) fun j hj=>by simp(disch:=omega)[putO_putO]
  ·obtain⟨c,hc⟩:∃c,termP L (i+1)=some c:=by
    cases ht:termP L (i+1) with
    |none=>exact absurd ((hR.term hp1).1.1 ht) hq
    |some c=>exact⟨c,rfl⟩
   have hce:=(hR.term hp1).2 c hc
   rw[hc]at hV
   have hv:=hk1 _ _ hV.symm
   simp only[mkOp,c1,c2,if_true,if_false,Bool.false_eq_true]at hv
   rw[<-hce]
   simp(disch:=omega)[putO_putO]
   exact fin (4) a c _ _ _ (by omega) hv fun j hj=>by simp(disch:=omega)[putO_putO]
 cases c3:eqBA R[i].s bLt
 case true=>
  have hA:anyM L i opsB=true:=by rw[hAR];simp[c1,c2,c3]
  rw[if_pos hA]at hV
  simp(disch:=omega)[hl,h4,c1,c2,c3,wrap_nat (show i<2^62 by omega)]
  refine t_rterm hR.lim (hR.lt hp1) (own:=own) (b:=b) (by simp(disch:=omega)[putO_putO,hlp]) (fun hq n5 hn5=>?_) (fun hq n5 hn5=>?_)
  ·rw[(hR.term hp1).1.2 hq]at hV
   rw[hat]
   simp(disch:=omega)[putO_putO]
   exact fin (5) a term0 _ _ _ (by omega) (fun n'=>hk0 (i+1) hV.symm _ (i+1) b n' hp1) fun j hj=>by simp(disch:=omega)[putO_putO]
  ·obtain⟨c,hc⟩:∃c,termP L (i+1)=some c:=by
    cases ht:termP L (i+1) with
    |none=>exact absurd ((hR.term hp1).1.1 ht) hq
    |some c=>exact⟨c,rfl⟩
   have hce:=(hR.term hp1).2 c hc
   rw[hc]at hV
   have hv:=hk1 _ _ hV.symm
   simp only[mkOp,c1,c2,c3,if_true,if_false,Bool.false_eq_true]at hv
   rw[<-hce]
   simp(disch:=omega)[putO_putO]
   exact fin (5) a c _ _ _ (by omega) hv fun j hj=>by simp(disch:=omega)[putO_putO]
 cases c4:eqBA R[i].s bLe
 case true=>
  have hA:anyM L i opsB=true:=by rw[hAR];simp[c1,c2,c3,c4]
  rw[if_pos hA]at hV
  simp(disch:=omega)[hl,h4,c1,c2,c3,c4,wrap_nat (show i<2^62 by omega)]
  refine t_rterm hR.lim (hR.lt hp1) (own:=own) (b:=b) (by simp(disch:=omega)[putO_putO,hlp]) (fun hq n5 hn5=>?_) (fun hq n5 hn5=>?_)
  ·rw[(hR.term hp1).1.2 hq]at hV
   rw[hat]
   simp(disch:=omega)[putO_putO]
   exact fin (6) a term0 _ _ _ (by omega) (fun n'=>hk0 (i+1) hV.symm _ (i+1) b n' hp1) fun j hj=>by simp(disch:=omega)[putO_putO]
  ·obtain⟨c,hc⟩:∃c,termP L (i+1)=some c:=by
    cases ht:termP L (i+1) with
    |none=>exact absurd ((hR.term hp1).1.1 ht) hq
    |some c=>exact⟨c,rfl⟩
   have hce:=(hR.term hp1).2 c hc
   rw[hc]at hV
   have hv:=hk1 _ _ hV.symm
   simp only[mkOp,c1,c2,c3,c4,if_true,if_false,Bool.false_eq_true]at hv
   rw[<-hce]
   simp(disch:=omega)[putO_putO]
   exact fin (6) a c _ _ _ (by omega) hv fun j hj=>by simp(disch:=omega)[putO_putO]
 cases c5:eqBA R[i].s bGt
 case true=>
  have hA:anyM L i opsB=true:=by rw[hAR];simp[c1,c2,c3,c4,c5]
  rw[if_pos hA]at hV
  simp(disch:=omega)[hl,h4,c1,c2,c3,c4,c5,wrap_nat (show i<2^62 by omega)]
  refine t_rterm hR.lim (hR.lt hp1) (own:=own) (b:=b) (by simp(disch:=omega)[putO_putO,hlp]) (fun hq n5 hn5=>?_) (fun hq n5 hn5=>?_)
  ·rw[(hR.term hp1).1.2 hq]at hV
   rw[hat]
   simp(disch:=omega)[putO_putO]
   exact fin (5) term0 a _ _ _ (by omega) (fun n'=>hk0 (i+1) hV.symm _ (i+1) b n' hp1) fun j hj=>by simp(disch:=omega)[putO_putO]
  ·obtain⟨c,hc⟩:∃c,termP L (i+1)=some c:=by
    cases ht:termP L (i+1) with
    |none=>exact absurd ((hR.term hp1).1.1 ht) hq
    |some c=>exact⟨c,rfl⟩
   have hce:=(hR.term hp1).2 c hc
   rw[hc]at hV
   have hv:=hk1 _ _ hV.symm
   simp only[mkOp,c1,c2,c3,c4,c5,if_true,if_false,Bool.false_eq_true]at hv
   rw[<-hce]
   simp(disch:=omega)[putO_putO]
   exact fin (5) c a _ _ _ (by omega) hv fun j hj=>by simp(disch:=omega)[putO_putO]
 cases c6:eqBA R[i].s bGe
 case true=>
  have hA:anyM L i opsB=true:=by rw[hAR];simp[c1,c2,c3,c4,c5,c6]
  rw[if_pos hA]at hV
  simp(disch:=omega)[hl,h4,c1,c2,c3,c4,c5,c6,wrap_nat (show i<2^62 by omega)]
  refine t_rterm hR.lim (hR.lt hp1) (own:=own) (b:=b) (by simp(disch:=omega)[putO_putO,hlp]) (fun hq n5 hn5=>?_) (fun hq n5 hn5=>?_)
  ·rw[(hR.term hp1).1.2 hq]at hV
   rw[hat]
   simp(disch:=omega)[putO_putO]
   exact fin (6) term0 a _ _ _ (by omega) (fun n'=>hk0 (i+1) hV.symm _ (i+1) b n' hp1) fun j hj=>by simp(disch:=omega)[putO_putO]
  ·obtain⟨c,hc⟩:∃c,termP L (i+1)=some c:=by
    cases ht:termP L (i+1) with
    |none=>exact absurd ((hR.term hp1).1.1 ht) hq
    |some c=>exact⟨c,rfl⟩
   have hce:=(hR.term hp1).2 c hc
   rw[hc]at hV
   have hv:=hk1 _ _ hV.symm
   simp only[mkOp,c1,c2,c3,c4,c5,c6,if_true,if_false,Bool.false_eq_true]at hv
   rw[<-hce]
   simp(disch:=omega)[putO_putO]
   exact fin (6) c a _ _ _ (by omega) hv fun j hj=>by simp(disch:=omega)[putO_putO]
 have hA:anyM L i opsB=false:=by rw[hAR];simp[c1,c2,c3,c4,c5,c6]
 rw[if_neg (by rw[hA];simp)]at hV
 simp(disch:=omega)[hl,h4,c1,c2,c3,c4,c5,c6]
 refine t_fail0 hR.lim hi' (own:=own) (b:=b) (by simp(disch:=omega)[look_ne];exact hl) fun n4 hn4=>?_
 rw[hati]
 simp(disch:=omega)
 exact fin 0 term0 term0 _ _ _ (by omega) (fun n'=>hk0 i hV.symm _ i b n' hi) fun j hj=>by simp(disch:=omega)
end
structure NNIk where
 i:Nat
 n:Nat
 es:List Term
 ow:Own
 ob:List (Nat×LObj)
 bad:Int
theorem atR_of{R:List RTok}{e:Nat}(h:e<R.length):R[e].at_=atR R e:=by unfold atR;rw[dif_pos h]
def finA(L:List Tok)(s:ByteArray):Except Nat (List Term×Nat)->Except Nat (Atom×Nat)
 |.error e=>.error e
 |.ok (ts,j)=>if isM L j bClose=true then .ok (⟨s,ts⟩,j+1) else .error j
def oneA(L:List Tok)(p:Nat):Except Nat (List Term×Nat):=match termP L p with
 |none=>.error p
 |some t=>argsLp L (p+1) [t]
section
variable{L:List Tok}{R:List RTok}{own:Own}{i:Nat}{b:Bool}{m n:Nat}{ob:List (Nat×LObj)}
theorem t_rtermJ(hR:RelT L R)(hi:i<=L.length)(hl:look m ob=some (rparC R own i (-1) b)){kv kp:HP}
  (hk:∀t k1 bad1,((bad1=-1/\k1=i+1/\termP L i=some t)\/(bad1=atR R i/\k1=i/\termP L i=none))->k1<=L.length->∀n',n<=n'->kv (termL t) ⟨putO m (rparC R own k1 bad1 b) ob,n'⟩):
  cP E0 F0 71 [.ptr m 0] ⟨ob,n⟩ kv kp:=by
 refine t_rterm hR.lim (hR.lt hi) hl (fun hq n' hn'=>?_) (fun hq n' hn'=>?_)
 ·rw[atR_of (hR.lt hi)]
  exact hk term0 i (atR R i) (.inr ⟨rfl,rfl,(hR.term hi).1.2 hq⟩) hi n' hn'
 ·obtain⟨c,hc⟩:∃c,termP L i=some c:=by
   cases ht:termP L i with
   |none=>exact absurd ((hR.term hi).1.1 ht) hq
   |some c=>exact⟨c,rfl⟩
  rw[<-(hR.term hi).2 c hc]
  exact hk c (i+1) (-1) (.inl ⟨rfl,rfl,hc⟩) (termP_lt hc) n' hn'
set_option maxHeartbeats 2000000 in
theorem t_ratom(hR:RelT L R)(hi:i<=L.length)(hl:look m ob=some (rparC R own i (-1) b)){kv kp:HP}
  (hk0:∀e,atomP L i=.error e->∀a j' b' n',j'<=L.length->n<=n'->kv (atomL a) ⟨putO m (rparC R own j' (atR R e) b') ob,n'⟩)
  (hk1:∀a j,atomP L i=.ok (a,j)->∀n',n<=n'->kv (atomL a) ⟨putO m (rparC R own j (-1) (b||decide (3<a.args.length))) ob,n'⟩):
  cP E0 F0 33 [.ptr m 0] ⟨ob,n⟩ kv kp:=by
 refine cP_of_fnB c33 fun hH=>⟨Nat.le_of_ble_eq_true rfl,?_⟩
 have hOb:Desc ob n:=hH
 have hm:m<n:=hH.look hl
 have hi':=hR.lt hi
 have hlim:=hR.lim
 have hlen:=hR.len
 have hlp:∀x,look m (putO m x ob)=some x:=fun x=>look_putO hl
 obtain⟨V,hV⟩:∃V,atomP L i=V:=⟨_,rfl⟩
 rw[hV]at hk0 hk1
 have fin:∀(s:ByteArray)(es:List Term)(ow:Own)(X:LObj)(ob':List (Nat×LObj))(m':Nat),n<=m'->(∀n',n<=n'->kv (atomL ⟨s,es⟩) ⟨putO m X ob,n'⟩)->(∀k,k<n->look k ob'=look k (putO m X ob)) ->
   ∃v',Wk (.agg [.str s,.sl (es.map termL) ow]) v'/\∃H'',HWk ⟨ob',m'⟩ H''/\(LHeap.Ok ⟨ob',m'⟩->H''.Ok)/\kv v' H'':=fun s es ow X ob' m' hm' h ho=>
  ⟨_,strip_atomO s es ow,⟨putO m X ob,m'⟩,hwk_old (n:=n) (show LHeap.Ok ⟨putO m X ob,n⟩ from hOb.put) ho (Nat.le_refl _),fun _=>hOb.put.mono hm',h m' hm'⟩
 unfold atomP at hV
 simp(disch:=omega)[b33]
 refine t_now hR.lim hi' (own:=own) (bad:=-1) (b:=b) (by rw[look_ne (by omega)];exact hl) fun n3 hn3=>?_
 by_cases hk:R[i].kind=1
 case neg=>
  have hk':kAt L i≠1:=by
   intro h1
   have h2:=hR.kAt hi
   rw[if_pos (kAt1_lt h1),h1]at h2
   exact hk h2
  rw[if_pos hk']at hV
  simp(disch:=omega)[hl,hk]
  refine t_fail0 hR.lim hi' (own:=own) (b:=b) (by simp(disch:=omega)[look_ne];exact hl) fun n4 hn4=>?_
  rw[atR_of hi']
  simp(disch:=omega)
  exact fin _ [] .full _ _ _ (by omega) (fun n'=>hk0 i hV.symm _ i b n' hi) fun j hj=>by simp(disch:=omega)
 have h:i<L.length:=by
  by_cases h:i<L.length
  ·exact h
  ·have h2:=hR.kAt hi
   rw[if_neg h,hk]at h2
   exact absurd h2 (by decide)
 have hk':kAt L i=1:=by
  have h2:=hR.kAt hi
  rw[if_pos h,hk]at h2
  exact h2.symm
 rw[if_neg (by simpa using hk')]at hV
 have htx:txtAt L i=R[i].s:=by unfold txtAt;rw[dif_pos h,hR.text i h hi' (by rw[<-hR.kind i h hi',hk];decide)]
 rw[htx]at hV
 have hp1:i+1<=L.length:=h
 simp(disch:=omega)[hl,hk,wrap_nat (show i<2^62 by omega)]
 refine t_ris hR.lim (hR.lt hp1) (own:=own) (bad:=-1) (b:=b) (by simp(disch:=omega)[putO_putO,hlp]) bOpen fun n4 hn4=>?_
 rw[hR.is hp1]
 cases h1:isM L (i+1) bOpen
 ·rw[if_neg (by rw[h1];simp)]at hV
  have hv:=hk1 _ _ hV.symm
  simp only[List.length_nil,show decide (3<0)=false from rfl,Bool.or_false]at hv
  simp(disch:=omega)
  exact fin _ [] .full _ _ _ (by omega) hv fun j hj=>by rw[look_ne (by omega),look_ne (by omega),look_ne (by omega)];rfl
 rw[if_pos h1]at hV
 have h1l:=isM_lt h1
 obtain⟨p,hp⟩:∃p,i+1+1=p:=⟨_,rfl⟩
 have hp2:i+2=p:=hp
 have hp3:i+3=p+1:=by omega
 have hwp:IntKind.wrap .i64 ((i:Int)+1+1)=(p:Int):=by rw[wrap_id (by omega) (by omega)];omega
 rw[hp2,hp3]at hV
 have hpl:p<=L.length:=by omega
 obtain⟨W,hW⟩:∃W,oneA L p=W:=⟨_,rfl⟩
 have hV2:finA L R[i].s W=V:=by
  rw[<-hW,<-hV]
  unfold oneA
  cases termP L p with
  |none=>rfl
  |some t=>
   simp only
   cases argsLp L (p+1) [t]<;>rfl
 unfold oneA at hW
 clear hV
 simp(disch:=omega)[hlp,putO_putO,hwp]
 refine t_rtermJ hR hpl (own:=own) (b:=b) (by simp(disch:=omega)[putO_putO,hlp]) fun t k1 bad1 hj1 hk1l n5 hn5=>?_
 have hinv:(bad1=-1/\argsLp L k1 [t]=W)\/(0<=bad1/\∃e,W=.error e/\bad1=atR R e):=by
  rcases hj1 with⟨e1,e2,e3⟩|⟨e1,e2,e3⟩
  ·rw[e3]at hW
   rw[e2]
   exact .inl ⟨e1,hW⟩
  ·rw[e3]at hW
   exact .inr ⟨by rw[e1];exact hR.at0 hpl,p,hW.symm,e1⟩
 have hkp:p<=k1:=by rcases hj1 with⟨_,e2,_⟩|⟨_,e2,_⟩<;>omega
 simp(disch:=omega)[hlp,putO_putO]
 refine effP_ap ?_
 simp(disch:=omega)
 obtain⟨ow1,ob1,m1,e1,hr1,hm1⟩:=row_apY (sz:=3) (es:=[]) (own:=.full) (Y:=[termL t]) (H:=⟨(n3+1,.cells [.str R[i].s,Nl])::(n3,.cells (rtokC R[i]))::(n,.cells [.str ⟨⟨[]⟩⟩,Nl])::putO m (rparC R own k1 bad1 b) ob,n5⟩) (by omega) rfl rfl (by simp) (.inl ⟨rfl,rfl,Nat.le_refl _⟩)
 have hold:=hr1.old
 dsimp only at hold
 have ka:look (n3+1) ob1=some (.cells [.str R[i].s,Nl]):=by rw[hold.2 (n3+1) (by omega)];exact look_self _ _ _
 have hr2:=hr1.put (j:=n3+1) (x:=.cells [.str R[i].s,.sl ([t].map termL) ow1]) (by dsimp only;omega)
 dsimp only at hr2
 rw[putO_self]at hr2
 rw[e1]
 simp(disch:=omega)[ka]
 refine lP_enter (σ:=NNIk) (fun q=>(.nd (.ptr m 0) .nil (.nd (.ptr n 0) (.nd (.ptr (n3+1) 0) .nil .nil) .nil))) (fun q=>⟨q.ob,q.n⟩) (fun q=>L.length - q.i)
  (fun q=>RowT ⟨(n3+1,.cells [.str R[i].s,.sl (q.es.map termL) q.ow])::(n3,.cells (rtokC R[i]))::(n,.cells [.str ⟨⟨[]⟩⟩,Nl])::putO m (rparC R own q.i q.bad b) ob,n5⟩ 3 q.es.length q.ow q.ob q.n/\q.i<=L.length/\q.es.length<=q.i+1/\((q.bad=-1/\argsLp L q.i q.es=W)\/(0<=q.bad/\∃e,W=.error e/\q.bad=atR R e))) ⟨k1,m1,[t],ow1,putO (n3+1) (.cells [.str R[i].s,.sl ([t].map termL) ow1]) ob1,bad1⟩ ⟨hr2,hk1l,by simp,hinv⟩ (by simp[FT.Le,Wk]) ⟨HWk.refl _,fun h=>h⟩ ?_
 rintro⟨k,n6,es,ow,ob2,bad⟩ ⟨hr,hk2,hel,he⟩ hok
 dsimp only at hr hk2 hel he hok
 have hold2:=hr.old
 dsimp only at hold2
 have kb:look (n3+1) ob2=some (.cells [.str R[i].s,.sl (es.map termL) ow]):=by rw[hold2.2 (n3+1) (by omega)];exact look_self _ _ _
 have kz:look n ob2=some (.cells [.str ⟨⟨[]⟩⟩,Nl]):=by rw[hold2.2 n (by omega),look_ne (by omega),look_ne (by omega)];exact look_self _ _ _
 have kc:look m ob2=some (rparC R own k bad b):=by rw[hold2.2 m (by omega),look_ne (by omega),look_ne (by omega),look_ne (by omega)];exact hlp _
 have ko:∀j,j<n->look j ob2=look j (putO m (rparC R own k bad b) ob):=fun j hj=>by rw[hold2.2 j (by omega),look_ne (by omega),look_ne (by omega),look_ne (by omega)]
 have kp2:∀x,look m (putO m x ob2)=some x:=fun x=>look_putO kc
 have ko2:∀(x:LObj)(j:Nat),j<n->look j (putO m x ob2)=look j (putO m x ob):=fun x j hj=>by
  by_cases hjm:j=m
  ·subst hjm;rw[kp2,hlp]
  ·rw[look_putO_ne hjm,look_putO_ne hjm,ko j hj,look_putO_ne hjm]
 have ka2:∀x,look (n3+1) (putO m x ob2)=some (.cells [.str R[i].s,.sl (es.map termL) ow]):=fun x=>by rw[look_putO_ne (by omega)];exact kb
 have kn3:∀x,look n (putO m x ob2)=some (.cells [.str ⟨⟨[]⟩⟩,Nl]):=fun x=>by rw[look_putO_ne (by omega)];exact kz
 have kn2:∀x y,look n (putO n y (putO m x ob2))=some y:=fun x y=>look_putO (kn3 x)
 have last:∀(y X:LObj)(m':Nat),n<=m'->(∀n',n<=n'->kv (atomL ⟨R[i].s,es⟩) ⟨putO m X ob,n'⟩)->∃v',Wk (.agg [.str R[i].s,.sl (es.map termL) ow]) v'/\∃H'',HWk ⟨putO n y (putO m X ob2),m'⟩ H''/\(LHeap.Ok ⟨putO n y (putO m X ob2),m'⟩->H''.Ok)/\kv v' H'':=fun y X m' hm' h=>
  fin _ es ow X _ m' hm' h fun j hj=>by rw[look_putO_ne (by omega)];exact ko2 _ j hj
 rcases he with⟨hbad,he⟩|⟨hbad,e,hWe,hbe⟩
 case inr=>
  have hne:¬bad<0:=by omega
  rw[hWe]at hV2
  have hv:=fun b' n'=>hk0 e hV2.symm ⟨R[i].s,es⟩ k b' n' hk2
  simp(disch:=omega)[kc,hne]
  refine t_want1 kc hbad bClose fun n8 hn8=>?_
  rw[<-hbe]at hv
  cases b
  ·simp(disch:=omega)[kc,kb,kp2,kn2,kn3,ka2,putO_putO]
   exact last _ (rparC R own k bad (decide ((3:Int)<(es.length:Int)))) _ (by omega) (hv _)
  ·simp(disch:=omega)[kc,kb,kp2,kn2,kn3,ka2,putO_putO]
   exact last _ (rparC R own k bad true) _ (by omega) (hv _)
 subst hbad
 simp(disch:=omega)[kc]
 refine t_ris hR.lim (hR.lt hk2) kc bComma fun n7 hn7=>?_
 rw[hR.is hk2]
 cases h2:isM L k bComma
 ·rw[argsLp_no h2]at he
  subst he
  unfold finA at hV2
  simp only at hV2
  simp(disch:=omega)
  refine t_want0 hR.lim (hR.lt hk2) kc bClose (fun h3 n8 hn8=>?_) (fun h3 n8 hn8=>?_)
  ·rw[hR.is hk2]at h3
   rw[if_neg (by rw[h3];simp)]at hV2
   have hv:=fun b' n'=>hk0 k hV2.symm ⟨R[i].s,es⟩ k b' n' hk2
   rw[atR_of (hR.lt hk2)]
   cases b
   ·simp(disch:=omega)[kc,kb,kp2,kn2,kn3,ka2,putO_putO]
    exact last _ (rparC R own k (atR R k) (decide ((3:Int)<(es.length:Int)))) _ (by omega) (hv _)
   ·simp(disch:=omega)[kc,kb,kp2,kn2,kn3,ka2,putO_putO]
    exact last _ (rparC R own k (atR R k) true) _ (by omega) (hv _)
  ·rw[hR.is hk2]at h3
   rw[if_pos h3]at hV2
   have hv:=hk1 _ _ hV2.symm
   cases b
   ·rw[Bool.false_or,show decide (3<es.length)=decide ((3:Int)<(es.length:Int)) from decide_eq_decide.2 (by omega)]at hv
    simp(disch:=omega)[kc,kb,kp2,kn2,kn3,ka2,putO_putO]
    exact last _ (rparC R own (k+1) (-1) (decide ((3:Int)<(es.length:Int)))) _ (by omega) hv
   ·rw[Bool.true_or]at hv
    simp(disch:=omega)[kc,kb,kp2,kn2,kn3,ka2,putO_putO]
    exact last _ (rparC R own (k+1) (-1) true) _ (by omega) hv
 have h2l:=isM_lt h2
 have hq1:k+1<=L.length:=h2l
 simp(disch:=omega)[kc,kb,kp2,ka2,putO_putO,wrap_nat (show k<2^62 by omega)]
 refine t_rtermJ hR hq1 (own:=own) (b:=b) (kp2 _) fun t2 k3 bad3 hj3 hk3l n8 hn8=>?_
 have hinv3:(bad3=-1/\argsLp L k3 (es++[t2])=W)\/(0<=bad3/\∃e,W=.error e/\bad3=atR R e):=by
  rcases hj3 with⟨e1,e2,e3⟩|⟨e1,e2,e3⟩
  ·rw[argsLp_go h2 e3]at he
   rw[e2]
   exact .inl ⟨e1,he⟩
  ·rw[argsLp_bad h2 e3]at he
   exact .inr ⟨by rw[e1];exact hR.at0 hq1,k+1,he.symm,e1⟩
 have hkp3:k+1<=k3:=by rcases hj3 with⟨_,e2,_⟩|⟨_,e2,_⟩<;>omega
 have hr3:=(hr.put (j:=m) (x:=rparC R own k3 bad3 b) (by dsimp only;omega)).mono (show n6<=n8 by omega)
 dsimp only at hr3
 rw[putO_ne (by omega),putO_ne (by omega),putO_ne (by omega),putO_putO]at hr3
 simp(disch:=omega)[ka2,putO_putO]
 refine effP_ap ?_
 simp(disch:=omega)
 obtain⟨ow3,ob3,m3,e3,hr4,hm3⟩:=row_apY (sz:=3) (es:=es.map termL) (Y:=[termL t2]) (by omega) (terms_all es) rfl (by simp;omega) (by rw[List.length_map];exact hr3)
 rw[List.length_map,List.length_singleton]at hr4
 have hold4:=hr4.old
 dsimp only at hold4
 have ka4:look (n3+1) ob3=some (.cells [.str R[i].s,.sl (es.map termL) ow]):=by rw[hold4.2 (n3+1) (by omega)];exact look_self _ _ _
 have e4:es.map termL++[termL t2]=(es++[t2]).map termL:=by simp
 rw[e4]at e3
 have hr5:=hr4.put (j:=n3+1) (x:=.cells [.str R[i].s,.sl ((es++[t2]).map termL) ow3]) (by dsimp only;omega)
 dsimp only at hr5
 rw[putO_self]at hr5
 rw[e3]
 simp(disch:=omega)[ka4]
 exact⟨⟨k3,m3,es++[t2],ow3,putO (n3+1) (.cells [.str R[i].s,.sl ((es++[t2]).map termL) ow3]) ob3,bad3⟩,by dsimp only;omega,⟨by rw[List.length_append,List.length_singleton];exact hr5,by dsimp only;omega,by simp;omega,hinv3⟩,by simp[FT.Le,Wk],by simp;exact HWk.refl _,by simp⟩
end
section
variable{L:List Tok}{R:List RTok}{own:Own}{i:Nat}{b:Bool}{m n:Nat}{ob:List (Nat×LObj)}
set_option maxHeartbeats 2000000 in
theorem t_rliteral(hR:RelT L R)(hi:i<=L.length)(hl:look m ob=some (rparC R own i (-1) b)){kv kp:HP}
  (hk0:∀e,litP L i=.error e->∀l j' b' n',j'<=L.length->n<=n'->kv (litL l) ⟨putO m (rparC R own j' (atR R e) b') ob,n'⟩)
  (hk1:∀l j,litP L i=.ok (l,j)->∀n',n<=n'->kv (litL l) ⟨putO m (rparC R own j (-1) (b||litBig l)) ob,n'⟩):
  cP E0 F0 67 [.ptr m 0] ⟨ob,n⟩ kv kp:=by
 refine cP_of_fnB c67 fun hH=>⟨Nat.le_of_ble_eq_true rfl,?_⟩
 have hOb:Desc ob n:=hH
 have hm:m<n:=hH.look hl
 have hi':=hR.lt hi
 have hlim:=hR.lim
 have hlen:=hR.len
 have hlp:∀x,look m (putO m x ob)=some x:=fun x=>look_putO hl
 obtain⟨V,hV⟩:∃V,litP L i=V:=⟨_,rfl⟩
 rw[hV]at hk0 hk1
 have fin:∀(l:Lit)(X:LObj)(ob':List (Nat×LObj))(m':Nat),n<=m'->(∀n',n<=n'->kv (litL l) ⟨putO m X ob,n'⟩)->(∀k,k<n->look k ob'=look k (putO m X ob)) ->
   ∃v',Wk (litL l) v'/\∃H'',HWk ⟨ob',m'⟩ H''/\(LHeap.Ok ⟨ob',m'⟩->H''.Ok)/\kv v' H'':=fun l X ob' m' hm' h ho=>
  ⟨_,.inl rfl,⟨putO m X ob,m'⟩,hwk_old (n:=n) (show LHeap.Ok ⟨putO m X ob,n⟩ from hOb.put) ho (Nat.le_refl _),fun _=>hOb.put.mono hm',h m' hm'⟩
 unfold litP at hV
 simp(disch:=omega)[b67]
 refine t_ris hR.lim hi' (own:=own) (bad:=-1) (b:=b) (by rw[look_ne (by omega)];exact hl) bNot fun n3 hn3=>?_
 rw[hR.is hi]
 cases h1:isM L i bNot
 case true=>
  rw[if_pos h1]at hV
  have hp1:i+1<=L.length:=isM_lt h1
  simp(disch:=omega)[hl,wrap_nat (show i<2^62 by omega)]
  refine t_ratom hR hp1 (own:=own) (b:=b) (by simp(disch:=omega)[putO_putO,hlp]) (fun e he a j' b' n6 hj' hn6=>?_) (fun a j he n6 hn6=>?_)
  ·rw[he]at hV
   simp(disch:=omega)[putO_putO]
   exact fin ⟨2,a,term0,term0⟩ _ _ _ (by omega) (fun n'=>hk0 e hV.symm _ j' b' n' hj') fun j hj=>by simp(disch:=omega)[putO_putO]
  ·rw[he]at hV
   simp(disch:=omega)[putO_putO]
   exact fin ⟨2,a,term0,term0⟩ (rparC R own j (-1) (b||decide (3<a.args.length))) _ _ (by omega) (hk1 _ _ hV.symm) fun j hj=>by simp(disch:=omega)[putO_putO]
 rw[if_neg (by rw[h1];simp)]at hV
 simp(disch:=omega)
 refine t_now hR.lim hi' (own:=own) (bad:=-1) (b:=b) (by rw[look_ne (by omega)];exact hl) fun n4 hn4=>?_
 simp(disch:=omega)
 refine t_comparison hR hi (own:=own) (bad:=-1) (b:=b) (by rw[look_ne (by omega),look_ne (by omega)];exact hl) fun n5 hn5=>?_
 obtain⟨C,hC⟩:∃C,anyM L (i+1) opsB=C:=⟨_,rfl⟩
 rw[hC]at hV ⊢
 by_cases hk:R[i].kind=1/\C=false
 ·obtain⟨hk,rfl⟩:=hk
  have hk':kAt L i=1:=by
   have h2:=hR.kAt hi
   rw[hk]at h2
   by_cases h:i<L.length
   ·rw[if_pos h]at h2;exact h2.symm
   ·rw[if_neg h]at h2;exact absurd h2 (by decide)
  rw[if_pos ⟨hk',rfl⟩]at hV
  simp(disch:=omega)[hk]
  refine t_ratom hR hi (own:=own) (b:=b) (by rw[look_ne (by omega),look_ne (by omega)];exact hl) (fun e he a j' b' n6 hj' hn6=>?_) (fun a j he n6 hn6=>?_)
  ·rw[he]at hV
   simp(disch:=omega)[putO_putO]
   exact fin ⟨1,a,term0,term0⟩ _ _ _ (by omega) (fun n'=>hk0 e hV.symm _ j' b' n' hj') fun j hj=>by simp(disch:=omega)[putO_putO]
  ·rw[he]at hV
   simp(disch:=omega)[putO_putO]
   exact fin ⟨1,a,term0,term0⟩ (rparC R own j (-1) (b||decide (3<a.args.length))) _ _ (by omega) (hk1 _ _ hV.symm) fun j hj=>by simp(disch:=omega)[putO_putO]
 have hk2:¬(kAt L i=1/\C=false):=by
  rintro⟨h2,h3⟩
  have h4:=hR.kAt hi
  rw[if_pos (kAt1_lt h2),h2]at h4
  exact hk ⟨h4,h3⟩
 rw[if_neg hk2]at hV
 have hkc:R[i].kind=1->C=true:=fun h=>by
  cases C
  ·exact absurd ⟨h,rfl⟩ hk
  ·rfl
 by_cases hk1':R[i].kind=1
 ·have:=hkc hk1'
  subst this
  simp(disch:=omega)[hk1']
  refine t_rtermJ hR hi (own:=own) (b:=b) (by rw[look_ne (by omega),look_ne (by omega)];exact hl) fun t k1 bad1 hj1 hk1l n6 hn6=>?_
  rcases hj1 with⟨e1,e2,e3⟩|⟨e1,e2,e3⟩
  ·rw[e3]at hV
   simp only at hV
   subst e1 e2
   simp(disch:=omega)[putO_putO]
   refine t_rcompared0 hR hk1l (own:=own) (b:=b) (by simp(disch:=omega)[putO_putO,hlp]) t (fun e he l j' b' n7 hj' hn7=>?_) (fun l j he n7 hn7=>?_)
   ·rw[he]at hV
    simp(disch:=omega)[putO_putO]
    exact fin l _ _ _ (by omega) (fun n'=>hk0 e hV.symm _ j' b' n' hj') fun j hj=>by simp(disch:=omega)[putO_putO]
   ·rw[he]at hV
    have hv:=hk1 _ _ hV.symm
    rw[opP_big he,Bool.or_false]at hv
    simp(disch:=omega)[putO_putO]
    exact fin l (rparC R own j (-1) b) _ _ (by omega) hv fun j hj=>by simp(disch:=omega)[putO_putO]
  ·rw[e3]at hV
   simp only at hV
   subst e1 e2
   simp(disch:=omega)[putO_putO]
   refine t_rcompared1 hR hi (own:=own) (b:=b) (by simp(disch:=omega)[putO_putO,hlp]) (hR.at0 hi) t fun n7 hn7=>?_
   simp(disch:=omega)[putO_putO]
   exact fin lit0 (rparC R own k1 (atR R k1) b) _ _ (by omega) (fun n'=>hk0 k1 hV.symm _ k1 b n' hi) fun j hj=>by simp(disch:=omega)[putO_putO]
 ·simp(disch:=omega)[hk1']
  refine t_rtermJ hR hi (own:=own) (b:=b) (by rw[look_ne (by omega),look_ne (by omega)];exact hl) fun t k1 bad1 hj1 hk1l n6 hn6=>?_
  rcases hj1 with⟨e1,e2,e3⟩|⟨e1,e2,e3⟩
  ·rw[e3]at hV
   simp only at hV
   subst e1 e2
   simp(disch:=omega)[putO_putO]
   refine t_rcompared0 hR hk1l (own:=own) (b:=b) (by simp(disch:=omega)[putO_putO,hlp]) t (fun e he l j' b' n7 hj' hn7=>?_) (fun l j he n7 hn7=>?_)
   ·rw[he]at hV
    simp(disch:=omega)[putO_putO]
    exact fin l _ _ _ (by omega) (fun n'=>hk0 e hV.symm _ j' b' n' hj') fun j hj=>by simp(disch:=omega)[putO_putO]
   ·rw[he]at hV
    have hv:=hk1 _ _ hV.symm
    rw[opP_big he,Bool.or_false]at hv
    simp(disch:=omega)[putO_putO]
    exact fin l (rparC R own j (-1) b) _ _ (by omega) hv fun j hj=>by simp(disch:=omega)[putO_putO]
  ·rw[e3]at hV
   simp only at hV
   subst e1 e2
   simp(disch:=omega)[putO_putO]
   refine t_rcompared1 hR hi (own:=own) (b:=b) (by simp(disch:=omega)[putO_putO,hlp]) (hR.at0 hi) t fun n7 hn7=>?_
   simp(disch:=omega)[putO_putO]
   exact fin lit0 (rparC R own k1 (atR R k1) b) _ _ (by omega) (fun n'=>hk0 k1 hV.symm _ k1 b n' hi) fun j hj=>by simp(disch:=omega)[putO_putO]
end
def litsLp(L:List Tok)(i:Nat)(acc:List Lit):Except Nat (List Lit×Nat):=
 if _h:isM L i bComma=true then
  match _hm:litP L (i+1) with
  |.error e=>.error e
  |.ok (l,j)=>litsLp L j (acc++[l])
 else .ok (acc,i)
termination_by L.length - i
decreasing_by
 have h1:=isM_lt _h
 have h2:=(litP_le (show i+1<=L.length from h1)).1 _ _ _hm
 omega
theorem litsLp_no{L:List Tok}{i:Nat}{acc:List Lit}(h:isM L i bComma=false):litsLp L i acc=.ok (acc,i):=by
 unfold litsLp
 rw[dif_neg (by rw[h];simp)]
theorem litsLp_bad{L:List Tok}{i e:Nat}{acc:List Lit}(h:isM L i bComma=true)(ht:litP L (i+1)=.error e):litsLp L i acc=.error e:=by
 unfold litsLp
 rw[dif_pos h]
 split
 ·rename_i e2 h2
  rw[ht]at h2
  cases h2
  rfl
 ·rename_i l j h2
  rw[ht]at h2
  cases h2
theorem litsLp_go{L:List Tok}{i j:Nat}{acc:List Lit}{l:Lit}(h:isM L i bComma=true)(ht:litP L (i+1)=.ok (l,j)):litsLp L i acc=litsLp L j (acc++[l]):=by
 conv=>lhs;unfold litsLp
 rw[dif_pos h]
 split
 ·rename_i e2 h2
  rw[ht]at h2
  cases h2
 ·rename_i l2 j2 h2
  rw[ht]at h2
  cases h2
  rfl
theorem litsLp_le{L:List Tok}:∀(k i:Nat)(acc:List Lit),L.length - i<=k->i<=L.length ->
  (∀ts j,litsLp L i acc=.ok (ts,j)->i<=j/\j<=L.length)/\(∀e,litsLp L i acc=.error e->e<=L.length)
 |k,i,acc,hk,hi=>by
  cases h:isM L i bComma
  ·rw[litsLp_no h]
   exact⟨fun ts j e=>by cases e;exact⟨Nat.le_refl _,hi⟩,fun e he=>by cases he⟩
  have hlt:=isM_lt h
  obtain⟨q1,q2⟩:=litP_le (show i+1<=L.length from hlt)
  cases ht:litP L (i+1) with
  |error e=>
   rw[litsLp_bad h ht]
   exact⟨fun ts j e=>(by cases e),fun e he=>by cases he;exact q2 _ ht⟩
  |ok v=>
   obtain⟨l,j⟩:=v
   rw[litsLp_go h ht]
   obtain⟨r1,r2⟩:=q1 l j ht
   match k with
   |0=>omega
   |k+1=>
    obtain⟨s1,s2⟩:=litsLp_le (L:=L) k j (acc++[l]) (by omega) r2
    exact⟨fun ts j2 e=>by
     obtain⟨u1,u2⟩:=s1 ts j2 e
     exact⟨by omega,u2⟩,s2⟩
def finP(L:List Tok)(h:Atom)(ls:List Lit)(j:Nat):Except Nat (Clause×Nat):=if isM L j bDot=true then .ok (⟨h,ls⟩,j+1) else .error j
def bodyP(L:List Tok)(h:Atom)(j:Nat):Except Nat (Clause×Nat):=
 match litP L j with
 |.error e=>.error e
 |.ok (l,k)=>match litsLp L k [l] with
  |.error e=>.error e
  |.ok (ls,k2)=>finP L h ls k2
def clauseP(L:List Tok)(i:Nat):Except Nat (Clause×Nat):=
 match atomP L i with
 |.error e=>.error e
 |.ok (h,j)=>if isM L j bIf=true then bodyP L h (j+1) else finP L h [] j
def clBig(c:Clause):Bool:=(decide (3<c.head.args.length)||c.body.any litBig)||decide (5<c.body.length)
theorem finP_le{L:List Tok}{h:Atom}{ls:List Lit}{i:Nat}(hi:i<=L.length):(∀a j,finP L h ls i=.ok (a,j)->i<j/\j<=L.length)/\(∀e,finP L h ls i=.error e->e<=L.length):=by
 unfold finP
 cases h1:isM L i bDot
 ·rw[if_neg (by simp)]
  exact⟨fun a j e=>(by cases e),fun e he=>by cases he;exact hi⟩
 ·rw[if_pos rfl]
  have:=isM_lt h1
  exact⟨fun a j e=>by cases e;exact⟨by omega,by omega⟩,fun e he=>by cases he⟩
theorem clauseP_le{L:List Tok}{i:Nat}(hi:i<=L.length):(∀a j,clauseP L i=.ok (a,j)->i<j/\j<=L.length)/\(∀e,clauseP L i=.error e->e<=L.length):=by
 unfold clauseP
 obtain⟨q1,q2⟩:=atomP_le hi
 cases ha:atomP L i with
 |error e=>exact⟨fun a j e=>(by cases e),fun e he=>by cases he;exact q2 _ ha⟩
 |ok v=>
  obtain⟨h,j⟩:=v
  obtain⟨r1,r2⟩:=q1 h j ha
  simp only
  cases h1:isM L j bIf
  ·rw[if_neg (by simp)]
   obtain⟨s1,s2⟩:=finP_le (h:=h) (ls:=[]) r2
   exact⟨fun a j2 e=>by
    have:=s1 a j2 e
    exact⟨by omega,this.2⟩,s2⟩
  rw[if_pos rfl]
  unfold bodyP
  have hl:=isM_lt h1
  obtain⟨s1,s2⟩:=litP_le (show j+1<=L.length from hl)
  cases hb:litP L (j+1) with
  |error e=>exact⟨fun a j e=>(by cases e),fun e he=>by cases he;exact s2 _ hb⟩
  |ok v=>
   obtain⟨l,k⟩:=v
   obtain⟨t1,t2⟩:=s1 l k hb
   simp only
   obtain⟨u1,u2⟩:=litsLp_le (L:=L) _ k [l] (Nat.le_refl _) t2
   cases hc:litsLp L k [l] with
   |error e=>exact⟨fun a j e=>(by cases e),fun e he=>by cases he;exact u2 _ hc⟩
   |ok v=>
    obtain⟨ls,k2⟩:=v
    obtain⟨v1,v2⟩:=u1 ls k2 hc
    simp only
    obtain⟨w1,w2⟩:=finP_le (h:=h) (ls:=ls) v2
    exact⟨fun a j2 e=>by
     have:=w1 a j2 e
     exact⟨by omega,this.2⟩,w2⟩
theorem strip_clauseO(h:Atom)(ls:List Lit)(ow:Own):Wk (.agg [.str h.pred,argsL h.args,.sl (ls.map litL) ow]) (clauseL ⟨h,ls⟩):=by
 refine .inr (.inl ?_)
 simp[LV.strip,stripL,stripL_map,List.map_map,Function.comp_def]
theorem lits_all(l:List Lit):(l.map litL).all (fun e=>e.cells.length==9)=true:=by simp[LV.cells]
structure NNIg where
 i:Nat
 n:Nat
 es:List Lit
 ow:Own
 ob:List (Nat×LObj)
 b:Bool
section
variable{L:List Tok}{own:Own}{i:Nat}{b:Bool}{m n:Nat}{ob:List (Nat×LObj)}
set_option maxHeartbeats 2000000 in
theorem t_clause(hL:L.length<=2^20)(hN:NumOk L)(hi:i<=L.length)(hl:look m ob=some (parC L own i b)){kv kp:HP}
  (hk0:∀e,clauseP L i=.error e->∀b' n',n<=n'->kp faultV ⟨putO m (parC L own e b') ob,n'⟩)
  (hk1:∀c j,clauseP L i=.ok (c,j)->∀n',n<=n'->kv (clauseL c) ⟨putO m (parC L own j (b||clBig c)) ob,n'⟩):
  cP E0 F0 27 [.ptr m 0] ⟨ob,n⟩ kv kp:=by
 refine cP_of_fnB c27 fun hH=>⟨Nat.le_of_ble_eq_true rfl,?_⟩
 have hOb:Desc ob n:=hH
 have hm:m<n:=hH.look hl
 have hlp:∀x,look m (putO m x ob)=some x:=fun x=>look_putO hl
 obtain⟨V,hV⟩:∃V,clauseP L i=V:=⟨_,rfl⟩
 have fin0:∀(e:Nat)(b':Bool)(ob':List (Nat×LObj))(m':Nat),V=.error e->n<=m'->(∀j,j<n->look j ob'=look j (putO m (parC L own e b') ob))->∃H'',HWk ⟨ob',m'⟩ H''/\(LHeap.Ok ⟨ob',m'⟩->H''.Ok)/\kp faultV H'':=fun e b' ob' m' he hm' ho=>
  ⟨⟨putO m (parC L own e b') ob,m'⟩,hwk_old (n:=n) (show LHeap.Ok ⟨putO m (parC L own e b') ob,n⟩ from hOb.put) ho (Nat.le_refl _),fun _=>hOb.put.mono hm',hk0 e (by rw[hV,he]) b' m' hm'⟩
 have fin1:∀(h:Atom)(ls:List Lit)(ow:Own)(j:Nat)(b':Bool)(ob':List (Nat×LObj))(m':Nat),V=.ok (⟨h,ls⟩,j)->(b||clBig ⟨h,ls⟩)=b'->n<=m'->(∀k,k<n->look k ob'=look k (putO m (parC L own j b') ob)) ->
   ∃v',Wk (.agg [.str h.pred,argsL h.args,.sl (ls.map litL) ow]) v'/\∃H'',HWk ⟨ob',m'⟩ H''/\(LHeap.Ok ⟨ob',m'⟩->H''.Ok)/\kv v' H'':=fun h ls ow j b' ob' m' he hb hm' ho=>by
  subst hb
  exact⟨_,strip_clauseO h ls ow,⟨putO m (parC L own j (b||clBig ⟨h,ls⟩)) ob,m'⟩,hwk_old (n:=n) (show LHeap.Ok ⟨putO m (parC L own j (b||clBig ⟨h,ls⟩)) ob,n⟩ from hOb.put) ho (Nat.le_refl _),fun _=>hOb.put.mono hm',hk1 _ _ (by rw[hV,he]) m' hm'⟩
 unfold clauseP at hV
 obtain⟨_,alt⟩:=atomP_le hi
 simp(disch:=omega)[b27]
 refine t_atom hL hN hi (b:=b) (own:=own) (by rw[look_ne (by omega)];exact hl) (fun e he n3 hn3=>?_) (fun hd p he n3 hn3=>?_)
 ·rw[he]at hV
  simp(disch:=omega)
  exact fin0 e b _ n3 hV.symm (by omega) fun j hj=>by simp(disch:=omega)[putO_putO]
 rw[he]at hV
 simp only at hV
 obtain⟨hp1,hpl⟩:=(atomP_le hi).1 hd p he
 obtain⟨b1,hb1⟩:∃b1,(b||decide (3<hd.args.length))=b1:=⟨_,rfl⟩
 rw[hb1]
 simp(disch:=omega)[hlp,putO_putO]
 refine t_is hL hpl [bIf] (by simp) .full (b:=b1) (own:=own) (by simp(disch:=omega)[putO_putO,hlp]) (fun h1 n4 hn4=>?_) (fun h1 h1l n4 hn4=>?_)
 ·have h1':isM L p bIf=false:=by simpa [anyM] using h1
  rw[if_neg (by rw[h1'];simp)]at hV
  unfold finP at hV
  obtain⟨ob2,hob2⟩:∃ob2,(n3,LObj.cells [.str hd.pred,argsL hd.args,Nl])::(n,.cells [.str ⟨⟨[]⟩⟩,Nl,Nl])::putO m (parC L own p b1) ob=ob2:=⟨_,rfl⟩
  obtain⟨k,hk⟩:∃k,p=k:=⟨_,rfl⟩
  obtain⟨es,hes⟩:∃es:List Lit,es=[]:=⟨_,rfl⟩
  obtain⟨ow,how⟩:∃ow:Own,ow=.full:=⟨_,rfl⟩
  obtain⟨b2,hbb⟩:∃b2,b1=b2:=⟨_,rfl⟩
  have hk2:k<=L.length:=by omega
  have hb2:((b||decide (3<hd.args.length))||es.any litBig)=b2:=by rw[hb1,hes,<-hbb];simp
  have kb:look n3 ob2=some (.cells [.str hd.pred,argsL hd.args,.sl (es.map litL) ow]):=by rw[<-hob2,hes,how];exact look_self _ _ _
  have kz:look n ob2=some (.cells [.str ⟨⟨[]⟩⟩,Nl,Nl]):=by rw[<-hob2,look_ne (by omega)];exact look_self _ _ _
  have kc:look m ob2=some (parC L own k b2):=by rw[<-hob2,look_ne (by omega),look_ne (by omega),<-hk,<-hbb];exact hlp _
  have ko:∀j,j<n->look j ob2=look j (putO m (parC L own k b2) ob):=fun j hj=>by rw[<-hob2,look_ne (by omega),look_ne (by omega),<-hk,<-hbb]
  have kp2:∀x,look m (putO m x ob2)=some x:=fun x=>look_putO kc
  have ko2:∀(x:LObj)(j:Nat),j<n->look j (putO m x ob2)=look j (putO m x ob):=fun x j hj=>by
   by_cases hjm:j=m
   ·subst hjm;rw[kp2,hlp]
   ·rw[look_putO_ne hjm,look_putO_ne hjm,ko j hj,look_putO_ne hjm]
  rw[hk]at hV
  rw[hob2]
  rw[<-hes]at hV
  simp(disch:=omega)
  refine t_must hL hk2 bDot kc (fun h3 n8 hn8=>?_) (fun h3 h3l n8 hn8=>?_)
  ·rw[if_neg (by rw[h3];simp)]at hV
   simp(disch:=omega)
   exact fin0 k b2 _ n8 hV.symm (by omega) ko
  ·rw[if_pos h3]at hV
   have ka2:∀x,look n3 (putO m x ob2)=some (.cells [.str hd.pred,argsL hd.args,.sl (es.map litL) ow]):=fun x=>by rw[look_putO_ne (by omega)];exact kb
   have kn3:∀x,look n (putO m x ob2)=some (.cells [.str ⟨⟨[]⟩⟩,Nl,Nl]):=fun x=>by rw[look_putO_ne (by omega)];exact kz
   have kn2:∀x y,look n (putO n y (putO m x ob2))=some y:=fun x y=>look_putO (kn3 x)
   have last:∀(y:LObj)(b':Bool),(b2||decide (5<es.length))=b'->∃v',Wk (.agg [.str hd.pred,argsL hd.args,.sl (es.map litL) ow]) v'/\∃H'',HWk ⟨putO n y (putO m (parC L own (k+1) b') ob2),n8⟩ H''/\(LHeap.Ok ⟨putO n y (putO m (parC L own (k+1) b') ob2),n8⟩->H''.Ok)/\kv v' H'':=fun y b' hb=>
    fin1 hd es ow (k+1) b' _ n8 hV.symm (by rw[<-hb,<-hb2];unfold clBig;simp only[Bool.or_assoc]) (by omega) fun j hj=>by rw[look_putO_ne (by omega)];exact ko2 _ j hj
   cases b2
   ·simp(disch:=omega)[kp2,kn2,kn3,ka2,putO_putO]
    exact last _ (decide ((5:Int)<(es.length:Int))) (by rw[Bool.false_or];exact decide_eq_decide.2 (by omega))
   ·simp(disch:=omega)[kp2,kn2,kn3,ka2,putO_putO]
    exact last _ true rfl
 have h1':isM L p bIf=true:=by simpa [anyM] using h1
 rw[if_pos h1']at hV
 unfold bodyP at hV
 simp(disch:=omega)[hlp,putO_putO]
 obtain⟨_,llt⟩:=litP_le (show p+1<=L.length from h1l)
 refine t_literal hL hN (show p+1<=L.length from h1l) (b:=b1) (own:=own) (by simp(disch:=omega)[putO_putO,hlp]) (fun e he2 n5 hn5=>?_) (fun l q he2 n5 hn5=>?_)
 ·rw[he2]at hV
  simp(disch:=omega)[putO_putO]
  exact fin0 e b1 _ n5 hV.symm (by omega) fun j hj=>by simp(disch:=omega)[putO_putO]
 rw[he2]at hV
 simp only at hV
 obtain⟨hq1,hql⟩:=(litP_le (show p+1<=L.length from h1l)).1 l q he2
 obtain⟨W,hW⟩:∃W,litsLp L q [l]=W:=⟨_,rfl⟩
 rw[hW]at hV
 obtain⟨b3,hb3⟩:∃b3,(b1||litBig l)=b3:=⟨_,rfl⟩
 rw[hb3]
 simp(disch:=omega)[hlp,putO_putO]
 refine effP_ap ?_
 simp(disch:=omega)
 obtain⟨ow1,ob1,m1,e1,hr1,hm1⟩:=row_apY (sz:=9) (es:=[]) (own:=.full) (Y:=[litL l]) (H:=⟨(n3,.cells [.str hd.pred,argsL hd.args,Nl])::(n,.cells [.str ⟨⟨[]⟩⟩,Nl,Nl])::putO m (parC L own q b3) ob,n5⟩) (by omega) rfl rfl (by simp) (.inl ⟨rfl,rfl,Nat.le_refl _⟩)
 have hold:=hr1.old
 dsimp only at hold
 have ka:look n3 ob1=some (.cells [.str hd.pred,argsL hd.args,Nl]):=by rw[hold.2 n3 (by omega)];exact look_self _ _ _
 have hr2:=hr1.put (j:=n3) (x:=.cells [.str hd.pred,argsL hd.args,.sl ([l].map litL) ow1]) (by dsimp only;omega)
 dsimp only at hr2
 rw[putO_self]at hr2
 rw[e1]
 simp(disch:=omega)[ka]
 refine lP_enter (σ:=NNIg) (fun q=>(.nd (.ptr m 0) (.nd .bot (.nd (.ptr n3 0) .nil .nil) .nil) (.nd (.ptr n 0) .nil .nil))) (fun q=>⟨q.ob,q.n⟩) (fun q=>L.length - q.i)
  (fun q=>RowT ⟨(n3,.cells [.str hd.pred,argsL hd.args,.sl (q.es.map litL) q.ow])::(n,.cells [.str ⟨⟨[]⟩⟩,Nl,Nl])::putO m (parC L own q.i q.b) ob,n5⟩ 9 q.es.length q.ow q.ob q.n/\q.i<=L.length/\q.es.length<=q.i/\litsLp L q.i q.es=W/\((b||decide (3<hd.args.length))||q.es.any litBig)=q.b) ⟨q,m1,[l],ow1,putO n3 (.cells [.str hd.pred,argsL hd.args,.sl ([l].map litL) ow1]) ob1,b3⟩ ⟨hr2,hql,by simp;omega,hW,by rw[hb1,<-hb3];simp⟩ (by simp[FT.Le,Wk]) ⟨HWk.refl _,fun h=>h⟩ ?_
 rintro⟨k,n6,es,ow,ob2,b2⟩ ⟨hr,hk2,hel,he,hb2⟩ hok
 dsimp only at hr hk2 hel he hok hb2
 have hold2:=hr.old
 dsimp only at hold2
 have kb:look n3 ob2=some (.cells [.str hd.pred,argsL hd.args,.sl (es.map litL) ow]):=by rw[hold2.2 n3 (by omega)];exact look_self _ _ _
 have kz:look n ob2=some (.cells [.str ⟨⟨[]⟩⟩,Nl,Nl]):=by rw[hold2.2 n (by omega),look_ne (by omega)];exact look_self _ _ _
 have kc:look m ob2=some (parC L own k b2):=by rw[hold2.2 m (by omega),look_ne (by omega),look_ne (by omega)];exact hlp _
 have ko:∀j,j<n->look j ob2=look j (putO m (parC L own k b2) ob):=fun j hj=>by rw[hold2.2 j (by omega),look_ne (by omega),look_ne (by omega)]
 have kp2:∀x,look m (putO m x ob2)=some x:=fun x=>look_putO kc
 have ko2:∀(x:LObj)(j:Nat),j<n->look j (putO m x ob2)=look j (putO m x ob):=fun x j hj=>by
  by_cases hjm:j=m
  ·subst hjm;rw[kp2,hlp]
  ·rw[look_putO_ne hjm,look_putO_ne hjm,ko j hj,look_putO_ne hjm]
 simp(disch:=omega)
 refine t_is hL hk2 [bComma] (by simp) .full kc (fun h2 n7 hn7=>?_) (fun h2 h2l n7 hn7=>?_)
 ·have h2':isM L k bComma=false:=by simpa [anyM] using h2
  rw[litsLp_no h2']at he
  subst he
  simp only at hV
  unfold finP at hV
  simp(disch:=omega)
  refine t_must hL hk2 bDot kc (fun h3 n8 hn8=>?_) (fun h3 h3l n8 hn8=>?_)
  ·rw[if_neg (by rw[h3];simp)]at hV
   simp(disch:=omega)
   exact fin0 k b2 _ n8 hV.symm (by omega) ko
  ·rw[if_pos h3]at hV
   have ka2:∀x,look n3 (putO m x ob2)=some (.cells [.str hd.pred,argsL hd.args,.sl (es.map litL) ow]):=fun x=>by rw[look_putO_ne (by omega)];exact kb
   have kn3:∀x,look n (putO m x ob2)=some (.cells [.str ⟨⟨[]⟩⟩,Nl,Nl]):=fun x=>by rw[look_putO_ne (by omega)];exact kz
   have kn2:∀x y,look n (putO n y (putO m x ob2))=some y:=fun x y=>look_putO (kn3 x)
   have last:∀(y:LObj)(b':Bool),(b2||decide (5<es.length))=b'->∃v',Wk (.agg [.str hd.pred,argsL hd.args,.sl (es.map litL) ow]) v'/\∃H'',HWk ⟨putO n y (putO m (parC L own (k+1) b') ob2),n8⟩ H''/\(LHeap.Ok ⟨putO n y (putO m (parC L own (k+1) b') ob2),n8⟩->H''.Ok)/\kv v' H'':=fun y b' hb=>
    fin1 hd es ow (k+1) b' _ n8 hV.symm (by rw[<-hb,<-hb2];unfold clBig;simp only[Bool.or_assoc]) (by omega) fun j hj=>by rw[look_putO_ne (by omega)];exact ko2 _ j hj
   cases b2
   ·simp(disch:=omega)[kp2,kn2,kn3,ka2,putO_putO]
    exact last _ (decide ((5:Int)<(es.length:Int))) (by rw[Bool.false_or];exact decide_eq_decide.2 (by omega))
   ·simp(disch:=omega)[kp2,kn2,kn3,ka2,putO_putO]
    exact last _ true rfl
 ·have h2':isM L k bComma=true:=by simpa [anyM] using h2
  have ka2:∀x,look n3 (putO m x ob2)=some (.cells [.str hd.pred,argsL hd.args,.sl (es.map litL) ow]):=fun x=>by rw[look_putO_ne (by omega)];exact kb
  simp(disch:=omega)[ka2]
  refine t_literal hL hN (show k+1<=L.length from h2l) (b:=b2) (own:=own) (kp2 _) (fun e ht n8 hn8=>?_) (fun l2 s ht n8 hn8=>?_)
  ·rw[litsLp_bad h2' ht]at he
   subst he
   simp only at hV
   simp(disch:=omega)[putO_putO]
   exact fin0 e b2 _ n8 hV.symm (by omega) fun j hj=>ko2 _ j hj
  rw[litsLp_go h2' ht]at he
  obtain⟨hs1,hsl⟩:=(litP_le (show k+1<=L.length from h2l)).1 l2 s ht
  obtain⟨b4,hb4⟩:∃b4,(b2||litBig l2)=b4:=⟨_,rfl⟩
  rw[hb4]
  have hr3:=(hr.put (j:=m) (x:=parC L own s b4) (by dsimp only;omega)).mono (show n6<=n8 by omega)
  dsimp only at hr3
  rw[putO_ne (by omega),putO_ne (by omega),putO_putO]at hr3
  simp(disch:=omega)[ka2,putO_putO]
  refine effP_ap ?_
  simp(disch:=omega)
  obtain⟨ow3,ob3,m3,e3,hr4,hm3⟩:=row_apY (sz:=9) (es:=es.map litL) (Y:=[litL l2]) (by omega) (lits_all es) rfl (by simp;omega) (by rw[List.length_map];exact hr3)
  rw[List.length_map,List.length_singleton]at hr4
  have hold4:=hr4.old
  dsimp only at hold4
  have ka4:look n3 ob3=some (.cells [.str hd.pred,argsL hd.args,.sl (es.map litL) ow]):=by rw[hold4.2 n3 (by omega)];exact look_self _ _ _
  have e4:es.map litL++[litL l2]=(es++[l2]).map litL:=by simp
  rw[e4]at e3
  have hr5:=hr4.put (j:=n3) (x:=.cells [.str hd.pred,argsL hd.args,.sl ((es++[l2]).map litL) ow3]) (by dsimp only;omega)
  dsimp only at hr5
  rw[putO_self]at hr5
  rw[e3]
  simp(disch:=omega)[ka4]
  exact⟨⟨s,m3,es++[l2],ow3,putO n3 (.cells [.str hd.pred,argsL hd.args,.sl ((es++[l2]).map litL) ow3]) ob3,b4⟩,by dsimp only;omega,⟨by rw[List.length_append,List.length_singleton];exact hr5,by dsimp only;omega,by simp;omega,he,by rw[<-hb4,<-hb2];simp[Bool.or_assoc]⟩,by simp[FT.Le,Wk],by simp;exact HWk.refl _,by simp⟩
end
structure NNIm where
 i:Nat
 n:Nat
 es:List Lit
 ow:Own
 ob:List (Nat×LObj)
 bad:Int
 b:Bool
def finL(L:List Tok)(h:Atom):Except Nat (List Lit×Nat)->Except Nat (Clause×Nat)
 |.error e=>.error e
 |.ok (ls,k)=>finP L h ls k
def oneL(L:List Tok)(p:Nat):Except Nat (List Lit×Nat):=match litP L p with
 |.error e=>.error e
 |.ok (l,k)=>litsLp L k [l]
section
variable{L:List Tok}{R:List RTok}{own:Own}{i:Nat}{b:Bool}{m n:Nat}{ob:List (Nat×LObj)}
theorem t_ratomJ(hR:RelT L R)(hi:i<=L.length)(hl:look m ob=some (rparC R own i (-1) b)){kv kp:HP}
  (hk:∀a k1 bad1 b1,((bad1=-1/\atomP L i=.ok (a,k1)/\b1=(b||decide (3<a.args.length)))\/(0<=bad1/\∃e,atomP L i=.error e/\bad1=atR R e))->k1<=L.length->∀n',n<=n'->kv (atomL a) ⟨putO m (rparC R own k1 bad1 b1) ob,n'⟩):
  cP E0 F0 33 [.ptr m 0] ⟨ob,n⟩ kv kp:=
 t_ratom hR hi hl (fun e he a j' b' n' hj' hn'=>hk a j' _ b' (.inr ⟨hR.at0 ((atomP_le hi).2 e he),e,he,rfl⟩) hj' n' hn') fun a j he n' hn'=>hk a j (-1) _ (.inl ⟨rfl,he,rfl⟩) ((atomP_le hi).1 a j he).2 n' hn'
theorem t_rliteralJ(hR:RelT L R)(hi:i<=L.length)(hl:look m ob=some (rparC R own i (-1) b)){kv kp:HP}
  (hk:∀l k1 bad1 b1,((bad1=-1/\litP L i=.ok (l,k1)/\b1=(b||litBig l))\/(0<=bad1/\∃e,litP L i=.error e/\bad1=atR R e))->k1<=L.length->∀n',n<=n'->kv (litL l) ⟨putO m (rparC R own k1 bad1 b1) ob,n'⟩):
  cP E0 F0 67 [.ptr m 0] ⟨ob,n⟩ kv kp:=
 t_rliteral hR hi hl (fun e he a j' b' n' hj' hn'=>hk a j' _ b' (.inr ⟨hR.at0 ((litP_le hi).2 e he),e,he,rfl⟩) hj' n' hn') fun a j he n' hn'=>hk a j (-1) _ (.inl ⟨rfl,he,rfl⟩) ((litP_le hi).1 a j he).2 n' hn'
set_option maxHeartbeats 2000000 in
theorem t_rclause(hR:RelT L R)(hi:i<=L.length)(hl:look m ob=some (rparC R own i (-1) b)){kv kp:HP}
  (hk0:∀e,clauseP L i=.error e->∀c j' b' n',j'<=L.length->n<=n'->kv (clauseL c) ⟨putO m (rparC R own j' (atR R e) b') ob,n'⟩)
  (hk1:∀c j,clauseP L i=.ok (c,j)->∀n',n<=n'->kv (clauseL c) ⟨putO m (rparC R own j (-1) (b||clBig c)) ob,n'⟩):
  cP E0 F0 30 [.ptr m 0] ⟨ob,n⟩ kv kp:=by
 refine cP_of_fnB c30 fun hH=>⟨Nat.le_of_ble_eq_true rfl,?_⟩
 have hOb:Desc ob n:=hH
 have hm:m<n:=hH.look hl
 have hi':=hR.lt hi
 have hlim:=hR.lim
 have hlen:=hR.len
 have hlp:∀x,look m (putO m x ob)=some x:=fun x=>look_putO hl
 obtain⟨V,hV⟩:∃V,clauseP L i=V:=⟨_,rfl⟩
 rw[hV]at hk0 hk1
 have fin:∀(h:Atom)(ls:List Lit)(ow:Own)(X:LObj)(ob':List (Nat×LObj))(m':Nat),n<=m'->(∀n',n<=n'->kv (clauseL ⟨h,ls⟩) ⟨putO m X ob,n'⟩)->(∀k,k<n->look k ob'=look k (putO m X ob)) ->
   ∃v',Wk (.agg [.str h.pred,argsL h.args,.sl (ls.map litL) ow]) v'/\∃H'',HWk ⟨ob',m'⟩ H''/\(LHeap.Ok ⟨ob',m'⟩->H''.Ok)/\kv v' H'':=fun h ls ow X ob' m' hm' hq ho=>
  ⟨_,strip_clauseO h ls ow,⟨putO m X ob,m'⟩,hwk_old (n:=n) (show LHeap.Ok ⟨putO m X ob,n⟩ from hOb.put) ho (Nat.le_refl _),fun _=>hOb.put.mono hm',hq m' hm'⟩
 unfold clauseP at hV
 simp(disch:=omega)[b30]
 refine t_ratomJ hR hi (own:=own) (b:=b) (by rw[look_ne (by omega)];exact hl) fun hd p bad1 b1 hj1 hpl n3 hn3=>?_
 simp(disch:=omega)[hlp,putO_putO]
 rcases hj1 with⟨hbad1,ha1,hb1⟩|⟨hbad1,e1,he1,hbe1⟩
 case inr=>
  rw[he1]at hV
  have hne:¬bad1<0:=by omega
  obtain⟨ob2,hob2⟩:∃ob2,(n3,LObj.cells [.str hd.pred,argsL hd.args,Nl])::(n,.cells [.str ⟨⟨[]⟩⟩,Nl,Nl])::putO m (rparC R own p bad1 b1) ob=ob2:=⟨_,rfl⟩
  obtain⟨k,hk⟩:∃k,p=k:=⟨_,rfl⟩
  obtain⟨es,hes⟩:∃es:List Lit,es=[]:=⟨_,rfl⟩
  obtain⟨ow,how⟩:∃ow:Own,ow=.full:=⟨_,rfl⟩
  obtain⟨bad,hbd⟩:∃bad,bad1=bad:=⟨_,rfl⟩
  obtain⟨b2,hbb⟩:∃b2,b1=b2:=⟨_,rfl⟩
  have hk2:k<=L.length:=by omega
  have kb:look n3 ob2=some (.cells [.str hd.pred,argsL hd.args,.sl (es.map litL) ow]):=by rw[<-hob2,hes,how];exact look_self _ _ _
  have kz:look n ob2=some (.cells [.str ⟨⟨[]⟩⟩,Nl,Nl]):=by rw[<-hob2,look_ne (by omega)];exact look_self _ _ _
  have kc:look m ob2=some (rparC R own k bad b2):=by rw[<-hob2,look_ne (by omega),look_ne (by omega),<-hk,<-hbb,<-hbd];exact hlp _
  have ko:∀j,j<n->look j ob2=look j (putO m (rparC R own k bad b2) ob):=fun j hj=>by rw[<-hob2,look_ne (by omega),look_ne (by omega),<-hk,<-hbb,<-hbd]
  have kp2:∀x,look m (putO m x ob2)=some x:=fun x=>look_putO kc
  have ko2:∀(x:LObj)(j:Nat),j<n->look j (putO m x ob2)=look j (putO m x ob):=fun x j hj=>by
   by_cases hjm:j=m
   ·subst hjm;rw[kp2,hlp]
   ·rw[look_putO_ne hjm,look_putO_ne hjm,ko j hj,look_putO_ne hjm]
  have ka2:∀x,look n3 (putO m x ob2)=some (.cells [.str hd.pred,argsL hd.args,.sl (es.map litL) ow]):=fun x=>by rw[look_putO_ne (by omega)];exact kb
  have kn3:∀x,look n (putO m x ob2)=some (.cells [.str ⟨⟨[]⟩⟩,Nl,Nl]):=fun x=>by rw[look_putO_ne (by omega)];exact kz
  have kn2:∀x y,look n (putO n y (putO m x ob2))=some y:=fun x y=>look_putO (kn3 x)
  have last:∀(y X:LObj)(m':Nat),n<=m'->(∀n',n<=n'->kv (clauseL ⟨hd,es⟩) ⟨putO m X ob,n'⟩)->∃v',Wk (.agg [.str hd.pred,argsL hd.args,.sl (es.map litL) ow]) v'/\∃H'',HWk ⟨putO n y (putO m X ob2),m'⟩ H''/\(LHeap.Ok ⟨putO n y (putO m X ob2),m'⟩->H''.Ok)/\kv v' H'':=fun y X m' hm' h=>
   fin hd es ow X _ m' hm' h fun j hj=>by rw[look_putO_ne (by omega)];exact ko2 _ j hj
  obtain⟨e,hee⟩:∃e,e1=e:=⟨_,rfl⟩
  have hbad:0<=bad:=by omega
  have hVe:V=.error e:=by rw[<-hV,hee]
  have hbe:bad=atR R e:=by rw[<-hbd,<-hee];exact hbe1
  rw[hob2]
  simp(disch:=omega)[kc,hne]
  have hv:=fun b' n'=>hk0 e hVe ⟨hd,es⟩ k b' n' hk2
  rw[<-hbe]at hv
  refine t_want1 kc hbad bDot fun n8 hn8=>?_
  cases b2
  ·simp(disch:=omega)[kc,kb,kp2,kn2,kn3,ka2,putO_putO]
   exact last _ (rparC R own k bad (decide ((5:Int)<(es.length:Int)))) _ (by omega) (hv _)
  ·simp(disch:=omega)[kc,kb,kp2,kn2,kn3,ka2,putO_putO]
   exact last _ (rparC R own k bad true) _ (by omega) (hv _)
 rw[ha1]at hV
 simp only at hV
 obtain⟨hp1,_⟩:=(atomP_le hi).1 hd p ha1
 have hbad0:=hbad1
 subst hbad1
 simp(disch:=omega)
 refine t_ris hR.lim (hR.lt hpl) (own:=own) (bad:=-1) (b:=b1) (by simp(disch:=omega)[putO_putO,hlp]) bIf fun n4 hn4=>?_
 rw[hR.is hpl]
 cases h1:isM L p bIf
 ·rw[if_neg (by rw[h1];simp)]at hV
  obtain⟨ob2,hob2⟩:∃ob2,(n3,LObj.cells [.str hd.pred,argsL hd.args,Nl])::(n,.cells [.str ⟨⟨[]⟩⟩,Nl,Nl])::putO m (rparC R own p (-1) b1) ob=ob2:=⟨_,rfl⟩
  obtain⟨k,hk⟩:∃k,p=k:=⟨_,rfl⟩
  obtain⟨es,hes⟩:∃es:List Lit,es=[]:=⟨_,rfl⟩
  obtain⟨ow,how⟩:∃ow:Own,ow=.full:=⟨_,rfl⟩
  obtain⟨bad,hbd⟩:∃bad:Int,-1=bad:=⟨_,rfl⟩
  obtain⟨b2,hbb⟩:∃b2,b1=b2:=⟨_,rfl⟩
  have hk2:k<=L.length:=by omega
  have kb:look n3 ob2=some (.cells [.str hd.pred,argsL hd.args,.sl (es.map litL) ow]):=by rw[<-hob2,hes,how];exact look_self _ _ _
  have kz:look n ob2=some (.cells [.str ⟨⟨[]⟩⟩,Nl,Nl]):=by rw[<-hob2,look_ne (by omega)];exact look_self _ _ _
  have kc:look m ob2=some (rparC R own k bad b2):=by rw[<-hob2,look_ne (by omega),look_ne (by omega),<-hk,<-hbb,<-hbd];exact hlp _
  have ko:∀j,j<n->look j ob2=look j (putO m (rparC R own k bad b2) ob):=fun j hj=>by rw[<-hob2,look_ne (by omega),look_ne (by omega),<-hk,<-hbb,<-hbd]
  have kp2:∀x,look m (putO m x ob2)=some x:=fun x=>look_putO kc
  have ko2:∀(x:LObj)(j:Nat),j<n->look j (putO m x ob2)=look j (putO m x ob):=fun x j hj=>by
   by_cases hjm:j=m
   ·subst hjm;rw[kp2,hlp]
   ·rw[look_putO_ne hjm,look_putO_ne hjm,ko j hj,look_putO_ne hjm]
  have ka2:∀x,look n3 (putO m x ob2)=some (.cells [.str hd.pred,argsL hd.args,.sl (es.map litL) ow]):=fun x=>by rw[look_putO_ne (by omega)];exact kb
  have kn3:∀x,look n (putO m x ob2)=some (.cells [.str ⟨⟨[]⟩⟩,Nl,Nl]):=fun x=>by rw[look_putO_ne (by omega)];exact kz
  have kn2:∀x y,look n (putO n y (putO m x ob2))=some y:=fun x y=>look_putO (kn3 x)
  have last:∀(y X:LObj)(m':Nat),n<=m'->(∀n',n<=n'->kv (clauseL ⟨hd,es⟩) ⟨putO m X ob,n'⟩)->∃v',Wk (.agg [.str hd.pred,argsL hd.args,.sl (es.map litL) ow]) v'/\∃H'',HWk ⟨putO n y (putO m X ob2),m'⟩ H''/\(LHeap.Ok ⟨putO n y (putO m X ob2),m'⟩->H''.Ok)/\kv v' H'':=fun y X m' hm' h=>
   fin hd es ow X _ m' hm' h fun j hj=>by rw[look_putO_ne (by omega)];exact ko2 _ j hj
  have hbad:bad=-1:=hbd.symm
  have he:finP L hd es k=V:=by rw[hes,<-hk];exact hV
  have hb2:((b||decide (3<hd.args.length))||es.any litBig)=b2:=by rw[hes,<-hbb,hb1];simp
  rw[hob2]
  simp(disch:=omega)
  subst hbad
  unfold finP at he
  refine t_want0 hR.lim (hR.lt hk2) kc bDot (fun h3 n8 hn8=>?_) (fun h3 n8 hn8=>?_)
  ·rw[hR.is hk2]at h3
   rw[if_neg (by rw[h3];simp)]at he
   have hv:=fun b' n'=>hk0 k he.symm ⟨hd,es⟩ k b' n' hk2
   rw[atR_of (hR.lt hk2)]
   cases b2
   ·simp(disch:=omega)[kc,kb,kp2,kn2,kn3,ka2,putO_putO]
    exact last _ (rparC R own k (atR R k) (decide ((5:Int)<(es.length:Int)))) _ (by omega) (hv _)
   ·simp(disch:=omega)[kc,kb,kp2,kn2,kn3,ka2,putO_putO]
    exact last _ (rparC R own k (atR R k) true) _ (by omega) (hv _)
  ·rw[hR.is hk2]at h3
   rw[if_pos h3]at he
   have hv:=hk1 _ _ he.symm
   have hcb:(b||clBig ⟨hd,es⟩)=(b2||decide ((5:Int)<(es.length:Int))):=by
    rw[<-hb2,show decide ((5:Int)<(es.length:Int))=decide (5<es.length) from decide_eq_decide.2 (by omega)]
    unfold clBig
    simp only[Bool.or_assoc]
   rw[hcb]at hv
   cases b2
   ·rw[Bool.false_or]at hv
    simp(disch:=omega)[kc,kb,kp2,kn2,kn3,ka2,putO_putO]
    exact last _ (rparC R own (k+1) (-1) (decide ((5:Int)<(es.length:Int)))) _ (by omega) hv
   ·rw[Bool.true_or]at hv
    simp(disch:=omega)[kc,kb,kp2,kn2,kn3,ka2,putO_putO]
    exact last _ (rparC R own (k+1) (-1) true) _ (by omega) hv
 rw[if_pos h1]at hV
 have hq1:p+1<=L.length:=isM_lt h1
 obtain⟨W,hW⟩:∃W,oneL L (p+1)=W:=⟨_,rfl⟩
 have hV2:finL L hd W=V:=by
  rw[<-hW,<-hV]
  unfold oneL bodyP
  cases litP L (p+1) with
  |error e=>rfl
  |ok v=>
   obtain⟨l,k⟩:=v
   simp only
   cases litsLp L k [l]<;>rfl
 clear hV
 unfold oneL at hW
 simp(disch:=omega)[hlp,putO_putO,wrap_nat (show p<2^62 by omega)]
 refine t_rliteralJ hR hq1 (own:=own) (b:=b1) (by simp(disch:=omega)[putO_putO,hlp]) fun l k1 bad3 b3 hj3 hk1l n5 hn5=>?_
 have hinv:(bad3=-1/\p+1<k1/\litsLp L k1 [l]=W/\((b||decide (3<hd.args.length))||[l].any litBig)=b3)\/(0<=bad3/\∃e,W=.error e/\bad3=atR R e):=by
  rcases hj3 with⟨e1,e2,e3⟩|⟨e1,e,e2,e3⟩
  ·rw[e2]at hW
   exact .inl ⟨e1,((litP_le hq1).1 _ _ e2).1,hW,by rw[e3,hb1];simp⟩
  ·rw[e2]at hW
   exact .inr ⟨e1,e,hW.symm,e3⟩
 simp(disch:=omega)[hlp,putO_putO]
 refine effP_ap ?_
 simp(disch:=omega)
 obtain⟨ow1,ob1,m1,e1,hr1,hm1⟩:=row_apY (sz:=9) (es:=[]) (own:=.full) (Y:=[litL l]) (H:=⟨(n3,.cells [.str hd.pred,argsL hd.args,Nl])::(n,.cells [.str ⟨⟨[]⟩⟩,Nl,Nl])::putO m (rparC R own k1 bad3 b3) ob,n5⟩) (by omega) rfl rfl (by simp) (.inl ⟨rfl,rfl,Nat.le_refl _⟩)
 have hold:=hr1.old
 dsimp only at hold
 have ka:look n3 ob1=some (.cells [.str hd.pred,argsL hd.args,Nl]):=by rw[hold.2 n3 (by omega)];exact look_self _ _ _
 have hr2:=hr1.put (j:=n3) (x:=.cells [.str hd.pred,argsL hd.args,.sl ([l].map litL) ow1]) (by dsimp only;omega)
 dsimp only at hr2
 rw[putO_self]at hr2
 rw[e1]
 simp(disch:=omega)[ka]
 refine lP_enter (σ:=NNIm) (fun q=>(.nd (.ptr m 0) (.nd .bot (.nd (.ptr n3 0) .nil .nil) .nil) (.nd (.ptr n 0) .nil .nil))) (fun q=>⟨q.ob,q.n⟩) (fun q=>if q.bad<0 then L.length+1 - q.i else 0)
  (fun q=>RowT ⟨(n3,.cells [.str hd.pred,argsL hd.args,.sl (q.es.map litL) q.ow])::(n,.cells [.str ⟨⟨[]⟩⟩,Nl,Nl])::putO m (rparC R own q.i q.bad q.b) ob,n5⟩ 9 q.es.length q.ow q.ob q.n/\q.i<=L.length/\q.es.length<=2^21/\((q.bad=-1/\q.es.length<=q.i/\litsLp L q.i q.es=W/\((b||decide (3<hd.args.length))||q.es.any litBig)=q.b)\/(0<=q.bad/\∃e,W=.error e/\q.bad=atR R e))) ⟨k1,m1,[l],ow1,putO n3 (.cells [.str hd.pred,argsL hd.args,.sl ([l].map litL) ow1]) ob1,bad3,b3⟩ ⟨hr2,hk1l,by simp,by
   rcases hinv with⟨r1,r2,r3,r4⟩|h
   ·exact .inl ⟨r1,by simp;omega,r3,r4⟩
   ·exact .inr h⟩ (by simp[FT.Le,Wk]) ⟨HWk.refl _,fun h=>h⟩ ?_
 rintro⟨k,n6,es,ow,ob2,bad,b2⟩ ⟨hr,hk2,hel,he⟩ hok
 dsimp only at hr hk2 hel he hok
 have hold2:=hr.old
 dsimp only at hold2
 have kb:look n3 ob2=some (.cells [.str hd.pred,argsL hd.args,.sl (es.map litL) ow]):=by rw[hold2.2 n3 (by omega)];exact look_self _ _ _
 have kz:look n ob2=some (.cells [.str ⟨⟨[]⟩⟩,Nl,Nl]):=by rw[hold2.2 n (by omega),look_ne (by omega)];exact look_self _ _ _
 have kc:look m ob2=some (rparC R own k bad b2):=by rw[hold2.2 m (by omega),look_ne (by omega),look_ne (by omega)];exact hlp _
 have ko:∀j,j<n->look j ob2=look j (putO m (rparC R own k bad b2) ob):=fun j hj=>by rw[hold2.2 j (by omega),look_ne (by omega),look_ne (by omega)]
 have kp2:∀x,look m (putO m x ob2)=some x:=fun x=>look_putO kc
 have ko2:∀(x:LObj)(j:Nat),j<n->look j (putO m x ob2)=look j (putO m x ob):=fun x j hj=>by
  by_cases hjm:j=m
  ·subst hjm;rw[kp2,hlp]
  ·rw[look_putO_ne hjm,look_putO_ne hjm,ko j hj,look_putO_ne hjm]
 have ka2:∀x,look n3 (putO m x ob2)=some (.cells [.str hd.pred,argsL hd.args,.sl (es.map litL) ow]):=fun x=>by rw[look_putO_ne (by omega)];exact kb
 have kn3:∀x,look n (putO m x ob2)=some (.cells [.str ⟨⟨[]⟩⟩,Nl,Nl]):=fun x=>by rw[look_putO_ne (by omega)];exact kz
 have kn2:∀x y,look n (putO n y (putO m x ob2))=some y:=fun x y=>look_putO (kn3 x)
 have last:∀(y X:LObj)(m':Nat),n<=m'->(∀n',n<=n'->kv (clauseL ⟨hd,es⟩) ⟨putO m X ob,n'⟩)->∃v',Wk (.agg [.str hd.pred,argsL hd.args,.sl (es.map litL) ow]) v'/\∃H'',HWk ⟨putO n y (putO m X ob2),m'⟩ H''/\(LHeap.Ok ⟨putO n y (putO m X ob2),m'⟩->H''.Ok)/\kv v' H'':=fun y X m' hm' h=>
  fin hd es ow X _ m' hm' h fun j hj=>by rw[look_putO_ne (by omega)];exact ko2 _ j hj
 rcases he with⟨hbad,hel2,he,hb2⟩|⟨hbad,e,hWe,hbe⟩
 case inr=>
  have hne:¬bad<0:=by omega
  have hVe:V=.error e:=by rw[<-hV2,hWe];rfl
  simp(disch:=omega)[kc,hne]
  have hv:=fun b' n'=>hk0 e hVe ⟨hd,es⟩ k b' n' hk2
  rw[<-hbe]at hv
  refine t_want1 kc hbad bDot fun n8 hn8=>?_
  cases b2
  ·simp(disch:=omega)[kc,kb,kp2,kn2,kn3,ka2,putO_putO]
   exact last _ (rparC R own k bad (decide ((5:Int)<(es.length:Int)))) _ (by omega) (hv _)
  ·simp(disch:=omega)[kc,kb,kp2,kn2,kn3,ka2,putO_putO]
   exact last _ (rparC R own k bad true) _ (by omega) (hv _)
 subst hbad
 simp(disch:=omega)[kc]
 refine t_ris hR.lim (hR.lt hk2) kc bComma fun n7 hn7=>?_
 rw[hR.is hk2]
 cases h2:isM L k bComma
 ·rw[litsLp_no h2]at he
  have he:finP L hd es k=V:=by rw[<-hV2,<-he];rfl
  have hbad:(-1:Int)=-1:=rfl
  simp(disch:=omega)
  unfold finP at he
  refine t_want0 hR.lim (hR.lt hk2) kc bDot (fun h3 n8 hn8=>?_) (fun h3 n8 hn8=>?_)
  ·rw[hR.is hk2]at h3
   rw[if_neg (by rw[h3];simp)]at he
   have hv:=fun b' n'=>hk0 k he.symm ⟨hd,es⟩ k b' n' hk2
   rw[atR_of (hR.lt hk2)]
   cases b2
   ·simp(disch:=omega)[kc,kb,kp2,kn2,kn3,ka2,putO_putO]
    exact last _ (rparC R own k (atR R k) (decide ((5:Int)<(es.length:Int)))) _ (by omega) (hv _)
   ·simp(disch:=omega)[kc,kb,kp2,kn2,kn3,ka2,putO_putO]
    exact last _ (rparC R own k (atR R k) true) _ (by omega) (hv _)
  ·rw[hR.is hk2]at h3
   rw[if_pos h3]at he
   have hv:=hk1 _ _ he.symm
   have hcb:(b||clBig ⟨hd,es⟩)=(b2||decide ((5:Int)<(es.length:Int))):=by
    rw[<-hb2,show decide ((5:Int)<(es.length:Int))=decide (5<es.length) from decide_eq_decide.2 (by omega)]
    unfold clBig
    simp only[Bool.or_assoc]
   rw[hcb]at hv
   cases b2
   ·rw[Bool.false_or]at hv
    simp(disch:=omega)[kc,kb,kp2,kn2,kn3,ka2,putO_putO]
    exact last _ (rparC R own (k+1) (-1) (decide ((5:Int)<(es.length:Int)))) _ (by omega) hv
   ·rw[Bool.true_or]at hv
    simp(disch:=omega)[kc,kb,kp2,kn2,kn3,ka2,putO_putO]
    exact last _ (rparC R own (k+1) (-1) true) _ (by omega) hv
 have hq2:k+1<=L.length:=isM_lt h2
 simp(disch:=omega)[kc,kb,kp2,ka2,putO_putO,wrap_nat (show k<2^62 by omega)]
 refine t_rliteralJ hR hq2 (own:=own) (b:=b2) (kp2 _) fun l2 k3 bad4 b4 hj4 hk3l n8 hn8=>?_
 have hinv4:(bad4=-1/\k+1<k3/\litsLp L k3 (es++[l2])=W/\((b||decide (3<hd.args.length))||(es++[l2]).any litBig)=b4)\/(0<=bad4/\∃e,W=.error e/\bad4=atR R e):=by
  rcases hj4 with⟨e1,e2,e3⟩|⟨e1,e,e2,e3⟩
  ·rw[litsLp_go h2 e2]at he
   exact .inl ⟨e1,((litP_le hq2).1 _ _ e2).1,he,by rw[e3,<-hb2];simp[Bool.or_assoc]⟩
  ·rw[litsLp_bad h2 e2]at he
   exact .inr ⟨e1,e,he.symm,e3⟩
 have hr3:=(hr.put (j:=m) (x:=rparC R own k3 bad4 b4) (by dsimp only;omega)).mono (show n6<=n8 by omega)
 dsimp only at hr3
 rw[putO_ne (by omega),putO_ne (by omega),putO_putO]at hr3
 simp(disch:=omega)[ka2,putO_putO]
 refine effP_ap ?_
 simp(disch:=omega)
 obtain⟨ow3,ob3,m3,e3,hr4,hm3⟩:=row_apY (sz:=9) (es:=es.map litL) (Y:=[litL l2]) (by omega) (lits_all es) rfl (by simp;omega) (by rw[List.length_map];exact hr3)
 rw[List.length_map,List.length_singleton]at hr4
 have hold4:=hr4.old
 dsimp only at hold4
 have ka4:look n3 ob3=some (.cells [.str hd.pred,argsL hd.args,.sl (es.map litL) ow]):=by rw[hold4.2 n3 (by omega)];exact look_self _ _ _
 have e4:es.map litL++[litL l2]=(es++[l2]).map litL:=by simp
 rw[e4]at e3
 have hr5:=hr4.put (j:=n3) (x:=.cells [.str hd.pred,argsL hd.args,.sl ((es++[l2]).map litL) ow3]) (by dsimp only;omega)
 dsimp only at hr5
 rw[putO_self]at hr5
 rw[e3]
 simp(disch:=omega)[ka4]
 refine⟨⟨k3,m3,es++[l2],ow3,putO n3 (.cells [.str hd.pred,argsL hd.args,.sl ((es++[l2]).map litL) ow3]) ob3,bad4,b4⟩,?_,⟨by rw[List.length_append,List.length_singleton];exact hr5,by dsimp only;omega,by simp;omega,?_⟩,by simp[FT.Le,Wk],by simp;exact HWk.refl _,by simp⟩
 ·rcases hinv4 with⟨r1,r2,_,_⟩|⟨r1,_⟩
  ·dsimp only
   rw[r1,if_pos (by decide)]
   omega
  ·dsimp only
   rw[if_neg (by omega)]
   omega
 ·rcases hinv4 with⟨r1,r2,r3,r4⟩|h
  ·exact .inl ⟨r1,by simp;omega,r3,r4⟩
  ·exact .inr h
end
end Go.Abs.Tz
