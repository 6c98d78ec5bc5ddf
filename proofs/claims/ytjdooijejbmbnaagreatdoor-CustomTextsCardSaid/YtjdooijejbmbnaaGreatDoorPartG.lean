/- Part of the proof that for every row of clauses, every atom and every source the law CustomTexts returns true. Conditions: none. -/
import Derived.Test.YtjdooijejbmbnaaGreatDoorPartD
import Derived.Test.YtjdooijejbmbnaaGreatDoorPartF
import Derived.Lib.ItoaNum
import Derived.Laws.AppendOwn
set_option linter.unusedVariables false
set_option linter.unusedSimpArgs false
set_option linter.unusedSectionVars false
namespace Go.Abs.Tz
open Go Go.Abs Go.Proofs
def rfOf:Code->Code×Code
 |.seq _ (.seq _ (.seq _ (.seq (.seq _ (.block _ (.rangeFunc _ _ a b))) _)))=>(a,b)
 |_=>(.skip,.skip)
noncomputable def rcT(k:Nat):Code×Code:=match k with
 |0=>rfOf (((Tryz.prog.funcs[25]?).bind (·.body)).getD .skip)
 |_=>(.skip,.skip)
def powT:List (Nat×(Array Value->Prop)):=[(3,fun vs=>vs=(Lib.pow10Tab.map fun z=>Value.int .u64 z).toArray),(1,fun vs=>∃ty v,vs=#[.iface ty v])]
noncomputable def E0:Env:=⟨Tryz.prog,fun _=>.bot,rcT,powT⟩
noncomputable def F0:Fns:=⟨fun f b=>certB Tryz.prog f=some b,fun f args H S=>CallOk Tryz.prog E0 f args H S,fun k N ba bb=>cCode Tryz.prog N (E0.rc k).1=some ba/\cCode Tryz.prog N (E0.rc k).2=some bb⟩
abbrev PureT(f:FuncId)(args:List LV)(v:LV):Prop:=Pure E0 F0 f args v
theorem PureT.of{b:BFn}{f:FuncId}{args:List LV}{v:LV}(hf:certB Tryz.prog f=some b)(h:∀H:LHeap,H.Ok->fnP E0 F0 b args H (pureK H v) (fun _ _=>False)):PureT f args v:=Pure.of_fn hf h
theorem PureT.go{f:FuncId}{args:List LV}{v:LV}(h:PureT f args v){l:List (Nat×LObj)}{m:Nat}{kv kp:HP}(hk:∀n,m<=n->kv v ⟨l,n⟩):cP E0 F0 f args ⟨l,m⟩ kv kp:=h ⟨l,m⟩ kv kp hk
theorem HExt.cons'{H:LHeap}(hH:H.Ok){i m:Nat}{o:LObj}{l:List (Nat×LObj)}(hi:H.next<=i)(hm:H.next<=m)(h:HExt H ⟨l,H.next⟩):HExt H ⟨(i,o)::l,m⟩:=HExt.cons hH hi h hm
theorem doneK{H H':LHeap}{u v:LV}(hH:H.Ok)(h:u=v)(he:HExt H H':=by first|exact HExt.refl' _|(repeat (first|exact HExt.refl (by first|omega|(dsimp only;omega))|refine HExt.cons' (by assumption) (by first|omega|(dsimp only;omega)) (by first|omega|(dsimp only;omega)) ?_))):pureK H v u H':=pureK_i hH h he
theorem back{H:LHeap}{l:List (Nat×LObj)}{n:Nat}(hH:H.Ok)(he:HExt H ⟨l,n⟩):HWk ⟨l,n⟩ ⟨H.objs,n⟩/\(LHeap.Ok ⟨l,n⟩->LHeap.Ok ⟨H.objs,n⟩):=
 ⟨⟨Nat.le_refl _,he.2⟩,fun _=>Desc.mono hH he.1⟩
theorem backK{H:LHeap}{l:List (Nat×LObj)}{n:Nat}(hH:H.Ok)(he:HExt H ⟨l,n⟩:=by first|exact HExt.refl' _|(repeat (first|exact HExt.refl (by first|omega|(dsimp only;omega))|refine HExt.cons' (by assumption) (by first|omega|(dsimp only;omega)) (by first|omega|(dsimp only;omega)) ?_))):HWk ⟨l,n⟩ ⟨H.objs,n⟩/\(LHeap.Ok ⟨l,n⟩->LHeap.Ok ⟨H.objs,n⟩):=back hH he
theorem all_drop{α:Type}(p:α->Bool){l:List α}{i:Nat}(h:i<l.length):(l.drop i).all p=(p l[i]&&(l.drop (i+1)).all p):=by
 rw[List.drop_eq_getElem_cons h,List.all_cons]
theorem mem_at{α:Type}{l:List α}{i:Nat}(h:i<l.length):l[i]∈l:=List.getElem_mem h
theorem oneI(k:IntKind)(n:Int):(Value.int k n).oneCell'=true:=rfl
theorem oneS(s:ByteArray):(Value.string s).oneCell'=true:=rfl
theorem oneB(b:Bool):(Value.bool b).oneCell'=true:=rfl
theorem nth0{α:Type}(a0:α)(l:List α):(a0::l)[0]? = some a0:=rfl
theorem nth1{α:Type}(a0 a1:α)(l:List α):(a0::a1::l)[1]? = some a1:=rfl
theorem nth2{α:Type}(a0 a1 a2:α)(l:List α):(a0::a1::a2::l)[2]? = some a2:=rfl
theorem nth3{α:Type}(a0 a1 a2 a3:α)(l:List α):(a0::a1::a2::a3::l)[3]? = some a3:=rfl
theorem nth4{α:Type}(a0 a1 a2 a3 a4:α)(l:List α):(a0::a1::a2::a3::a4::l)[4]? = some a4:=rfl
theorem nth5{α:Type}(a0 a1 a2 a3 a4 a5:α)(l:List α):(a0::a1::a2::a3::a4::a5::l)[5]? = some a5:=rfl
theorem nth6{α:Type}(a0 a1 a2 a3 a4 a5 a6:α)(l:List α):(a0::a1::a2::a3::a4::a5::a6::l)[6]? = some a6:=rfl
theorem nth7{α:Type}(a0 a1 a2 a3 a4 a5 a6 a7:α)(l:List α):(a0::a1::a2::a3::a4::a5::a6::a7::l)[7]? = some a7:=rfl
theorem nth8{α:Type}(a0 a1 a2 a3 a4 a5 a6 a7 a8:α)(l:List α):(a0::a1::a2::a3::a4::a5::a6::a7::a8::l)[8]? = some a8:=rfl
theorem nth9{α:Type}(a0 a1 a2 a3 a4 a5 a6 a7 a8 a9:α)(l:List α):(a0::a1::a2::a3::a4::a5::a6::a7::a8::a9::l)[9]? = some a9:=rfl
structure NN where
 i:Nat
 n:Nat
structure Term where
 kind:Int
 n:Int
 s:ByteArray
structure Atom where
 pred:ByteArray
 args:List Term
abbrev U(n:Int):LV:=.sc (.int .u8 n)
abbrev termC(t:Term):List LV:=[.int t.kind,.int t.n,.str t.s]
abbrev termL(t:Term):LV:=.agg (termC t)
abbrev argsL(l:List Term):LV:=.sl (l.map termL) .no
abbrev atomL(a:Atom):LV:=.agg [.str a.pred,argsL a.args]
def lessB(a b:ByteArray):Bool:=Op.bytesLess a.toList b.toList
def eqBA(a b:ByteArray):Bool:=a.toList==b.toList
theorem eqB_s(a b:ByteArray):eqB 1 (.sc (.string a)) (.sc (.string b))=some (eqBA a b):=rfl
theorem eqB_i(k:IntKind)(a b:Int):eqB 0 (.sc (.int k a)) (.sc (.int k b))=some (decide (a=b)):=by
 simp only[eqB,if_true]
 congr 1
theorem eqB_b(a b:Bool):eqB 2 (.sc (.bool a)) (.sc (.bool b))=some (a==b):=rfl
theorem bn_add(k:IntKind)(a b:Int):binL .add (.sc (.int k a)) (.sc (.int k b))=some (.sc (.int k (k.wrap (a+b)))):=by simp[binL]
theorem bn_sub(k:IntKind)(a b:Int):binL .sub (.sc (.int k a)) (.sc (.int k b))=some (.sc (.int k (k.wrap (a - b)))):=by simp[binL]
theorem bn_lss(k:IntKind)(a b:Int):binL .lss (.sc (.int k a)) (.sc (.int k b))=some (.sc (.bool (decide (a<b)))):=by simp[binL]
theorem bn_leq(k:IntKind)(a b:Int):binL .leq (.sc (.int k a)) (.sc (.int k b))=some (.sc (.bool (decide (a<=b)))):=by simp[binL]
theorem bn_gtr(k:IntKind)(a b:Int):binL .gtr (.sc (.int k a)) (.sc (.int k b))=some (.sc (.bool (decide (b<a)))):=by simp[binL]
theorem bn_geq(k:IntKind)(a b:Int):binL .geq (.sc (.int k a)) (.sc (.int k b))=some (.sc (.bool (decide (b<=a)))):=by simp[binL]
theorem bn_adds(a b:ByteArray):binL .add (.sc (.string a)) (.sc (.string b))=if a.size+b.size<=2^40 then some (.str (a++b)) else none:=rfl
theorem bn_lsss(a b:ByteArray):binL .lss (.sc (.string a)) (.sc (.string b))=some (.sc (.bool (lessB a b))):=rfl
theorem bn_gtrs(a b:ByteArray):binL .gtr (.sc (.string a)) (.sc (.string b))=some (.sc (.bool !(lessB a b||eqBA a b))):=rfl
theorem bn_leqs(a b:ByteArray):binL .leq (.sc (.string a)) (.sc (.string b))=some (.sc (.bool (lessB a b||eqBA a b))):=rfl
theorem bn_geqs(a b:ByteArray):binL .geq (.sc (.string a)) (.sc (.string b))=some (.sc (.bool !lessB a b)):=rfl
theorem eqBA_nil(s:ByteArray):eqBA s ⟨⟨[]⟩⟩=decide (s.size=0):=by
 unfold eqBA
 rw[ByteArray.toList_eq,ByteArray.toList_eq]
 rcases s with⟨⟨l⟩⟩
 cases l with
 |nil=>rfl
 |cons a l=>rfl
theorem wrap_id{n:Int}(h1:-2^63<=n)(h2:n<2^63):IntKind.wrap .i64 n=n:=by
 have h64:(IntKind.i64.bits:Nat)=64:=rfl
 have hs:IntKind.i64.signed=true:=rfl
 simp only[IntKind.wrap,h64,hs,Bool.true_and]
 by_cases h0:0<=n
 ·have e1:n % (2^64:Int)=n:=by omega
  rw[e1]
  split
  ·rename_i hge;simp at hge;omega
  ·rfl
 ·have e1:n % (2^64:Int)=n+2^64:=by omega
  rw[e1]
  split
  ·omega
  ·rename_i hge;simp at hge;omega
theorem wrap_nat{n:Nat}(h:n<2^62):IntKind.wrap .i64 ((n:Int)+1)=((n+1:Nat):Int):=by
 rw[wrap_id (by omega) (by omega)];omega
theorem pure0{H:LHeap}{u v:LV}{n:Nat}(hH:H.Ok)(h:u=v)(hn:H.next<=n):pureK H v u ⟨H.objs,n⟩:=pureK_i hH h (HExt.refl hn)
theorem pure0'{H:LHeap}{u v:LV}(hH:H.Ok)(h:u=v):pureK H v u H:=pureK_i hH h (HExt.refl' H)
end Go.Abs.Tz
namespace Go.Abs.Tz
open Go Go.Abs Go.Proofs
set_option maxRecDepth 20000
set_option linter.unusedSimpArgs false
attribute [local simp ↓] getP_nil getP_node setP_nil setP_node oneP_eq vP_map vP_some vP_none vP_bind eP_some bP_true bP_false gP_yes gP_tf gP_ft gP_tup runP_skip runP_ops runP_drw runP_seq runP_cond runP_blk runP_loop runP_exit runP_ret seqK_n seqK_r seqK_e seqK_p blkK_n blkK_r blkK_e blkK_p loopK_n loopK_r loopK_e loopK_p finK_n finK_r finK_p resP_one resP_two resP_three resP_nil resP_c nxP_nil argsP_nil argsP_cons evP_t evP_c evP_g evsP_nil evsP_cons clP_fn clP_yld clfP_fn pnP_i opsP_nil opsP_d opsP_x opsP_gt opsP_gf opP_cf opP_cl opP_pn opP_nx valP_mv valP_pk valP_eq valP_bn valP_nt valP_ld valP_fa valP_fd valP_ia valP_ix valP_ln valP_srn valP_srl valP_srh valP_srb valP_cv valP_mi valP_mf valP_xt valP_bs valP_bd valP_nc valP_mn valP_lk valP_ta opP_mv opP_pk opP_eq opP_bn opP_nt opP_ld opP_fa opP_fd opP_ia opP_ix opP_ln opP_sr opP_cv opP_mi opP_mf opP_xt opP_bs opP_bd opP_nc opP_mn opP_lk opP_ta opP_al opP_bx opP_st opP_ap opP_mk opP_nb opP_mu opP_rg opP_en pendP_nil pendP_d pendP_g drwP_nil drwP_d drwP_x drwP_gt drwP_gf look_self natOf_nat
attribute [local simp] faL fdL iaL ixL loadL partL lenL eqK eqL natOf eqB_s eqB_i eqB_b bn_add bn_sub bn_lss bn_leq bn_gtr bn_geq bn_adds bn_lsss bn_gtrs bn_leqs bn_geqs sliceL LV.cells LV.whole look_self put_self putO_self put_eq stL fillL termC dopP LHeap.alloc oneI oneS oneB nth0 nth1 nth2 nth3 nth4 nth5 nth6 nth7 nth8 nth9 look_ne putO_ne
def smallB(n:Int):Bool:=decide (97<=n)&&decide (n<=122)
def capB(n:Int):Bool:=decide (65<=n)&&decide (n<=90)
def digB(n:Int):Bool:=decide (48<=n)&&decide (n<=57)
def letB(n:Int):Bool:=smallB n||capB n
theorem t_small(n:Int):PureT 79 [U n] (.bool (smallB n)):=by
 refine PureT.of c79 fun H hH=>⟨Nat.le_of_ble_eq_true rfl,?_⟩
 simp[b79,bP_bool,gP_boolt,gP_boolf]
 repeat' (first|apply And.intro|intro _)
 all_goals first|omega|(refine pure0' hH ?_;simp_all [smallB];done)|(refine pure0' hH ?_;simp_all [smallB];omega)
theorem t_capital(n:Int):PureT 101 [U n] (.bool (capB n)):=by
 refine PureT.of c101 fun H hH=>⟨Nat.le_of_ble_eq_true rfl,?_⟩
 simp[b101,bP_bool,gP_boolt,gP_boolf]
 repeat' (first|apply And.intro|intro _)
 all_goals first|omega|(refine pure0' hH ?_;simp_all [capB];done)|(refine pure0' hH ?_;simp_all [capB];omega)
theorem t_digit(n:Int):PureT 100 [U n] (.bool (digB n)):=by
 refine PureT.of c100 fun H hH=>⟨Nat.le_of_ble_eq_true rfl,?_⟩
 simp[b100,bP_bool,gP_boolt,gP_boolf]
 repeat' (first|apply And.intro|intro _)
 all_goals first|omega|(refine pure0' hH ?_;simp_all [digB];done)|(refine pure0' hH ?_;simp_all [digB];omega)
theorem t_letter(n:Int):PureT 98 [U n] (.bool (letB n)):=by
 refine PureT.of c98 fun H hH=>⟨Nat.le_of_ble_eq_true rfl,?_⟩
 simp[b98]
 refine(t_small n).go fun m hm=>?_
 simp
 cases h:smallB n
 ·simp
  refine(t_capital n).go fun k hk=>?_
  simp
  exact pure0 hH (by simp[letB,h]) (Nat.le_trans hm hk)
 ·simp
  exact pure0 hH (by simp[letB,h]) hm
theorem t_within(a b c:Int):PureT 103 [.int a,.int b,.int c] (.bool (decide (b<=a)&&decide (a<=c))):=by
 refine PureT.of c103 fun H hH=>⟨Nat.le_of_ble_eq_true rfl,?_⟩
 simp[b103,bP_bool,gP_boolt,gP_boolf]
 repeat' (first|apply And.intro|intro _)
 all_goals first|omega|(refine pure0' hH ?_;simp_all [];done)|(refine pure0' hH ?_;simp_all [];omega)
theorem t_isnan(a:ByteArray):PureT 92 [.str a] (.bool false):=by
 refine PureT.of c92 fun H hH=>⟨Nat.le_of_ble_eq_true rfl,?_⟩
 simp[b92]
 exact pure0' hH (by simp[eqBA])
theorem t_isnani(a:Int):PureT 93 [.int a] (.bool false):=by
 refine PureT.of c93 fun H hH=>⟨Nat.le_of_ble_eq_true rfl,?_⟩
 simp[b93]
 exact pure0' hH rfl
def cmpB(a b:ByteArray):Int:=if lessB a b then -1 else if eqBA a b then 0 else 1
def cmpI(a b:Int):Int:=if a<b then -1 else if b<a then 1 else 0
theorem t_cmpB(a b:ByteArray):PureT 51 [.str a,.str b] (.int (cmpB a b)):=by
 refine PureT.of c51 fun H hH=>⟨Nat.le_of_ble_eq_true rfl,?_⟩
 simp[b51]
 refine(t_isnan a).go fun n hn=>?_
 simp
 refine(t_isnan b).go fun m hm=>?_
 have h1:H.next<=m:=Nat.le_trans hn hm
 cases h:lessB a b
 ·cases h':eqBA a b
  ·simp[h,h']
   exact pure0 hH (by simp[cmpB,h,h']) h1
  ·simp[h,h']
   exact pure0 hH (by simp[cmpB,h,h']) h1
 ·simp[h]
  exact pure0 hH (by simp[cmpB,h]) h1
theorem t_cmpI(a b:Int):PureT 52 [.int a,.int b] (.int (cmpI a b)):=by
 refine PureT.of c52 fun H hH=>⟨Nat.le_of_ble_eq_true rfl,?_⟩
 simp[b52]
 refine(t_isnani a).go fun n hn=>?_
 simp
 refine(t_isnani b).go fun m hm=>?_
 have h1:H.next<=m:=Nat.le_trans hn hm
 by_cases h:a<b
 ·simp[h]
  exact pure0 hH (by simp[cmpI,h]) h1
 ·by_cases h':b<a
  ·simp[h,h']
   exact pure0 hH (by simp[cmpI,h,h']) h1
  ·simp[h,h']
   exact pure0 hH (by simp[cmpI,h,h']) h1
theorem t_rorder(a b:Int):PureT 73 [.int a,.int b] (.int (cmpI a b)):=by
 refine PureT.of c73 fun H hH=>⟨Nat.le_of_ble_eq_true rfl,?_⟩
 simp[b73,bP_bool,gP_boolt,gP_boolf]
 repeat' (first|apply And.intro|intro _)
 all_goals first|omega|(refine pure0' hH ?_;simp_all [cmpI];done)|(refine pure0' hH ?_;simp_all [cmpI];omega)
theorem t_rorderText(a b:ByteArray):PureT 72 [.str a,.str b] (.int (cmpB a b)):=by
 refine PureT.of c72 fun H hH=>⟨Nat.le_of_ble_eq_true rfl,?_⟩
 cases h:lessB a b
 ·cases h':eqBA a b
  ·simp[b72,h,h']
   exact pure0' hH (by simp[cmpB,h,h'])
  ·simp[b72,h,h']
   exact pure0' hH (by simp[cmpB,h,h'])
 ·simp[b72,h]
  exact pure0' hH (by simp[cmpB,h])
def runN(p:Int->Bool):List UInt8->Nat
 |[]=>0
 |c::r=>if p (c.toNat:Int) then runN p r+1 else 0
def sL(s:ByteArray):List UInt8:=s.data.toList
theorem byte_at{s:ByteArray}{i:Nat}(h:i<s.size):∃c,s.data[i]'h=c/\(sL s).drop i=c::(sL s).drop (i+1):=by
 have h':i<s.data.size:=h
 refine⟨s.data[i],rfl,?_⟩
 have:i<(sL s).length:=by simpa [sL] using h'
 rw[List.drop_eq_getElem_cons this]
 simp[sL]
theorem t_run(s:ByteArray)(hs:s.size<2^40)(f:FuncId)(p:Int->Bool)(hp:∀n,PureT f [U n] (.bool (p n))):PureT 96 [.str s,.int 0,.fn (.func f) [] []] (.int (runN p (sL s))):=by
 refine PureT.of c96 fun H hH=>⟨Nat.le_of_ble_eq_true rfl,?_⟩
 simp[b96]
 refine lP_enter (σ:=NN) (fun q=>(.nd (.str s) (.nd (.int q.i) .nil .nil) (.nd (.fn (.func f) [] []) .nil .nil))) (fun q=>⟨H.objs,q.n⟩) (fun q=>s.size - q.i)
  (fun q=>H.next<=q.n/\q.i<=s.size/\q.i+runN p ((sL s).drop q.i)=runN p (sL s)) ⟨0,H.next⟩ ⟨Nat.le_refl _,Nat.zero_le _,by simp⟩ (by simp[FT.Le,Wk]) ⟨HWk.refl _,fun h=>h⟩ ?_
 rintro⟨i,n⟩ ⟨hn,hi,he⟩ hok
 simp only at hn hi he
 by_cases hlt:i<s.size
 ·obtain⟨c,hc,hd⟩:=byte_at hlt
  rw[hd]at he
  simp[hlt,hc]
  refine(hp _).go fun n1 h1=>?_
  cases hl:p (c.toNat:Int)
  ·simp[hlt,hc]
   refine pure0 hH ?_ (by omega)
   simp[runN,hl]at he
   simp[he]
  ·simp[wrap_nat (show i<2^62 by omega)]
   refine⟨⟨i+1,n1⟩,by dsimp only;omega,⟨by dsimp only;omega,by dsimp only;omega,?_⟩,by simp[FT.Le,Wk],HWk.refl _,fun h=>h⟩
   simp[runN,hl]at he
   dsimp only
   omega
 ·obtain rfl:i=s.size:=by omega
  simp
  refine pure0 hH ?_ (by omega)
  rw[List.drop_eq_nil_of_le (by simp[sL])]at he
  simp[runN]at he
  simp[he]
def wordC(n:Int):Bool:=letB n||digB n
theorem t_name1(n:Int):PureT 112 [U n] (.bool (wordC n)):=by
 refine PureT.of c112 fun H hH=>⟨Nat.le_of_ble_eq_true rfl,?_⟩
 simp[b112]
 refine(t_letter _).go fun m hm=>?_
 cases h:letB n
 ·simp
  refine(t_digit _).go fun k hk=>?_
  simp
  exact pure0 hH (by simp[wordC,h]) (Nat.le_trans hm hk)
 ·simp
  exact pure0 hH (by simp[wordC,h]) hm
def firstB(lo hi:Int):List UInt8->Bool
 |[]=>false
 |c::_=>decide (lo<=(c.toNat:Int))&&decide ((c.toNat:Int)<=hi)
def wordOk(lo hi:Int)(s:ByteArray):Bool:=decide (1<=s.size)&&(decide (s.size<=24)&&(!eqBA s ⟨⟨[105,102]⟩⟩&&(!eqBA s ⟨⟨[110,111,116]⟩⟩&&(firstB lo hi (sL s)&&decide (runN wordC (sL s)=s.size)))))
theorem sL_length(s:ByteArray):(sL s).length=s.size:=rfl
theorem byte0{s:ByteArray}(h:0<s.size):∃c r,s.data[0]'h=c/\sL s=c::r:=by
 obtain⟨c,h1,h2⟩:=byte_at h
 exact⟨c,_,h1,by simpa using h2⟩
theorem t_name(s:ByteArray)(hs:s.size<2^40)(f:FuncId)(lo hi:Int)(hp:∀n,PureT f [U n] (.bool (decide (lo<=n)&&decide (n<=hi)))):
  PureT 78 [.str s,.fn (.func f) [] []] (.bool (wordOk lo hi s)):=by
 refine PureT.of c78 fun H hH=>⟨Nat.le_of_ble_eq_true rfl,?_⟩
 by_cases h0:s.size=0
 ·simp[b78,eqBA_nil,h0]
  exact pure0' hH (by simp[wordOk,h0])
 have h0':0<s.size:=by omega
 by_cases h24:s.size<=24
 case neg=>
  have hi24:¬(s.size:Int)<=24:=by omega
  simp[b78,eqBA_nil,h0,h24,hi24]
  exact pure0' hH (by simp[wordOk,h24])
 obtain⟨c,r,hc,hr⟩:=byte0 h0'
 have hi24:(s.size:Int)<=24:=by omega
 simp[b78,eqBA_nil,hi24,h24,hc,h0',h0]
 refine(hp _).go fun n1 h1=>?_
 have hf:firstB lo hi (sL s)=(decide (lo<=(c.toNat:Int))&&decide ((c.toNat:Int)<=hi)):=by rw[hr];rfl
 rw[<-hf]
 cases hfb:firstB lo hi (sL s)
 ·simp
  exact pure0 hH (by simp[wordOk,hfb]) h1
 simp
 refine(t_run s hs _ wordC t_name1).go fun n2 h2=>?_
 have hn:H.next<=n2:=Nat.le_trans h1 h2
 by_cases hr:runN wordC (sL s)=s.size
 case neg=>
  have hri:((runN wordC (sL s):Nat):Int)≠(s.size:Int):=by omega
  simp[hri]
  refine pure0 hH ?_ hn
  have:decide (runN wordC (sL s)=s.size)=false:=by simpa using hr
  simp only[wordOk,this,Bool.and_false]
 cases h5:eqBA s ⟨⟨[105,102]⟩⟩
 ·cases h6:eqBA s ⟨⟨[110,111,116]⟩⟩
  ·simp[hr,h5,h6]
   exact pure0 hH (by simp[wordOk,hr,h5,h6,h24,hfb];omega) hn
  ·simp[hr,h5,h6]
   exact pure0 hH (by simp[wordOk,h6]) hn
 ·simp[hr,h5]
  exact pure0 hH (by simp[wordOk,h5]) hn
def Term.ok(t:Term):Prop:=t.s.size<2^40
def termOk(t:Term):Bool:=
 if t.kind=1 then eqBA t.s ⟨⟨[]⟩⟩&&(decide (-1000000000<=t.n)&&decide (t.n<=1000000000))
 else if t.kind=2 then decide (t.n=0)&&wordOk 97 122 t.s
 else if t.kind=3 then decide (t.n=0)&&wordOk 65 90 t.s
 else false
theorem p_small(n:Int):PureT 79 [U n] (.bool (decide (97<=n)&&decide (n<=122))):=t_small n
theorem p_capital(n:Int):PureT 101 [U n] (.bool (decide (65<=n)&&decide (n<=90))):=t_capital n
theorem t_formedTerm(t:Term)(ht:t.ok):PureT 80 [termL t] (.bool (termOk t)):=by
 refine PureT.of c80 fun H hH=>⟨Nat.le_of_ble_eq_true rfl,?_⟩
 by_cases h1:t.kind=1
 ·cases h2:eqBA t.s ⟨⟨[]⟩⟩
  ·simp[b80,h1,h2]
   exact doneK hH (by simp[termOk,h1,h2])
  ·simp[b80,h1,h2]
   refine(t_within _ _ _).go fun n hn=>?_
   simp
   exact doneK hH (by simp[termOk,h1,h2])
 by_cases h2:t.kind=2
 ·by_cases h3:t.n=0
  ·simp[b80,h2,h3]
   refine(t_name t.s ht _ _ _ p_small).go fun n hn=>?_
   simp
   exact doneK hH (by simp[termOk,h2,h3])
  ·simp[b80,h2,h3]
   exact doneK hH (by simp[termOk,h2,h3])
 by_cases h3:t.kind=3
 ·by_cases h4:t.n=0
  ·simp[b80,h3,h4]
   refine(t_name t.s ht _ _ _ p_capital).go fun n hn=>?_
   simp
   exact doneK hH (by simp[termOk,h3,h4])
  ·simp[b80,h3,h4]
   exact doneK hH (by simp[termOk,h3,h4])
 simp[b80,h1,h2,h3]
 exact doneK hH (by simp[termOk,h1,h2,h3])
def Atom.ok(a:Atom):Prop:=a.pred.size<2^40/\a.args.length<2^40/\∀t∈a.args,Term.ok t
def atomOk(a:Atom):Bool:=wordOk 97 122 a.pred&&(decide (a.args.length<=3)&&a.args.all termOk)
theorem t_formedAtom(a:Atom)(ha:a.ok):PureT 42 [atomL a] (.bool (atomOk a)):=by
 refine PureT.of c42 fun H hH=>⟨Nat.le_of_ble_eq_true rfl,?_⟩
 simp[b42]
 refine(t_name a.pred ha.1 _ _ _ p_small).go fun n hn=>?_
 cases h1:wordOk 97 122 a.pred
 ·simp
  exact doneK hH (by simp[atomOk,h1])
 by_cases h2:(3:Int)<(a.args.length:Int)
 ·simp[h2]
  exact doneK hH (by simp[atomOk,h1,show ¬a.args.length<=3 by omega])
 have h3:a.args.length<=3:=by omega
 simp[h2]
 obtain⟨A,hA⟩:∃A,a.args.all termOk=A:=⟨_,rfl⟩
 refine lP_enter (σ:=NN) (fun q=>(.nd (atomL a) (.nd .bot .nil (.nd .bot (.nd .bot (.nd (.int a.args.length) .nil .nil) .nil) .nil)) (.nd (.bool false) (.nd .bot (.nd .bot (.nd (argsL a.args) .nil .nil) .nil) .nil) (.nd .bot (.nd .bot (.nd (.int q.i) .nil .nil) .nil) .nil)))) (fun q=>⟨H.objs,q.n⟩) (fun q=>a.args.length - q.i)
  (fun q=>H.next<=q.n/\q.i<=a.args.length/\(a.args.drop q.i).all termOk=A) ⟨0,n⟩ ⟨by dsimp only;omega,Nat.zero_le _,hA⟩ (by simp[FT.Le,Wk]) (backK hH) ?_
 rintro⟨i,n⟩ ⟨hn,hi,he⟩ hok
 simp only at hn hi he
 by_cases hlt:i<a.args.length
 ·rw[all_drop termOk hlt]at he
  simp[hlt]
  refine(t_formedTerm a.args[i] (ha.2.2 _ (mem_at hlt))).go fun n1 h1'=>?_
  cases ht:termOk a.args[i]
  ·rw[ht,Bool.false_and]at he
   simp
   exact doneK hH (by simp[atomOk,h1,hA,<-he])
  ·rw[ht,Bool.true_and]at he
   simp[wrap_nat (show i<2^62 by omega)]
   exact⟨⟨i+1,n1⟩,by dsimp only;omega,⟨by dsimp only;omega,by dsimp only;omega,he⟩,by simp[FT.Le,Wk],backK hH⟩
 ·obtain rfl:i=a.args.length:=by omega
  rw[List.drop_eq_nil_of_le (Nat.le_refl _),List.all_nil]at he
  simp
  exact doneK hH (by simp[atomOk,h1,h3,hA,<-he])
def Term.small(t:Term):Bool:=decide (t.s.size<=40)
def Atom.small(a:Atom):Bool:=decide (a.pred.size<=40)&&(decide (a.args.length<=6)&&a.args.all Term.small)
theorem t_short(a:Atom):PureT 13 [atomL a] (.bool a.small):=by
 refine PureT.of c13 fun H hH=>⟨Nat.le_of_ble_eq_true rfl,?_⟩
 by_cases h1:(40:Int)<(a.pred.size:Int)
 ·simp[b13,h1]
  exact doneK hH (by simp[Atom.small,show ¬a.pred.size<=40 by omega])
 have h1':a.pred.size<=40:=by omega
 by_cases h2:(6:Int)<(a.args.length:Int)
 ·simp[b13,h1,h2]
  exact doneK hH (by simp[Atom.small,show ¬a.args.length<=6 by omega])
 have h2':a.args.length<=6:=by omega
 simp[b13,h1,h2]
 obtain⟨A,hA⟩:∃A,a.args.all Term.small=A:=⟨_,rfl⟩
 refine lP_enter (σ:=NN) (fun q=>(.nd (atomL a) (.nd (.ptr H.next 0) (.nd (.int q.i) .nil .nil) .nil) (.nd (.bool false) .nil .nil))) (fun q=>⟨(H.next,.cells [.str a.pred,argsL a.args])::H.objs,q.n⟩) (fun q=>a.args.length - q.i)
  (fun q=>H.next+1<=q.n/\q.i<=a.args.length/\(a.args.drop q.i).all Term.small=A) ⟨0,H.next+1⟩ ⟨by dsimp only;omega,Nat.zero_le _,hA⟩ (by simp[FT.Le,Wk]) ⟨HWk.refl _,fun h=>h⟩ ?_
 rintro⟨i,n⟩ ⟨hn,hi,he⟩ hok
 simp only at hn hi he
 by_cases hlt:i<a.args.length
 ·rw[all_drop Term.small hlt]at he
  by_cases hk:(40:Int)<(a.args[i].s.size:Int)
  ·have ht:Term.small a.args[i]=false:=by simp[Term.small];omega
   rw[ht,Bool.false_and]at he
   simp[hlt,hk]
   exact doneK hH (by simp[Atom.small,hA,<-he])
  ·have ht:Term.small a.args[i]=true:=by simp[Term.small];omega
   rw[ht,Bool.true_and]at he
   simp[hlt,hk,wrap_nat (show i<2^62 by omega)]
   exact⟨⟨i+1,n⟩,by dsimp only;omega,⟨by dsimp only;omega,by dsimp only;omega,he⟩,by simp[FT.Le,Wk],HWk.refl _,fun h=>h⟩
 ·obtain rfl:i=a.args.length:=by omega
  rw[List.drop_eq_nil_of_le (Nat.le_refl _),List.all_nil]at he
  simp
  exact doneK hH (by simp[Atom.small,h1',h2',hA,<-he])
theorem Atom.small_ok{a:Atom}(h:a.small=true):a.ok:=by
 simp[Atom.small,Term.small]at h
 exact⟨by omega,by omega,fun t ht=>by have:=h.2.2 t ht;unfold Term.ok;omega⟩
def or3(a b c:Int):Int:=if a≠0 then a else if b≠0 then b else c
def cmpT(x y:Term):Int:=or3 (cmpI x.kind y.kind) (cmpI x.n y.n) (cmpB x.s y.s)
def cmpTs:List Term->List Term->Int
 |[],[]=>0
 |[],_::_=>-1
 |_::_,[]=>1
 |x::xs,y::ys=>if cmpT x y≠0 then cmpT x y else cmpTs xs ys
def cmpA(a b:Atom):Int:=or3 (cmpB a.pred b.pred) (cmpI a.args.length b.args.length) (cmpTs a.args b.args)
structure NNC where
 i:Nat
 n:Nat
 c:Int
theorem t_rCompare(a b:Atom)(ha:a.ok)(hb:b.ok):PureT 36 [atomL a,atomL b] (.int (cmpA a b)):=by
 have hla:=ha.2.1
 have hlb:=hb.2.1
 refine PureT.of c36 fun H hH=>⟨Nat.le_of_ble_eq_true rfl,?_⟩
 have hH2:LHeap.Ok ⟨(H.next+1,.cells [.str b.pred,argsL b.args])::(H.next,.cells [.str a.pred,argsL a.args])::H.objs,H.next+2⟩:=⟨Nat.lt_succ_self _,Nat.lt_succ_self _,hH⟩
 simp(disch:=omega)[b36]
 refine(t_rorderText _ _).go fun n hn=>?_
 by_cases h1:cmpB a.pred b.pred=0
 ·simp(disch:=omega)[h1]
  refine(t_rorder _ _).go fun n1 hn1=>?_
  simp(disch:=omega)
  have hR:cmpA a b=if cmpI a.args.length b.args.length≠0 then cmpI a.args.length b.args.length else cmpTs a.args b.args:=by simp[cmpA,or3,h1]
  refine lP_enter (σ:=NNC) (fun q=>(.nd .bot (.nd .bot (.nd (.ptr (H.next+1) 0) .nil .nil) (.nd (.int q.c) .nil .nil)) (.nd (.ptr H.next 0) .nil (.nd (.int q.i) .nil .nil)))) (fun q=>⟨(H.next+1,.cells [.str b.pred,argsL b.args])::(H.next,.cells [.str a.pred,argsL a.args])::H.objs,q.n⟩) (fun q=>a.args.length - q.i)
   (fun q=>H.next+2<=q.n/\q.i<=a.args.length/\((q.c≠0/\q.c=cmpA a b)\/(q.c=0/\a.args.length=b.args.length/\cmpTs (a.args.drop q.i) (b.args.drop q.i)=cmpA a b))) ⟨0,n1,cmpI a.args.length b.args.length⟩ ⟨by dsimp only;omega,Nat.zero_le _,?_⟩ (by simp[FT.Le,Wk]) ⟨HWk.refl _,fun h=>h⟩ ?_
  ·dsimp only
   by_cases h2:cmpI a.args.length b.args.length=0
   ·rw[h2]at hR
    refine .inr ⟨h2,?_,by rw[hR];simp⟩
    unfold cmpI at h2
    split at h2
    ·cases h2
    ·split at h2
     ·cases h2
     ·omega
   ·exact .inl ⟨h2,by rw[hR,if_pos h2]⟩
  rintro⟨i,n,c⟩ ⟨hn,hi,hI⟩ hok
  simp only at hn hi hI
  rcases hI with⟨hc,hI⟩|⟨rfl,hlen,hI⟩
  ·by_cases hlt:i<a.args.length
   ·simp(disch:=omega)[hlt,hc]
    exact doneK hH (by simp[hI])
   ·simp(disch:=omega)[hlt]
    exact doneK hH (by simp[hI])
  by_cases hlt:i<a.args.length
  case neg=>
   simp(disch:=omega)[hlt]
   rw[List.drop_eq_nil_of_le (by omega),List.drop_eq_nil_of_le (by omega)]at hI
   exact doneK hH (by simp[<-hI,cmpTs])
  have hly:i<b.args.length:=by omega
  rw[List.drop_eq_getElem_cons hlt,List.drop_eq_getElem_cons hly]at hI
  have hR:cmpA a b=if cmpT a.args[i] b.args[i]≠0 then cmpT a.args[i] b.args[i] else cmpTs (a.args.drop (i+1)) (b.args.drop (i+1)):=hI.symm
  simp(disch:=omega)[hlt,hly]
  refine(t_rorder _ _).go fun n1 hn1=>?_
  by_cases hk:cmpI a.args[i].kind b.args[i].kind=0
  case neg=>
   simp(disch:=omega)[hk,wrap_nat (show i<2^62 by omega)]
   have hT:cmpT a.args[i] b.args[i]=cmpI a.args[i].kind b.args[i].kind:=by simp[cmpT,or3,hk]
   rw[hT,if_pos hk]at hR
   exact⟨⟨i+1,n1,cmpI a.args[i].kind b.args[i].kind⟩,by dsimp only;omega,⟨by dsimp only;omega,by dsimp only;omega,.inl ⟨hk,hR.symm⟩⟩,by simp[FT.Le,Wk],backK hH2⟩
  simp(disch:=omega)[hk]
  refine(t_rorder _ _).go fun n2 hn2=>?_
  by_cases hk2:cmpI a.args[i].n b.args[i].n=0
  case neg=>
   simp(disch:=omega)[hk2,wrap_nat (show i<2^62 by omega)]
   have hT:cmpT a.args[i] b.args[i]=cmpI a.args[i].n b.args[i].n:=by simp[cmpT,or3,hk,hk2]
   rw[hT,if_pos hk2]at hR
   exact⟨⟨i+1,n2,cmpI a.args[i].n b.args[i].n⟩,by dsimp only;omega,⟨by dsimp only;omega,by dsimp only;omega,.inl ⟨hk2,hR.symm⟩⟩,by simp[FT.Le,Wk],backK hH2⟩
  simp(disch:=omega)[hk2]
  refine(t_rorderText _ _).go fun n3 hn3=>?_
  simp(disch:=omega)[wrap_nat (show i<2^62 by omega)]
  have hT:cmpT a.args[i] b.args[i]=cmpB a.args[i].s b.args[i].s:=by simp[cmpT,or3,hk,hk2]
  rw[hT]at hR
  by_cases hk3:cmpB a.args[i].s b.args[i].s=0
  ·exact⟨⟨i+1,n3,cmpB a.args[i].s b.args[i].s⟩,by dsimp only;omega,⟨by dsimp only;omega,by dsimp only;omega,.inr ⟨hk3,hlen,by rw[hR,hk3];simp⟩⟩,by simp[FT.Le,Wk],backK hH2⟩
  ·rw[if_pos hk3]at hR
   exact⟨⟨i+1,n3,cmpB a.args[i].s b.args[i].s⟩,by dsimp only;omega,⟨by dsimp only;omega,by dsimp only;omega,.inl ⟨hk3,hR.symm⟩⟩,by simp[FT.Le,Wk],backK hH2⟩
 ·simp(disch:=omega)[h1]
  have hR:cmpA a b=cmpB a.pred b.pred:=by simp[cmpA,or3,h1]
  refine lP_enter (σ:=NNC) (fun q=>(.nd .bot (.nd .bot (.nd (.ptr (H.next+1) 0) .nil .nil) (.nd (.int q.c) .nil .nil)) (.nd (.ptr H.next 0) .nil (.nd (.int q.i) .nil .nil)))) (fun q=>⟨(H.next+1,.cells [.str b.pred,argsL b.args])::(H.next,.cells [.str a.pred,argsL a.args])::H.objs,q.n⟩) (fun q=>a.args.length - q.i)
   (fun q=>H.next+2<=q.n/\q.i<=a.args.length/\((q.c≠0/\q.c=cmpA a b)\/(q.c=0/\a.args.length=b.args.length/\cmpTs (a.args.drop q.i) (b.args.drop q.i)=cmpA a b))) ⟨0,n,cmpB a.pred b.pred⟩ ⟨by dsimp only;omega,Nat.zero_le _,.inl ⟨h1,hR.symm⟩⟩ (by simp[FT.Le,Wk]) ⟨HWk.refl _,fun h=>h⟩ ?_
  rintro⟨i,n,c⟩ ⟨hn,hi,hI⟩ hok
  simp only at hn hi hI
  rcases hI with⟨hc,hI⟩|⟨rfl,hlen,hI⟩
  ·by_cases hlt:i<a.args.length
   ·simp(disch:=omega)[hlt,hc]
    exact doneK hH (by simp[hI])
   ·simp(disch:=omega)[hlt]
    exact doneK hH (by simp[hI])
  by_cases hlt:i<a.args.length
  case neg=>
   simp(disch:=omega)[hlt]
   rw[List.drop_eq_nil_of_le (by omega),List.drop_eq_nil_of_le (by omega)]at hI
   exact doneK hH (by simp[<-hI,cmpTs])
  have hly:i<b.args.length:=by omega
  rw[List.drop_eq_getElem_cons hlt,List.drop_eq_getElem_cons hly]at hI
  have hR:cmpA a b=if cmpT a.args[i] b.args[i]≠0 then cmpT a.args[i] b.args[i] else cmpTs (a.args.drop (i+1)) (b.args.drop (i+1)):=hI.symm
  simp(disch:=omega)[hlt,hly]
  refine(t_rorder _ _).go fun n1 hn1=>?_
  by_cases hk:cmpI a.args[i].kind b.args[i].kind=0
  case neg=>
   simp(disch:=omega)[hk,wrap_nat (show i<2^62 by omega)]
   have hT:cmpT a.args[i] b.args[i]=cmpI a.args[i].kind b.args[i].kind:=by simp[cmpT,or3,hk]
   rw[hT,if_pos hk]at hR
   exact⟨⟨i+1,n1,cmpI a.args[i].kind b.args[i].kind⟩,by dsimp only;omega,⟨by dsimp only;omega,by dsimp only;omega,.inl ⟨hk,hR.symm⟩⟩,by simp[FT.Le,Wk],backK hH2⟩
  simp(disch:=omega)[hk]
  refine(t_rorder _ _).go fun n2 hn2=>?_
  by_cases hk2:cmpI a.args[i].n b.args[i].n=0
  case neg=>
   simp(disch:=omega)[hk2,wrap_nat (show i<2^62 by omega)]
   have hT:cmpT a.args[i] b.args[i]=cmpI a.args[i].n b.args[i].n:=by simp[cmpT,or3,hk,hk2]
   rw[hT,if_pos hk2]at hR
   exact⟨⟨i+1,n2,cmpI a.args[i].n b.args[i].n⟩,by dsimp only;omega,⟨by dsimp only;omega,by dsimp only;omega,.inl ⟨hk2,hR.symm⟩⟩,by simp[FT.Le,Wk],backK hH2⟩
  simp(disch:=omega)[hk2]
  refine(t_rorderText _ _).go fun n3 hn3=>?_
  simp(disch:=omega)[wrap_nat (show i<2^62 by omega)]
  have hT:cmpT a.args[i] b.args[i]=cmpB a.args[i].s b.args[i].s:=by simp[cmpT,or3,hk,hk2]
  rw[hT]at hR
  by_cases hk3:cmpB a.args[i].s b.args[i].s=0
  ·exact⟨⟨i+1,n3,cmpB a.args[i].s b.args[i].s⟩,by dsimp only;omega,⟨by dsimp only;omega,by dsimp only;omega,.inr ⟨hk3,hlen,by rw[hR,hk3];simp⟩⟩,by simp[FT.Le,Wk],backK hH2⟩
  ·rw[if_pos hk3]at hR
   exact⟨⟨i+1,n3,cmpB a.args[i].s b.args[i].s⟩,by dsimp only;omega,⟨by dsimp only;omega,by dsimp only;omega,.inl ⟨hk3,hR.symm⟩⟩,by simp[FT.Le,Wk],backK hH2⟩
theorem t_of(a:Atom):PureT 47 [atomL a] (.agg [.str a.pred,.int a.args.length]):=by
 refine PureT.of c47 fun H hH=>⟨Nat.le_of_ble_eq_true rfl,?_⟩
 simp(disch:=omega)[b47]
 exact doneK hH (by simp[])
abbrev Bind:=List (ByteArray×Term)
def findB(k:ByteArray):Bind->Option Term
 |[]=>none
 |(j,t)::r=>if eqBA k j then some t else findB k r
def eqT(x y:Term):Bool:=decide (x.kind=y.kind)&&(decide (x.n=y.n)&&eqBA x.s y.s)
abbrev encE(E:Bind):List (LV×LV):=E.map fun e=>(.str e.1,termL e.2)
def setB(k:ByteArray)(v:Term):Bind->Bind
 |[]=>[(k,v)]
 |(j,u)::r=>if eqBA k j then (j,v)::r else (j,u)::setB k v r
theorem findL_enc(k:ByteArray):∀E:Bind,findL (.pl 1) (.str k) (encE E)=some ((findB k E).map termL)
 |[]=>rfl
 |(j,t)::r=>by
  have ih:=findL_enc k r
  simp only[encE,List.map_cons,findL,eqK,eqB_s,findB]
  cases h:eqBA k j
  ·simpa using ih
  ·simp
theorem setL_enc(k:ByteArray)(v:Term):∀E:Bind,setL (.pl 1) (.str k) (termL v) (encE E)=some (encE (setB k v E))
 |[]=>rfl
 |(j,t)::r=>by
  have ih:=setL_enc k v r
  simp only[encE,List.map_cons,setL,eqK,eqB_s,setB]
  cases h:eqBA k j
  ·simp only[encE]at ih
   simp[ih]
  ·simp
theorem eqBA_self(a:ByteArray):eqBA a a=true:=by simp[eqBA]
theorem lk_map{H:LHeap}{o:Nat}{E:Bind}(h:look o H.objs=some (.map (encE E)))(k:ByteArray)(z:LV):lkL H (.pl 1) true z (.map o) (.str k)=some (match findB k E with|some t=>.tup [termL t,.bool true]|none=>.tup [z,.bool false]):=by
 unfold lkL
 simp only[eqK,eqB_s,eqBA_self,Option.isSome_some,if_true,h,findL_enc]
 cases findB k E<;>rfl
theorem mu_map{H:LHeap}{o:Nat}{E:Bind}(h:look o H.objs=some (.map (encE E)))(k:ByteArray)(v:Term):muL H (.pl 1) (.map o) (.str k) (termL v)=some (H.put o (.map (encE (setB k v E)))):=by
 unfold muL
 simp only[h,eqK,eqB_s,eqBA_self,Option.isNone_some,Bool.false_eq_true,if_false,setL_enc,Option.map_some]
structure NNE where
 i:Nat
 n:Nat
 e:Bind
structure Lit where
 kind:Int
 atom:Atom
 a:Term
 b:Term
structure Clause where
 head:Atom
 body:List Lit
abbrev litC(l:Lit):List LV:=[.int l.kind,.str l.atom.pred,argsL l.atom.args,.int l.a.kind,.int l.a.n,.str l.a.s,.int l.b.kind,.int l.b.n,.str l.b.s]
abbrev litL(l:Lit):LV:=.agg (litC l)
abbrev bodyL(l:List Lit):LV:=.sl (l.map litL) .no
abbrev clauseC(c:Clause):List LV:=[.str c.head.pred,argsL c.head.args,bodyL c.body]
abbrev clauseL(c:Clause):LV:=.agg (clauseC c)
abbrev encV(S:List ByteArray):List (LV×LV):=S.map fun k=>(.str k,B true)
def hasV(k:ByteArray)(S:List ByteArray):Bool:=S.any (eqBA k)
def addK(k:ByteArray)(S:List ByteArray):List ByteArray:=if hasV k S then S else S++[k]
def addV(t:Term)(S:List ByteArray):List ByteArray:=if t.kind=3 then addK t.s S else S
def addVs:List Term->List ByteArray->List ByteArray
 |[],S=>S
 |t::r,S=>addVs r (addV t S)
theorem setL_encV(k:ByteArray):∀S:List ByteArray,setL (.pl 1) (.str k) (B true) (encV S)=some (encV (addK k S))
 |[]=>rfl
 |j::r=>by
  have ih:=setL_encV k r
  have hc:hasV k (j::r)=(eqBA k j||hasV k r):=rfl
  by_cases h:eqBA k j=true
  ·simp[encV,addK,hc,setL,eqK,eqB_s,h]
  ·have h':eqBA k j=false:=by simpa using h
   by_cases hb:hasV k r=true
   ·simp only[encV,addK,if_pos hb]at ih
    simp[encV,addK,hc,setL,eqK,eqB_s,h',hb,ih]
   ·simp only[encV,addK,if_neg hb]at ih
    have hb':hasV k r=false:=by simpa using hb
    simp only[encV,addK,hc,setL,eqK,eqB_s,h',hb',List.map_cons,ih]
    simp
theorem findL_encV(k:ByteArray):∀S:List ByteArray,findL (.pl 1) (.str k) (encV S)=some (if hasV k S then some (B true) else none)
 |[]=>rfl
 |j::r=>by
  have ih:=findL_encV k r
  simp only[encV,hasV,List.map_cons,findL,eqK,eqB_s,List.any_cons]
  by_cases h:eqBA k j=true
  ·simp[h]
  ·simp only[h,Bool.false_or]
   simpa [hasV] using ih
theorem muV{H:LHeap}{o:Nat}{S:List ByteArray}(h:look o H.objs=some (.map (encV S)))(k:ByteArray):muL H (.pl 1) (.map o) (.str k) (B true)=some (H.put o (.map (encV (addK k S)))):=by
 unfold muL
 simp only[h,eqK,eqB_s,eqBA_self,Option.isNone_some,Bool.false_eq_true,if_false,setL_encV,Option.map_some]
theorem lkV{H:LHeap}{o:Nat}{S:List ByteArray}(h:look o H.objs=some (.map (encV S)))(k:ByteArray):lkL H (.pl 1) false (B false) (.map o) (.str k)=some (B (hasV k S)):=by
 unfold lkL
 simp only[eqK,eqB_s,eqBA_self,Option.isSome_some,if_true,h,findL_encV]
 cases hasV k S<;>rfl
theorem look_putO{o:Nat}{x y:LObj}:∀{l:List (Nat×LObj)},look o l=some x->look o (putO o y l)=some y
 |[],h=>by cases h
 |(j,z)::r,h=>by
  simp only[look]at h
  simp only[putO]
  split
  ·rename_i e;subst e;simp[look]
  ·rename_i e
   rw[if_neg e]at h
   simp only[look,if_neg e]
   exact look_putO h
theorem putO_putO{o:Nat}{x y:LObj}:∀(l:List (Nat×LObj)),putO o y (putO o x l)=putO o y l
 |[]=>rfl
 |(j,z)::r=>by
  simp only[putO]
  split
  ·rename_i e;subst e;simp[putO]
  ·rename_i e
   simp only[putO,if_neg e,putO_putO r]
theorem putO_same{o:Nat}{x:LObj}:∀{l:List (Nat×LObj)},look o l=some x->putO o x l=l
 |[],h=>by cases h
 |(j,z)::r,h=>by
  simp only[look]at h
  simp only[putO]
  split
  ·rename_i e;subst e;simp at h;rw[h]
  ·rename_i e
   rw[if_neg e]at h
   rw[putO_same h]
theorem keep{H':LHeap}{v:LV}{kv:HP}(h:kv v H'):∃H'',HWk H' H''/\(H'.Ok->H''.Ok)/\kv v H'':=⟨H',HWk.refl _,fun h=>h,h⟩
structure NNV where
 i:Nat
 n:Nat
 s:List ByteArray
theorem t_vars(l:List Term)(own:Own)(hl:l.length<2^40)(o:Nat)(S:List ByteArray)(ob:List (Nat×LObj))(nx:Nat)(ho:look o ob=some (.map (encV S))){kv kp:HP}
  (hk:∀n,nx<=n->kv (.tup []) ⟨putO o (.map (encV (addVs l S))) ob,n⟩):cP E0 F0 94 [.sl (l.map termL) own,.map o] ⟨ob,nx⟩ kv kp:=by
 refine cP_of_fn c94 fun hH=>⟨Nat.le_of_ble_eq_true rfl,?_⟩
 have hon:o<nx:=hH.look ho
 simp(disch:=omega)[b94]
 obtain⟨A,hA⟩:∃A,addVs l S=A:=⟨_,rfl⟩
 rw[hA]at hk
 refine lP_enter (σ:=NNV) (fun q=>(.nd .bot (.nd (.map o) (.nd .bot (.nd (.int l.length) .nil .nil) .nil) .nil) (.nd .bot (.nd .bot (.nd (.int q.i) .nil .nil) .nil) (.nd (.sl (l.map termL) own) .nil .nil))))
  (fun q=>⟨putO o (.map (encV q.s)) ob,q.n⟩) (fun q=>l.length - q.i)
  (fun q=>nx<=q.n/\q.i<=l.length/\addVs (l.drop q.i) q.s=A) ⟨0,nx,S⟩ ⟨Nat.le_refl _,Nat.zero_le _,hA⟩ (by simp[FT.Le,Wk]) ?_ ?_
 ·dsimp only;rw[putO_same ho];exact⟨HWk.refl _,fun h=>h⟩
 rintro⟨i,n,s⟩ ⟨hn,hi,he⟩ hok
 simp only at hn hi he
 have hHe:∀s:List ByteArray,LHeap.Ok ⟨putO o (.map (encV s)) ob,nx⟩:=fun s=>Desc.put hH
 by_cases hlt:i<l.length
 case neg=>
  rw[List.drop_eq_nil_of_le (by omega)]at he
  simp only[addVs]at he
  subst he
  simp(disch:=omega)[hlt,resP_nil]
  exact keep (hk _ (by omega))
 rw[List.drop_eq_getElem_cons hlt]at he
 simp only[addVs]at he
 have hlo:look o (putO o (.map (encV s)) ob)=some (.map (encV s)):=look_putO ho
 by_cases hk3:l[i].kind=3
 ·simp only[addV,if_pos hk3]at he
  simp(disch:=omega)[hlt,hk3]
  rw[muV (S:=s) (by simp(disch:=omega)[look_ne,hlo])]
  simp(disch:=omega)[hlt,hk3,wrap_nat (show i<2^62 by omega),putO_putO]
  exact⟨⟨i+1,n+1,addK l[i].s s⟩,by dsimp only;omega,⟨by dsimp only;omega,by dsimp only;omega,he⟩,by simp[FT.Le,Wk],back (hHe _) (by first|exact HExt.refl' _|(repeat (first|exact HExt.refl (by first|omega|(dsimp only;omega))|refine HExt.cons' (hHe _) (by first|omega|(dsimp only;omega)) (by first|omega|(dsimp only;omega)) ?_)))⟩
 ·simp only[addV,if_neg hk3]at he
  simp(disch:=omega)[hlt,hk3,wrap_nat (show i<2^62 by omega)]
  exact⟨⟨i+1,n+1,s⟩,by dsimp only;omega,⟨by dsimp only;omega,by dsimp only;omega,he⟩,by simp[FT.Le,Wk],back (hHe _) (by first|exact HExt.refl' _|(repeat (first|exact HExt.refl (by first|omega|(dsimp only;omega))|refine HExt.cons' (hHe _) (by first|omega|(dsimp only;omega)) (by first|omega|(dsimp only;omega)) ?_)))⟩
def litV(l:Lit)(q:List ByteArray×List ByteArray):List ByteArray×List ByteArray:=
 if l.kind=1 then (addVs l.atom.args q.1,q.2) else if l.kind=2 then (q.1,addVs l.atom.args q.2) else (q.1,addVs [l.a,l.b] q.2)
def litsV:List Lit->List ByteArray×List ByteArray->List ByteArray×List ByteArray
 |[],q=>q
 |l::r,q=>litsV r (litV l q)
def safeB(c:Clause):Bool:=(litsV c.body ([],addVs c.head.args [])).2.all fun v=>hasV v (litsV c.body ([],addVs c.head.args [])).1
def Lit.ok(l:Lit):Prop:=l.atom.ok
def Clause.ok(c:Clause):Prop:=c.head.ok/\c.body.length<2^40/\∀l∈c.body,Lit.ok l
structure NNVV where
 i:Nat
 n:Nat
 q:List ByteArray×List ByteArray
structure NNI where
 left:List Nat
 cur:Option Nat
theorem all_erase(p:Nat->Bool):∀(l:List Nat)(j q:Nat),l[j]? = some q->l.all p=(p q&&(l.eraseIdx j).all p)
 |[],_,_,h=>by simp at h
 |a::r,0,q,h=>by simp at h;subst h;rfl
 |a::r,j+1,q,h=>by
  simp only[List.getElem?_cons_succ]at h
  have ih:=all_erase p r j q h
  simp only[List.eraseIdx_cons_succ,List.all_cons,ih]
  cases p a<;>cases p q<;>rfl
theorem all_range{α:Type}(p:α->Bool)(l:List α)(d:α):((List.range l.length).all fun k=>p (l.getD k d))=l.all p:=by
 rw[Bool.eq_iff_iff]
 simp only[List.all_eq_true,List.mem_range]
 constructor
 ·intro h x hx
  obtain⟨k,hk,rfl⟩:=List.mem_iff_getElem.1 hx
  have:=h k hk
  rwa [List.getD_eq_getElem?_getD,List.getElem?_eq_getElem hk]at this
 ·intro h k hk
  rw[List.getD_eq_getElem?_getD,List.getElem?_eq_getElem hk]
  exact h _ (List.getElem_mem hk)
theorem t_safe(c:Clause)(hc:c.ok):PureT 53 [clauseL c] (.bool (safeB c)):=by
 refine PureT.of c53 fun H hH=>⟨Nat.le_of_ble_eq_true rfl,?_⟩
 have hbl:=hc.2.1
 simp(disch:=omega)[b53]
 refine t_vars c.head.args _ hc.1.2.1 _ [] _ _ (by simp[look_self]) fun n hn=>?_
 simp(disch:=omega)
 obtain⟨Q,hQ⟩:∃Q,litsV c.body ([],addVs c.head.args [])=Q:=⟨_,rfl⟩
 have hHe:∀s1 s2:List ByteArray,LHeap.Ok ⟨(H.next+2,.map (encV s2))::(H.next+1,.map (encV s1))::(H.next,.cells (clauseC c))::H.objs,H.next+3⟩:=fun _ _=>⟨Nat.lt_succ_self _,Nat.lt_succ_self _,Nat.lt_succ_self _,hH⟩
 refine lP_enter (σ:=NNVV) (fun q=>(.nd .bot (.nd .bot (.nd (.map (H.next+1)) .nil .nil) (.nd .bot (.nd .bot (.nd (.int c.body.length) .nil .nil) .nil) .nil)) (.nd .bot (.nd (.map (H.next+2)) (.nd .bot (.nd (bodyL c.body) .nil .nil) .nil) .nil) (.nd .bot (.nd .bot (.nd (.int q.i) .nil .nil) .nil) .nil))))
  (fun q=>⟨(H.next+2,.map (encV q.q.2))::(H.next+1,.map (encV q.q.1))::(H.next,.cells (clauseC c))::H.objs,q.n⟩) (fun q=>c.body.length - q.i)
  (fun q=>H.next+3<=q.n/\q.i<=c.body.length/\litsV (c.body.drop q.i) q.q=Q) ⟨0,n,([],addVs c.head.args [])⟩ ⟨by dsimp only;omega,Nat.zero_le _,hQ⟩ (by simp[FT.Le,Wk]) ⟨HWk.refl _,fun h=>h⟩ ?_
 rintro⟨i,n,q⟩ ⟨hn,hi,he⟩ hok
 simp only at hn hi he
 by_cases hlt:i<c.body.length
 case neg=>
  rw[List.drop_eq_nil_of_le (by omega)]at he
  simp only[litsV]at he
  subst he
  simp(disch:=omega)[hlt,rgL]
  have hR:safeB c=q.2.all fun v=>hasV v q.1:=by unfold safeB;rw[hQ]
  obtain⟨A,hA⟩:∃A,safeB c=A:=⟨_,rfl⟩
  rw[hA]at hR
  rw[hA]
  have hx:LHeap.Ok ⟨(H.next+2,.map (encV q.2))::(H.next+1,.map (encV q.1))::(H.next,.cells (clauseC c))::H.objs,n⟩:=Desc.mono (hHe q.1 q.2) hn
  refine lP_enter (σ:=NNI) (fun r=>(.nd .bot (.nd .bot (.nd (.map (H.next+1)) (.nd .bot (.nd .bot .nil (.nd (.ptr n 0) .nil .nil)) .nil) .nil) .nil) .nil))
   (fun r=>⟨(n,.iter (H.next+2) r.left r.cur q.2.length)::(H.next+2,.map (encV q.2))::(H.next+1,.map (encV q.1))::(H.next,.cells (clauseC c))::H.objs,n+1⟩) (fun r=>r.left.length)
   (fun r=>(∀k∈r.left,k<q.2.length)/\(r.left.all fun k=>hasV (q.2.getD k ⟨⟨[]⟩⟩) q.1)=A) ⟨List.range q.2.length,none⟩ ⟨fun k hk=>List.mem_range.1 hk,?_⟩ (by simp[FT.Le,Wk]) ?_ ?_
  ·rw[hR];exact all_range (fun v=>hasV v q.1) q.2 _
  ·exact⟨HWk.refl _,fun h=>h⟩
  rintro⟨left,cur⟩ ⟨hl,he⟩ hok
  dsimp only at hl he
  simp(disch:=omega)
  by_cases hl0:left=[]
  ·refine⟨n,H.next+2,left,cur,q.2.length,rfl,by simp[look_self],.inl ⟨hl0,.inr ⟨encV q.2,by simp(disch:=omega)[look_ne,look_self],by simp⟩,?_⟩⟩
   subst hl0
   simp(disch:=omega)
   exact doneK hH (by simp[<-he])
  ·refine⟨n,H.next+2,left,cur,q.2.length,rfl,by simp[look_self],.inr ⟨hl0,encV q.2,by simp(disch:=omega)[look_ne,look_self],by simp,fun j k e hj hk=>?_⟩⟩
   obtain⟨v,hv,rfl⟩:∃v,q.2[k]? = some v/\e=(.str v,B true):=by
    simp only[encV,List.getElem?_map]at hk
    obtain⟨v,h1,h2⟩:=Option.map_eq_some_iff.1 hk
    exact⟨v,h1,h2.symm⟩
   have hg:q.2.getD k ⟨⟨[]⟩⟩=v:=by rw[List.getD_eq_getElem?_getD,hv];rfl
   rw[all_erase _ left j k hj,hg]at he
   simp(disch:=omega)[enL,hv]
   rw[lkV (S:=q.1) (by simp(disch:=omega)[look_ne,look_self])]
   cases hb:hasV v q.1
   ·simp(disch:=omega)
    rw[hb,Bool.false_and]at he
    exact doneK hH (by simp[<-he])
   ·simp(disch:=omega)
    rw[hb,Bool.true_and]at he
    have hjl:j<left.length:=(List.getElem?_eq_some_iff.1 hj).1
    exact⟨⟨left.eraseIdx j,some k⟩,by dsimp only;rw[List.length_eraseIdx_of_lt hjl];omega,⟨fun m hm=>hl m (List.mem_of_mem_eraseIdx hm),he⟩,by simp[FT.Le,Wk],HWk.refl _,fun h=>h⟩
 rw[List.drop_eq_getElem_cons hlt]at he
 simp only[litsV]at he
 have hlo:c.body[i].atom.ok:=hc.2.2 _ (mem_at hlt)
 by_cases hk1:c.body[i].kind=1
 ·simp only[litV,if_pos hk1]at he
  simp(disch:=omega)[hlt,hk1]
  refine t_vars _ _ hlo.2.1 _ q.1 _ _ (by simp(disch:=omega)[look_self,look_ne]) fun n1 hn1=>?_
  simp(disch:=omega)[wrap_nat (show i<2^62 by omega)]
  have hx:=hHe (addVs c.body[i].atom.args q.1) q.2
  exact⟨⟨i+1,n1,_⟩,by dsimp only;omega,⟨by dsimp only;omega,by dsimp only;omega,he⟩,by simp[FT.Le,Wk],backK hx⟩
 by_cases hk2:c.body[i].kind=2
 ·simp only[litV,if_neg hk1,if_pos hk2]at he
  simp(disch:=omega)[hlt,hk2]
  refine t_vars _ _ hlo.2.1 _ q.2 _ _ (by simp(disch:=omega)[look_self,look_ne]) fun n1 hn1=>?_
  simp(disch:=omega)[wrap_nat (show i<2^62 by omega)]
  have hx:=hHe q.1 (addVs c.body[i].atom.args q.2)
  exact⟨⟨i+1,n1,_⟩,by dsimp only;omega,⟨by dsimp only;omega,by dsimp only;omega,he⟩,by simp[FT.Le,Wk],backK hx⟩
 ·simp only[litV,if_neg hk1,if_neg hk2]at he
  simp(disch:=omega)[hlt,hk1,hk2]
  refine t_vars [c.body[i].a,c.body[i].b] _ (by simp) _ q.2 _ _ (by simp(disch:=omega)[look_self,look_ne]) fun n1 hn1=>?_
  simp(disch:=omega)[wrap_nat (show i<2^62 by omega)]
  have hx:=hHe q.1 (addVs [c.body[i].a,c.body[i].b] q.2)
  exact⟨⟨i+1,n1,_⟩,by dsimp only;omega,⟨by dsimp only;omega,by dsimp only;omega,he⟩,by simp[FT.Le,Wk],backK hx⟩
end Go.Abs.Tz
namespace Go.Abs.Tz
open Go Go.Abs Go.Proofs
theorem hwk_skip{a n m:Nat}{y:LObj}{r:List (Nat×LObj)}(hr:Desc r a)(h:n<=m):HWk ⟨(a,y)::r,m⟩ ⟨r,m⟩:=by
 refine⟨Nat.le_refl _,fun i z hz=>?_⟩
 have:=hr.look hz
 rw[look_ne (by omega)]
 exact hz
theorem hwk_old{ob ob':List (Nat×LObj)}{n n' m:Nat}(hH:LHeap.Ok ⟨ob,n⟩)(h:∀i,i<n->look i ob'=look i ob)(hm:n'<=m):HWk ⟨ob',m⟩ ⟨ob,m⟩:=⟨Nat.le_refl _,fun i x hx=>by rw[h i (hH.look hx)];exact hx⟩
theorem hwk_mid{a b n:Nat}{x y:LObj}{r r':List (Nat×LObj)}(hr:Desc r' b)(h:∀i z,look i r'=some z->look i r=some z):HWk ⟨(a,x)::(b,y)::r,n⟩ ⟨(a,x)::r',n⟩:=by
 refine⟨Nat.le_refl _,fun i z hz=>?_⟩
 simp only[look]at hz ⊢
 split at hz
 ·rename_i hi;rw[if_pos hi];exact hz
 ·rename_i hi
  have:=hr.look hz
  rw[if_neg hi,if_neg (by omega)]
  exact h i z hz
theorem look_putO_ne{i j:Nat}{x:LObj}(h:i≠j):∀{l:List (Nat×LObj)},look i (putO j x l)=look i l
 |[]=>rfl
 |(k,y)::r=>by
  simp only[putO]
  by_cases hk:j=k
  ·subst hk
   rw[if_pos rfl]
   simp only[look]
   rw[if_neg h,if_neg h]
  ·rw[if_neg hk]
   simp only[look]
   rw[look_putO_ne h]
def RowT(H:LHeap)(sz len:Nat)(own:Own)(ob:List (Nat×LObj))(n:Nat):Prop:=(own=.full/\ob=H.objs/\H.next<=n)\/∃t,own=.tok t/\H.next<=t/\t<n/\ob=(t,.tok len sz)::H.objs
theorem row_apY{H:LHeap}{sz:Nat}{es Y:List LV}{own:Own}{ob:List (Nat×LObj)}{n:Nat}(hsz:0<sz/\sz<=2^10)(hes:(es.all fun e=>e.cells.length==sz)=true)(hY:(Y.all fun e=>e.cells.length==sz)=true)(hl:es.length+Y.length<=2^30)(h:RowT H sz es.length own ob n):
  ∃own' ob' n',(∀ow,apL ⟨ob,n⟩ sz (.sl es own) (.sl Y ow)=some (.sl (es++Y) own',⟨ob',n'⟩))/\RowT H sz (es.length+Y.length) own' ob' n'/\n<=n':=by
 rcases h with⟨rfl,rfl,h⟩|⟨t,rfl,h1,h2,rfl⟩
 ·refine⟨.tok n,(n,.tok (es.length+Y.length) sz)::H.objs,n+1,fun ow=>?_,.inr ⟨n,rfl,h,Nat.lt_succ_self _,rfl⟩,Nat.le_succ _⟩
  unfold apL
  simp only
  rw[hes,hY]
  simp only[Bool.and_self,if_true]
  rw[if_pos ⟨hl,hsz.2,rfl⟩]
  rfl
 ·refine⟨.tok t,(t,.tok (es.length+Y.length) sz)::H.objs,n,fun ow=>?_,.inr ⟨t,rfl,h1,h2,rfl⟩,Nat.le_refl _⟩
  have hcan:canApp ⟨(t,.tok es.length sz)::H.objs,n⟩ sz (.tok t) es.length=true:=by
   have:sz≠0:=by omega
   simp[canApp,look,this]
  unfold apL
  simp only
  rw[hes,hY]
  simp only[Bool.and_self,if_true]
  rw[if_pos ⟨hl,hsz.2,hcan⟩]
  simp[LHeap.put,putO]
theorem RowT.old{H:LHeap}{sz len:Nat}{own:Own}{ob:List (Nat×LObj)}{n:Nat}(h:RowT H sz len own ob n):H.next<=n/\∀i,i<H.next->look i ob=look i H.objs:=by
 rcases h with⟨_,rfl,h⟩|⟨t,_,h1,h2,rfl⟩
 ·exact⟨h,fun _ _=>rfl⟩
 ·exact⟨by omega,fun i hi=>look_ne (by omega) _ _⟩
theorem terms_all(G:List Term):(G.map termL).all (fun e=>e.cells.length==3)=true:=by simp[LV.cells]
theorem clauses_all(l:List Clause):((l.map clauseL).all fun e=>e.cells.length==3)=true:=by
 rw[List.all_eq_true]
 intro e he
 obtain⟨c,_,rfl⟩:=List.mem_map.1 he
 rfl
theorem RowT.mono{H:LHeap}{sz len:Nat}{own:Own}{ob:List (Nat×LObj)}{n m:Nat}(h:RowT H sz len own ob n)(hm:n<=m):RowT H sz len own ob m:=by
 rcases h with⟨h1,h2,h3⟩|⟨t,h1,h2,h3,h4⟩
 ·exact .inl ⟨h1,h2,by omega⟩
 ·exact .inr ⟨t,h1,h2,by omega,h4⟩
end Go.Abs.Tz
namespace Go.Abs
open Go
theorem Inv.grown{G:Ghost}{w w':World}{H:LHeap}(hI:Inv G w H)(hg:w.grownBy w' none):Ext G w G w'/\Inv G w' H:=by
 have hb:∀k,k<w.heap.size->w'.heap[k]? = w.heap[k]?:=fun k hk=>hg.block k hk (by simp)
 have hlt:∀{k:Nat}{o:Obj},w.heap[k]? = some o->k<w.heap.size:=fun h=>(Array.getElem?_eq_some_iff.1 h).1
 have hx:Ext G w G w':=by
  refine⟨hg.os,hg.tape,hg.output,hg.size,rfl,fun k hk=>hb k (hI.hB k hk),Nat.le_refl _,fun _ _=>rfl,fun _ _=>rfl,fun b x hc=>⟨hc,fun v hv=>?_⟩,fun t _ m b c h=>⟨m,b,c,h,Nat.le_refl _,fun _=>⟨rfl,rfl⟩⟩,rfl⟩
  have:b<w.heap.size:=by
   rcases Nat.lt_or_ge b w.heap.size with h|h
   ·exact h
   ·rw[hI.free b x h]at hc;cases hc
  rw[cell?_of_block (hb b this)];exact hv
 refine⟨hx,Inv.step (W:=fun _ _=>False) (V:=fun _=>False) (fun _=>False) hI hx ⟨fun k vs el fz h=>⟨vs,by rw[hb k (hlt h)];exact h,rfl,fun _ _=>rfl⟩,fun k ob h _ _=>by rw[hb k (hlt h)];exact h⟩
  hI.n (fun b x h=>hI.free b x (Nat.le_trans hg.size h)) (fun b x h=>hI.old b x h) (fun _ _ _ h=>h) (fun _ _ _ _ _ h=>h) (fun _ _ _ h=>h) (fun _ _ _ _=>⟨fun h=>h,fun h=>h⟩) (fun _ _ _=>rfl) ?_ (fun _ _ h=>h.elim)⟩
 intro m es' hm he'
 obtain⟨_,hob⟩:=hI.objs m _ he'
 obtain⟨ents,clock,h1,_⟩:=hob
 refine⟨es',he',Nat.le_refl _,fun _ ents' clock' h'=>⟨ents,clock,h1,?_⟩⟩
 rw[hb _ (hlt h1),h1]at h'
 cases h'
 exact⟨rfl,fun _=>rfl⟩
theorem callOk_grown{P:Program}{E:Env}{f:FuncId}{args:List LV}{H:LHeap}{v:LV}{S:Res->Prop}(he:Enters P f)(hS:S (.ret v H))
  (h:∀(G:Ghost)(w:World)(us:Array Value),Inv G w H->ArgsR G w args us->Calls P f us w fun e w'=>∃u,e=.returned u/\VR G w' v u/\w.grownBy w' none):CallOk P E f args H S:=by
 refine⟨he,fun G w us hI _ ha=>(h G w us hI ha).mono fun e w' hw=>?_⟩
 obtain⟨u,rfl,hv,hg⟩:=hw
 obtain⟨hx,hI'⟩:=hI.grown hg
 exact⟨v,H,G,hS,hv,hI',hx⟩
theorem Pure.of_calls{P:Program}{E:Env}{F:Fns}(hF:∀f args H S,CallOk P E f args H S->F.prim f args H S){f:FuncId}{args:List LV}{v:LV}(he:Enters P f)
  (h:∀(G:Ghost)(w:World)(us:Array Value),ArgsR G w args us->Calls P f us w fun e w'=>∃u,e=.returned u/\VR G w' v u/\w.grownBy w' none):Pure E F f args v:=by
 intro H kv kp hk hH
 exact .prim (hF _ _ _ _ (callOk_grown (v:=v) he (.inl ⟨v,H,rfl,hH,hk H.next (Nat.le_refl _)⟩) fun G w us _ ha=>h G w us ha))
theorem Pure.of_callsE{P:Program}{E:Env}{F:Fns}(hF:∀f args H S,CallOk P E f args H S->F.prim f args H S){f:FuncId}{args:List LV}{v:LV}(he:Enters P f)
  (h:∀(G:Ghost)(w:World)(us:Array Value),EnvR E G w->ArgsR G w args us->Calls P f us w fun e w'=>∃u,e=.returned u/\VR G w' v u/\w.grownBy w' none):Pure E F f args v:=by
 intro H kv kp hk hH
 refine .prim (hF _ _ _ _ ⟨he,fun G w us hI hE ha=>(h G w us hE ha).mono fun e w' hw=>?_⟩)
 obtain⟨u,rfl,hv,hg⟩:=hw
 obtain⟨hx,hI'⟩:=hI.grown hg
 exact⟨v,H,G,.inl ⟨v,H,rfl,hH,hk H.next (Nat.le_refl _)⟩,hv,hI',hx⟩
theorem grownBy_refl(w:World):w.grownBy w none:=⟨rfl,rfl,rfl,Nat.le_refl _,fun _ _ _=>rfl⟩
end Go.Abs
namespace Go.Abs
open Go
inductive Bel (n:Nat):LV->Prop
 |sc (v:Value):Bel n (.sc v)
 |bot:Bel n .bot
 |agg {cs:List LV}:(∀(i:Nat)(c:LV),cs[i]? = some c->Bel n c)->Bel n (.agg cs)
 |tup {cs:List LV}:(∀(i:Nat)(c:LV),cs[i]? = some c->Bel n c)->Bel n (.tup cs)
 |sl {es:List LV} {own:Own}:(∀(i:Nat)(e:LV)(j:Nat)(c:LV),es[i]? = some e->e.cells[j]? = some c->Bel n c)->(∀t,own=.tok t->t<n)->Bel n (.sl es own)
 |asl {o off len:Nat}:o<n->Bel n (.asl o off len)
 |ptr {o off:Nat}:o<n->Bel n (.ptr o off)
 |cptr {cs:List LV} {off:Nat}:(∀(j:Nat)(c:LV),cs[j]? = some c->Bel n c)->Bel n (.cptr cs off)
 |map {o:Nat}:o<n->Bel n (.map o)
 |fn {f:Fn} {a c:List LV}:fnOk n f->(∀(i:Nat)(x:LV),a[i]? = some x->Bel n x)->(∀(i:Nat)(x:LV),c[i]? = some x->Bel n x)->Bel n (.fn f a c)
 |iface {t:TypeId} {x:LV}:Bel n x->Bel n (.iface t x)
theorem Bel.mono{n m:Nat}{x:LV}(h:Bel n x)(hm:n<=m):Bel m x:=by
 induction h with
 |sc v=>exact .sc v
 |bot=>exact .bot
 |agg _ ih=>exact .agg ih
 |tup _ ih=>exact .tup ih
 |sl _ ho ih=>exact .sl ih (fun t ht=>Nat.lt_of_lt_of_le (ho t ht) hm)
 |asl h=>exact .asl (Nat.lt_of_lt_of_le h hm)
 |ptr h=>exact .ptr (Nat.lt_of_lt_of_le h hm)
 |cptr _ ih=>exact .cptr ih
 |map h=>exact .map (Nat.lt_of_lt_of_le h hm)
 |fn hf _ _ ih1 ih2=>exact .fn (fnOk_mono hf hm) ih1 ih2
 |iface _ ih=>exact .iface ih
def Ghost.low(G:Ghost)(n:Nat):Ghost:=⟨G.B,n,G.loc,G.asz,G.tk,G.own,G.rc⟩
theorem OwnR.bel{G:Ghost}{own:Own}{base:Option Addr}{l c:Nat}(h:OwnR G own base l c):∀t,own=.tok t->t<G.n:=by
 rintro t rfl;exact h.1
theorem OwnR.low{G:Ghost}{n:Nat}{own:Own}{base:Option Addr}{l c:Nat}(h:OwnR G own base l c)(hb:∀t,own=.tok t->t<n):OwnR (G.low n) own base l c:=by
 cases own with
 |no=>exact trivial
 |full=>exact h
 |tok t=>exact⟨hb t rfl,h.2⟩
theorem VR.bel{G:Ghost}{w:World}{x:LV}{v:Value}(h:VR G w x v):Bel G.n x:=by
 induction h with
 |sc v=>exact .sc v
 |bot v=>exact .bot
 |agg _ _ _ ih=>exact .agg ih
 |tup _ _ ih=>exact .tup ih
 |sl _ _ _ _ ho ih=>exact .sl ih ho.bel
 |sln ho=>exact .sl (fun i e j c h=>by simp at h) ho.bel
 |sle a=>exact .sl (fun i e j c h=>by simp at h) (fun t h=>by cases h)
 |asl ho _ _=>exact .asl ho
 |ptr ho=>exact .ptr ho
 |cptr _ _ ih=>exact .cptr ih
 |map ho=>exact .map ho
 |fn hf _ _ _ _ ih1 ih2=>exact .fn hf ih1 ih2
 |iface _ ih=>exact .iface ih
theorem VR.low{G:Ghost}{w:World}{n:Nat}{x:LV}{v:Value}(h:VR G w x v):Bel n x->VR (G.low n) w x v:=by
 induction h with
 |sc v=>exact fun _=>.sc v
 |bot v=>exact fun _=>.bot v
 |agg hs _ h1 ih=>intro hb;cases hb with|agg hb=>exact .agg hs (fun i c hc=>ih i c hc (hb i c hc)) h1
 |tup hs _ ih=>intro hb;cases hb with|tup hb=>exact .tup hs (fun i c hc=>ih i c hc (hb i c hc))
 |sl hc hz hx _ ho ih=>intro hb;cases hb with|sl hb ho'=>exact .sl hc hz hx (fun i e j c h1 h2=>ih i e j c h1 h2 (hb i e j c h1 h2)) (ho.low ho')
 |sln ho=>intro hb;cases hb with|sl _ ho'=>exact .sln (ho.low ho')
 |sle a=>exact fun _=>.sle a
 |asl ho hl hc=>intro hb;cases hb with|asl hb=>exact .asl (G:=Ghost.low _ n) hb hl hc
 |ptr ho=>intro hb;cases hb with|ptr hb=>exact .ptr (G:=Ghost.low _ n) hb
 |cptr hx _ ih=>intro hb;cases hb with|cptr hb=>exact .cptr hx (fun j c h=>ih j c h (hb j c h))
 |map ho=>intro hb;cases hb with|map hb=>exact .map (G:=Ghost.low _ n) hb
 |fn hf h1 h2 _ _ ih1 ih2=>intro hb;cases hb with|fn hbf hb1 hb2=>exact .fn (G:=Ghost.low _ n) hbf h1 h2 (fun i x h=>ih1 i x h (hb1 i x h)) (fun i x h=>ih2 i x h (hb2 i x h))
 |iface _ ih=>intro hb;cases hb with|iface hb=>exact .iface (ih hb)
theorem ObjR.low{G G':Ghost}{w w':World}{H H':LHeap}{o:Nat}{ob:LObj}(h0:ObjR G w H o ob)(h:ObjR G' w' H' o ob)(hobj:H'.objs=H.objs):ObjR (G'.low G.n) w' H o ob:=by
 have mapc:∀es:List (LV×LV),MapR G w o es->∀es',es'.Perm es->MapR G' w' o es'->MapR (G'.low G.n) w' o es':=by
  rintro es ⟨ents0,clock0,_,_,_,hsz0,k0,_⟩ es' hp ⟨ents,clock,h1,h2,h3,h4,h5,h6⟩
  refine⟨ents,clock,h1,h2,h3,h4,fun i kv e hi he=>?_,h6⟩
  obtain⟨v1,v2⟩:=h5 i kv e hi he
  obtain⟨j,hj⟩:=List.mem_iff_getElem?.1 (hp.mem_iff.1 (List.mem_iff_getElem?.2 ⟨i,hi⟩))
  have hjl:j<ents0.size:=by rw[hsz0];exact(List.getElem?_eq_some_iff.1 hj).1
  obtain⟨b1,b2⟩:=k0 j kv ents0[j] hj (Array.getElem?_eq_getElem hjl)
  exact⟨v1.low b1.bel,v2.low b2.bel⟩
 cases ob with
 |cells cs=>
  obtain⟨vs0,el0,fz0,_,_,_,_,_,k0⟩:=h0
  obtain⟨vs,el,fz,h1,h2,h3,h4,h5,h6⟩:=h
  exact⟨vs,el,fz,h1,h2,h3,h4,h5,fun i c hc=>⟨(h6 i c hc).1.low (k0 i c hc).1.bel,(h6 i c hc).2⟩⟩
 |arr sz cs=>
  obtain⟨vs0,el0,fz0,_,_,_,_,_,_,k0⟩:=h0
  obtain⟨vs,el,fz,h1,h2,h3,h3',h4,h5,h6⟩:=h
  exact⟨vs,el,fz,h1,h2,h3,h3',h4,h5,fun i c hc=>⟨(h6 i c hc).1.low (k0 i c hc).1.bel,(h6 i c hc).2⟩⟩
 |map es=>exact mapc es h0 es (List.Perm.refl _) h
 |um es=>
  obtain⟨es0,hp0,h0⟩:=h0
  obtain⟨es1,hp1,h1⟩:=h
  exact⟨es1,hp1,mapc es0 h0 es1 (hp1.trans hp0.symm) h1⟩
 |iter m left cur n=>
  obtain⟨_,_,k3⟩:=h0
  obtain⟨h1,h2,h3⟩:=h
  refine⟨h1,h2,?_⟩
  split at h3
  ·rename_i hm
   rw[if_pos hm];exact h3
  ·rename_i hm
   rw[if_neg hm]at k3 ⊢
   obtain⟨_,_,_,km,_⟩:=k3
   rw[hobj]at h3
   obtain⟨seen,stepped,q1,_,q3⟩:=h3
   exact⟨seen,stepped,q1,km,q3⟩
 |tok n sz=>exact h
 |bld tb te l=>exact h
 |dfr=>exact h
 |lft j=>exact h
 |rcd busy fo ps k=>
  obtain⟨fn0,tmps0,df0,g1,g2,g3,g4,g5⟩:=h0
  obtain⟨fn,tmps,df,h1,h2,h3,h4,h5⟩:=h
  exact⟨fn,tmps,df,h1,h2,h3,h4,fun i x hi=>(h5 i x hi).low ((g5 i x hi).bel)⟩
theorem CallOk.low{P:Program}{E:Env}{f:FuncId}{args:List LV}{H:LHeap}{v:LV}{S:Res->Prop}(h:CallOk P E f args H fun r=>∃n,r=.ret v ⟨H.objs,n⟩)(hv:Bel 0 v)(hS:S (.ret v H)):CallOk P E f args H S:=by
 refine⟨h.1,fun G w us hI hE ha=>(h.2 G w us hI hE ha).mono fun e w' hp=>?_⟩
 cases e with
 |outgrown=>exact hp.elim
 |panicked ch=>
  obtain⟨_,_,_,_,⟨n,hn⟩,_⟩:=hp
  cases hn
 |returned u=>
  obtain⟨v',H',G',⟨n,hn⟩,hV,hI',hx⟩:=hp
  cases hn
  refine⟨v,H,G'.low G.n,hS,hV.low (hv.mono (Nat.zero_le _)),⟨hI.n,hI'.hB,hI'.free,hI'.old,fun o x ho=>?_⟩,?_⟩
  ·obtain⟨h1,h2⟩:=hI.objs o x ho
   exact⟨h1,ObjR.low h2 (hI'.objs o x ho).2 rfl⟩
  ·exact⟨hx.os,hx.tape,hx.output,hx.size,hx.hB,hx.block,Nat.le_refl _,hx.loc,hx.asz,hx.cl,hx.tk,hx.rc⟩
def OBel(n:Nat):LObj->Prop
 |.cells cs=>∀(i:Nat)(c:LV),cs[i]? = some c->Bel n c
 |.arr _ cs=>∀(i:Nat)(c:LV),cs[i]? = some c->Bel n c
 |.map es=>∀(i:Nat)(kv:LV×LV),es[i]? = some kv->Bel n kv.1/\Bel n kv.2
 |.um es=>∀(i:Nat)(kv:LV×LV),es[i]? = some kv->Bel n kv.1/\Bel n kv.2
 |.iter m _ _ _=>m<n
 |.tok _ _=>True
 |.bld _ _ _=>True
 |.rcd _ fo _ _=>∀(i:Nat)(x:LV),fo[i]? = some x->Bel n x
 |.dfr=>True
 |.lft _=>True
theorem ObjR.low2{G:Ghost}{w:World}{H H':LHeap}{n o:Nat}{ob:LObj}(h:ObjR G w H o ob)(hb:OBel n ob)(hobj:H'.objs=H.objs):ObjR (G.low n) w H' o ob:=by
 have mapc:∀es:List (LV×LV),(∀(i:Nat)(kv:LV×LV),es[i]? = some kv->Bel n kv.1/\Bel n kv.2)->MapR G w o es->MapR (G.low n) w o es:=by
  rintro es hbs ⟨ents,clock,h1,h2,h3,h4,h5,h6⟩
  exact⟨ents,clock,h1,h2,h3,h4,fun i kv e hi he=>⟨(h5 i kv e hi he).1.low (hbs i kv hi).1,(h5 i kv e hi he).2.low (hbs i kv hi).2⟩,h6⟩
 cases ob with
 |cells cs=>
  obtain⟨vs,el,fz,h1,h2,h3,h4,h5,h6⟩:=h
  exact⟨vs,el,fz,h1,h2,h3,h4,h5,fun i c hc=>⟨(h6 i c hc).1.low (hb i c hc),(h6 i c hc).2⟩⟩
 |arr sz cs=>
  obtain⟨vs,el,fz,h1,h2,h3,h3',h4,h5,h6⟩:=h
  exact⟨vs,el,fz,h1,h2,h3,h3',h4,h5,fun i c hc=>⟨(h6 i c hc).1.low (hb i c hc),(h6 i c hc).2⟩⟩
 |map es=>exact mapc es hb h
 |um es=>
  obtain⟨es1,hp1,h1⟩:=h
  refine⟨es1,hp1,mapc es1 (fun i kv hi=>?_) h1⟩
  obtain⟨j,hj⟩:=List.mem_iff_getElem?.1 (hp1.mem_iff.1 (List.mem_iff_getElem?.2 ⟨i,hi⟩))
  exact hb j kv hj
 |iter m left cur k=>
  obtain⟨h1,h2,h3⟩:=h
  refine⟨h1,h2,?_⟩
  split at h3
  ·rename_i hm
   rw[if_pos hm];exact h3
  ·rename_i hm
   rw[if_neg hm,hobj]
   obtain⟨seen,stepped,q1,_,q3⟩:=h3
   exact⟨seen,stepped,q1,hb,q3⟩
 |tok n sz=>exact h
 |bld tb te l=>exact h
 |dfr=>exact h
 |lft j=>exact h
 |rcd busy fo ps k=>
  obtain⟨fn,tmps,df,h1,h2,h3,h4,h5⟩:=h
  exact⟨fn,tmps,df,h1,h2,h3,h4,fun i x hi=>(h5 i x hi).low (hb i x hi)⟩
theorem CallOk.low2{P:Program}{E:Env}{f:FuncId}{args:List LV}{H:LHeap}{v:LV}{ob:List (Nat×LObj)}{n0:Nat}{S:Res->Prop}(h:CallOk P E f args H fun r=>∃n,r=.ret v ⟨ob,n⟩)
  (hn:H.next<=n0) (hv:Bel n0 v) (ho:∀o x,look o ob=some x->look o H.objs=some x\/(o<n0/\OBel n0 x)) (hS:S (.ret v ⟨ob,n0⟩)):CallOk P E f args H S:=by
 refine⟨h.1,fun G w us hI hE ha=>(h.2 G w us hI hE ha).mono fun e w' hp=>?_⟩
 cases e with
 |outgrown=>exact hp.elim
 |panicked ch=>
  obtain⟨_,_,_,_,⟨n,hn⟩,_⟩:=hp
  cases hn
 |returned u=>
  obtain⟨v',H',G',⟨n,hn'⟩,hV,hI',hx⟩:=hp
  cases hn'
  have hGn:G.n<=n0:=Nat.le_trans hI.n hn
  refine⟨v,⟨ob,n0⟩,G'.low n0,hS,hV.low hv,⟨Nat.le_refl _,hI'.hB,hI'.free,hI'.old,fun o x hl=>?_⟩,?_⟩
  ·have h2:=(hI'.objs o x hl).2
   rcases ho o x hl with h0|⟨h0,hb⟩
   ·obtain⟨h1,h3⟩:=hI.objs o x h0
    refine⟨Nat.lt_of_lt_of_le h1 hGn,h2.low2 ?_ rfl⟩
    cases x with
    |cells cs=>obtain⟨vs0,el0,fz0,_,_,_,_,_,k0⟩:=h3;exact fun i c hc=>(k0 i c hc).1.bel.mono hGn
    |arr sz cs=>obtain⟨vs0,el0,fz0,_,_,_,_,_,_,k0⟩:=h3;exact fun i c hc=>(k0 i c hc).1.bel.mono hGn
    |map es=>
     obtain⟨ents,clock,_,_,_,hsz,k0,_⟩:=h3
     intro i kv hi
     have hl:i<ents.size:=by rw[hsz];exact(List.getElem?_eq_some_iff.1 hi).1
     obtain⟨b1,b2⟩:=k0 i kv ents[i] hi (Array.getElem?_eq_getElem hl)
     exact⟨b1.bel.mono hGn,b2.bel.mono hGn⟩
    |um es=>
     obtain⟨es0,hp0,ents,clock,_,_,_,hsz,k0,_⟩:=h3
     intro i kv hi
     obtain⟨j,hj⟩:=List.mem_iff_getElem?.1 (hp0.symm.mem_iff.1 (List.mem_iff_getElem?.2 ⟨i,hi⟩))
     have hl:j<ents.size:=by rw[hsz];exact(List.getElem?_eq_some_iff.1 hj).1
     obtain⟨b1,b2⟩:=k0 j kv ents[j] hj (Array.getElem?_eq_getElem hl)
     exact⟨b1.bel.mono hGn,b2.bel.mono hGn⟩
    |iter m left cur k=>
     obtain⟨_,_,k3⟩:=h3
     split at k3
     ·rename_i hm
      show m<n0
      rw[hm];omega
     ·obtain⟨_,_,_,km,_⟩:=k3
      exact Nat.lt_of_lt_of_le km hGn
    |tok n sz=>exact trivial
    |bld tb te l=>exact trivial
    |dfr=>exact trivial
    |lft j=>exact trivial
    |rcd busy fo ps k=>obtain⟨_,_,_,_,_,_,_,k0⟩:=h3;exact fun i x hi=>(k0 i x hi).bel.mono hGn
   ·exact⟨h0,h2.low2 hb rfl⟩
  ·exact⟨hx.os,hx.tape,hx.output,hx.size,hx.hB,hx.block,hGn,hx.loc,hx.asz,hx.cl,hx.tk,hx.rc⟩
def PureX(E:Env)(F:Fns)(f:FuncId)(args:List LV)(v:LV):Prop:=∀(H:LHeap)(kv kp:HP),kv v H->cP E F f args H kv kp
theorem PureX.of{P:Program}{E:Env}{F:Fns}(hmix:P.follows .mixedOrders=true)(hF:FnsOk P E F)(hprim:∀f args H S,CallOk P E f args H S->F.prim f args H S){f:FuncId}{args:List LV}{v:LV}
  (h:Pure E F f args v) (hv:Bel 0 v):PureX E F f args v:=by
 intro H kv kp hk hH
 have h1:Out E F (.call f args H) fun r=>∃n,r=.ret v ⟨H.objs,n⟩:=by
  refine .mono (h H (fun u H'=>u=v/\∃n,H'=⟨H.objs,n⟩) (fun _ _=>False) (fun n _=>⟨rfl,n,rfl⟩) hH) fun r hr=>?_
  rcases hr with⟨u,H',rfl,_,rfl,n,rfl⟩|⟨u,H',rfl,_,hf⟩
  ·exact⟨n,rfl⟩
  ·exact hf.elim
 have h2:CallOk P E f args H fun r=>∃n,r=.ret v ⟨H.objs,n⟩:=sound hmix hF h1
 exact .prim (hprim _ _ _ _ (h2.low hv (.inl ⟨v,H,rfl,hH,hk⟩)))
theorem CallOk.inv{P:Program}{E:Env}{f:FuncId}{args:List LV}{H:LHeap}{S T:Res->Prop}(h:CallOk P E f args H T)
  (hr:∀v H' G' w',T (.ret v H')->Inv G' w' H'->∃H'',Inv G' w' H''/\S (.ret v H'')) (hp:∀v H',T (.pan v H')->S (.pan v H')):CallOk P E f args H S:=by
 refine⟨h.1,fun G w us hI hE ha=>(h.2 G w us hI hE ha).mono fun e w' hq=>?_⟩
 cases e with
 |outgrown=>exact hq.elim
 |panicked ch=>
  obtain⟨v,u,H',G',hT,h1,h2,h3,h4⟩:=hq
  exact⟨v,u,H',G',hp _ _ hT,h1,h2,h3,h4⟩
 |returned u=>
  obtain⟨v,H',G',hT,hV,hI',hx⟩:=hq
  obtain⟨H'',h1,h2⟩:=hr v H' G' w' hT hI'
  exact⟨v,H'',G',h2,hV,h1,hx⟩
theorem cP_of_fn_um{E:Env}{F:Fns}{b:BFn}{f:FuncId}{args:List LV}{H:LHeap}{kv kp:HP}{o:Nat}{es:List (LV×LV)}(hf:F.fn f b)(nodrw:∀l,b.body≠.drw l)(hl:look o H.objs=some (.um es))
  (hno:∀i m l k n,look i H.objs=some (.iter m l k n)->m≠o)
  (h:H.Ok->∀es',es'.Perm es->fnP E F b args (H.put o (.map es')) (fun v H'=>∃H'',HWk H' H''/\(H'.Ok->H''.Ok)/\kv v H'') kp):cP E F f args H kv kp:=by
 intro hH
 have hn:args.length<=b.n:=(h hH es (List.Perm.refl _)).1
 have hb:Out E F (.code b.body (frOf args) [] H) (XSP (finK E b (fun v H'=>∃H'',HWk H' H''/\(H'.Ok->H''.Ok)/\kv v H'') kp)):=by
  refine .ofUm nodrw hl hno fun es' hp=>?_
  obtain⟨_,h⟩:=h hH es' hp
  obtain⟨t,h1,h2⟩:=argsP_spec h
  have ht:t.get=frOf args:=by
   funext j
   rw[h2 j]
   simp only[frOf]
   by_cases hj:j<args.length
   ·rw[if_pos (by omega)];simp
   ·rw[if_neg (by omega)]
    have:args[j]? = none:=List.getElem?_eq_none (by omega)
    simp[List.getD_eq_getElem?_getD,this,FT.get_nil]
  have:=runP_ok b.body t (H.put o (.map es')) _ (Desc.put hH) h1
  rwa [ht]at this
 refine .enter hf hn hb (fun fr df H' hT=>?_) (fun v fr df H' hT=>?_) (fun n fr df H' hT=>?_)
 ·have:∃(t':FT),fr=t'.get/\df=[]/\H'.Ok/\resP E b.res t' H' fun v=>∃H'',HWk H' H''/\(H'.Ok->H''.Ok)/\kv v H'':=by
   rcases hT with⟨e,t',H'',he,hok,hk⟩|⟨e,t',H'',he,hok,hk⟩<;>cases he
   ·exact⟨t',rfl,rfl,hok,hk⟩
   ·exact⟨t',rfl,rfl,hok,hk⟩
  obtain⟨t',rfl,rfl,hok,v,hv,H1,h3,h4,h5⟩:=this
  exact⟨rfl,v,v,H1,hv,.inl rfl,h3,.inl ⟨v,H1,rfl,h4 hok,h5⟩⟩
 ·obtain⟨e,t',H'',he,hok,hk⟩:=hT
  cases he
  exact⟨rfl,v,H',.inl rfl,⟨Nat.le_refl _,fun _ _ h=>h⟩,.inr ⟨v,H',rfl,hok,hk⟩⟩
 ·obtain⟨e,t',H'',he,hok,hk⟩:=hT
  cases he
  cases hk
end Go.Abs
namespace Go.Abs
open Go
theorem Inv.grownCl{G:Ghost}{w w':World}{H:LHeap}(hI:Inv G w H)(hg:w.grownBy w' none){g:Nat}(h1:w.heap.size<=g)(h2:g<w'.heap.size):
  ∃G',Ext G w G' w'/\Inv G' w' H/\∀x,G'.Cl g x:=by
 have hb:∀k,k<w.heap.size->w'.heap[k]? = w.heap[k]?:=fun k hk=>hg.block k hk (by simp)
 have hlt:∀{k:Nat}{o:Obj},w.heap[k]? = some o->k<w.heap.size:=fun h=>(Array.getElem?_eq_some_iff.1 h).1
 let G':Ghost:=⟨G.B,G.n,G.loc,G.asz,G.tk,fun b x=>if b=g then .cl else G.own b x,G.rc⟩
 have hne:∀{b x:Nat}{l:Lab},G.own b x=l->l≠.free->b≠g:=by
  intro b x l h hl e
  subst e
  rw[hI.free b x h1]at h
  exact hl h.symm
 have hx:Ext G w G' w':=by
  refine⟨hg.os,hg.tape,hg.output,hg.size,rfl,fun k hk=>hb k (hI.hB k hk),Nat.le_refl _,fun _ _=>rfl,fun _ _=>rfl,fun b x hc=>⟨?_,fun v hv=>?_⟩,fun t _ m b c h=>⟨m,b,c,h,Nat.le_refl _,fun _=>⟨rfl,rfl⟩⟩,rfl⟩
  ·show (if b=g then Lab.cl else G.own b x)=.cl
   rw[if_neg (hne hc (by simp))];exact hc
  ·have:b<w.heap.size:=by
    rcases Nat.lt_or_ge b w.heap.size with h|h
    ·exact h
    ·rw[hI.free b x h]at hc;cases hc
   rw[cell?_of_block (hb b this)];exact hv
 refine⟨G',hx,Inv.step (W:=fun _ _=>False) (V:=fun _=>False) (fun _=>False) hI hx ⟨fun k vs el fz h=>⟨vs,by rw[hb k (hlt h)];exact h,rfl,fun _ _=>rfl⟩,fun k ob h _ _=>by rw[hb k (hlt h)];exact h⟩
  hI.n (fun b x h=>?_) (fun b x h=>?_) (fun _ _ _ h=>h) (fun _ _ _ _ _ h=>h) (fun _ _ _ h=>h) (fun i k x _=>⟨fun h=>?_,fun h=>?_⟩) (fun _ _ _=>rfl) ?_ (fun _ _ h=>h.elim),fun x=>.inr (by show (if g=g then Lab.cl else G.own g x)=.cl;rw[if_pos rfl])⟩
 ·show (if b=g then Lab.cl else G.own b x)=.free
  rw[if_neg (by omega)];exact hI.free b x (Nat.le_trans hg.size h)
 ·show (if b=g then Lab.cl else G.own b x)=.free
  rw[if_neg (fun e=>by subst e;have:=hI.hB b h;omega)];exact hI.old b x h
 ·show (if k=g then Lab.cl else G.own k x)=_
  rw[if_neg (hne h (by simp))];exact h
 ·show (if k=g then Lab.cl else G.own k x)=_
  rw[if_neg (hne h (by simp))];exact h
 ·intro m es' hm he'
  obtain⟨_,hob⟩:=hI.objs m _ he'
  obtain⟨ents,clock,h1,_⟩:=hob
  refine⟨es',he',Nat.le_refl _,fun _ ents' clock' h'=>⟨ents,clock,h1,?_⟩⟩
  rw[hb _ (hlt h1),h1]at h'
  cases h'
  exact⟨rfl,fun _=>rfl⟩
theorem callOk_row{P:Program}{E:Env}{f:FuncId}{args:List LV}{H:LHeap}{zs:List Int}{S:Res->Prop}(he:Enters P f)(hS:S (.ret (.sl (zs.map fun z=>.int z) .no) H))
  (h:∀(G:Ghost)(w:World)(us:Array Value),Inv G w H->ArgsR G w args us->Calls P f us w fun e w'=>∃v,e=.returned v/\w.grownBy w' none /\
   ((v=.slice none 0 0/\zs=[])\/∃g cap,v=.slice (some (at_ g 0)) zs.length cap/\w.heap.size<=g/\g<w'.heap.size/\zs.length<=cap/\∀i z,zs[i]? = some z->w'.cell? (at_ g i)=some (.int .i64 z))):CallOk P E f args H S:=by
 refine⟨he,fun G w us hI _ ha=>(h G w us hI ha).mono fun e w' hw=>?_⟩
 obtain⟨v,rfl,hg,hc⟩:=hw
 rcases hc with⟨rfl,rfl⟩|⟨g,cap,rfl,h1,h2,h3,h4⟩
 ·obtain⟨hx,hI'⟩:=hI.grown hg
  exact⟨_,H,G,hS,.sln trivial,hI',hx⟩
 ·obtain⟨G',hx,hI',hcl⟩:=hI.grownCl hg h1 h2
  have hl:(zs.map fun z=>LV.int z).length=zs.length:=List.length_map _
  have hget:∀(i:Nat)(e:LV),(zs.map fun z=>LV.int z)[i]? = some e->∃z,zs[i]? = some z/\e=.int z:=by
   intro i e h
   rw[List.getElem?_map]at h
   obtain⟨z,hz,rfl⟩:=Option.map_eq_some_iff.1 h
   exact⟨z,hz,rfl⟩
  refine⟨_,H,G',hS,?_,hI',hx⟩
  rw[<-hl]
  refine .sl (sz:=1) (xs:=fun i _=>.int .i64 (zs.getD i 0)) (by rw[hl];exact h3) (fun i e h=>?_) (fun i e j c h hj=>?_) (fun i e j c h hj=>?_) trivial
  ·obtain⟨z,_,rfl⟩:=hget i e h;rfl
  ·obtain⟨z,hz,rfl⟩:=hget i e h
   match j,hj with
   |0,_=>
    refine⟨hcl _,?_,rfl⟩
    rw[List.getD_eq_getElem?_getD,hz]
    simpa using h4 i z hz
   |j+1,hj=>simp[LV.cells]at hj
  ·obtain⟨z,hz,rfl⟩:=hget i e h
   match j,hj with
   |0,hj=>
    simp[LV.cells]at hj;subst hj
    rw[List.getD_eq_getElem?_getD,hz]
    exact .sc _
   |j+1,hj=>simp[LV.cells]at hj
end Go.Abs
namespace Go.Abs.Tz
open Go Go.Abs
section
variable{α:Type}(lt:α->α->Bool)
def sift:List α->Nat->List α
 |A,0=>A
 |A,j+1=>match A[j+1]?,A[j]? with
  |some x,some y=>if lt x y then sift ((A.set (j+1) y).set j x) j else A
  |_,_=>A
def isortN:Nat->Nat->List α->List α
 |0,_,A=>A
 |k+1,i,A=>isortN k (i+1) (sift lt A i)
theorem sift_perm:∀(j:Nat)(A:List α),(sift lt A j).Perm A
 |0,A=>by unfold sift;exact .refl _
 |j+1,A=>by
  unfold sift
  split
  ·rename_i x y hx hy
   split
   ·refine(sift_perm j _).trans ?_
    have h1:=(List.getElem?_eq_some_iff.1 hx)
    have h2:=(List.getElem?_eq_some_iff.1 hy)
    obtain⟨h1,rfl⟩:=h1
    obtain⟨h2,rfl⟩:=h2
    exact List.set_set_perm h1 h2
   ·exact .refl _
  ·exact .refl _
theorem sift_length(j:Nat)(A:List α):(sift lt A j).length=A.length:=(sift_perm lt j A).length_eq
theorem isortN_perm:∀(k i:Nat)(A:List α),(isortN lt k i A).Perm A
 |0,_,A=>.refl _
 |k+1,i,A=>(isortN_perm k (i+1) _).trans (sift_perm lt i A)
def UpTo(A:List α)(n:Nat):Prop:=∀i x y,i+1<n->A[i]? = some x->A[i+1]? = some y->lt y x=false
def But(A:List α)(n j:Nat):Prop:=(∀i x y,i+1<n->i+1≠j->A[i]? = some x->A[i+1]? = some y->lt y x=false) /\
 (∀x y,0<j->j+1<n->A[j - 1]? = some x->A[j+1]? = some y->lt y x=false)
theorem sift_sorted(htr:∀a b,lt a b=true->lt b a=false):∀(j n:Nat)(A:List α),j<n->n<=A.length->But lt A n j->UpTo lt (sift lt A j) n
 |0,n,A,hj,hn,hb=>by
  unfold sift
  intro i x y hi hx hy
  exact hb.1 i x y hi (by omega) hx hy
 |j+1,n,A,hj,hn,hb=>by
  unfold sift
  have h1:A[j+1]? = some (A[j+1]'(by omega)):=List.getElem?_eq_getElem (by omega)
  have h2:A[j]? = some (A[j]'(by omega)):=List.getElem?_eq_getElem (by omega)
  obtain⟨x,hx⟩:∃x,A[j+1]? = some x:=⟨_,h1⟩
  obtain⟨y,hy⟩:∃y,A[j]? = some y:=⟨_,h2⟩
  rw[hx,hy]
  simp only
  split
  ·rename_i hlt
   have hg:∀k,((A.set (j+1) y).set j x)[k]? = if k=j then some x else if k=j+1 then some y else A[k]?:=by
    intro k
    rw[List.getElem?_set]
    by_cases hk:j=k
    ·subst hk
     rw[if_pos rfl,if_pos rfl,if_pos (by rw[List.length_set];omega)]
    ·rw[if_neg hk,if_neg (fun e=>hk e.symm),List.getElem?_set]
     by_cases hk2:j+1=k
     ·subst hk2
      rw[if_pos rfl,if_pos rfl,if_pos (by omega)]
     ·rw[if_neg hk2,if_neg (fun e=>hk2 e.symm)]
   refine sift_sorted htr j n _ (by omega) (by rw[List.length_set,List.length_set];exact hn) ⟨fun i u v hi hne hu hv=>?_,fun u v h0 hi hu hv=>?_⟩
   ·rw[hg]at hu hv
    by_cases hij:i=j
    ·subst hij
     rw[if_pos rfl]at hu
     rw[if_neg (by omega),if_pos rfl]at hv
     cases hu;cases hv
     exact htr _ _ hlt
    ·rw[if_neg hij]at hu
     rw[if_neg hne]at hv
     by_cases hi1:i=j+1
     ·subst hi1
      rw[if_pos rfl]at hu
      cases hu
      rw[if_neg (by omega)]at hv
      exact hb.2 y v (by omega) (by omega) (by simpa using hy) hv
     ·rw[if_neg hi1]at hu
      rw[if_neg (by omega)]at hv
      exact hb.1 i u v hi (by omega) hu hv
   ·rw[hg]at hu hv
    rw[if_neg (by omega),if_neg (by omega)]at hu
    rw[if_neg (by omega),if_pos rfl]at hv
    cases hv
    have:=hb.1 (j - 1) u y (by omega) (by omega) hu (by rw[show j - 1+1=j by omega];exact hy)
    exact this
  ·rename_i hlt
   intro i u v hi hu hv
   by_cases hij:i+1=j+1
   ·obtain rfl:i=j:=by omega
    rw[hy]at hu;rw[hx]at hv
    cases hu;cases hv
    simpa using hlt
   ·exact hb.1 i u v hi hij hu hv
theorem sift_upto(htr:∀a b,lt a b=true->lt b a=false){i:Nat}{A:List α}(h:UpTo lt A i)(hi:i<A.length):UpTo lt (sift lt A i) (i+1):=
 sift_sorted lt htr i (i+1) A (Nat.lt_succ_self _) hi ⟨fun k x y hk hne hx hy=>h k x y (by omega) hx hy,fun x y h0 hk _ _=>by omega⟩
theorem isortN_upto(htr:∀a b,lt a b=true->lt b a=false):∀(k i:Nat)(A:List α),UpTo lt A i->i+k<=A.length->UpTo lt (isortN lt k i A) (i+k)
 |0,i,A,h,_=>h
 |k+1,i,A,h,hk=>by
  have h1:=sift_upto lt htr h (by omega)
  have:=isortN_upto htr k (i+1) (sift lt A i) h1 (by rw[sift_length];omega)
  rw[show i+(k+1)=i+1+k by omega]
  exact this
theorem upto_pairwise(htot:∀a b c,lt b a=false->lt c b=false->lt c a=false):∀(A:List α),UpTo lt A A.length->A.Pairwise fun x y=>lt y x=false
 |[],_=>.nil
 |[a],_=>by simp
 |a::b::r,h=>by
  have h1:UpTo lt (b::r) (b::r).length:=fun i x y hi hx hy=>h (i+1) x y (by simp only[List.length_cons]at hi ⊢;omega) (by simpa using hx) (by simpa using hy)
  have ih:=upto_pairwise htot (b::r) h1
  have hab:lt b a=false:=h 0 a b (by simp) rfl rfl
  rw[List.pairwise_cons]
  refine⟨fun c hc=>?_,ih⟩
  rcases List.mem_cons.1 hc with rfl|hc
  ·exact hab
  ·exact htot a b c hab ((List.pairwise_cons.1 ih).1 c hc)
theorem perm_unique{le:α->α->Prop}:∀{l m:List α},l.Perm m->l.Pairwise le->m.Pairwise le->(∀a∈l,∀b∈l,le a b->le b a->a=b)->l=m
 |[],m,hp,_,_,_=>hp.symm.eq_nil.symm
 |a::l,m,hp,hl,hm,ha=>by
  cases m with
  |nil=>exact absurd hp.eq_nil (by simp)
  |cons b m=>
   have hab:a=b:=by
    rcases List.mem_cons.1 (hp.mem_iff.1 (List.mem_cons_self)) with h|h
    ·exact h
    ·rcases List.mem_cons.1 (hp.mem_iff.2 (List.mem_cons_self (a:=b) (l:=m))) with h'|h'
     ·exact h'.symm
     ·exact ha a (List.mem_cons_self) b (List.mem_cons_of_mem _ h') ((List.pairwise_cons.1 hl).1 b h') ((List.pairwise_cons.1 hm).1 a h)
   subst hab
   rw[perm_unique (List.perm_cons a |>.1 hp) (List.pairwise_cons.1 hl).2 (List.pairwise_cons.1 hm).2 fun x hx y hy=>ha x (List.mem_cons_of_mem _ hx) y (List.mem_cons_of_mem _ hy)]
end
end Go.Abs.Tz
namespace Go.Abs.Tz
open Go Go.Abs
section
variable{α:Type}{enc:α->List LV}{s:Nat}
theorem flat_len(he:∀x,(enc x).length=s):∀A:List α,(A.flatMap enc).length=A.length*s
 |[]=>by simp
 |a::A=>by rw[List.flatMap_cons,List.length_append,flat_len he A,he,List.length_cons,Nat.add_mul];omega
theorem flat_drop(he:∀x,(enc x).length=s):∀(A:List α)(j:Nat),(A.flatMap enc).drop (j*s)=(A.drop j).flatMap enc
 |A,0=>by simp
 |[],j+1=>by simp
 |a::A,j+1=>by
  rw[List.flatMap_cons,List.drop_succ_cons,<-flat_drop he A j]
  rw[show (j+1)*s=(enc a).length+j*s by rw[he,Nat.add_mul];omega,<-List.drop_drop,List.drop_left]
theorem flat_take(he:∀x,(enc x).length=s):∀(A:List α)(j:Nat),(A.flatMap enc).take (j*s)=(A.take j).flatMap enc
 |A,0=>by simp
 |[],j+1=>by simp
 |a::A,j+1=>by
  rw[List.flatMap_cons,List.take_succ_cons,List.flatMap_cons,<-flat_take he A j]
  rw[show (j+1)*s=(enc a).length+j*s by rw[he,Nat.add_mul];omega,List.take_length_add_append]
theorem flat_load(he:∀x,(enc x).length=s){A:List α}{j:Nat}(hj:j<A.length):((A.flatMap enc).drop (j*s)).take s=enc A[j]:=by
 rw[flat_drop he,List.drop_eq_getElem_cons hj,List.flatMap_cons]
 have:s=(enc A[j]).length:=(he _).symm
 conv=>lhs;rw[this]
 rw[List.take_left]
theorem flat_store(he:∀x,(enc x).length=s){A:List α}{j:Nat}(hj:j<A.length)(x:α):(A.flatMap enc).take (j*s)++enc x++(A.flatMap enc).drop (j*s+s)=(A.set j x).flatMap enc:=by
 rw[show j*s+s=(j+1)*s by rw[Nat.add_mul];omega,flat_drop he,flat_take he,List.set_eq_take_append_cons_drop,if_pos hj,List.flatMap_append,List.flatMap_cons,List.append_assoc]
end
end Go.Abs.Tz
namespace Go.Abs.Tz
open Go Go.Abs Go.Proofs
set_option maxRecDepth 20000
set_option linter.unusedSimpArgs false
attribute [local simp ↓] getP_nil getP_node setP_nil setP_node oneP_eq vP_map vP_some vP_none vP_bind eP_some bP_true bP_false gP_yes gP_tf gP_ft gP_tup runP_skip runP_ops runP_drw runP_seq runP_cond runP_blk runP_loop runP_exit runP_ret seqK_n seqK_r seqK_e seqK_p blkK_n blkK_r blkK_e blkK_p loopK_n loopK_r loopK_e loopK_p finK_n finK_r finK_p resP_one resP_two resP_three resP_nil resP_c nxP_nil argsP_nil argsP_cons evP_t evP_c evP_g evsP_nil evsP_cons clP_fn clP_yld clfP_fn pnP_i opsP_nil opsP_d opsP_x opsP_gt opsP_gf opP_cf opP_cl opP_pn opP_nx valP_mv valP_pk valP_eq valP_bn valP_nt valP_ld valP_fa valP_fd valP_ia valP_ix valP_ln valP_srn valP_srl valP_srh valP_srb valP_cv valP_mi valP_mf valP_xt valP_bs valP_bd valP_nc valP_mn valP_lk valP_ta opP_mv opP_pk opP_eq opP_bn opP_nt opP_ld opP_fa opP_fd opP_ia opP_ix opP_ln opP_sr opP_cv opP_mi opP_mf opP_xt opP_bs opP_bd opP_nc opP_mn opP_lk opP_ta opP_al opP_bx opP_st opP_ap opP_mk opP_nb opP_mu opP_rg opP_en pendP_nil pendP_d pendP_g drwP_nil drwP_d drwP_x drwP_gt drwP_gf look_self natOf_nat
attribute [local simp] faL fdL iaL ixL loadL partL lenL eqK eqL natOf eqB_s eqB_i eqB_b bn_add bn_sub bn_lss bn_leq bn_gtr bn_geq bn_adds bn_lsss bn_gtrs bn_leqs bn_geqs sliceL LV.cells LV.whole look_self put_self putO_self put_eq stL fillL termC dopP LHeap.alloc oneI oneS oneB nth0 nth1 nth2 nth3 nth4 nth5 nth6 nth7 nth8 nth9 look_ne putO_ne
def keysB(E:Bind):List ByteArray:=E.map (·.1)
theorem eqBA_iff{a b:ByteArray}:eqBA a b=true↔a=b:=by
 constructor
 ·intro h
  unfold eqBA at h
  rw[ByteArray.toList_eq,ByteArray.toList_eq]at h
  have h1:=eq_of_beq h
  obtain⟨⟨x⟩⟩:=a
  obtain⟨⟨y⟩⟩:=b
  simp at h1
  rw[h1]
 ·rintro rfl;exact eqBA_self _
theorem findB_iff{k:ByteArray}{v:Term}:∀{E:Bind},(keysB E).Nodup->(findB k E=some v↔(k,v)∈E)
 |[],_=>by simp[findB]
 |(j,u)::r,hn=>by
  simp only[keysB,List.map_cons,List.nodup_cons]at hn
  have ih:=findB_iff (k:=k) (v:=v) (E:=r) hn.2
  simp only[findB]
  by_cases h:eqBA k j=true
  ·have e:=eqBA_iff.1 h;subst e
   rw[if_pos h]
   constructor
   ·intro h';cases h';exact .head _
   ·intro h'
    rcases List.mem_cons.1 h' with h'|h'
    ·cases h';rfl
    ·exact absurd (List.mem_map.2 ⟨_,h',rfl⟩) hn.1
  ·rw[if_neg h,ih]
   constructor
   ·exact fun h'=>.tail _ h'
   ·intro h'
    rcases List.mem_cons.1 h' with h'|h'
    ·cases h';exact absurd (eqBA_self _) h
    ·exact h'
theorem findB_perm{k:ByteArray}{E F:Bind}(hn:(keysB E).Nodup)(hp:E.Perm F):findB k E=findB k F:=by
 have hf:(keysB F).Nodup:=(hp.map _).nodup_iff.1 hn
 apply Option.ext
 intro v
 rw[findB_iff hn,findB_iff hf]
 exact hp.mem_iff
theorem findB_none{k:ByteArray}:∀{E:Bind},findB k E=none->k∉keysB E
 |[],_=>by simp[keysB]
 |(j,u)::r,h=>by
  simp only[findB]at h
  split at h
  ·cases h
  ·rename_i hj
   have:=findB_none h
   simp only[keysB,List.map_cons,List.mem_cons,not_or]
   exact⟨fun e=>hj (by subst e;exact eqBA_self _),this⟩
theorem setB_new{k:ByteArray}{v:Term}:∀{E:Bind},k∉keysB E->setB k v E=E++[(k,v)]
 |[],_=>rfl
 |(j,u)::r,h=>by
  simp only[keysB,List.map_cons,List.mem_cons,not_or]at h
  simp only[setB]
  rw[if_neg (fun e=>h.1 (eqBA_iff.1 e)),setB_new h.2]
  rfl
theorem setB_old{k:ByteArray}{v:Term}:∀{E:Bind},findB k E=some v->setB k v E=E
 |[],h=>by cases h
 |(j,u)::r,h=>by
  simp only[findB]at h
  split at h
  ·rename_i hj
   cases h
   simp only[setB,hj,if_true]
  ·rename_i hj
   simp only[setB,hj,if_false,setB_old h,Bool.false_eq_true]
theorem eqT_iff{x y:Term}(h:eqT x y=true):x=y:=by
 simp only[eqT,Bool.and_eq_true,decide_eq_true_eq]at h
 obtain⟨h1,h2,h3⟩:=h
 cases x;cases y
 simp only at h1 h2 h3
 rw[h1,h2,eqBA_iff.1 h3]
def bindR:Bind->List Term->List Term->Option Bind
 |E,[],_=>some E
 |_,_::_,[]=>none
 |E,p::ps,q::qs=>
  if p.kind=3 then
   match findB p.s E with
   |some old=>if eqT old q then bindR E ps qs else none
   |none=>bindR (E++[(p.s,q)]) ps qs
  else if eqT p q then bindR E ps qs else none
theorem bindR_perm:∀(ps qs:List Term)(E F:Bind),(keysB E).Nodup->E.Perm F->(bindR E ps qs=none↔bindR F ps qs=none)/\∀R,bindR E ps qs=some R->(keysB R).Nodup/\∃R',bindR F ps qs=some R'/\R.Perm R'
 |[],qs,E,F,hn,hp=>by
  simp only[bindR]
  exact⟨by simp,fun R h=>by cases h;exact⟨hn,F,rfl,hp⟩⟩
 |p::ps,[],E,F,hn,hp=>by
  simp only[bindR]
  exact⟨by simp,fun R h=>by cases h⟩
 |p::ps,q::qs,E,F,hn,hp=>by
  simp only[bindR,findB_perm (k:=p.s) hn hp]
  by_cases hk:p.kind=3
  ·simp only[if_pos hk]
   cases hf:findB p.s F with
   |none=>
    simp only
    have hne:p.s∉keysB E:=findB_none (by rw[findB_perm hn hp,hf])
    refine bindR_perm ps qs _ _ ?_ (hp.append_right _)
    simp only[keysB,List.map_append,List.map_cons,List.map_nil]
    exact List.nodup_append.2 ⟨hn,by simp,fun a ha b hb e=>by simp at hb;subst hb;subst e;exact hne ha⟩
   |some old=>
    simp only
    by_cases hq:eqT old q=true
    ·simp only[if_pos hq]
     exact bindR_perm ps qs E F hn hp
    ·simp only[if_neg hq]
     exact⟨by simp,fun R h=>by cases h⟩
  ·simp only[if_neg hk]
   by_cases hq:eqT p q=true
   ·simp only[if_pos hq]
    exact bindR_perm ps qs E F hn hp
   ·simp only[if_neg hq]
    exact⟨by simp,fun R h=>by cases h⟩
theorem hmixT:Tryz.prog.follows .mixedOrders=true:=by kernel_rfl
theorem fnsT:FnsOk Tryz.prog E0 F0:=⟨fun f b h=>by
 simp only[F0,certB]at h
 obtain⟨fn,h1,h2⟩:=Option.bind_eq_some_iff.1 h
 split at h2
 ·cases h2
 ·rename_i hn
  exact⟨fn,h1,h2,by simpa using hn⟩,fun _ _ _ _ h=>h,fun _ _ _ _ h=>h⟩
theorem PureT.x{f:FuncId}{args:List LV}{v:LV}(h:PureT f args v)(hv:Bel 0 v){l:List (Nat×LObj)}{m:Nat}{kv kp:HP}(hk:kv v ⟨l,m⟩):cP E0 F0 f args ⟨l,m⟩ kv kp:=
 PureX.of hmixT fnsT (fun _ _ _ _ h=>h) h hv ⟨l,m⟩ kv kp hk
theorem bel_of(a:Atom):Bel 0 (.agg [.str a.pred,.int a.args.length]):=.agg fun i c h=>by
 match i with
 |0=>simp at h;subst h;exact .sc _
 |1=>simp at h;subst h;exact .sc _
 |i+2=>simp at h
theorem perm_map_inv{α β:Type}(f:α->β){l m:List β}(h:l.Perm m):∀K:List α,m=K.map f->∃K':List α,K'.Perm K/\l=K'.map f:=by
 induction h with
 |nil=>intro K hK;exact⟨K,.refl _,hK⟩
 |cons x _ ih=>
  intro K hK
  cases K with
  |nil=>simp at hK
  |cons k K=>
   simp only[List.map_cons,List.cons.injEq]at hK
   obtain⟨K',h1,h2⟩:=ih K hK.2
   exact⟨k::K',h1.cons k,by rw[List.map_cons,<-h2,hK.1]⟩
 |swap x y l=>
  intro K hK
  match K,hK with
  |[],hK=>simp at hK
  |[_],hK=>simp at hK
  |a::b::K,hK=>
   simp only[List.map_cons,List.cons.injEq]at hK
   exact⟨b::a::K,.swap _ _ _,by simp[hK.1,hK.2.1,hK.2.2]⟩
 |trans _ _ ih1 ih2=>
  intro K hK
  obtain⟨K1,h1,h2⟩:=ih2 K hK
  obtain⟨K2,h3,h4⟩:=ih1 K1 h2
  exact⟨K2,h3.trans h1,h4⟩
def bindKA(K:Bind)(p a:Atom):Option Bind:=if eqBA p.pred a.pred&&decide (p.args.length=a.args.length) then bindR K p.args a.args else none
theorem range_filterMap{α:Type}(l:List α):(List.range l.length).filterMap (fun k=>l[k]?)=l:=by
 apply List.ext_getElem?
 intro i
 have:∀n,n<=l.length->(List.range n).filterMap (fun k=>l[k]?)=l.take n:=by
  intro n
  induction n with
  |zero=>intro _;rfl
  |succ n ih=>
   intro hn
   rw[List.range_succ,List.filterMap_append,ih (by omega),List.take_add_one]
   have:l[n]? = some l[n]:=List.getElem?_eq_getElem (by omega)
   simp[this]
 rw[this _ (Nat.le_refl _),List.take_length]
theorem perm_erase{α:Type}:∀(l:List α)(j:Nat)(k:α),l[j]? = some k->l.Perm (k::l.eraseIdx j)
 |[],_,_,h=>by simp at h
 |a::r,0,k,h=>by simp at h;subst h;exact .refl _
 |a::r,j+1,k,h=>by
  simp only[List.getElem?_cons_succ]at h
  exact((perm_erase r j k h).cons a).trans (.swap _ _ _)
theorem look_mid{base:List (Nat×LObj)}{N n:Nat}{x y z:LObj}(hB:LHeap.Ok ⟨base,N⟩)(hn:N+3<=n):HExt ⟨(N+2,x)::base,N+3⟩ ⟨(N+2,x)::(N+1,y)::(N,z)::base,n⟩:=
 ⟨hn,fun i o h=>by
  simp only[look]at h ⊢
  split at h
  ·rename_i hi;rw[if_pos hi];exact h
  ·rename_i hi
   have:=hB.look h
   simp only at this
   rw[if_neg hi,if_neg (by omega),if_neg (by omega)]
   exact h⟩
structure NNIV where
 left:List Nat
 cur:Option Nat
 v:Bind
 n:Nat
theorem t_bindM0(p a:Atom)(hp:p.ok)(ha:a.ok)(H:LHeap)(o:Nat)(K:Bind)(hl:look o H.objs=some (.um (encE K)))(hno:∀i m l k n,look i H.objs=some (.iter m l k n)->m≠o)(hKn:(keysB K).Nodup):
  cP E0 F0 88 [atomL p,atomL a,.map o] H (fun u H'=>∃K':Bind,K'.Perm K/\((bindKA K p a=none/\u=.sc (.map none)/\∃n,H'=⟨putO o (.map (encE K')) H.objs,n⟩) \/
   (∃R R',bindKA K p a=some R/\List.Perm R' R/\u=.map (H.next+2)/\∃n,H'=⟨(H.next+2,.map (encE R'))::putO o (.map (encE K')) H.objs,n⟩))) (fun _ _=>False):=by
 refine cP_of_fn_um c88 (fun l h=>by cases h) hl hno fun hH es' hperm=>⟨Nat.le_of_ble_eq_true rfl,?_⟩
 obtain⟨K',hK',rfl⟩:=perm_map_inv _ hperm K rfl
 have hn':(keysB K').Nodup:=(hK'.map _).nodup_iff.2 hKn
 have hlp:=hp.2.1
 have hla:=ha.2.1
 have hon:o<H.next:=hH.look hl
 obtain⟨base,hbase⟩:∃base,putO o (.map (encE K')) H.objs=base:=⟨_,rfl⟩
 have hlb:look o base=some (.map (encE K')):=by rw[<-hbase];exact look_putO hl
 obtain⟨N,hN⟩:∃N,H.next=N:=⟨_,rfl⟩
 have hB:LHeap.Ok ⟨base,N⟩:=by rw[<-hbase,<-hN];exact Desc.put hH
 have hput:H.put o (.map (encE K'))=⟨base,N⟩:=by rw[<-hbase,<-hN];rfl
 rw[hput]
 rw[hN]at hon ⊢
 simp(disch:=omega)[b88]
 refine(t_of p).x (bel_of p) ?_
 simp(disch:=omega)
 refine(t_of a).x (bel_of a) ?_
 cases h1:eqBA p.pred a.pred
 ·simp(disch:=omega)[h1]
  exact⟨⟨base,N+2⟩,(backK hB).1,(backK hB).2,K',hK',by simp[bindKA,h1],N+2,by rw[hbase]⟩
 by_cases h2:p.args.length=a.args.length
 case neg=>
  have h2i:¬(p.args.length:Int)=(a.args.length:Int):=by omega
  simp(disch:=omega)[h1,h2,h2i]
  exact⟨⟨base,N+2⟩,(backK hB).1,(backK hB).2,K',hK',by simp[bindKA,h1,h2],N+2,by rw[hbase]⟩
 have h2i:(p.args.length:Int)=(a.args.length:Int):=by omega
 have hA0:bindKA K p a=bindR K p.args a.args:=by simp[bindKA,h1,h2]
 have hrg:∀(l:List (Nat×LObj))(m:Nat),look o l=some (.map (encE K'))->rgL ⟨l,m⟩ (.map o)=some (.ptr m 0,⟨(m,.iter o (List.range K'.length) none K'.length)::l,m+1⟩):=fun l m h=>by
  simp[rgL,h,LHeap.alloc]
 simp(disch:=omega)[h1,h2i]
 rw[hrg _ _ (by simp(disch:=omega)[look_ne,hlb])]
 simp(disch:=omega)
 refine lP_enter (σ:=NNIV) (fun q=>(.nd .bot (.nd .bot (.nd (.ptr N 0) (.nd (.map (N+2)) .nil .nil) .nil) (.nd .bot .nil (.nd .bot (.nd (.ptr (N+3) 0) .nil .nil) .nil))) (.nd .bot (.nd (.ptr (N+1) 0) .nil .nil) .nil)))
  (fun q=>⟨(N+3,.iter o q.left q.cur K'.length)::(N+2,.map (encE q.v))::(N+1,.cells [.str a.pred,argsL a.args])::(N,.cells [.str p.pred,argsL p.args])::base,q.n⟩) (fun q=>q.left.length)
  (fun q=>N+4<=q.n/\(q.v++q.left.filterMap (fun k=>K'[k]?)).Perm K') ⟨List.range K'.length,none,[],N+4⟩ ⟨by dsimp only;omega,by dsimp only;rw[range_filterMap];exact .refl _⟩ (by simp[FT.Le,Wk]) ⟨HWk.refl _,fun h=>h⟩ ?_
 rintro⟨left,cur,V,n⟩ ⟨hn,hV⟩ hok
 dsimp only at hn hV
 have hVn:(keysB (V++left.filterMap (fun k=>K'[k]?))).Nodup:=(hV.map _).nodup_iff.2 hn'
 simp(disch:=omega)
 by_cases hl0:left=[]
 case neg=>
  refine⟨N+3,o,left,cur,K'.length,rfl,by simp[look_self],.inr ⟨hl0,encE K',by simp(disch:=omega)[look_ne,hlb],by simp,fun j k e hj hk=>?_⟩⟩
  obtain⟨v,hv,rfl⟩:∃v,K'[k]? = some v/\e=(.str v.1,termL v.2):=by
   simp only[encE,List.getElem?_map]at hk
   obtain⟨v,h1,h2⟩:=Option.map_eq_some_iff.1 hk
   exact⟨v,h1,h2.symm⟩
  have hjl:j<left.length:=(List.getElem?_eq_some_iff.1 hj).1
  have hje:left[j]=k:=(List.getElem?_eq_some_iff.1 hj).2
  have hpe:left.Perm (k::left.eraseIdx j):=perm_erase left j k hj
  have hfe:(left.filterMap (fun k=>K'[k]?)).Perm (v::(left.eraseIdx j).filterMap (fun k=>K'[k]?)):=by
   have:=hpe.filterMap (fun k=>K'[k]?)
   rwa [List.filterMap_cons_some hv]at this
  have hnew:v.1∉keysB V:=by
   have h3:=((List.Perm.append_left V hfe).map Prod.fst).nodup_iff.1 hVn
   rw[List.map_append,List.map_cons]at h3
   intro hc
   exact(List.nodup_append.1 h3).2.2 _ hc _ (List.mem_cons_self) rfl
  simp(disch:=omega)[enL,hlb,hv]
  rw[mu_map (E:=V) (by simp(disch:=omega)[look_ne])]
  simp(disch:=omega)[setB_new hnew]
  have hx:LHeap.Ok ⟨(N+3,.iter o (left.eraseIdx j) (some k) K'.length)::(N+2,.map (encE V++[(.str v.1,termL v.2)]))::(N+1,.cells [.str a.pred,argsL a.args])::(N,.cells [.str p.pred,argsL p.args])::base,N+4⟩:=⟨Nat.lt_succ_self _,Nat.lt_succ_self _,Nat.lt_succ_self _,Nat.lt_succ_self _,hB⟩
  refine⟨⟨left.eraseIdx j,some k,V++[v],n+1⟩,by dsimp only;rw[List.length_eraseIdx_of_lt hjl];omega,⟨by dsimp only;omega,?_⟩,by simp[FT.Le,Wk],?_⟩
  ·dsimp only
   rw[List.append_assoc]
   exact(List.Perm.append_left V hfe).symm.trans hV
  ·dsimp only
   rw[show encE (V++[v])=encE V++[(.str v.1,termL v.2)] from List.map_append]
   exact backK hx
 refine⟨N+3,o,left,cur,K'.length,rfl,by simp[look_self],.inl ⟨hl0,.inr ⟨encE K',by simp(disch:=omega)[look_ne,hlb],by simp⟩,?_⟩⟩
 subst hl0
 simp only[List.filterMap_nil,List.append_nil]at hV hVn
 have hVK:V.Perm K:=hV.trans hK'
 obtain⟨hp1,hp2⟩:=bindR_perm p.args a.args V K hVn hVK
 obtain⟨A,hA⟩:∃A,bindR V p.args a.args=A:=⟨_,rfl⟩
 rw[hA]at hp1 hp2
 simp(disch:=omega)
 have hHe:∀e:Bind,LHeap.Ok ⟨(N+2,.map (encE e))::(N+1,.cells [.str a.pred,argsL a.args])::(N,.cells [.str p.pred,argsL p.args])::base,N+3⟩:=fun _=>⟨Nat.lt_succ_self _,Nat.lt_succ_self _,Nat.lt_succ_self _,hB⟩
 refine lP_enter (σ:=NNE) (fun q=>(.nd .bot (.nd .bot (.nd (.ptr N 0) (.nd (.map (N+2)) (.nd .bot (.nd (argsL p.args) .nil .nil) .nil) .nil) .nil) (.nd .bot (.nd .bot (.nd .bot (.nd (.int q.i) .nil .nil) .nil) .nil) .nil)) (.nd .bot (.nd (.ptr (N+1) 0) (.nd .bot (.nd .bot (.nd (.int p.args.length) .nil .nil) .nil) .nil) .nil) .nil)))
  (fun q=>⟨(N+2,.map (encE q.e))::(N+1,.cells [.str a.pred,argsL a.args])::(N,.cells [.str p.pred,argsL p.args])::base,q.n⟩) (fun q=>p.args.length - q.i)
  (fun q=>N+3<=q.n/\q.i<=p.args.length/\bindR q.e (p.args.drop q.i) (a.args.drop q.i)=A) ⟨0,n,V⟩ ⟨by dsimp only;omega,Nat.zero_le _,hA⟩ (by simp[FT.Le,Wk])
  (back (hHe V) (by first|exact HExt.refl' _|(repeat (first|exact HExt.refl (by first|omega|(dsimp only;omega))|refine HExt.cons' (hHe V) (by first|omega|(dsimp only;omega)) (by first|omega|(dsimp only;omega)) ?_)))) ?_
 rintro⟨i,n,e⟩ ⟨hn,hi,he⟩ hok
 simp only at hn hi he
 by_cases hlt:i<p.args.length
 case neg=>
  rw[List.drop_eq_nil_of_le (by omega)]at he
  simp only[bindR]at he
  obtain⟨R,hR1,hR2⟩:=(hp2 e he.symm).2
  have hc:LHeap.Ok ⟨(N+2,.map (encE e))::base,N+3⟩:=⟨Nat.lt_succ_self _,Desc.mono hB (show N<=N+2 by omega)⟩
  have hbk:=back hc (look_mid (y:=.cells [.str a.pred,argsL a.args]) (z:=.cells [.str p.pred,argsL p.args]) hB hn)
  simp(disch:=omega)[hlt]
  exact⟨_,hbk.1,hbk.2,K',hK',R,by rw[hA0,hR1],e,hR2,n,by rw[hbase]⟩
 have hly:i<a.args.length:=by omega
 rw[List.drop_eq_getElem_cons hlt,List.drop_eq_getElem_cons hly]at he
 have hnone:none=A->bindKA K p a=none:=fun h=>by rw[hA0];exact hp1.1 h.symm
 by_cases hk3:p.args[i].kind=3
 case neg=>
  by_cases hq:eqT p.args[i] a.args[i]=true
  case neg=>
   have hq':eqT p.args[i] a.args[i]=false:=by simpa using hq
   simp only[eqT]at hq'
   simp only[bindR,if_neg hk3,if_neg hq]at he
   simp(disch:=omega)[hlt,hly,hk3,hq']
   have hx:HExt ⟨base,N⟩ ⟨(n,.cells (termC p.args[i]))::(N+2,.map (encE e))::(N+1,.cells [.str a.pred,argsL a.args])::(N,.cells [.str p.pred,argsL p.args])::base,n+1⟩:=(by first|exact HExt.refl' _|(repeat (first|exact HExt.refl (by first|omega|(dsimp only;omega))|refine HExt.cons' hB (by first|omega|(dsimp only;omega)) (by first|omega|(dsimp only;omega)) ?_)))
   exact⟨⟨base,n+1⟩,(back hB hx).1,(back hB hx).2,K',hK',hnone he,n+1,by rw[hbase]⟩
  ·have hq':=hq
   simp only[eqT]at hq'
   simp only[bindR,if_neg hk3,if_pos hq]at he
   simp(disch:=omega)[hlt,hly,hk3,hq',wrap_nat (show i<2^62 by omega)]
   exact⟨⟨i+1,n+1,e⟩,by dsimp only;omega,⟨by dsimp only;omega,by dsimp only;omega,he⟩,by simp[FT.Le,Wk],back (hHe e) (by first|exact HExt.refl' _|(repeat (first|exact HExt.refl (by first|omega|(dsimp only;omega))|refine HExt.cons' (hHe e) (by first|omega|(dsimp only;omega)) (by first|omega|(dsimp only;omega)) ?_)))⟩
 simp(disch:=omega)[hlt,hly,hk3]
 rw[lk_map (E:=e) (by simp(disch:=omega)[look_ne])]
 have hmu:∀(l:List (Nat×LObj))(m:Nat),look (N+2) l=some (.map (encE e))->muL ⟨l,m⟩ (.pl 1) (.map (N+2)) (.str p.args[i].s) (termL a.args[i])=some (LHeap.put ⟨l,m⟩ (N+2) (.map (encE (setB p.args[i].s a.args[i] e)))):=fun l m h=>mu_map h _ _
 cases hf:findB p.args[i].s e with
 |none=>
  simp only[bindR,if_pos hk3,hf]at he
  have hsb:=setB_new (v:=a.args[i]) (findB_none hf)
  simp(disch:=omega)[hlt,hly,hk3]
  rw[hmu _ _ (by simp(disch:=omega)[look_ne]),hsb]
  simp(disch:=omega)[hlt,hly,hk3,wrap_nat (show i<2^62 by omega)]
  have hx:LHeap.Ok ⟨(N+2,.map (encE e++[(.str p.args[i].s,termL a.args[i])]))::(N+1,.cells [.str a.pred,argsL a.args])::(N,.cells [.str p.pred,argsL p.args])::base,N+3⟩:=⟨Nat.lt_succ_self _,Nat.lt_succ_self _,Nat.lt_succ_self _,hB⟩
  refine⟨⟨i+1,n+2,e++[(p.args[i].s,a.args[i])]⟩,by dsimp only;omega,⟨by dsimp only;omega,by dsimp only;omega,he⟩,by simp[FT.Le,Wk],?_⟩
  dsimp only
  rw[show encE (e++[(p.args[i].s,a.args[i])])=encE e++[(.str p.args[i].s,termL a.args[i])] from List.map_append]
  exact backK hx
 |some old=>
  by_cases hq:eqT old a.args[i]=true
  case neg=>
   have hq':eqT old a.args[i]=false:=by simpa using hq
   simp only[eqT]at hq'
   simp only[bindR,if_pos hk3,hf,if_neg hq]at he
   simp(disch:=omega)[hlt,hly,hk3,hq']
   have hx:∀x y,HExt ⟨base,N⟩ ⟨(n+1,x)::(n,y)::(N+2,.map (encE e))::(N+1,.cells [.str a.pred,argsL a.args])::(N,.cells [.str p.pred,argsL p.args])::base,n+1+1⟩:=fun x y=>(by first|exact HExt.refl' _|(repeat (first|exact HExt.refl (by first|omega|(dsimp only;omega))|refine HExt.cons' hB (by first|omega|(dsimp only;omega)) (by first|omega|(dsimp only;omega)) ?_)))
   exact⟨⟨base,n+1+1⟩,(back hB (hx _ _)).1,(back hB (hx _ _)).2,K',hK',hnone he,n+1+1,by rw[hbase]⟩
  ·have hq':=hq
   simp only[eqT]at hq'
   simp only[bindR,if_pos hk3,hf,if_pos hq]at he
   have hold:setB p.args[i].s a.args[i] e=e:=setB_old (by rw[hf,eqT_iff hq])
   simp(disch:=omega)[hlt,hly,hk3,hq']
   rw[hmu _ _ (by simp(disch:=omega)[look_ne]),hold]
   simp(disch:=omega)[hlt,hly,hk3,wrap_nat (show i<2^62 by omega)]
   exact⟨⟨i+1,n+2,e⟩,by dsimp only;omega,⟨by dsimp only;omega,by dsimp only;omega,he⟩,by simp[FT.Le,Wk],back (hHe e) (by first|exact HExt.refl' _|(repeat (first|exact HExt.refl (by first|omega|(dsimp only;omega))|refine HExt.cons' (hHe e) (by first|omega|(dsimp only;omega)) (by first|omega|(dsimp only;omega)) ?_)))⟩
structure Strat where
 pred:ByteArray
 args:Int
 level:Int
abbrev stratC(x:Strat):List LV:=[.str x.pred,.int x.args,.int x.level]
abbrev stratL(x:Strat):LV:=.agg (stratC x)
def or2(a b:Int):Int:=if a≠0 then a else b
theorem t_or2(a b:Int):PureT 50 [.sl [.int a,.int b] .full] (.int (or2 a b)):=by
 refine PureT.of c50 fun H hH=>⟨Nat.le_of_ble_eq_true rfl,?_⟩
 simp(disch:=omega)[b50]
 refine lP_unroll ?_
 by_cases ha:a=0
 case neg=>
  simp(disch:=omega)[ha]
  exact doneK hH (by simp[or2,ha])
 simp(disch:=omega)[ha,wrap_nat (show 0<2^62 by omega),wrap_id]
 refine lP_unroll ?_
 by_cases hb:b=0
 case neg=>
  simp(disch:=omega)[hb,wrap_id]
  exact doneK hH (by simp[or2,ha,hb])
 simp(disch:=omega)[hb,wrap_id]
 refine lP_unroll ?_
 simp(disch:=omega)[wrap_id]
 exact doneK hH (by simp[or2,ha,hb])
def cmpS(x y:Strat):Int:=or2 (cmpB x.pred y.pred) (cmpI x.args y.args)
theorem t_cmpS(x y:Strat):PureT 49 [stratL x,stratL y] (.int (cmpS x y)):=by
 refine PureT.of c49 fun H hH=>⟨Nat.le_of_ble_eq_true rfl,?_⟩
 simp(disch:=omega)[b49]
 refine(t_cmpB _ _).go fun n hn=>?_
 simp(disch:=omega)
 refine(t_cmpI _ _).go fun n1 hn1=>?_
 simp(disch:=omega)
 refine(t_or2 _ _).go fun n2 hn2=>?_
 simp(disch:=omega)
 exact doneK hH (by simp[cmpS])
def ltS(x y:Strat):Bool:=decide (cmpS x y<0)
theorem stratC_len(x:Strat):(stratC x).length=3:=rfl
abbrev arrS(A:List Strat):LObj:=.arr 3 (A.flatMap stratC)
structure NNA where
 i:Nat
 a:List Strat
theorem ld_arr{A:List Strat}{j o:Nat}{l:List (Nat×LObj)}{m:Nat}(hl:look o l=some (arrS A))(hj:j<A.length):loadL ⟨l,m⟩ (some 3) (.ptr o (j*3))=some (stratL A[j]):=by
 have h1:j*3+3<=(A.flatMap stratC).length:=by rw[flat_len stratC_len];omega
 simp only[loadL,hl,partL,h1,if_true]
 rw[flat_load stratC_len hj]
theorem st_arr{A:List Strat}{j o:Nat}{l:List (Nat×LObj)}{m:Nat}(hl:look o l=some (arrS A))(hj:j<A.length)(x:Strat):stL ⟨l,m⟩ 3 (.ptr o (j*3)) (stratL x)=some ⟨putO o (arrS (A.set j x)) l,m⟩:=by
 have h1:j*3+3<=(A.flatMap stratC).length:=by rw[flat_len stratC_len];omega
 have h2:(A.flatMap stratC).take (j*3)++stratC x++(A.flatMap stratC).drop (j*3+3)=(A.set j x).flatMap stratC:=flat_store stratC_len hj x
 have hc:(stratL x).cells.length=3/\(stratL x).whole/\j*3+3<=(A.flatMap stratC).length:=⟨rfl,rfl,h1⟩
 unfold stL
 simp only[hl]
 rw[if_pos hc]
 show some (LHeap.put ⟨l,m⟩ o (.arr 3 ((A.flatMap stratC).take (j*3)++stratC x++(A.flatMap stratC).drop (j*3+3))))=_
 rw[h2]
 rfl
theorem wrap_pred{j k:Nat}(hk:j=k+1)(h:k<2^62):IntKind.wrap .i64 ((j:Int) - 1)=(k:Int):=by
 rw[wrap_id (by omega) (by omega)];omega
theorem ia_arr{A:List Strat}{j o n:Nat}{l:List (Nat×LObj)}{m:Nat}(hl:look o l=some (arrS A))(hj:j<n):iaL ⟨l,m⟩ 3 (.asl o 0 n) (.sc (.int .i64 (j:Int)))=some (.ptr o (j*3)):=by
 simp[iaL,natOf_nat,hl,hj]
theorem t_insert(A:List Strat)(o:Nat)(ob:List (Nat×LObj))(nx:Nat)(hlo:look o ob=some (arrS A))(hA:A.length<2^40){kv kp:HP}
  (hk:kv (.tup []) ⟨putO o (arrS (isortN ltS (A.length - 1) 1 A)) ob,nx⟩):
  cP E0 F0 122 [.asl o 0 A.length,.int 0,.int A.length,.fn (.func 49) [] []] ⟨ob,nx⟩ kv kp:=by
 refine cP_of_fn c122 fun hH=>⟨Nat.le_of_ble_eq_true rfl,?_⟩
 simp(disch:=omega)[b122,wrap_id]
 obtain⟨R,hR⟩:∃R,isortN ltS (A.length - 1) 1 A=R:=⟨_,rfl⟩
 rw[hR]at hk
 refine lP_enter (σ:=NNA) (fun q=>(.nd (.asl o 0 A.length) (.nd (.int 0) (.nd (.fn (.func 49) [] []) .nil .nil) .nil) (.nd (.int A.length) (.nd .bot (.nd (.int q.i) .nil .nil) .nil) .nil)))
  (fun q=>⟨putO o (arrS q.a) ob,nx⟩) (fun q=>A.length - q.i)
  (fun q=>q.a.length=A.length/\isortN ltS (A.length - q.i) q.i q.a=R) ⟨1,A⟩ ⟨rfl,hR⟩ (by simp[FT.Le,Wk]) ?_ ?_
 ·dsimp only;rw[putO_same hlo];exact⟨HWk.refl _,fun h=>h⟩
 rintro⟨i,B⟩ ⟨hl,he⟩ hok
 dsimp only at hl he
 have hlB:∀B:List Strat,look o (putO o (arrS B) ob)=some (arrS B):=fun B=>look_putO hlo
 by_cases hlt:i<A.length
 case neg=>
  rw[show A.length - i=0 by omega]at he
  simp only[isortN]at he
  subst he
  simp(disch:=omega)[hlt,resP_nil]
  exact keep hk
 simp(disch:=omega)[hlt]
 obtain⟨W,hW⟩:∃W,sift ltS B i=W:=⟨_,rfl⟩
 have hWl:W.length=A.length:=by rw[<-hW,sift_length,hl]
 rw[show A.length - i=(A.length - (i+1))+1 by omega]at he
 simp only[isortN,hW]at he
 refine lP_enter (σ:=NNA) (fun q=>(.nd (.asl o 0 A.length) (.nd (.int 0) (.nd (.fn (.func 49) [] []) .nil .nil) (.nd .bot (.nd (.int q.i) .nil .nil) .nil)) (.nd (.int A.length) (.nd .bot (.nd (.int i) .nil .nil) .nil) .nil)))
  (fun q=>⟨putO o (arrS q.a) ob,nx⟩) (fun q=>q.i)
  (fun q=>q.i<=i/\q.a.length=A.length/\sift ltS q.a q.i=W) ⟨i,B⟩ ⟨Nat.le_refl _,hl,hW⟩ (by simp[FT.Le,Wk]) ⟨HWk.refl _,fun h=>h⟩ ?_
 rintro⟨j,C⟩ ⟨hj,hCl,hC⟩ hok2
 dsimp only at hj hCl hC
 by_cases hj0:j=0
 ·subst hj0
  simp only[sift]at hC
  subst hC
  simp(disch:=omega)[wrap_nat (show i<2^62 by omega)]
  exact⟨⟨i+1,C⟩,by dsimp only;omega,⟨hWl,he⟩,by simp[FT.Le,Wk],HWk.refl _,fun h=>h⟩
 obtain⟨k,hjk⟩:∃k,j=k+1:=⟨j - 1,by omega⟩
 have hk1:j<C.length:=by omega
 have hk0:k<C.length:=by omega
 have hi1:=ia_arr (n:=A.length) (m:=nx) (hlB C) (show j<A.length by omega)
 have hi0:=ia_arr (n:=A.length) (m:=nx) (hlB C) (show k<A.length by omega)
 have hl1:=ld_arr (m:=nx) (hlB C) hk1
 have hl0:=ld_arr (m:=nx) (hlB C) hk0
 have hpos:0<j:=by omega
 obtain⟨x,hx⟩:∃x,C[j]=x:=⟨_,rfl⟩
 obtain⟨y,hy⟩:∃y,C[k]=y:=⟨_,rfl⟩
 rw[hx]at hl1
 rw[hy]at hl0
 have hC':(if ltS x y=true then sift ltS ((C.set j y).set k x) k else C)=W:=by
  subst hjk
  simp only[sift,List.getElem?_eq_getElem hk1,List.getElem?_eq_getElem hk0,hx,hy]at hC
  exact hC
 simp(disch:=omega)[-iaL,-loadL,hi1,hi0,hl1,hl0,hpos,wrap_pred hjk (show k<2^62 by omega)]
 refine(t_cmpS x y).x (.sc _) ?_
 by_cases hlt2:cmpS x y<0
 case neg=>
  have hf:ltS x y=false:=by simp[ltS,hlt2]
  rw[hf]at hC'
  simp at hC'
  subst hC'
  simp(disch:=omega)[hlt2,wrap_nat (show i<2^62 by omega)]
  exact⟨⟨i+1,C⟩,by dsimp only;omega,⟨hWl,he⟩,by simp[FT.Le,Wk],HWk.refl _,fun h=>h⟩
 have hf:ltS x y=true:=by simp[ltS,hlt2]
 rw[hf]at hC'
 simp at hC'
 have hs1:=st_arr (m:=nx) (hlB C) hk1 y
 have hs0:=st_arr (m:=nx) (j:=k) (hlB (C.set j y)) (by rw[List.length_set];exact hk0) x
 have hi2:=ia_arr (n:=A.length) (m:=nx) (hlB (C.set j y)) (show k<A.length by omega)
 rw[putO_putO]at hs1 hs0
 simp(disch:=omega)[-iaL,-loadL,-stL,hi1,hi0,hl1,hl0,hi2,hs1,hs0,hlt2,wrap_pred hjk (show k<2^62 by omega)]
 exact⟨⟨k,(C.set j y).set k x⟩,by dsimp only;omega,⟨by dsimp only;omega,by simp[hCl],hC'⟩,by simp[FT.Le,Wk],HWk.refl _,fun h=>h⟩
end Go.Abs.Tz
namespace Go.Abs.Tz
open Go Go.Abs Go.Proofs
theorem bl_irr:∀x:List UInt8,Op.bytesLess x x=false
 |[]=>rfl
 |a::x=>by
  have:¬a<a:=by rw[UInt8.lt_iff_toNat_lt];omega
  simp[Op.bytesLess,bl_irr x,this]
theorem bl_tri:∀x y:List UInt8,Op.bytesLess x y=false->Op.bytesLess y x=false->x=y
 |[],[],_,_=>rfl
 |[],_::_,h,_=>by simp[Op.bytesLess]at h
 |_::_,[],_,h=>by simp[Op.bytesLess]at h
 |a::x,b::y,h,k=>by
  simp only[Op.bytesLess,Bool.or_eq_false_iff,decide_eq_false_iff_not,Bool.and_eq_false_iff,beq_eq_false_iff_ne]at h k
  have e:a=b:=by
   apply UInt8.toNat_inj.1
   have h1:=h.1
   have k1:=k.1
   rw[UInt8.lt_iff_toNat_lt]at h1 k1
   omega
  subst e
  have h2:Op.bytesLess x y=false:=by rcases h.2 with h|h;exact absurd rfl h;exact h
  have k2:Op.bytesLess y x=false:=by rcases k.2 with h|h;exact absurd rfl h;exact h
  rw[bl_tri x y h2 k2]
theorem bl_trans:∀x y z:List UInt8,Op.bytesLess x y=true->Op.bytesLess y z=true->Op.bytesLess x z=true
 |_,[],_,h,_=>by simp[Op.bytesLess]at h
 |_,_::_,[],_,k=>by simp[Op.bytesLess]at k
 |[],_::_,_::_,_,_=>rfl
 |a::x,b::y,c::z,h,k=>by
  simp only[Op.bytesLess,Bool.or_eq_true,decide_eq_true_iff,Bool.and_eq_true,beq_iff_eq]at h k ⊢
  rcases h with h|⟨rfl,h⟩
  ·rcases k with k|⟨rfl,k⟩
   ·left;rw[UInt8.lt_iff_toNat_lt]at h k ⊢;omega
   ·exact .inl h
  ·rcases k with k|⟨rfl,k⟩
   ·exact .inl k
   ·exact .inr ⟨rfl,bl_trans x y z h k⟩
def keyLt(x y:Strat):Prop:=lessB x.pred y.pred=true\/(x.pred=y.pred/\x.args<y.args)
theorem lessB_eq(a b:ByteArray):lessB a b=Op.bytesLess a.toList b.toList:=rfl
theorem toList_inj{a b:ByteArray}(h:a.toList=b.toList):a=b:=by
 rw[ByteArray.toList_eq,ByteArray.toList_eq]at h
 obtain⟨⟨x⟩⟩:=a
 obtain⟨⟨y⟩⟩:=b
 simp at h
 rw[h]
theorem ltS_iff(x y:Strat):ltS x y=true↔keyLt x y:=by
 have hself:∀a:ByteArray,lessB a a=false:=fun a=>bl_irr _
 unfold ltS keyLt cmpS or2
 simp only[decide_eq_true_iff]
 by_cases h:lessB x.pred y.pred=true
 ·have h1:cmpB x.pred y.pred=-1:=by simp[cmpB,h]
  rw[h1];simp[h]
 ·have h0:lessB x.pred y.pred=false:=by simpa using h
  by_cases he:x.pred=y.pred
  ·have h1:cmpB x.pred y.pred=0:=by simp[cmpB,h0,he,eqBA,hself]
   rw[h1]
   simp only[ne_eq,not_true_eq_false,if_false]
   unfold cmpI
   rw[he,hself]
   by_cases h2:x.args<y.args
   ·simp[h2]
   ·by_cases h3:y.args<x.args<;>simp[h2,h3]
  ·have h1:cmpB x.pred y.pred=1:=by
    have:eqBA x.pred y.pred=false:=by
     simp only[eqBA,beq_eq_false_iff_ne]
     exact fun e=>he (toList_inj e)
    simp[cmpB,h0,this]
   rw[h1]
   simp[h0,he]
theorem keyLt_asymm{x y:Strat}(h:keyLt x y):¬keyLt y x:=by
 have hself:∀a:ByteArray,lessB a a=false:=fun a=>bl_irr _
 rintro(k|⟨k1,k2⟩)
 ·rcases h with h|⟨h1,_⟩
  ·have:=bl_trans _ _ _ h k
   rw[bl_irr]at this;cases this
  ·rw[h1,hself]at k;cases k
 ·rcases h with h|⟨_,h2⟩
  ·rw[k1,hself]at h;cases h
  ·omega
theorem keyLt_total{x y:Strat}(h:¬keyLt x y)(k:¬keyLt y x):x.pred=y.pred/\x.args=y.args:=by
 have e:x.pred=y.pred:=by
  refine toList_inj (bl_tri _ _ ?_ ?_)
  ·simpa [keyLt,lessB_eq] using fun e=>h (.inl e)
  ·simpa [keyLt,lessB_eq] using fun e=>k (.inl e)
 refine⟨e,?_⟩
 have h1:¬x.args<y.args:=fun h'=>h (.inr ⟨e,h'⟩)
 have h2:¬y.args<x.args:=fun h'=>k (.inr ⟨e.symm,h'⟩)
 omega
theorem keyLt_trans{x y z:Strat}(h:keyLt x y)(k:keyLt y z):keyLt x z:=by
 rcases h with h|⟨h1,h2⟩
 ·rcases k with k|⟨k1,_⟩
  ·exact .inl (bl_trans _ _ _ h k)
  ·exact .inl (k1▸h)
 ·rcases k with k|⟨k1,k2⟩
  ·exact .inl (h1▸k)
  ·exact .inr ⟨h1.trans k1,by omega⟩
theorem ltS_asymm(x y:Strat)(h:ltS x y=true):ltS y x=false:=by
 cases hk:ltS y x with
 |false=>rfl
 |true=>exact absurd ((ltS_iff _ _).1 hk) (keyLt_asymm ((ltS_iff _ _).1 h))
theorem ltS_neg(a b c:Strat)(h:ltS b a=false)(k:ltS c b=false):ltS c a=false:=by
 cases hc:ltS c a with
 |false=>rfl
 |true=>
  have h1:¬keyLt b a:=fun e=>by rw[(ltS_iff _ _).2 e]at h;cases h
  have k1:¬keyLt c b:=fun e=>by rw[(ltS_iff _ _).2 e]at k;cases k
  have hca:=(ltS_iff _ _).1 hc
  by_cases hbc:keyLt b c
  ·exact absurd (keyLt_trans hbc hca) h1
  ·obtain⟨e1,e2⟩:=keyLt_total k1 hbc
   refine absurd ?_ h1
   unfold keyLt at hca ⊢
   rw[<-e1,<-e2]
   exact hca
theorem pw_all{α:Type}{R:α->α->Prop}(hs:∀x y,R x y->R y x):∀{l:List α},l.Pairwise R->∀a∈l,∀b∈l,a≠b->R a b
 |[],_,a,ha,_,_,_=>by cases ha
 |c::l,h,a,ha,b,hb,hne=>by
  obtain⟨h1,h2⟩:=List.pairwise_cons.1 h
  rcases List.mem_cons.1 ha with ea|ha'
  ·rcases List.mem_cons.1 hb with eb|hb'
   ·exact absurd (ea.trans eb.symm) hne
   ·rw[ea];exact h1 b hb'
  ·rcases List.mem_cons.1 hb with eb|hb'
   ·rw[eb];exact hs _ _ (h1 a ha')
   ·exact pw_all hs h2 a ha' b hb' hne
theorem sorted_one{A A0:List Strat}(hp:A.Perm A0)(hd:A0.Pairwise fun x y=>ltS x y=true\/ltS y x=true):isortN ltS (A.length - 1) 1 A=isortN ltS (A0.length - 1) 1 A0:=by
 have up:∀B:List Strat,(isortN ltS (B.length - 1) 1 B).Pairwise fun x y=>ltS y x=false:=by
  intro B
  have hl:(isortN ltS (B.length - 1) 1 B).length=B.length:=(isortN_perm ltS _ _ _).length_eq
  cases B with
  |nil=>simp[isortN]
  |cons b B=>
   have h:=isortN_upto ltS ltS_asymm ((b::B).length - 1) 1 (b::B) (fun i x y hi _ _=>by omega) (by simp only[List.length_cons];omega)
   refine upto_pairwise ltS ltS_neg _ ?_
   rw[hl]
   rw[show 1+((b::B).length - 1)=(b::B).length by simp only[List.length_cons];omega]at h
   exact h
 refine perm_unique (le:=fun x y=>ltS y x=false) (((isortN_perm ltS _ _ A).trans hp).trans (isortN_perm ltS _ _ A0).symm) (up A) (up A0) ?_
 have hall:=pw_all (R:=fun x y=>ltS x y=true\/ltS y x=true) (fun _ _ h=>h.symm) hd
 intro a ha b hb h1 h2
 have ha':=hp.mem_iff.1 ((isortN_perm ltS _ _ A).mem_iff.1 ha)
 have hb':=hp.mem_iff.1 ((isortN_perm ltS _ _ A).mem_iff.1 hb)
 by_cases he:a=b
 ·exact he
 ·rcases hall a ha' b hb' he with h|h
  ·rw[h]at h2;cases h2
  ·rw[h]at h1;cases h1
end Go.Abs.Tz
namespace Go.Abs.Tz
open Go Go.Abs Go.Proofs
theorem bel_term(n:Nat)(t:Term):Bel n (termL t):=.agg fun i c h=>by
 match i with
 |0=>simp at h;subst h;exact .sc _
 |1=>simp at h;subst h;exact .sc _
 |2=>simp at h;subst h;exact .sc _
 |i+3=>simp at h
theorem bel_encE(n:Nat)(E:Bind):∀(i:Nat)(kv:LV×LV),(encE E)[i]? = some kv->Bel n kv.1/\Bel n kv.2:=by
 intro i kv h
 simp only[encE,List.getElem?_map]at h
 obtain⟨e,_,rfl⟩:=Option.map_eq_some_iff.1 h
 exact⟨.sc _,bel_term _ _⟩
theorem t_bindM(p a:Atom)(hp:p.ok)(ha:a.ok)(H:LHeap)(o:Nat)(K:Bind)(hl:look o H.objs=some (.um (encE K)))(hno:∀i m l k n,look i H.objs=some (.iter m l k n)->m≠o)(hKn:(keysB K).Nodup)
  {kv kp:HP} (hk1:bindKA K p a=none->kv (.sc (.map none)) H) (hk2:∀R,bindKA K p a=some R->kv (.map (H.next+2)) ⟨(H.next+2,.um (encE R))::H.objs,H.next+3⟩):
  cP E0 F0 88 [atomL p,atomL a,.map o] H kv kp:=by
 have h0:=t_bindM0 p a hp ha H o K hl hno hKn
 have putback:∀(K':Bind)(G:Ghost)(w:World)(ob:List (Nat×LObj))(n:Nat),K'.Perm K->look o ob=some (.map (encE K'))->Inv G w ⟨ob,n⟩->Inv G w ⟨putO o (.um (encE K)) ob,n⟩:=by
  intro K' G w ob n hp hlo hI
  have:=hI.toUm (es':=encE K) hlo (hp.map _)
  exact this
 have hback:∀K':Bind,putO o (.um (encE K)) (putO o (.map (encE K')) H.objs)=H.objs:=by
  intro K'
  rw[putO_putO,putO_same hl]
 cases hb:bindKA K p a with
 |none=>
  intro hH
  have h1:Out E0 F0 (.call 88 [atomL p,atomL a,.map o] H) (fun r=>∃K':Bind,K'.Perm K/\∃n,r=.ret (.sc (.map none)) ⟨putO o (.map (encE K')) H.objs,n⟩):=by
   refine .mono (h0 hH) fun r hr=>?_
   rcases hr with⟨u,H',rfl,_,K',hK,⟨_,rfl,n,rfl⟩|⟨R,R',hR,_⟩⟩|⟨u,H',rfl,_,hf⟩
   ·exact⟨K',hK,n,rfl⟩
   ·rw[hb]at hR;cases hR
   ·exact hf.elim
  have h2:CallOk Tryz.prog E0 88 [atomL p,atomL a,.map o] H (fun r=>∃n,r=.ret (.sc (.map none)) ⟨H.objs,n⟩):=by
   refine(sound hmixT fnsT h1:CallOk _ _ _ _ _ _).inv (fun v H' G' w' hT hI=>?_) (fun v H' hT=>?_)
   ·obtain⟨K',hK,n,hn⟩:=hT
    cases hn
    have:=putback K' G' w' _ n hK (look_putO hl) hI
    rw[hback]at this
    exact⟨_,this,n,rfl⟩
   ·obtain⟨K',hK,n,hn⟩:=hT
    cases hn
  exact .prim (h2.low (.sc _) (.inl ⟨_,H,rfl,hH,hk1 hb⟩))
 |some R=>
  intro hH
  have hon:o<H.next:=hH.look hl
  have h1:Out E0 F0 (.call 88 [atomL p,atomL a,.map o] H) (fun r=>∃K' R':Bind,K'.Perm K/\R'.Perm R/\∃n,r=.ret (.map (H.next+2)) ⟨(H.next+2,.map (encE R'))::putO o (.map (encE K')) H.objs,n⟩):=by
   refine .mono (h0 hH) fun r hr=>?_
   rcases hr with⟨u,H',rfl,_,K',hK,⟨hn,_⟩|⟨R1,R',hR,hRp,rfl,n,rfl⟩⟩|⟨u,H',rfl,_,hf⟩
   ·rw[hb]at hn;cases hn
   ·rw[hb]at hR;cases hR
    exact⟨K',R',hK,hRp,n,rfl⟩
   ·exact hf.elim
  have h2:CallOk Tryz.prog E0 88 [atomL p,atomL a,.map o] H (fun r=>∃n,r=.ret (.map (H.next+2)) ⟨(H.next+2,.um (encE R))::H.objs,n⟩):=by
   refine(sound hmixT fnsT h1:CallOk _ _ _ _ _ _).inv (fun v H' G' w' hT hI=>?_) (fun v H' hT=>?_)
   ·obtain⟨K',R',hK,hR,n,hn⟩:=hT
    cases hn
    have h3:=putback K' G' w' _ n hK (by rw[look_ne (by omega)];exact look_putO hl) hI
    rw[putO_ne (by omega),hback]at h3
    have h4:=h3.toUm (o:=H.next+2) (es':=encE R) (look_self _ _ _) (hR.map _)
    rw[put_self]at h4
    exact⟨_,h4,n,rfl⟩
   ·obtain⟨K',R',hK,hR,n,hn⟩:=hT
    cases hn
  refine .prim (h2.low2 (n0:=H.next+3) (by omega) (.map (by omega)) (fun i x hx=>?_) (.inl ⟨_,_,rfl,⟨Nat.lt_succ_self _,Desc.mono hH (by omega)⟩,hk2 R hb⟩))
  simp only[look]at hx
  split at hx
  ·rename_i hi
   subst hi
   simp only[Option.some.injEq]at hx
   subst hx
   exact .inr ⟨by omega,bel_encE _ _⟩
  ·exact .inl hx
end Go.Abs.Tz
namespace Go.Abs.Tz
open Go Go.Abs Go.Proofs
set_option maxRecDepth 20000
set_option linter.unusedSimpArgs false
attribute [local simp ↓] getP_nil getP_node setP_nil setP_node oneP_eq vP_map vP_some vP_none vP_bind eP_some bP_true bP_false gP_yes gP_tf gP_ft gP_tup runP_skip runP_ops runP_drw runP_seq runP_cond runP_blk runP_loop runP_exit runP_ret seqK_n seqK_r seqK_e seqK_p blkK_n blkK_r blkK_e blkK_p loopK_n loopK_r loopK_e loopK_p finK_n finK_r finK_p resP_one resP_two resP_three resP_nil resP_c nxP_nil argsP_nil argsP_cons evP_t evP_c evP_g evsP_nil evsP_cons clP_fn clP_yld clfP_fn pnP_i opsP_nil opsP_d opsP_x opsP_gt opsP_gf opP_cf opP_cl opP_pn opP_nx valP_mv valP_pk valP_eq valP_bn valP_nt valP_ld valP_fa valP_fd valP_ia valP_ix valP_ln valP_srn valP_srl valP_srh valP_srb valP_cv valP_mi valP_mf valP_xt valP_bs valP_bd valP_nc valP_mn valP_lk valP_ta opP_mv opP_pk opP_eq opP_bn opP_nt opP_ld opP_fa opP_fd opP_ia opP_ix opP_ln opP_sr opP_cv opP_mi opP_mf opP_xt opP_bs opP_bd opP_nc opP_mn opP_lk opP_ta opP_al opP_bx opP_st opP_ap opP_mk opP_nb opP_mu opP_rg opP_en pendP_nil pendP_d pendP_g drwP_nil drwP_d drwP_x drwP_gt drwP_gf look_self natOf_nat
attribute [local simp] faL fdL iaL ixL loadL partL lenL eqK eqL natOf eqB_s eqB_i eqB_b bn_add bn_sub bn_lss bn_leq bn_gtr bn_geq bn_adds bn_lsss bn_gtrs bn_leqs bn_geqs sliceL LV.cells LV.whole look_self put_self putO_self put_eq stL fillL termC dopP LHeap.alloc oneI oneS oneB nth0 nth1 nth2 nth3 nth4 nth5 nth6 nth7 nth8 nth9 look_ne putO_ne
theorem t_bindN0(p a:Atom)(hp:p.ok)(ha:a.ok)(H:LHeap):
  cP E0 F0 88 [atomL p,atomL a,.sc (.map none)] H (fun u H'=>(bindKA [] p a=none/\u=.sc (.map none)/\∃n,H'=⟨H.objs,n⟩) \/
   (∃R R',bindKA [] p a=some R/\List.Perm R' R/\u=.map (H.next+2)/\∃n,H'=⟨(H.next+2,.map (encE R'))::H.objs,n⟩)) (fun _ _=>False):=by
 refine cP_of_fn c88 fun hH=>⟨Nat.le_of_ble_eq_true rfl,?_⟩
 have hlp:=hp.2.1
 have hla:=ha.2.1
 obtain⟨base,N⟩:=H
 obtain⟨base',hbase⟩:∃base',base=base':=⟨_,rfl⟩
 have hB:LHeap.Ok ⟨base,N⟩:=hH
 dsimp only
 simp(disch:=omega)[b88]
 refine(t_of p).x (bel_of p) ?_
 simp(disch:=omega)
 refine(t_of a).x (bel_of a) ?_
 cases h1:eqBA p.pred a.pred
 ·simp(disch:=omega)[h1]
  exact⟨⟨base,N+2⟩,(backK hB).1,(backK hB).2,by simp[bindKA,h1],N+2,rfl⟩
 by_cases h2:p.args.length=a.args.length
 case neg=>
  have h2i:¬(p.args.length:Int)=(a.args.length:Int):=by omega
  simp(disch:=omega)[h1,h2,h2i]
  exact⟨⟨base,N+2⟩,(backK hB).1,(backK hB).2,by simp[bindKA,h1,h2],N+2,rfl⟩
 have h2i:(p.args.length:Int)=(a.args.length:Int):=by omega
 have hA0:bindKA [] p a=bindR [] p.args a.args:=by simp[bindKA,h1,h2]
 obtain⟨A,hA⟩:∃A,bindR [] p.args a.args=A:=⟨_,rfl⟩
 simp(disch:=omega)[h1,h2i,rgL]
 refine lP_unroll ?_
 simp(disch:=omega)
 have hHe:∀e:Bind,LHeap.Ok ⟨(N+2,.map (encE e))::(N+1,.cells [.str a.pred,argsL a.args])::(N,.cells [.str p.pred,argsL p.args])::base,N+3⟩:=fun _=>⟨Nat.lt_succ_self _,Nat.lt_succ_self _,Nat.lt_succ_self _,hB⟩
 refine lP_enter (σ:=NNE) (fun q=>(.nd .bot (.nd .bot (.nd (.ptr N 0) (.nd (.map (N+2)) (.nd .bot (.nd (argsL p.args) .nil .nil) .nil) .nil) .nil) (.nd .bot (.nd .bot (.nd .bot (.nd (.int q.i) .nil .nil) .nil) .nil) .nil)) (.nd .bot (.nd (.ptr (N+1) 0) (.nd .bot (.nd .bot (.nd (.int p.args.length) .nil .nil) .nil) .nil) .nil) .nil)))
  (fun q=>⟨(N+2,.map (encE q.e))::(N+1,.cells [.str a.pred,argsL a.args])::(N,.cells [.str p.pred,argsL p.args])::base,q.n⟩) (fun q=>p.args.length - q.i)
  (fun q=>N+3<=q.n/\q.i<=p.args.length/\bindR q.e (p.args.drop q.i) (a.args.drop q.i)=A) ⟨0,N+4,[]⟩ ⟨by dsimp only;omega,Nat.zero_le _,hA⟩ (by simp[FT.Le,Wk])
  (back (hHe []) (by first|exact HExt.refl' _|(repeat (first|exact HExt.refl (by first|omega|(dsimp only;omega))|refine HExt.cons' (hHe []) (by first|omega|(dsimp only;omega)) (by first|omega|(dsimp only;omega)) ?_)))) ?_
 rintro⟨i,n,e⟩ ⟨hn,hi,he⟩ hok
 simp only at hn hi he
 by_cases hlt:i<p.args.length
 case neg=>
  rw[List.drop_eq_nil_of_le (by omega)]at he
  simp only[bindR]at he
  have hc:LHeap.Ok ⟨(N+2,.map (encE e))::base,N+3⟩:=⟨Nat.lt_succ_self _,Desc.mono hB (show N<=N+2 by omega)⟩
  have hbk:=back hc (look_mid (y:=.cells [.str a.pred,argsL a.args]) (z:=.cells [.str p.pred,argsL p.args]) hB hn)
  simp(disch:=omega)[hlt]
  exact⟨_,hbk.1,hbk.2,e,by rw[hA0,hA,he],e,.refl _,n,rfl⟩
 have hly:i<a.args.length:=by omega
 rw[List.drop_eq_getElem_cons hlt,List.drop_eq_getElem_cons hly]at he
 have hnone:none=A->bindKA [] p a=none:=fun h=>by rw[hA0,hA,h]
 by_cases hk3:p.args[i].kind=3
 case neg=>
  by_cases hq:eqT p.args[i] a.args[i]=true
  case neg=>
   have hq':eqT p.args[i] a.args[i]=false:=by simpa using hq
   simp only[eqT]at hq'
   simp only[bindR,if_neg hk3,if_neg hq]at he
   simp(disch:=omega)[hlt,hly,hk3,hq']
   have hx:HExt ⟨base,N⟩ ⟨(n,.cells (termC p.args[i]))::(N+2,.map (encE e))::(N+1,.cells [.str a.pred,argsL a.args])::(N,.cells [.str p.pred,argsL p.args])::base,n+1⟩:=(by first|exact HExt.refl' _|(repeat (first|exact HExt.refl (by first|omega|(dsimp only;omega))|refine HExt.cons' hB (by first|omega|(dsimp only;omega)) (by first|omega|(dsimp only;omega)) ?_)))
   exact⟨⟨base,n+1⟩,(back hB hx).1,(back hB hx).2,hnone he,n+1,rfl⟩
  ·have hq':=hq
   simp only[eqT]at hq'
   simp only[bindR,if_neg hk3,if_pos hq]at he
   simp(disch:=omega)[hlt,hly,hk3,hq',wrap_nat (show i<2^62 by omega)]
   exact⟨⟨i+1,n+1,e⟩,by dsimp only;omega,⟨by dsimp only;omega,by dsimp only;omega,he⟩,by simp[FT.Le,Wk],back (hHe e) (by first|exact HExt.refl' _|(repeat (first|exact HExt.refl (by first|omega|(dsimp only;omega))|refine HExt.cons' (hHe e) (by first|omega|(dsimp only;omega)) (by first|omega|(dsimp only;omega)) ?_)))⟩
 simp(disch:=omega)[hlt,hly,hk3]
 rw[lk_map (E:=e) (by simp(disch:=omega)[look_ne])]
 have hmu:∀(l:List (Nat×LObj))(m:Nat),look (N+2) l=some (.map (encE e))->muL ⟨l,m⟩ (.pl 1) (.map (N+2)) (.str p.args[i].s) (termL a.args[i])=some (LHeap.put ⟨l,m⟩ (N+2) (.map (encE (setB p.args[i].s a.args[i] e)))):=fun l m h=>mu_map h _ _
 cases hf:findB p.args[i].s e with
 |none=>
  simp only[bindR,if_pos hk3,hf]at he
  have hsb:=setB_new (v:=a.args[i]) (findB_none hf)
  simp(disch:=omega)[hlt,hly,hk3]
  rw[hmu _ _ (by simp(disch:=omega)[look_ne]),hsb]
  simp(disch:=omega)[hlt,hly,hk3,wrap_nat (show i<2^62 by omega)]
  have hx:LHeap.Ok ⟨(N+2,.map (encE e++[(.str p.args[i].s,termL a.args[i])]))::(N+1,.cells [.str a.pred,argsL a.args])::(N,.cells [.str p.pred,argsL p.args])::base,N+3⟩:=⟨Nat.lt_succ_self _,Nat.lt_succ_self _,Nat.lt_succ_self _,hB⟩
  refine⟨⟨i+1,n+2,e++[(p.args[i].s,a.args[i])]⟩,by dsimp only;omega,⟨by dsimp only;omega,by dsimp only;omega,he⟩,by simp[FT.Le,Wk],?_⟩
  dsimp only
  rw[show encE (e++[(p.args[i].s,a.args[i])])=encE e++[(.str p.args[i].s,termL a.args[i])] from List.map_append]
  exact backK hx
 |some old=>
  by_cases hq:eqT old a.args[i]=true
  case neg=>
   have hq':eqT old a.args[i]=false:=by simpa using hq
   simp only[eqT]at hq'
   simp only[bindR,if_pos hk3,hf,if_neg hq]at he
   simp(disch:=omega)[hlt,hly,hk3,hq']
   have hx:∀x y,HExt ⟨base,N⟩ ⟨(n+1,x)::(n,y)::(N+2,.map (encE e))::(N+1,.cells [.str a.pred,argsL a.args])::(N,.cells [.str p.pred,argsL p.args])::base,n+1+1⟩:=fun x y=>(by first|exact HExt.refl' _|(repeat (first|exact HExt.refl (by first|omega|(dsimp only;omega))|refine HExt.cons' hB (by first|omega|(dsimp only;omega)) (by first|omega|(dsimp only;omega)) ?_)))
   exact⟨⟨base,n+1+1⟩,(back hB (hx _ _)).1,(back hB (hx _ _)).2,hnone he,n+1+1,rfl⟩
  ·have hq':=hq
   simp only[eqT]at hq'
   simp only[bindR,if_pos hk3,hf,if_pos hq]at he
   have hold:setB p.args[i].s a.args[i] e=e:=setB_old (by rw[hf,eqT_iff hq])
   simp(disch:=omega)[hlt,hly,hk3,hq']
   rw[hmu _ _ (by simp(disch:=omega)[look_ne]),hold]
   simp(disch:=omega)[hlt,hly,hk3,wrap_nat (show i<2^62 by omega)]
   exact⟨⟨i+1,n+2,e⟩,by dsimp only;omega,⟨by dsimp only;omega,by dsimp only;omega,he⟩,by simp[FT.Le,Wk],back (hHe e) (by first|exact HExt.refl' _|(repeat (first|exact HExt.refl (by first|omega|(dsimp only;omega))|refine HExt.cons' (hHe e) (by first|omega|(dsimp only;omega)) (by first|omega|(dsimp only;omega)) ?_)))⟩
theorem t_bindN(p a:Atom)(hp:p.ok)(ha:a.ok)(H:LHeap)
  {kv kp:HP} (hk1:bindKA [] p a=none->kv (.sc (.map none)) H) (hk2:∀R,bindKA [] p a=some R->kv (.map (H.next+2)) ⟨(H.next+2,.um (encE R))::H.objs,H.next+3⟩):
  cP E0 F0 88 [atomL p,atomL a,.sc (.map none)] H kv kp:=by
 have h0:=t_bindN0 p a hp ha H
 cases hb:bindKA [] p a with
 |none=>
  intro hH
  have h1:Out E0 F0 (.call 88 [atomL p,atomL a,.sc (.map none)] H) (fun r=>∃n,r=.ret (.sc (.map none)) ⟨H.objs,n⟩):=by
   refine .mono (h0 hH) fun r hr=>?_
   rcases hr with⟨u,H',rfl,_,⟨_,rfl,n,rfl⟩|⟨R,R',hR,_⟩⟩|⟨u,H',rfl,_,hf⟩
   ·exact⟨n,rfl⟩
   ·rw[hb]at hR;cases hR
   ·exact hf.elim
  have h2:CallOk Tryz.prog E0 88 [atomL p,atomL a,.sc (.map none)] H (fun r=>∃n,r=.ret (.sc (.map none)) ⟨H.objs,n⟩):=sound hmixT fnsT h1
  exact .prim (h2.low (.sc _) (.inl ⟨_,H,rfl,hH,hk1 hb⟩))
 |some R=>
  intro hH
  have h1:Out E0 F0 (.call 88 [atomL p,atomL a,.sc (.map none)] H) (fun r=>∃R':Bind,R'.Perm R/\∃n,r=.ret (.map (H.next+2)) ⟨(H.next+2,.map (encE R'))::H.objs,n⟩):=by
   refine .mono (h0 hH) fun r hr=>?_
   rcases hr with⟨u,H',rfl,_,⟨hn,_⟩|⟨R1,R',hR,hRp,rfl,n,rfl⟩⟩|⟨u,H',rfl,_,hf⟩
   ·rw[hb]at hn;cases hn
   ·rw[hb]at hR;cases hR
    exact⟨R',hRp,n,rfl⟩
   ·exact hf.elim
  have h2:CallOk Tryz.prog E0 88 [atomL p,atomL a,.sc (.map none)] H (fun r=>∃n,r=.ret (.map (H.next+2)) ⟨(H.next+2,.um (encE R))::H.objs,n⟩):=by
   refine(sound hmixT fnsT h1:CallOk _ _ _ _ _ _).inv (fun v H' G' w' hT hI=>?_) (fun v H' hT=>?_)
   ·obtain⟨R',hR,n,hn⟩:=hT
    cases hn
    have h4:=hI.toUm (o:=H.next+2) (es':=encE R) (look_self _ _ _) (hR.map _)
    rw[put_self]at h4
    exact⟨_,h4,n,rfl⟩
   ·obtain⟨R',hR,n,hn⟩:=hT
    cases hn
  refine .prim (h2.low2 (n0:=H.next+3) (by omega) (.map (by omega)) (fun i x hx=>?_) (.inl ⟨_,_,rfl,⟨Nat.lt_succ_self _,Desc.mono hH (by omega)⟩,hk2 R hb⟩))
  simp only[look]at hx
  split at hx
  ·rename_i hi
   subst hi
   simp only[Option.some.injEq]at hx
   subst hx
   exact .inr ⟨by omega,bel_encE _ _⟩
  ·exact .inl hx
def l42:BCode:=match b43.body with
 |.seq _ (.seq _ (.seq _ (.seq _ (.seq l _))))=>l
 |_=>.bad
def r42:BCode:=match b43.body with
 |.seq _ (.seq _ (.seq _ (.seq _ (.seq _ r))))=>r
 |_=>.bad
def mx(a b:Int):Int:=if b > a then b else a
def maxI(t:Int)(l:List Int):Int:=l.foldl mx t
theorem mx_comm(t a b:Int):mx (mx t a) b=mx (mx t b) a:=by
 unfold mx
 repeat' split
 all_goals omega
theorem maxI_perm{l m:List Int}(h:l.Perm m):∀t,maxI t l=maxI t m:=by
 induction h with
 |nil=>intro t;rfl
 |cons x _ ih=>intro t;exact ih (mx t x)
 |swap x y l=>
  intro t
  show maxI (mx (mx t y) x) l=maxI (mx (mx t x) y) l
  rw[mx_comm]
 |trans _ _ ih1 ih2=>intro t;rw[ih1,ih2]
structure NNM where
 left:List Nat
 cur:Option Nat
 top:Int
theorem maxLoop(v0 v7:LV)(o:Nat)(ms:List (LV×Int))(top:Int)(H:LHeap)(hl:look o H.objs=some (.map (ms.map fun e=>(e.1,.int e.2)))):
  lP E0 F0 l42 (.nd (v0) (.nd .bot (.nd .bot (.nd (v7) .nil .nil) .nil) (.nd .bot (.nd (.int top) .nil .nil) .nil)) (.nd .bot .nil (.nd (.map o) .nil .nil))) H (fun e t' H'=>e=.normal/\FT.Le (.nd (v0) (.nd .bot (.nd .bot (.nd (v7) .nil .nil) .nil) (.nd .bot (.nd (.int (maxI top (ms.map (·.2)))) .nil .nil) .nil)) (.nd .bot .nil (.nd (.map o) .nil .nil))) t'/\HWk H' ⟨H.objs,H.next+1⟩/\(H'.Ok->LHeap.Ok ⟨H.objs,H.next+1⟩)):=by
 refine lP_of_run ?_
 obtain⟨ob,N⟩:=H
 dsimp only at hl ⊢
 obtain⟨M,hM⟩:∃M,maxI top (ms.map (·.2))=M:=⟨_,rfl⟩
 rw[hM]
 simp(disch:=omega)[l42,b43,rgL,hl]
 refine lP_enter (σ:=NNM) (fun q=>(.nd (v0) (.nd .bot (.nd .bot (.nd (v7) .nil .nil) .nil) (.nd .bot (.nd (.int q.top) .nil .nil) .nil)) (.nd .bot .nil (.nd (.map o) .nil (.nd .bot .nil (.nd (.ptr N 0) .nil .nil))))))
  (fun q=>⟨(N,.iter o q.left q.cur ms.length)::ob,N+1⟩) (fun q=>q.left.length)
  (fun q=>maxI q.top (q.left.filterMap (fun k=>(ms.map (·.2))[k]?))=M) ⟨List.range ms.length,none,top⟩ ?_ (by simp[FT.Le,Wk]) ⟨HWk.refl _,fun h=>h⟩ ?_
 ·dsimp only
  rw[<-hM]
  congr 1
  have:=range_filterMap (ms.map (·.2))
  rwa [List.length_map]at this
 rintro⟨left,cur,tp⟩ hT hok
 dsimp only at hT hok
 have hlt:o<N:=by
  have h2:LHeap.Ok ⟨ob,N⟩:=hok.2
  exact h2.look hl
 simp(disch:=omega)
 by_cases hl0:left=[]
 ·refine⟨N,o,left,cur,ms.length,rfl,by simp[look_self],.inl ⟨hl0,.inr ⟨_,by rw[look_ne (by omega)];exact hl,by simp⟩,?_⟩⟩
  subst hl0
  simp only[List.filterMap_nil]at hT
  have hT':tp=M:=hT
  simp(disch:=omega)[hT']
  have hB:LHeap.Ok ⟨ob,N⟩:=hok.2
  exact⟨by simp[FT.Le,Wk],backK hB⟩
 ·refine⟨N,o,left,cur,ms.length,rfl,by simp[look_self],.inr ⟨hl0,_,by rw[look_ne (by omega)];exact hl,by simp,fun j k e hj hk=>?_⟩⟩
  obtain⟨v,hv,rfl⟩:∃v,ms[k]? = some v/\e=(v.1,.int v.2):=by
   simp only[List.getElem?_map]at hk
   obtain⟨v,h1,h2⟩:=Option.map_eq_some_iff.1 hk
   exact⟨v,h1,h2.symm⟩
  have hjl:j<left.length:=(List.getElem?_eq_some_iff.1 hj).1
  have hfe:(left.filterMap (fun k=>(ms.map (·.2))[k]?)).Perm (v.2::(left.eraseIdx j).filterMap (fun k=>(ms.map (·.2))[k]?)):=by
   have:=(perm_erase left j k hj).filterMap (fun k=>(ms.map (·.2))[k]?)
   rwa [List.filterMap_cons_some (by rw[List.getElem?_map,hv];rfl)]at this
  rw[maxI_perm hfe]at hT
  have hT':maxI (mx tp v.2) ((left.eraseIdx j).filterMap (fun k=>(ms.map (·.2))[k]?))=M:=hT
  simp(disch:=omega)[enL,hl,hv]
  refine⟨⟨left.eraseIdx j,some k,mx tp v.2⟩,by dsimp only;rw[List.length_eraseIdx_of_lt hjl];omega,by simpa using hT',?_,HWk.refl _,fun h=>h⟩
  simp[FT.Le,Wk,mx]
end Go.Abs.Tz
