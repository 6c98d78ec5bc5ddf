/- Part of the proof that the law CustomStepsAsSpecified returns true for every input. Conditions: none. -/
import Derived.Test.YtghfbggphgpjgaaGreatDoorPartD
import Derived.Test.YtghfbggphgpjgaaGreatDoorPartF
import Derived.Lib.ItoaNum
namespace Go.Abs.Tz
open Go Go.Abs Go.Proofs
def rfOf:Code->Code×Code
 |.seq _ (.seq _ (.seq _ (.seq (.seq _ (.block _ (.rangeFunc _ _ a b))) _)))=>(a,b)
 |_=>(.skip,.skip)
noncomputable def rcT(k:Nat):Code×Code:=match k with
 |0=>rfOf (((Tryz.prog.funcs[57]?).bind (·.body)).getD .skip)
 |_=>(.skip,.skip)
def powT:List (Nat×Array Value):=[(3,(Lib.pow10Tab.map fun z=>Value.int .u64 z).toArray)]
noncomputable def E0:Env:=⟨Tryz.prog,fun _=>.bot,rcT,powT⟩
noncomputable def F0:Fns:=⟨fun f b=>qj Tryz.prog f=some b,fun f args H S=>qZ Tryz.prog E0 f args H S,fun k N ba bb=>qC Tryz.prog N (E0.rc k).1=some ba/\qC Tryz.prog N (E0.rc k).2=some bb⟩
abbrev qh(f:FuncId)(args:List LV)(v:LV):Prop:=qaS E0 F0 f args v
theorem qh.of{b:BFn}{f:FuncId}{args:List LV}{v:LV}(hf:qj Tryz.prog f=some b)(h:∀H:qa,H.Ok->fnP E0 F0 b args H (qez H v) (fun _ _=>False)):qh f args v:=qaS.of_fn hf h
theorem qh.go{f:FuncId}{args:List LV}{v:LV}(h:qh f args v){l:List (Nat×qc)}{m:Nat}{kv kp:HP}(hk:∀n,m<=n->kv v ⟨l,n⟩):cP E0 F0 f args ⟨l,m⟩ kv kp:=h ⟨l,m⟩ kv kp hk
theorem qi.cons'{H:qa}(hH:H.Ok){i m:Nat}{o:qc}{l:List (Nat×qc)}(hi:H.next<=i)(hm:H.next<=m)(h:qi H ⟨l,H.next⟩):qi H ⟨(i,o)::l,m⟩:=qi.cons hH hi h hm
theorem qp{H H':qa}{u v:LV}(hH:H.Ok)(h:u=v)(he:qi H H':=by first|exact qi.refl' _|(repeat (first|exact qi.refl (by first|omega|(dsimp only;omega))|refine qi.cons' (by assumption) (by first|omega|(dsimp only;omega)) (by first|omega|(dsimp only;omega)) ?_))):qez H v u H':=qcW hH h he
theorem zo{H:qa}{l:List (Nat×qc)}{n:Nat}(hH:H.Ok)(he:qi H ⟨l,n⟩):HWk ⟨l,n⟩ ⟨H.objs,n⟩/\(qa.Ok ⟨l,n⟩->qa.Ok ⟨H.objs,n⟩):=
 ⟨⟨Nat.le_refl _,he.2⟩,fun _=>qx.mono hH he.1⟩
theorem zJ{H:qa}{l:List (Nat×qc)}{n:Nat}(hH:H.Ok)(he:qi H ⟨l,n⟩:=by first|exact qi.refl' _|(repeat (first|exact qi.refl (by first|omega|(dsimp only;omega))|refine qi.cons' (by assumption) (by first|omega|(dsimp only;omega)) (by first|omega|(dsimp only;omega)) ?_))):HWk ⟨l,n⟩ ⟨H.objs,n⟩/\(qa.Ok ⟨l,n⟩->qa.Ok ⟨H.objs,n⟩):=zo hH he
theorem qax{α:Type}(p:α->Bool){l:List α}{i:Nat}(h:i<l.length):(l.drop i).all p=(p l[i]&&(l.drop (i+1)).all p):=by
 rw[List.drop_eq_getElem_cons h,List.all_cons]
theorem yv{α:Type}{l:List α}{i:Nat}(h:i<l.length):l[i]∈l:=List.getElem_mem h
theorem yg(k:IntKind)(n:Int):(Value.int k n).oneCell'=true:=rfl
theorem ye(s:ByteArray):(Value.string s).oneCell'=true:=rfl
theorem yh(b:Bool):(Value.bool b).oneCell'=true:=rfl
theorem yu{α:Type}(a0:α)(l:List α):(a0::l)[0]? = some a0:=rfl
theorem yt{α:Type}(a0 a1:α)(l:List α):(a0::a1::l)[1]? = some a1:=rfl
theorem yr{α:Type}(a0 a1 a2:α)(l:List α):(a0::a1::a2::l)[2]? = some a2:=rfl
theorem yq{α:Type}(a0 a1 a2 a3:α)(l:List α):(a0::a1::a2::a3::l)[3]? = some a3:=rfl
theorem yp{α:Type}(a0 a1 a2 a3 a4:α)(l:List α):(a0::a1::a2::a3::a4::l)[4]? = some a4:=rfl
theorem yo{α:Type}(a0 a1 a2 a3 a4 a5:α)(l:List α):(a0::a1::a2::a3::a4::a5::l)[5]? = some a5:=rfl
theorem yn{α:Type}(a0 a1 a2 a3 a4 a5 a6:α)(l:List α):(a0::a1::a2::a3::a4::a5::a6::l)[6]? = some a6:=rfl
theorem ym{α:Type}(a0 a1 a2 a3 a4 a5 a6 a7:α)(l:List α):(a0::a1::a2::a3::a4::a5::a6::a7::l)[7]? = some a7:=rfl
theorem yk{α:Type}(a0 a1 a2 a3 a4 a5 a6 a7 a8:α)(l:List α):(a0::a1::a2::a3::a4::a5::a6::a7::a8::l)[8]? = some a8:=rfl
theorem yj{α:Type}(a0 a1 a2 a3 a4 a5 a6 a7 a8 a9:α)(l:List α):(a0::a1::a2::a3::a4::a5::a6::a7::a8::a9::l)[9]? = some a9:=rfl
structure NN where
 i:Nat
 n:Nat
structure qn where
 kind:Int
 n:Int
 s:ByteArray
structure qd where
 pred:ByteArray
 args:List qn
abbrev U(n:Int):LV:=.sc (.int .u8 n)
abbrev ui(t:qn):List LV:=[.int t.kind,.int t.n,.str t.s]
abbrev qW(t:qn):LV:=.agg (ui t)
abbrev ql(l:List qn):LV:=.sl (l.map qW) .no
abbrev qg(a:qd):LV:=.agg [.str a.pred,ql a.args]
def z1(a b:ByteArray):Bool:=Op.bytesLess a.toList b.toList
def qK(a b:ByteArray):Bool:=a.toList==b.toList
theorem zE(a b:ByteArray):eqB 1 (.sc (.string a)) (.sc (.string b))=some (qK a b):=rfl
theorem uA(k:IntKind)(a b:Int):eqB 0 (.sc (.int k a)) (.sc (.int k b))=some (decide (a=b)):=by
 simp only[eqB,if_true]
 congr 1
theorem yQ(a b:Bool):eqB 2 (.sc (.bool a)) (.sc (.bool b))=some (a==b):=rfl
theorem vg(k:IntKind)(a b:Int):zY .add (.sc (.int k a)) (.sc (.int k b))=some (.sc (.int k (k.wrap (a+b)))):=by simp[zY]
theorem y5(k:IntKind)(a b:Int):zY .sub (.sc (.int k a)) (.sc (.int k b))=some (.sc (.int k (k.wrap (a - b)))):=by simp[zY]
theorem y7(k:IntKind)(a b:Int):zY .lss (.sc (.int k a)) (.sc (.int k b))=some (.sc (.bool (decide (a<b)))):=by simp[zY]
theorem y9(k:IntKind)(a b:Int):zY .leq (.sc (.int k a)) (.sc (.int k b))=some (.sc (.bool (decide (a<=b)))):=by simp[zY]
theorem vc(k:IntKind)(a b:Int):zY .gtr (.sc (.int k a)) (.sc (.int k b))=some (.sc (.bool (decide (b<a)))):=by simp[zY]
theorem ve(k:IntKind)(a b:Int):zY .geq (.sc (.int k a)) (.sc (.int k b))=some (.sc (.bool (decide (b<=a)))):=by simp[zY]
theorem vf(a b:ByteArray):zY .add (.sc (.string a)) (.sc (.string b))=if a.size+b.size<=2^40 then some (.str (a++b)) else none:=rfl
theorem y6(a b:ByteArray):zY .lss (.sc (.string a)) (.sc (.string b))=some (.sc (.bool (z1 a b))):=rfl
theorem vb(a b:ByteArray):zY .gtr (.sc (.string a)) (.sc (.string b))=some (.sc (.bool !(z1 a b||qK a b))):=rfl
theorem y8(a b:ByteArray):zY .leq (.sc (.string a)) (.sc (.string b))=some (.sc (.bool (z1 a b||qK a b))):=rfl
theorem vd(a b:ByteArray):zY .geq (.sc (.string a)) (.sc (.string b))=some (.sc (.bool !z1 a b)):=rfl
theorem qiv(s:ByteArray):qK s ⟨⟨[]⟩⟩=decide (s.size=0):=by
 unfold qK
 rw[ByteArray.toList_eq,ByteArray.toList_eq]
 rcases s with⟨⟨l⟩⟩
 cases l with
 |nil=>rfl
 |cons a l=>rfl
theorem uM{n:Int}(h1:-2^63<=n)(h2:n<2^63):IntKind.wrap .i64 n=n:=by
 have h64:(IntKind.i64.bits:Nat)=64:=rfl
 have hs:IntKind.i64.signed=true:=rfl
 simp only[IntKind.wrap,h64,hs,Bool.true_and]
 by_cases h0:0<=n
 ·have e1:n % (2^64:Int)=n:=by omega
  rw[e1]
  split
  ·rename_i hge;simp at hge;omega
  ·rfl
 ·have e1:n % (2^64:Int)=n+2^64:=by omega
  rw[e1]
  split
  ·omega
  ·rename_i hge;simp at hge;omega
theorem qk{n:Nat}(h:n<2^62):IntKind.wrap .i64 ((n:Int)+1)=((n+1:Nat):Int):=by
 rw[uM (by omega) (by omega)];omega
theorem vw{H:qa}{u v:LV}{n:Nat}(hH:H.Ok)(h:u=v)(hn:H.next<=n):qez H v u ⟨H.objs,n⟩:=qcW hH h (qi.refl hn)
theorem uE{H:qa}{u v:LV}(hH:H.Ok)(h:u=v):qez H v u H:=qcW hH h (qi.refl' H)
end Go.Abs.Tz
namespace Go.Abs.Tz
open Go Go.Abs Go.Proofs
set_option maxRecDepth 20000
set_option linter.unusedSimpArgs false
attribute [local simp ↓] yC yB jT jS yf uO zu zG jR uB vl vm yD yF yG yE jY j6 j9 jZ ga gc j7 j8 j0 jW jU jX jV vj vh vk vi yy yw yz yx yK yI yJ jj z8 ge zw zU yi vn vo yN yP yO yL yM yZ gh gq gv gp gt gu g7 g6 gC gE jB jy jM jP jz jH jL jK jJ jI jF ju jv jw jx jN jD jE jq jO jQ jA jC jG jr gI gD gY ya gF gS gW gV gU gT gO gz g0 gM gN gw g9 yb gG gK gQ gx yd g8 gy yc gL gH gJ gA gZ gi gk gj yT yW yS yU yV qq uG
attribute [local simp] faL fdL iaL ixL qS zm ze eqK eqL qX zE uA yQ vg y5 y7 y9 vc ve vf y6 vb y8 vd zM LV.cells LV.whole qq uQ gg gf stL zN ui uI qa.alloc yg ye yh yu yt yr yq yp yo yn ym yk yj qe uD
def qeq(n:Int):Bool:=decide (97<=n)&&decide (n<=122)
def qgG(n:Int):Bool:=decide (65<=n)&&decide (n<=90)
def qaq(n:Int):Bool:=decide (48<=n)&&decide (n<=57)
def qaI(n:Int):Bool:=qeq n||qgG n
theorem qmI(n:Int):qh 86 [U n] (.bool (qeq n)):=by
 refine qh.of c86 fun H hH=>⟨Nat.le_of_ble_eq_true rfl,?_⟩
 simp[b86,qed,qeP,qeQ]
 repeat' (first|apply And.intro|intro _)
 all_goals first|omega|(refine uE hH ?_;simp_all [qeq];done)|(refine uE hH ?_;simp_all [qeq];omega)
theorem qni(n:Int):qh 126 [U n] (.bool (qgG n)):=by
 refine qh.of c126 fun H hH=>⟨Nat.le_of_ble_eq_true rfl,?_⟩
 simp[b126,qed,qeP,qeQ]
 repeat' (first|apply And.intro|intro _)
 all_goals first|omega|(refine uE hH ?_;simp_all [qgG];done)|(refine uE hH ?_;simp_all [qgG];omega)
theorem qub(n:Int):qh 125 [U n] (.bool (qaq n)):=by
 refine qh.of c125 fun H hH=>⟨Nat.le_of_ble_eq_true rfl,?_⟩
 simp[b125,qed,qeP,qeQ]
 repeat' (first|apply And.intro|intro _)
 all_goals first|omega|(refine uE hH ?_;simp_all [qaq];done)|(refine uE hH ?_;simp_all [qaq];omega)
theorem qtz(n:Int):qh 173 [U n] (.bool (qaq n)):=by
 refine qh.of c173 fun H hH=>⟨Nat.le_of_ble_eq_true rfl,?_⟩
 simp[b173,qed,qeP,qeQ]
 repeat' (first|apply And.intro|intro _)
 all_goals first|omega|(refine uE hH ?_;simp_all [qaq];done)|(refine uE hH ?_;simp_all [qaq];omega)
theorem qtM(n:Int):qh 124 [U n] (.bool (qaI n)):=by
 refine qh.of c124 fun H hH=>⟨Nat.le_of_ble_eq_true rfl,?_⟩
 simp[b124]
 refine(qmI n).go fun m hm=>?_
 simp
 cases h:qeq n
 ·simp
  refine(qni n).go fun k hk=>?_
  simp
  exact vw hH (by simp[qaI,h]) (Nat.le_trans hm hk)
 ·simp
  exact vw hH (by simp[qaI,h]) hm
theorem qtu(n:Int):qh 172 [U n] (.bool (qaI n)):=by
 refine qh.of c172 fun H hH=>⟨Nat.le_of_ble_eq_true rfl,?_⟩
 by_cases h1:97<=n<;>by_cases h2:n<=122<;>by_cases h3:65<=n<;>by_cases h4:n<=90<;>first|omega|(simp[b172,h1,h2,h3,h4];refine uE hH ?_;simp[qaI,qeq,qgG,h1,h2,h3,h4])
theorem qhc(a b c:Int):qh 39 [.int a,.int b,.int c] (.bool (decide (b<=a)&&decide (a<=c))):=by
 refine qh.of c39 fun H hH=>⟨Nat.le_of_ble_eq_true rfl,?_⟩
 simp[b39,qed,qeP,qeQ]
 repeat' (first|apply And.intro|intro _)
 all_goals first|omega|(refine uE hH ?_;simp_all [];done)|(refine uE hH ?_;simp_all [];omega)
theorem qna(a:ByteArray):qh 97 [.str a] (.bool false):=by
 refine qh.of c97 fun H hH=>⟨Nat.le_of_ble_eq_true rfl,?_⟩
 simp[b97]
 exact uE hH (by simp[qK])
theorem qmZ(a:Int):qh 98 [.int a] (.bool false):=by
 refine qh.of c98 fun H hH=>⟨Nat.le_of_ble_eq_true rfl,?_⟩
 simp[b98]
 exact uE hH rfl
def zQ(a b:ByteArray):Int:=if z1 a b then -1 else if qK a b then 0 else 1
def zP(a b:Int):Int:=if a<b then -1 else if b<a then 1 else 0
theorem qjp(a b:ByteArray):qh 53 [.str a,.str b] (.int (zQ a b)):=by
 refine qh.of c53 fun H hH=>⟨Nat.le_of_ble_eq_true rfl,?_⟩
 simp[b53]
 refine(qna a).go fun n hn=>?_
 simp
 refine(qna b).go fun m hm=>?_
 have h1:H.next<=m:=Nat.le_trans hn hm
 cases h:z1 a b
 ·cases h':qK a b
  ·simp[h,h']
   exact vw hH (by simp[zQ,h,h']) h1
  ·simp[h,h']
   exact vw hH (by simp[zQ,h,h']) h1
 ·simp[h]
  exact vw hH (by simp[zQ,h]) h1
theorem qhi(a b:Int):qh 54 [.int a,.int b] (.int (zP a b)):=by
 refine qh.of c54 fun H hH=>⟨Nat.le_of_ble_eq_true rfl,?_⟩
 simp[b54]
 refine(qmZ a).go fun n hn=>?_
 simp
 refine(qmZ b).go fun m hm=>?_
 have h1:H.next<=m:=Nat.le_trans hn hm
 by_cases h:a<b
 ·simp[h]
  exact vw hH (by simp[zP,h]) h1
 ·by_cases h':b<a
  ·simp[h,h']
   exact vw hH (by simp[zP,h,h']) h1
  ·simp[h,h']
   exact vw hH (by simp[zP,h,h']) h1
theorem qfB(a b:Int):qh 118 [.int a,.int b] (.int (zP a b)):=by
 refine qh.of c118 fun H hH=>⟨Nat.le_of_ble_eq_true rfl,?_⟩
 simp[b118,qed,qeP,qeQ]
 repeat' (first|apply And.intro|intro _)
 all_goals first|omega|(refine uE hH ?_;simp_all [zP];done)|(refine uE hH ?_;simp_all [zP];omega)
theorem qjf(a b:ByteArray):qh 117 [.str a,.str b] (.int (zQ a b)):=by
 refine qh.of c117 fun H hH=>⟨Nat.le_of_ble_eq_true rfl,?_⟩
 cases h:z1 a b
 ·cases h':qK a b
  ·simp[qgL,h,h']
   exact uE hH (by simp[zQ,h,h'])
  ·simp[qgL,h,h']
   exact uE hH (by simp[zQ,h,h'])
 ·simp[qgL,h]
  exact uE hH (by simp[zQ,h])
def uZ(p:Int->Bool):List UInt8->Nat
 |[]=>0
 |c::r=>if p (c.toNat:Int) then uZ p r+1 else 0
def sL(s:ByteArray):List UInt8:=s.data.toList
theorem qlC{s:ByteArray}{i:Nat}(h:i<s.size):∃c,s.data[i]'h=c/\(sL s).drop i=c::(sL s).drop (i+1):=by
 have h':i<s.data.size:=h
 refine⟨s.data[i],rfl,?_⟩
 have:i<(sL s).length:=by simpa [sL] using h'
 rw[List.drop_eq_getElem_cons this]
 simp[sL]
theorem qta(s:ByteArray)(hs:s.size<2^40):qh 151 [.str s,.int 0] (.int (uZ (fun c=>qaI c||qaq c) (sL s))):=by
 refine qh.of c151 fun H hH=>⟨Nat.le_of_ble_eq_true rfl,?_⟩
 simp[b151]
 refine qB (σ:=NN) (fun q=>(.nd (.str s) (.nd (.int q.i) .nil .nil) .nil)) (fun q=>⟨H.objs,q.n⟩) (fun q=>s.size - q.i)
  (fun q=>H.next<=q.n/\q.i<=s.size/\q.i+uZ (fun c=>qaI c||qaq c) ((sL s).drop q.i)=uZ (fun c=>qaI c||qaq c) (sL s)) ⟨0,H.next⟩ ⟨Nat.le_refl _,Nat.zero_le _,by simp⟩ (by simp[FT.Le,Wk]) ⟨HWk.refl _,fun h=>h⟩ ?_
 rintro⟨i,n⟩ ⟨hn,hi,he⟩ hok
 simp only at hn hi he
 by_cases hlt:i<s.size
 ·obtain⟨c,hc,hd⟩:=qlC hlt
  rw[hd]at he
  simp[hlt,hc]
  refine(qtu _).go fun n1 h1=>?_
  cases hl:qaI (c.toNat:Int)
  ·simp[hlt,hc]
   refine(qtz _).go fun n2 h2=>?_
   cases hg:qaq (c.toNat:Int)
   ·simp
    refine vw hH ?_ (by omega)
    simp[uZ,hl,hg]at he
    simp[he]
   ·simp[qk (show i<2^62 by omega)]
    refine⟨⟨i+1,n2⟩,by dsimp only;omega,⟨by dsimp only;omega,by dsimp only;omega,?_⟩,by simp[FT.Le,Wk],HWk.refl _,fun h=>h⟩
    simp[uZ,hl,hg]at he
    dsimp only
    omega
  ·simp[qk (show i<2^62 by omega)]
   refine⟨⟨i+1,n1⟩,by dsimp only;omega,⟨by dsimp only;omega,by dsimp only;omega,?_⟩,by simp[FT.Le,Wk],HWk.refl _,fun h=>h⟩
   simp[uZ,hl]at he
   dsimp only
   omega
 ·obtain rfl:i=s.size:=by omega
  simp
  refine vw hH ?_ (by omega)
  rw[List.drop_eq_nil_of_le (by simp[sL])]at he
  simp[uZ]at he
  simp[he]
theorem t_run(s:ByteArray)(hs:s.size<2^40)(f:FuncId)(p:Int->Bool)(hp:∀n,qh f [U n] (.bool (p n))):qh 122 [.str s,.int 0,.fn (.func f) [] []] (.int (uZ p (sL s))):=by
 refine qh.of c122 fun H hH=>⟨Nat.le_of_ble_eq_true rfl,?_⟩
 simp[b122]
 refine qB (σ:=NN) (fun q=>(.nd (.str s) (.nd (.int q.i) .nil .nil) (.nd (.fn (.func f) [] []) .nil .nil))) (fun q=>⟨H.objs,q.n⟩) (fun q=>s.size - q.i)
  (fun q=>H.next<=q.n/\q.i<=s.size/\q.i+uZ p ((sL s).drop q.i)=uZ p (sL s)) ⟨0,H.next⟩ ⟨Nat.le_refl _,Nat.zero_le _,by simp⟩ (by simp[FT.Le,Wk]) ⟨HWk.refl _,fun h=>h⟩ ?_
 rintro⟨i,n⟩ ⟨hn,hi,he⟩ hok
 simp only at hn hi he
 by_cases hlt:i<s.size
 ·obtain⟨c,hc,hd⟩:=qlC hlt
  rw[hd]at he
  simp[hlt,hc]
  refine(hp _).go fun n1 h1=>?_
  cases hl:p (c.toNat:Int)
  ·simp[hlt,hc]
   refine vw hH ?_ (by omega)
   simp[uZ,hl]at he
   simp[he]
  ·simp[qk (show i<2^62 by omega)]
   refine⟨⟨i+1,n1⟩,by dsimp only;omega,⟨by dsimp only;omega,by dsimp only;omega,?_⟩,by simp[FT.Le,Wk],HWk.refl _,fun h=>h⟩
   simp[uZ,hl]at he
   dsimp only
   omega
 ·obtain rfl:i=s.size:=by omega
  simp
  refine vw hH ?_ (by omega)
  rw[List.drop_eq_nil_of_le (by simp[sL])]at he
  simp[uZ]at he
  simp[he]
def qaV(n:Int):Bool:=qaI n||qaq n
theorem qtJ(n:Int):qh 123 [U n] (.bool (qaV n)):=by
 refine qh.of c123 fun H hH=>⟨Nat.le_of_ble_eq_true rfl,?_⟩
 simp[b123]
 refine(qtM _).go fun m hm=>?_
 cases h:qaI n
 ·simp
  refine(qub _).go fun k hk=>?_
  simp
  exact vw hH (by simp[qaV,h]) (Nat.le_trans hm hk)
 ·simp
  exact vw hH (by simp[qaV,h]) hm
def qde(lo hi:Int):List UInt8->Bool
 |[]=>false
 |c::_=>decide (lo<=(c.toNat:Int))&&decide ((c.toNat:Int)<=hi)
def zS(lo hi:Int)(s:ByteArray):Bool:=decide (1<=s.size)&&(decide (s.size<=24)&&(!qK s ⟨⟨[105,102]⟩⟩&&(!qK s ⟨⟨[110,111,116]⟩⟩&&(qde lo hi (sL s)&&decide (uZ qaV (sL s)=s.size)))))
theorem qrE{s:ByteArray}(h:0<s.size):∃c r,s.data[0]'h=c/\sL s=c::r:=by
 obtain⟨c,h1,h2⟩:=qlC h
 exact⟨c,_,h1,by simpa using h2⟩
theorem qjm(s:ByteArray)(hs:s.size<2^40)(f:FuncId)(lo hi:Int)(hp:∀n,qh f [U n] (.bool (decide (lo<=n)&&decide (n<=hi)))):
  qh 85 [.str s,.fn (.func f) [] []] (.bool (zS lo hi s)):=by
 refine qh.of c85 fun H hH=>⟨Nat.le_of_ble_eq_true rfl,?_⟩
 by_cases h0:s.size=0
 ·simp[b85,qiv,h0]
  exact uE hH (by simp[zS,h0])
 have h0':0<s.size:=by omega
 by_cases h24:s.size<=24
 case neg=>
  have hi24:¬(s.size:Int)<=24:=by omega
  simp[b85,qiv,h0,h24,hi24]
  exact uE hH (by simp[zS,h24])
 obtain⟨c,r,hc,hr⟩:=qrE h0'
 have hi24:(s.size:Int)<=24:=by omega
 simp[b85,qiv,hi24,h24,hc,h0',h0]
 refine(hp _).go fun n1 h1=>?_
 have hf:qde lo hi (sL s)=(decide (lo<=(c.toNat:Int))&&decide ((c.toNat:Int)<=hi)):=by rw[hr];rfl
 rw[<-hf]
 cases hfb:qde lo hi (sL s)
 ·simp
  exact vw hH (by simp[zS,hfb]) h1
 simp
 refine(t_run s hs _ qaV qtJ).go fun n2 h2=>?_
 have hn:H.next<=n2:=Nat.le_trans h1 h2
 by_cases hr:uZ qaV (sL s)=s.size
 case neg=>
  have hri:((uZ qaV (sL s):Nat):Int)≠(s.size:Int):=by omega
  simp[hri]
  refine vw hH ?_ hn
  have:decide (uZ qaV (sL s)=s.size)=false:=by simpa using hr
  simp only[zS,this,Bool.and_false]
 cases h5:qK s ⟨⟨[105,102]⟩⟩
 ·cases h6:qK s ⟨⟨[110,111,116]⟩⟩
  ·simp[hr,h5,h6]
   exact vw hH (by simp[zS,hr,h5,h6,h24,hfb];omega) hn
  ·simp[hr,h5,h6]
   exact vw hH (by simp[zS,h6]) hn
 ·simp[hr,h5]
  exact vw hH (by simp[zS,h5]) hn
theorem qjl(s:ByteArray)(hs:s.size<2^40)(lo hi:Int):qh 112 [.str s,U lo,U hi] (.bool (zS lo hi s)):=by
 refine qh.of c112 fun H hH=>⟨Nat.le_of_ble_eq_true rfl,?_⟩
 by_cases h0:s.size=0
 ·simp[qdi,qiv,h0]
  exact uE hH (by simp[zS,h0])
 have h0':0<s.size:=by omega
 have h0i:¬(s.size:Int)<1:=by omega
 by_cases h24:s.size<=24
 case neg=>
  have hi24:(24:Int)<(s.size:Int):=by omega
  simp[qdi,h0,h0i,h24,hi24]
  exact uE hH (by simp[zS,h24])
 have hi24:¬(24:Int)<(s.size:Int):=by omega
 obtain⟨c,r,hc,hr⟩:=qrE h0'
 cases h5:qK s ⟨⟨[105,102]⟩⟩
 case true=>
  simp[qdi,h0,h0i,hi24,h5]
  exact uE hH (by simp[zS,h5])
 cases h6:qK s ⟨⟨[110,111,116]⟩⟩
 case true=>
  simp[qdi,h0,h0i,hi24,h5,h6]
  exact uE hH (by simp[zS,h6])
 by_cases hlo:lo<=(c.toNat:Int)
 case neg=>
  simp[qdi,h0,h0i,hi24,h5,h6,h0',hc,hlo]
  exact uE hH (by simp[zS,qde,hr,hlo])
 by_cases hhi:(c.toNat:Int)<=hi
 case neg=>
  simp[qdi,h0,h0i,hi24,h5,h6,h0',hc,hlo,hhi]
  exact uE hH (by simp[zS,qde,hr,hhi])
 simp[qdi,h0,h0i,hi24,h5,h6,h0',hc,hlo,hhi]
 refine(qta s hs).go fun n2 h2=>?_
 by_cases hrr:uZ qaV (sL s)=s.size
 case neg=>
  have hri:((uZ (fun c=>qaI c||qaq c) (sL s):Nat):Int)≠(s.size:Int):=fun h=>hrr (by exact_mod_cast h)
  simp[hri]
  exact vw hH (by simp[zS,hrr,hri]) h2
 have hri:((uZ (fun c=>qaI c||qaq c) (sL s):Nat):Int)=(s.size:Int):=by exact_mod_cast hrr
 simp[hri]
 exact vw hH (by simp[zS,hrr,h5,h6,h24,qde,hr,hlo,hhi];rw[<-hr];exact⟨by omega,hrr⟩) h2
def qn.ok(t:qn):Prop:=t.s.size<2^40
def qO(t:qn):Bool:=
 if t.kind=1 then qK t.s ⟨⟨[]⟩⟩&&(decide (-1000000000<=t.n)&&decide (t.n<=1000000000))
 else if t.kind=2 then decide (t.n=0)&&zS 97 122 t.s
 else if t.kind=3 then decide (t.n=0)&&zS 65 90 t.s
 else false
theorem qoB(n:Int):qh 86 [U n] (.bool (decide (97<=n)&&decide (n<=122))):=qmI n
theorem qvH(n:Int):qh 126 [U n] (.bool (decide (65<=n)&&decide (n<=90))):=qni n
theorem qjn(t:qn)(ht:t.ok):qh 87 [qW t] (.bool (qO t)):=by
 refine qh.of c87 fun H hH=>⟨Nat.le_of_ble_eq_true rfl,?_⟩
 by_cases h1:t.kind=1
 ·cases h2:qK t.s ⟨⟨[]⟩⟩
  ·simp[b87,h1,h2]
   exact qp hH (by simp[qO,h1,h2])
  ·simp[b87,h1,h2]
   refine(qhc _ _ _).go fun n hn=>?_
   simp
   exact qp hH (by simp[qO,h1,h2])
 by_cases h2:t.kind=2
 ·by_cases h3:t.n=0
  ·simp[b87,h2,h3]
   refine(qjm t.s ht _ _ _ qoB).go fun n hn=>?_
   simp
   exact qp hH (by simp[qO,h2,h3])
  ·simp[b87,h2,h3]
   exact qp hH (by simp[qO,h2,h3])
 by_cases h3:t.kind=3
 ·by_cases h4:t.n=0
  ·simp[b87,h3,h4]
   refine(qjm t.s ht _ _ _ qvH).go fun n hn=>?_
   simp
   exact qp hH (by simp[qO,h3,h4])
  ·simp[b87,h3,h4]
   exact qp hH (by simp[qO,h3,h4])
 simp[b87,h1,h2,h3]
 exact qp hH (by simp[qO,h1,h2,h3])
theorem qjh(t:qn)(ht:t.ok):qh 113 [qW t] (.bool (qO t)):=by
 refine qh.of c113 fun H hH=>⟨Nat.le_of_ble_eq_true rfl,?_⟩
 by_cases h1:t.kind=1
 ·by_cases h4:-1000000000<=t.n
  ·by_cases h5:t.n<=1000000000
   ·simp[qcG,h1,h4,h5]
    exact qp hH (by simp[qO,h1,h4,h5])
   ·simp[qcG,h1,h4,h5]
    exact qp hH (by simp[qO,h1,h4,h5])
  ·simp[qcG,h1,h4]
   exact qp hH (by simp[qO,h1,h4])
 by_cases h2:t.kind=2
 ·by_cases h3:t.n=0
  ·simp[qcG,h2,h3]
   refine(qjl t.s ht _ _).go fun n hn=>?_
   simp
   exact qp hH (by simp[qO,h2,h3])
  ·simp[qcG,h2,h3]
   exact qp hH (by simp[qO,h2,h3])
 by_cases h3:t.kind=3
 ·by_cases h4:t.n=0
  ·simp[qcG,h3,h4]
   refine(qjl t.s ht _ _).go fun n hn=>?_
   simp
   exact qp hH (by simp[qO,h3,h4])
  ·simp[qcG,h3,h4]
   exact qp hH (by simp[qO,h3,h4])
 simp[qcG,h1,h2,h3]
 exact qp hH (by simp[qO,h1,h2,h3])
def qd.ok(a:qd):Prop:=a.pred.size<2^40/\a.args.length<2^40/\∀t∈a.args,qn.ok t
def qI(a:qd):Bool:=zS 97 122 a.pred&&(decide (a.args.length<=3)&&a.args.all qO)
theorem qhg(a:qd)(ha:a.ok):qh 44 [qg a] (.bool (qI a)):=by
 refine qh.of c44 fun H hH=>⟨Nat.le_of_ble_eq_true rfl,?_⟩
 simp[b44]
 refine(qjm a.pred ha.1 _ _ _ qoB).go fun n hn=>?_
 cases h1:zS 97 122 a.pred
 ·simp
  exact qp hH (by simp[qI,h1])
 by_cases h2:(3:Int)<(a.args.length:Int)
 ·simp[h2]
  exact qp hH (by simp[qI,h1,show ¬a.args.length<=3 by omega])
 have h3:a.args.length<=3:=by omega
 simp[h2]
 obtain⟨A,hA⟩:∃A,a.args.all qO=A:=⟨_,rfl⟩
 refine qB (σ:=NN) (fun q=>(.nd (qg a) (.nd .bot .nil (.nd .bot (.nd .bot (.nd (.int a.args.length) .nil .nil) .nil) .nil)) (.nd (.bool false) (.nd .bot (.nd .bot (.nd (ql a.args) .nil .nil) .nil) .nil) (.nd .bot (.nd .bot (.nd (.int q.i) .nil .nil) .nil) .nil)))) (fun q=>⟨H.objs,q.n⟩) (fun q=>a.args.length - q.i)
  (fun q=>H.next<=q.n/\q.i<=a.args.length/\(a.args.drop q.i).all qO=A) ⟨0,n⟩ ⟨by dsimp only;omega,Nat.zero_le _,hA⟩ (by simp[FT.Le,Wk]) (zJ hH) ?_
 rintro⟨i,n⟩ ⟨hn,hi,he⟩ hok
 simp only at hn hi he
 by_cases hlt:i<a.args.length
 ·rw[qax qO hlt]at he
  simp[hlt]
  refine(qjn a.args[i] (ha.2.2 _ (yv hlt))).go fun n1 h1'=>?_
  cases ht:qO a.args[i]
  ·rw[ht,Bool.false_and]at he
   simp
   exact qp hH (by simp[qI,h1,hA,<-he])
  ·rw[ht,Bool.true_and]at he
   simp[qk (show i<2^62 by omega)]
   exact⟨⟨i+1,n1⟩,by dsimp only;omega,⟨by dsimp only;omega,by dsimp only;omega,he⟩,by simp[FT.Le,Wk],zJ hH⟩
 ·obtain rfl:i=a.args.length:=by omega
  rw[List.drop_eq_nil_of_le (Nat.le_refl _),List.all_nil]at he
  simp
  exact qp hH (by simp[qI,h1,h3,hA,<-he])
theorem qhe(a:qd)(ha:a.ok):qh 72 [qg a] (.bool (qI a)):=by
 refine qh.of c72 fun H hH=>⟨Nat.le_of_ble_eq_true rfl,?_⟩
 simp[b72]
 refine(qjl a.pred ha.1 _ _).go fun n hn=>?_
 cases h1:zS 97 122 a.pred
 ·simp
  exact qp hH (by simp[qI,h1])
 by_cases h2:(3:Int)<(a.args.length:Int)
 ·simp[h2]
  exact qp hH (by simp[qI,h1,show ¬a.args.length<=3 by omega])
 have h3:a.args.length<=3:=by omega
 simp[h2]
 obtain⟨A,hA⟩:∃A,a.args.all qO=A:=⟨_,rfl⟩
 obtain⟨H1,hd1⟩:∃H1:qa,H1=⟨(H.next,.cells [.str a.pred,ql a.args])::H.objs,H.next+1⟩:=⟨_,rfl⟩
 have hH1:H1.Ok:=by rw[hd1];exact⟨Nat.lt_succ_self _,hH⟩
 refine qB (σ:=NN) (fun q=>(.nd (qg a) (.nd (.ptr H.next 0) .nil .nil) (.nd (.bool false) (.nd (.int q.i) .nil .nil) .nil))) (fun q=>⟨(H.next,.cells [.str a.pred,ql a.args])::H.objs,q.n⟩) (fun q=>a.args.length - q.i)
  (fun q=>H.next+1<=q.n/\q.i<=a.args.length/\(a.args.drop q.i).all qO=A) ⟨0,n⟩ ⟨by dsimp only;omega,Nat.zero_le _,hA⟩ (by simp[FT.Le,Wk]) ⟨HWk.refl _,fun h=>h⟩ ?_
 rintro⟨i,n⟩ ⟨hn,hi,he⟩ hok
 simp only at hn hi he
 by_cases hlt:i<a.args.length
 ·rw[qax qO hlt]at he
  simp[hlt]
  refine(qjh a.args[i] (ha.2.2 _ (yv hlt))).go fun n1 h1'=>?_
  cases ht:qO a.args[i]
  ·rw[ht,Bool.false_and]at he
   simp
   exact qp hH (by simp[qI,h1,hA,<-he])
  ·rw[ht,Bool.true_and]at he
   simp[qk (show i<2^62 by omega)]
   exact⟨⟨i+1,n1⟩,by dsimp only;omega,⟨by dsimp only;omega,by dsimp only;omega,he⟩,by simp[FT.Le,Wk],HWk.refl _,fun h=>h⟩
 ·obtain rfl:i=a.args.length:=by omega
  rw[List.drop_eq_nil_of_le (Nat.le_refl _),List.all_nil]at he
  simp
  exact qp hH (by simp[qI,h1,h3,hA,<-he])
def ux(t:qn):Bool:=!decide (t.kind=3)
theorem qmR(a:qd)(ha:a.ok):qh 73 [qg a] (.bool (a.args.all ux)):=by
 refine qh.of c73 fun H hH=>⟨Nat.le_of_ble_eq_true rfl,?_⟩
 simp[b73]
 have hl:=ha.2.1
 obtain⟨A,hA⟩:∃A,a.args.all ux=A:=⟨_,rfl⟩
 rw[hA]
 refine qB (σ:=NN) (fun q=>(.nd (qg a) (.nd (.ptr H.next 0) (.nd (.int q.i) .nil .nil) .nil) (.nd (.bool false) .nil .nil))) (fun q=>⟨(H.next,.cells [.str a.pred,ql a.args])::H.objs,q.n⟩) (fun q=>a.args.length - q.i)
  (fun q=>H.next+1<=q.n/\q.i<=a.args.length/\(a.args.drop q.i).all ux=A) ⟨0,H.next+1⟩ ⟨by dsimp only;omega,Nat.zero_le _,hA⟩ (by simp[FT.Le,Wk]) ⟨HWk.refl _,fun h=>h⟩ ?_
 rintro⟨i,n⟩ ⟨hn,hi,he⟩ hok
 simp only at hn hi he
 by_cases hlt:i<a.args.length
 ·rw[qax ux hlt]at he
  by_cases hk:a.args[i].kind=3
  ·have ht:ux a.args[i]=false:=by simp[ux,hk]
   rw[ht,Bool.false_and]at he
   simp[hlt,hk]
   exact qp hH (by simp[<-he])
  ·have ht:ux a.args[i]=true:=by simp[ux,hk]
   rw[ht,Bool.true_and]at he
   simp[hlt,hk,qk (show i<2^62 by omega)]
   exact⟨⟨i+1,n⟩,by dsimp only;omega,⟨by dsimp only;omega,by dsimp only;omega,he⟩,by simp[FT.Le,Wk],HWk.refl _,fun h=>h⟩
 ·obtain rfl:i=a.args.length:=by omega
  rw[List.drop_eq_nil_of_le (Nat.le_refl _),List.all_nil]at he
  simp
  exact qp hH (by simp[<-he])
def qn.small(t:qn):Bool:=decide (t.s.size<=40)
def qd.small(a:qd):Bool:=decide (a.pred.size<=40)&&(decide (a.args.length<=6)&&a.args.all qn.small)
theorem qfA(a:qd):qh 7 [qg a] (.bool a.small):=by
 refine qh.of c7 fun H hH=>⟨Nat.le_of_ble_eq_true rfl,?_⟩
 by_cases h1:(40:Int)<(a.pred.size:Int)
 ·simp[b7,h1]
  exact qp hH (by simp[qd.small,show ¬a.pred.size<=40 by omega])
 have h1':a.pred.size<=40:=by omega
 by_cases h2:(6:Int)<(a.args.length:Int)
 ·simp[b7,h1,h2]
  exact qp hH (by simp[qd.small,show ¬a.args.length<=6 by omega])
 have h2':a.args.length<=6:=by omega
 simp[b7,h1,h2]
 obtain⟨A,hA⟩:∃A,a.args.all qn.small=A:=⟨_,rfl⟩
 refine qB (σ:=NN) (fun q=>(.nd (qg a) (.nd (.ptr H.next 0) (.nd (.int q.i) .nil .nil) .nil) (.nd (.bool false) .nil .nil))) (fun q=>⟨(H.next,.cells [.str a.pred,ql a.args])::H.objs,q.n⟩) (fun q=>a.args.length - q.i)
  (fun q=>H.next+1<=q.n/\q.i<=a.args.length/\(a.args.drop q.i).all qn.small=A) ⟨0,H.next+1⟩ ⟨by dsimp only;omega,Nat.zero_le _,hA⟩ (by simp[FT.Le,Wk]) ⟨HWk.refl _,fun h=>h⟩ ?_
 rintro⟨i,n⟩ ⟨hn,hi,he⟩ hok
 simp only at hn hi he
 by_cases hlt:i<a.args.length
 ·rw[qax qn.small hlt]at he
  by_cases hk:(40:Int)<(a.args[i].s.size:Int)
  ·have ht:qn.small a.args[i]=false:=by simp[qn.small];omega
   rw[ht,Bool.false_and]at he
   simp[hlt,hk]
   exact qp hH (by simp[qd.small,hA,<-he])
  ·have ht:qn.small a.args[i]=true:=by simp[qn.small];omega
   rw[ht,Bool.true_and]at he
   simp[hlt,hk,qk (show i<2^62 by omega)]
   exact⟨⟨i+1,n⟩,by dsimp only;omega,⟨by dsimp only;omega,by dsimp only;omega,he⟩,by simp[FT.Le,Wk],HWk.refl _,fun h=>h⟩
 ·obtain rfl:i=a.args.length:=by omega
  rw[List.drop_eq_nil_of_le (Nat.le_refl _),List.all_nil]at he
  simp
  exact qp hH (by simp[qd.small,h1',h2',hA,<-he])
theorem qd.small_ok{a:qd}(h:a.small=true):a.ok:=by
 simp[qd.small,qn.small]at h
 exact⟨by omega,by omega,fun t ht=>by have:=h.2.2 t ht;unfold qn.ok;omega⟩
def or3(a b c:Int):Int:=if a≠0 then a else if b≠0 then b else c
theorem t_or(a b c:Int):qh 52 [.sl [.int a,.int b,.int c] .full] (.int (or3 a b c)):=by
 refine qh.of c52 fun H hH=>⟨Nat.le_of_ble_eq_true rfl,?_⟩
 simp[b52]
 refine qaJ ?_
 by_cases ha:a=0
 case neg=>
  simp[ha]
  exact qp hH (by simp[or3,ha])
 simp[ha,uM]
 refine qaJ ?_
 by_cases hb:b=0
 case neg=>
  simp[hb]
  exact qp hH (by simp[or3,ha,hb])
 simp[hb,uM]
 refine qaJ ?_
 by_cases hc:c=0
 case neg=>
  simp[hc]
  exact qp hH (by simp[or3,ha,hb,hc])
 simp[hc,uM]
 refine qaJ ?_
 simp
 exact qp hH (by simp[or3,ha,hb,hc])
def uV(x y:qn):Int:=or3 (zP x.kind y.kind) (zP x.n y.n) (zQ x.s y.s)
theorem qug(x y:qn):qh 56 [qW x,qW y] (.int (uV x y)):=by
 refine qh.of c56 fun H hH=>⟨Nat.le_of_ble_eq_true rfl,?_⟩
 simp(disch:=omega)[b56]
 refine(qhi _ _).go fun n hn=>?_
 simp(disch:=omega)
 refine(qhi _ _).go fun n1 hn1=>?_
 simp(disch:=omega)
 refine(qjp _ _).go fun n2 hn2=>?_
 simp(disch:=omega)
 refine(t_or _ _ _).go fun n3 hn3=>?_
 simp(disch:=omega)
 exact qp hH (by simp[uV])
def zO:List qn->List qn->Int
 |[],[]=>0
 |[],_::_=>-1
 |_::_,[]=>1
 |x::xs,y::ys=>if uV x y≠0 then uV x y else zO xs ys
theorem quf(x y:List qn)(hx:x.length<2^40)(hy:y.length<2^40):qh 55 [ql x,ql y,.fn (.func 56) [] []] (.int (zO x y)):=by
 refine qh.of c55 fun H hH=>⟨Nat.le_of_ble_eq_true rfl,?_⟩
 simp(disch:=omega)[b55]
 obtain⟨A,hA⟩:∃A,zO x y=A:=⟨_,rfl⟩
 rw[hA]
 refine qB (σ:=NN) (fun q=>(.nd (ql x) (.nd (ql y) (.nd .bot .nil (.nd (ql x) .nil .nil)) (.nd .bot .nil (.nd (.int q.i) .nil .nil))) (.nd (.fn (.func 56) [] []) (.nd .bot .nil (.nd (.int x.length) .nil .nil)) .nil))) (fun q=>⟨H.objs,q.n⟩) (fun q=>x.length - q.i)
  (fun q=>H.next<=q.n/\q.i<=x.length/\q.i<=y.length/\zO (x.drop q.i) (y.drop q.i)=A) ⟨0,H.next⟩ ⟨Nat.le_refl _,Nat.zero_le _,Nat.zero_le _,hA⟩ (by simp[FT.Le,Wk]) (zJ hH) ?_
 rintro⟨i,n⟩ ⟨hn,hi,hj,he⟩ hok
 simp only at hn hi hj he
 by_cases hlt:i<x.length
 ·by_cases hly:i<y.length
  ·rw[List.drop_eq_getElem_cons hlt,List.drop_eq_getElem_cons hly]at he
   have hly':¬(y.length:Int)<=(i:Int):=by omega
   simp(disch:=omega)[hlt,hly,hly']
   refine(qug _ _).go fun n1 h1=>?_
   by_cases hc:uV x[i] y[i]=0
   ·simp[zO,hc]at he
    simp(disch:=omega)[hc,qk (show i<2^62 by omega)]
    exact⟨⟨i+1,n1⟩,by dsimp only;omega,⟨by dsimp only;omega,by dsimp only;omega,by dsimp only;omega,he⟩,by simp[FT.Le,Wk],zJ hH⟩
   ·simp[zO,hc]at he
    simp(disch:=omega)[hc]
    exact qp hH (by simp[<-he])
  ·have hly':(y.length:Int)<=(i:Int):=by omega
   obtain rfl:i=y.length:=by omega
   rw[List.drop_eq_getElem_cons hlt,List.drop_eq_nil_of_le (Nat.le_refl _)]at he
   simp(disch:=omega)[hlt,hly']
   simp[zO]at he
   exact qp hH (by simp[<-he])
 ·obtain rfl:i=x.length:=by omega
  rw[List.drop_eq_nil_of_le (Nat.le_refl _)]at he
  by_cases hly:x.length<y.length
  ·rw[List.drop_eq_getElem_cons hly]at he
   simp(disch:=omega)[hly]
   simp[zO]at he
   exact qp hH (by simp[<-he])
  ·rw[List.drop_eq_nil_of_le (by omega)]at he
   simp(disch:=omega)[hly]
   simp[zO]at he
   exact qp hH (by simp[<-he])
def zk(a b:qd):Int:=or3 (zQ a.pred b.pred) (zP a.args.length b.args.length) (zO a.args b.args)
theorem qnn(a b:qd)(ha:a.ok)(hb:b.ok):qh 18 [qg a,qg b] (.int (zk a b)):=by
 refine qh.of c18 fun H hH=>⟨Nat.le_of_ble_eq_true rfl,?_⟩
 simp(disch:=omega)[b18]
 refine(qjp _ _).go fun n hn=>?_
 simp(disch:=omega)
 refine(qhi _ _).go fun n1 hn1=>?_
 simp(disch:=omega)
 refine(quf _ _ ha.2.1 hb.2.1).go fun n2 hn2=>?_
 simp(disch:=omega)
 refine(t_or _ _ _).go fun n3 hn3=>?_
 simp(disch:=omega)
 exact qp hH (by simp[zk])
structure NNC where
 i:Nat
 n:Nat
 c:Int
theorem qjj(a b:qd)(ha:a.ok)(hb:b.ok):qh 76 [qg a,qg b] (.int (zk a b)):=by
 have hla:=ha.2.1
 have hlb:=hb.2.1
 refine qh.of c76 fun H hH=>⟨Nat.le_of_ble_eq_true rfl,?_⟩
 have hH2:qa.Ok ⟨(H.next+1,.cells [.str b.pred,ql b.args])::(H.next,.cells [.str a.pred,ql a.args])::H.objs,H.next+2⟩:=⟨Nat.lt_succ_self _,Nat.lt_succ_self _,hH⟩
 simp(disch:=omega)[b76]
 refine(qjf _ _).go fun n hn=>?_
 by_cases h1:zQ a.pred b.pred=0
 ·simp(disch:=omega)[h1]
  refine(qfB _ _).go fun n1 hn1=>?_
  simp(disch:=omega)
  have hR:zk a b=if zP a.args.length b.args.length≠0 then zP a.args.length b.args.length else zO a.args b.args:=by simp[zk,or3,h1]
  refine qB (σ:=NNC) (fun q=>(.nd .bot (.nd .bot (.nd (.ptr (H.next+1) 0) .nil .nil) (.nd (.int q.c) .nil .nil)) (.nd (.ptr H.next 0) .nil (.nd (.int q.i) .nil .nil)))) (fun q=>⟨(H.next+1,.cells [.str b.pred,ql b.args])::(H.next,.cells [.str a.pred,ql a.args])::H.objs,q.n⟩) (fun q=>a.args.length - q.i)
   (fun q=>H.next+2<=q.n/\q.i<=a.args.length/\((q.c≠0/\q.c=zk a b)\/(q.c=0/\a.args.length=b.args.length/\zO (a.args.drop q.i) (b.args.drop q.i)=zk a b))) ⟨0,n1,zP a.args.length b.args.length⟩ ⟨by dsimp only;omega,Nat.zero_le _,?_⟩ (by simp[FT.Le,Wk]) ⟨HWk.refl _,fun h=>h⟩ ?_
  ·dsimp only
   by_cases h2:zP a.args.length b.args.length=0
   ·rw[h2]at hR
    refine .inr ⟨h2,?_,by rw[hR];simp⟩
    unfold zP at h2
    split at h2
    ·cases h2
    ·split at h2
     ·cases h2
     ·omega
   ·exact .inl ⟨h2,by rw[hR,if_pos h2]⟩
  rintro⟨i,n,c⟩ ⟨hn,hi,hI⟩ hok
  simp only at hn hi hI
  rcases hI with⟨hc,hI⟩|⟨rfl,hlen,hI⟩
  ·by_cases hlt:i<a.args.length
   ·simp(disch:=omega)[hlt,hc]
    exact qp hH (by simp[hI])
   ·simp(disch:=omega)[hlt]
    exact qp hH (by simp[hI])
  by_cases hlt:i<a.args.length
  case neg=>
   simp(disch:=omega)[hlt]
   rw[List.drop_eq_nil_of_le (by omega),List.drop_eq_nil_of_le (by omega)]at hI
   exact qp hH (by simp[<-hI,zO])
  have hly:i<b.args.length:=by omega
  rw[List.drop_eq_getElem_cons hlt,List.drop_eq_getElem_cons hly]at hI
  have hR:zk a b=if uV a.args[i] b.args[i]≠0 then uV a.args[i] b.args[i] else zO (a.args.drop (i+1)) (b.args.drop (i+1)):=hI.symm
  simp(disch:=omega)[hlt,hly]
  refine(qfB _ _).go fun n1 hn1=>?_
  by_cases hk:zP a.args[i].kind b.args[i].kind=0
  case neg=>
   simp(disch:=omega)[hk,qk (show i<2^62 by omega)]
   have hT:uV a.args[i] b.args[i]=zP a.args[i].kind b.args[i].kind:=by simp[uV,or3,hk]
   rw[hT,if_pos hk]at hR
   exact⟨⟨i+1,n1,zP a.args[i].kind b.args[i].kind⟩,by dsimp only;omega,⟨by dsimp only;omega,by dsimp only;omega,.inl ⟨hk,hR.symm⟩⟩,by simp[FT.Le,Wk],zJ hH2⟩
  simp(disch:=omega)[hk]
  refine(qfB _ _).go fun n2 hn2=>?_
  by_cases hk2:zP a.args[i].n b.args[i].n=0
  case neg=>
   simp(disch:=omega)[hk2,qk (show i<2^62 by omega)]
   have hT:uV a.args[i] b.args[i]=zP a.args[i].n b.args[i].n:=by simp[uV,or3,hk,hk2]
   rw[hT,if_pos hk2]at hR
   exact⟨⟨i+1,n2,zP a.args[i].n b.args[i].n⟩,by dsimp only;omega,⟨by dsimp only;omega,by dsimp only;omega,.inl ⟨hk2,hR.symm⟩⟩,by simp[FT.Le,Wk],zJ hH2⟩
  simp(disch:=omega)[hk2]
  refine(qjf _ _).go fun n3 hn3=>?_
  simp(disch:=omega)[qk (show i<2^62 by omega)]
  have hT:uV a.args[i] b.args[i]=zQ a.args[i].s b.args[i].s:=by simp[uV,or3,hk,hk2]
  rw[hT]at hR
  by_cases hk3:zQ a.args[i].s b.args[i].s=0
  ·exact⟨⟨i+1,n3,zQ a.args[i].s b.args[i].s⟩,by dsimp only;omega,⟨by dsimp only;omega,by dsimp only;omega,.inr ⟨hk3,hlen,by rw[hR,hk3];simp⟩⟩,by simp[FT.Le,Wk],zJ hH2⟩
  ·rw[if_pos hk3]at hR
   exact⟨⟨i+1,n3,zQ a.args[i].s b.args[i].s⟩,by dsimp only;omega,⟨by dsimp only;omega,by dsimp only;omega,.inl ⟨hk3,hR.symm⟩⟩,by simp[FT.Le,Wk],zJ hH2⟩
 ·simp(disch:=omega)[h1]
  have hR:zk a b=zQ a.pred b.pred:=by simp[zk,or3,h1]
  refine qB (σ:=NNC) (fun q=>(.nd .bot (.nd .bot (.nd (.ptr (H.next+1) 0) .nil .nil) (.nd (.int q.c) .nil .nil)) (.nd (.ptr H.next 0) .nil (.nd (.int q.i) .nil .nil)))) (fun q=>⟨(H.next+1,.cells [.str b.pred,ql b.args])::(H.next,.cells [.str a.pred,ql a.args])::H.objs,q.n⟩) (fun q=>a.args.length - q.i)
   (fun q=>H.next+2<=q.n/\q.i<=a.args.length/\((q.c≠0/\q.c=zk a b)\/(q.c=0/\a.args.length=b.args.length/\zO (a.args.drop q.i) (b.args.drop q.i)=zk a b))) ⟨0,n,zQ a.pred b.pred⟩ ⟨by dsimp only;omega,Nat.zero_le _,.inl ⟨h1,hR.symm⟩⟩ (by simp[FT.Le,Wk]) ⟨HWk.refl _,fun h=>h⟩ ?_
  rintro⟨i,n,c⟩ ⟨hn,hi,hI⟩ hok
  simp only at hn hi hI
  rcases hI with⟨hc,hI⟩|⟨rfl,hlen,hI⟩
  ·by_cases hlt:i<a.args.length
   ·simp(disch:=omega)[hlt,hc]
    exact qp hH (by simp[hI])
   ·simp(disch:=omega)[hlt]
    exact qp hH (by simp[hI])
  by_cases hlt:i<a.args.length
  case neg=>
   simp(disch:=omega)[hlt]
   rw[List.drop_eq_nil_of_le (by omega),List.drop_eq_nil_of_le (by omega)]at hI
   exact qp hH (by simp[<-hI,zO])
  have hly:i<b.args.length:=by omega
  rw[List.drop_eq_getElem_cons hlt,List.drop_eq_getElem_cons hly]at hI
  have hR:zk a b=if uV a.args[i] b.args[i]≠0 then uV a.args[i] b.args[i] else zO (a.args.drop (i+1)) (b.args.drop (i+1)):=hI.symm
  simp(disch:=omega)[hlt,hly]
  refine(qfB _ _).go fun n1 hn1=>?_
  by_cases hk:zP a.args[i].kind b.args[i].kind=0
  case neg=>
   simp(disch:=omega)[hk,qk (show i<2^62 by omega)]
   have hT:uV a.args[i] b.args[i]=zP a.args[i].kind b.args[i].kind:=by simp[uV,or3,hk]
   rw[hT,if_pos hk]at hR
   exact⟨⟨i+1,n1,zP a.args[i].kind b.args[i].kind⟩,by dsimp only;omega,⟨by dsimp only;omega,by dsimp only;omega,.inl ⟨hk,hR.symm⟩⟩,by simp[FT.Le,Wk],zJ hH2⟩
  simp(disch:=omega)[hk]
  refine(qfB _ _).go fun n2 hn2=>?_
  by_cases hk2:zP a.args[i].n b.args[i].n=0
  case neg=>
   simp(disch:=omega)[hk2,qk (show i<2^62 by omega)]
   have hT:uV a.args[i] b.args[i]=zP a.args[i].n b.args[i].n:=by simp[uV,or3,hk,hk2]
   rw[hT,if_pos hk2]at hR
   exact⟨⟨i+1,n2,zP a.args[i].n b.args[i].n⟩,by dsimp only;omega,⟨by dsimp only;omega,by dsimp only;omega,.inl ⟨hk2,hR.symm⟩⟩,by simp[FT.Le,Wk],zJ hH2⟩
  simp(disch:=omega)[hk2]
  refine(qjf _ _).go fun n3 hn3=>?_
  simp(disch:=omega)[qk (show i<2^62 by omega)]
  have hT:uV a.args[i] b.args[i]=zQ a.args[i].s b.args[i].s:=by simp[uV,or3,hk,hk2]
  rw[hT]at hR
  by_cases hk3:zQ a.args[i].s b.args[i].s=0
  ·exact⟨⟨i+1,n3,zQ a.args[i].s b.args[i].s⟩,by dsimp only;omega,⟨by dsimp only;omega,by dsimp only;omega,.inr ⟨hk3,hlen,by rw[hR,hk3];simp⟩⟩,by simp[FT.Le,Wk],zJ hH2⟩
  ·rw[if_pos hk3]at hR
   exact⟨⟨i+1,n3,zQ a.args[i].s b.args[i].s⟩,by dsimp only;omega,⟨by dsimp only;omega,by dsimp only;omega,.inl ⟨hk3,hR.symm⟩⟩,by simp[FT.Le,Wk],zJ hH2⟩
def qcz(p:qn->Bool):List qn->Nat->Int
 |[],_=>-1
 |t::r,i=>if p t then (i:Int) else qcz p r (i+1)
theorem qpy(p:qn->Bool):∀(l:List qn)(i:Nat),decide (0<=qcz p l i)=l.any p
 |[],i=>rfl
 |t::r,i=>by
  simp only[qcz,List.any_cons]
  by_cases h:p t=true
  ·simp[h]
  ·simp only[h,if_false,Bool.false_eq_true]
   rw[qpy p r (i+1)];simp
theorem qtT(l:List qn)(hl:l.length<2^40)(f:FuncId)(p:qn->Bool)(hp:∀t,qh f [qW t] (.bool (p t))):
  qh 127 [ql l,.fn (.func f) [] []] (.int (qcz p l 0)):=by
 refine qh.of c127 fun H hH=>⟨Nat.le_of_ble_eq_true rfl,?_⟩
 simp(disch:=omega)[b127]
 obtain⟨A,hA⟩:∃A,qcz p l 0=A:=⟨_,rfl⟩
 rw[hA]
 refine qB (σ:=NN) (fun q=>(.nd (ql l) (.nd (.fn (.func f) [] []) (.nd .bot (.nd (.int l.length) .nil .nil) .nil) .nil) (.nd .bot (.nd .bot (.nd (.int q.i) .nil .nil) .nil) (.nd (ql l) .nil .nil)))) (fun q=>⟨H.objs,q.n⟩) (fun q=>l.length - q.i)
  (fun q=>H.next<=q.n/\q.i<=l.length/\qcz p (l.drop q.i) q.i=A) ⟨0,H.next⟩ ⟨Nat.le_refl _,Nat.zero_le _,hA⟩ (by simp[FT.Le,Wk]) (zJ hH) ?_
 rintro⟨i,n⟩ ⟨hn,hi,he⟩ hok
 simp only at hn hi he
 by_cases hlt:i<l.length
 ·rw[List.drop_eq_getElem_cons hlt]at he
  simp(disch:=omega)[hlt]
  refine(hp _).go fun n1 h1=>?_
  cases ht:p l[i]
  ·simp[qcz,ht]at he
   simp(disch:=omega)[qk (show i<2^62 by omega)]
   exact⟨⟨i+1,n1⟩,by dsimp only;omega,⟨by dsimp only;omega,by dsimp only;omega,he⟩,by simp[FT.Le,Wk],zJ hH⟩
  ·simp[qcz,ht]at he
   simp(disch:=omega)
   exact qp hH (by simp[<-he])
 ·obtain rfl:i=l.length:=by omega
  rw[List.drop_eq_nil_of_le (Nat.le_refl _)]at he
  simp(disch:=omega)
  simp[qcz]at he
  exact qp hH (by simp[<-he])
theorem que(l:List qn)(hl:l.length<2^40)(f:FuncId)(p:qn->Bool)(hp:∀t,qh f [qW t] (.bool (p t))):
  qh 88 [ql l,.fn (.func f) [] []] (.bool (l.any p)):=by
 refine qh.of c88 fun H hH=>⟨Nat.le_of_ble_eq_true rfl,?_⟩
 simp(disch:=omega)[b88]
 refine(qtT l hl f p hp).go fun n hn=>?_
 simp(disch:=omega)
 exact qcW hH (by rw[qpy]) (by first|exact qi.refl' _|(repeat (first|exact qi.refl (by first|omega|(dsimp only;omega))|refine qi.cons' hH (by first|omega|(dsimp only;omega)) (by first|omega|(dsimp only;omega)) ?_)))
theorem qtW(t:qn):qh 89 [qW t] (.bool (decide (t.kind=3))):=by
 refine qh.of c89 fun H hH=>⟨Nat.le_of_ble_eq_true rfl,?_⟩
 simp(disch:=omega)[b89]
 exact qp hH (by simp[])
theorem qnc(a:qd)(ha:a.ok):qh 45 [qg a] (.bool (a.args.all ux)):=by
 refine qh.of c45 fun H hH=>⟨Nat.le_of_ble_eq_true rfl,?_⟩
 simp(disch:=omega)[b45]
 refine(que a.args ha.2.1 _ _ qtW).go fun n hn=>?_
 simp(disch:=omega)
 refine qcW hH ?_ (by first|exact qi.refl' _|(repeat (first|exact qi.refl (by first|omega|(dsimp only;omega))|refine qi.cons' hH (by first|omega|(dsimp only;omega)) (by first|omega|(dsimp only;omega)) ?_)))
 congr 2
 rw[List.not_any_eq_all_not];rfl
theorem qbR(a:qd):qh 67 [qg a] (.agg [.str a.pred,.int a.args.length]):=by
 refine qh.of c67 fun H hH=>⟨Nat.le_of_ble_eq_true rfl,?_⟩
 simp(disch:=omega)[b67]
 exact qp hH (by simp[])
abbrev qm:=List (ByteArray×qn)
def qY(k:ByteArray):qm->Option qn
 |[]=>none
 |(j,t)::r=>if qK k j then some t else qY k r
def uF(g:qm)(t:qn):qn:=if t.kind=3 then (qY t.s g).getD t else t
abbrev wg(e:ByteArray×qn):LV:=.agg [.str e.1,.int e.2.kind,.int e.2.n,.str e.2.s]
theorem qmX(g:qm)(own:Own)(hg:g.length<2^40)(t:qn):qh 120 [.sl (g.map wg) own,qW t] (qW (uF g t)):=by
 refine qh.of c120 fun H hH=>⟨Nat.le_of_ble_eq_true rfl,?_⟩
 simp(disch:=omega)[b120]
 obtain⟨A,hA⟩:∃A,uF g t=A:=⟨_,rfl⟩
 rw[hA]
 refine qB (σ:=NN) (fun q=>(.nd (.sl (g.map wg) own) (.nd .bot (.nd (.ptr H.next 0) .nil .nil) (.nd (.int q.i) .nil .nil)) (.nd .bot (.nd (.ptr (H.next+1) 0) .nil .nil) .nil))) (fun q=>⟨(H.next+1,.cells [Z 0,Z 0,S []])::(H.next,.cells (ui t))::H.objs,q.n⟩) (fun q=>g.length - q.i)
  (fun q=>H.next+2<=q.n/\q.i<=g.length/\uF (g.drop q.i) t=A) ⟨0,H.next+2⟩ ⟨Nat.le_refl _,Nat.zero_le _,hA⟩ (by simp[FT.Le,Wk]) ⟨HWk.refl _,fun h=>h⟩ ?_
 rintro⟨i,n⟩ ⟨hn,hi,he⟩ hok
 simp only at hn hi he
 by_cases hlt:i<g.length
 ·rw[List.drop_eq_getElem_cons hlt]at he
  by_cases hk:t.kind=3
  ·cases hs:qK g[i].1 t.s
   ·have hs':qK t.s g[i].1=false:=by rw[<-hs];exact Bool.beq_comm
    simp(disch:=omega)[hlt,hk,hs,qk (show i<2^62 by omega)]
    refine⟨⟨i+1,n⟩,by dsimp only;omega,⟨by dsimp only;omega,by dsimp only;omega,?_⟩,by simp[FT.Le,Wk],HWk.refl _,fun h=>h⟩
    simpa [uF,hk,qY,hs'] using he
   ·have hs':qK t.s g[i].1=true:=by rw[<-hs];exact Bool.beq_comm
    simp[uF,hk,qY,hs']at he
    simp(disch:=omega)[hlt,hk,hs]
    exact qp hH (by simp[<-he])
  ·simp(disch:=omega)[hlt,hk,qk (show i<2^62 by omega)]
   refine⟨⟨i+1,n⟩,by dsimp only;omega,⟨by dsimp only;omega,by dsimp only;omega,?_⟩,by simp[FT.Le,Wk],HWk.refl _,fun h=>h⟩
   simpa [uF,hk] using he
 ·obtain rfl:i=g.length:=by omega
  rw[List.drop_eq_nil_of_le (Nat.le_refl _)]at he
  have he':t=A:=by rw[<-he];simp[uF,qY]
  simp(disch:=omega)
  exact qp hH (by simp[he'])
def eqT(x y:qn):Bool:=decide (x.kind=y.kind)&&(decide (x.n=y.n)&&qK x.s y.s)
abbrev qG(E:qm):List (LV×LV):=E.map fun e=>(.str e.1,qW e.2)
def qaB(k:ByteArray)(v:qn):qm->qm
 |[]=>[(k,v)]
 |(j,u)::r=>if qK k j then (j,v)::r else (j,u)::qaB k v r
theorem qqj(k:ByteArray):∀E:qm,yH (.pl 1) (.str k) (qG E)=some ((qY k E).map qW)
 |[]=>rfl
 |(j,t)::r=>by
  have ih:=qqj k r
  simp only[qG,List.map_cons,yH,eqK,zE,qY]
  cases h:qK k j
  ·simpa using ih
  ·simp
theorem qnG(k:ByteArray)(v:qn):∀E:qm,vL (.pl 1) (.str k) (qW v) (qG E)=some (qG (qaB k v E))
 |[]=>rfl
 |(j,t)::r=>by
  have ih:=qnG k v r
  simp only[qG,List.map_cons,vL,eqK,zE,qaB]
  cases h:qK k j
  ·simp only[qG]at ih
   simp[ih]
  ·simp
theorem qbG(a:ByteArray):qK a a=true:=by simp[qK]
theorem qoX{H:qa}{o:Nat}{E:qm}(h:look o H.objs=some (.map (qG E)))(k:ByteArray)(z:LV):lkL H (.pl 1) true z (.map o) (.str k)=some (match qY k E with|some t=>.tup [qW t,.bool true]|none=>.tup [z,.bool false]):=by
 unfold lkL
 simp only[eqK,zE,qbG,Option.isSome_some,if_true,h,qqj]
 cases qY k E<;>rfl
theorem qkA{H:qa}{o:Nat}{E:qm}(h:look o H.objs=some (.map (qG E)))(k:ByteArray)(v:qn):muL H (.pl 1) (.map o) (.str k) (qW v)=some (H.put o (.map (qG (qaB k v E)))):=by
 unfold muL
 simp only[h,eqK,zE,qbG,Option.isNone_some,Bool.false_eq_true,if_false,qnG,Option.map_some]
structure NNE where
 i:Nat
 n:Nat
 e:qm
theorem qxC(G:qm):(G.map wg).all (fun e=>e.cells.length==4)=true:=by simp[LV.cells]
structure Lit where
 kind:Int
 atom:qd
 a:qn
 b:qn
structure qf where
 head:qd
 body:List Lit
abbrev uc(l:Lit):List LV:=[.int l.kind,.str l.atom.pred,ql l.atom.args,.int l.a.kind,.int l.a.n,.str l.a.s,.int l.b.kind,.int l.b.n,.str l.b.s]
abbrev qda(l:Lit):LV:=.agg (uc l)
abbrev zA(l:List Lit):LV:=.sl (l.map qda) .no
abbrev yY(c:qf):List LV:=[.str c.head.pred,ql c.head.args,zA c.body]
abbrev wA(c:qf):LV:=.agg (yY c)
abbrev ul(S:List ByteArray):List (LV×LV):=S.map fun k=>(.str k,B true)
def wy(k:ByteArray)(S:List ByteArray):Bool:=S.any (qK k)
def qbL(k:ByteArray)(S:List ByteArray):List ByteArray:=if wy k S then S else S++[k]
def qgO(t:qn)(S:List ByteArray):List ByteArray:=if t.kind=3 then qbL t.s S else S
def vG:List qn->List ByteArray->List ByteArray
 |[],S=>S
 |t::r,S=>vG r (qgO t S)
theorem qnE(k:ByteArray):∀S:List ByteArray,vL (.pl 1) (.str k) (B true) (ul S)=some (ul (qbL k S))
 |[]=>rfl
 |j::r=>by
  have ih:=qnE k r
  have hc:wy k (j::r)=(qK k j||wy k r):=rfl
  by_cases h:qK k j=true
  ·simp[ul,qbL,hc,vL,eqK,zE,h]
  ·have h':qK k j=false:=by simpa using h
   by_cases hb:wy k r=true
   ·simp only[ul,qbL,if_pos hb]at ih
    simp[ul,qbL,hc,vL,eqK,zE,h',hb,ih]
   ·simp only[ul,qbL,if_neg hb]at ih
    have hb':wy k r=false:=by simpa using hb
    simp only[ul,qbL,hc,vL,eqK,zE,h',hb',List.map_cons,ih]
    simp
theorem qqh(k:ByteArray):∀S:List ByteArray,yH (.pl 1) (.str k) (ul S)=some (if wy k S then some (B true) else none)
 |[]=>rfl
 |j::r=>by
  have ih:=qqh k r
  simp only[ul,wy,List.map_cons,yH,eqK,zE,List.any_cons]
  by_cases h:qK k j=true
  ·simp[h]
  ·simp only[h,Bool.false_or]
   simpa [wy] using ih
theorem muV{H:qa}{o:Nat}{S:List ByteArray}(h:look o H.objs=some (.map (ul S)))(k:ByteArray):muL H (.pl 1) (.map o) (.str k) (B true)=some (H.put o (.map (ul (qbL k S)))):=by
 unfold muL
 simp only[h,eqK,zE,qbG,Option.isNone_some,Bool.false_eq_true,if_false,qnE,Option.map_some]
theorem lkV{H:qa}{o:Nat}{S:List ByteArray}(h:look o H.objs=some (.map (ul S)))(k:ByteArray):lkL H (.pl 1) false (B false) (.map o) (.str k)=some (B (wy k S)):=by
 unfold lkL
 simp only[eqK,zE,qbG,Option.isSome_some,if_true,h,qqh]
 cases wy k S<;>rfl
theorem jl{o:Nat}{x y:qc}:∀{l:List (Nat×qc)},look o l=some x->look o (qy o y l)=some y
 |[],h=>by cases h
 |(j,z)::r,h=>by
  simp only[look]at h
  simp only[qy]
  split
  ·rename_i e;subst e;simp[look]
  ·rename_i e
   rw[if_neg e]at h
   simp only[look,if_neg e]
   exact jl h
theorem qbY{o:Nat}{x y:qc}:∀(l:List (Nat×qc)),qy o y (qy o x l)=qy o y l
 |[]=>rfl
 |(j,z)::r=>by
  simp only[qy]
  split
  ·rename_i e;subst e;simp[qy]
  ·rename_i e
   simp only[qy,if_neg e,qbY r]
theorem qfN{o:Nat}{x:qc}:∀{l:List (Nat×qc)},look o l=some x->qy o x l=l
 |[],h=>by cases h
 |(j,z)::r,h=>by
  simp only[look]at h
  simp only[qy]
  split
  ·rename_i e;subst e;simp at h;rw[h]
  ·rename_i e
   rw[if_neg e]at h
   rw[qfN h]
theorem keep{H':qa}{v:LV}{kv:HP}(h:kv v H'):∃H'',HWk H' H''/\(H'.Ok->H''.Ok)/\kv v H'':=⟨H',HWk.refl _,fun h=>h,h⟩
structure NNV where
 i:Nat
 n:Nat
 s:List ByteArray
theorem qhd(l:List qn)(own:Own)(hl:l.length<2^40)(o:Nat)(S:List ByteArray)(ob:List (Nat×qc))(nx:Nat)(ho:look o ob=some (.map (ul S))){kv kp:HP}
  (hk:∀n,nx<=n->kv (.tup []) ⟨qy o (.map (ul (vG l S))) ob,n⟩):cP E0 F0 111 [.sl (l.map qW) own,.map o] ⟨ob,nx⟩ kv kp:=by
 refine zX c111 fun hH=>⟨Nat.le_of_ble_eq_true rfl,?_⟩
 have hon:o<nx:=hH.look ho
 simp(disch:=omega)[b111]
 obtain⟨A,hA⟩:∃A,vG l S=A:=⟨_,rfl⟩
 rw[hA]at hk
 refine qB (σ:=NNV) (fun q=>(.nd .bot (.nd (.map o) (.nd .bot (.nd (.int l.length) .nil .nil) .nil) .nil) (.nd .bot (.nd .bot (.nd (.int q.i) .nil .nil) .nil) (.nd (.sl (l.map qW) own) .nil .nil))))
  (fun q=>⟨qy o (.map (ul q.s)) ob,q.n⟩) (fun q=>l.length - q.i)
  (fun q=>nx<=q.n/\q.i<=l.length/\vG (l.drop q.i) q.s=A) ⟨0,nx,S⟩ ⟨Nat.le_refl _,Nat.zero_le _,hA⟩ (by simp[FT.Le,Wk]) ?_ ?_
 ·dsimp only;rw[qfN ho];exact⟨HWk.refl _,fun h=>h⟩
 rintro⟨i,n,s⟩ ⟨hn,hi,he⟩ hok
 simp only at hn hi he
 have hHe:∀s:List ByteArray,qa.Ok ⟨qy o (.map (ul s)) ob,nx⟩:=fun s=>qx.put hH
 by_cases hlt:i<l.length
 case neg=>
  rw[List.drop_eq_nil_of_le (by omega)]at he
  simp only[vG]at he
  subst he
  simp(disch:=omega)[hlt,zw]
  exact keep (hk _ (by omega))
 rw[List.drop_eq_getElem_cons hlt]at he
 simp only[vG]at he
 have hlo:look o (qy o (.map (ul s)) ob)=some (.map (ul s)):=jl ho
 by_cases hk3:l[i].kind=3
 ·simp only[qgO,if_pos hk3]at he
  simp(disch:=omega)[hlt,hk3]
  rw[muV (S:=s) (by simp(disch:=omega)[qe,hlo])]
  simp(disch:=omega)[hlt,hk3,qk (show i<2^62 by omega),qbY]
  exact⟨⟨i+1,n+1,qbL l[i].s s⟩,by dsimp only;omega,⟨by dsimp only;omega,by dsimp only;omega,he⟩,by simp[FT.Le,Wk],zo (hHe _) (by first|exact qi.refl' _|(repeat (first|exact qi.refl (by first|omega|(dsimp only;omega))|refine qi.cons' (hHe _) (by first|omega|(dsimp only;omega)) (by first|omega|(dsimp only;omega)) ?_)))⟩
 ·simp only[qgO,if_neg hk3]at he
  simp(disch:=omega)[hlt,hk3,qk (show i<2^62 by omega)]
  exact⟨⟨i+1,n+1,s⟩,by dsimp only;omega,⟨by dsimp only;omega,by dsimp only;omega,he⟩,by simp[FT.Le,Wk],zo (hHe _) (by first|exact qi.refl' _|(repeat (first|exact qi.refl (by first|omega|(dsimp only;omega))|refine qi.cons' (hHe _) (by first|omega|(dsimp only;omega)) (by first|omega|(dsimp only;omega)) ?_)))⟩
def qcc(l:Lit)(q:List ByteArray×List ByteArray):List ByteArray×List ByteArray:=
 if l.kind=1 then (vG l.atom.args q.1,q.2) else if l.kind=2 then (q.1,vG l.atom.args q.2) else (q.1,vG [l.a,l.b] q.2)
def wU:List Lit->List ByteArray×List ByteArray->List ByteArray×List ByteArray
 |[],q=>q
 |l::r,q=>wU r (qcc l q)
def qaZ(c:qf):Bool:=(wU c.body ([],vG c.head.args [])).2.all fun v=>wy v (wU c.body ([],vG c.head.args [])).1
def Lit.ok(l:Lit):Prop:=l.atom.ok
def qf.ok(c:qf):Prop:=c.head.ok/\c.body.length<2^40/\∀l∈c.body,Lit.ok l
structure NNVV where
 i:Nat
 n:Nat
 q:List ByteArray×List ByteArray
structure NNI where
 left:List Nat
 cur:Option Nat
theorem qrY(p:Nat->Bool):∀(l:List Nat)(j q:Nat),l[j]? = some q->l.all p=(p q&&(l.eraseIdx j).all p)
 |[],_,_,h=>by simp at h
 |a::r,0,q,h=>by simp at h;subst h;rfl
 |a::r,j+1,q,h=>by
  simp only[List.getElem?_cons_succ]at h
  have ih:=qrY p r j q h
  simp only[List.eraseIdx_cons_succ,List.all_cons,ih]
  cases p a<;>cases p q<;>rfl
theorem qzS{α:Type}(p:α->Bool)(l:List α)(d:α):((List.range l.length).all fun k=>p (l.getD k d))=l.all p:=by
 rw[Bool.eq_iff_iff]
 simp only[List.all_eq_true,List.mem_range]
 constructor
 ·intro h x hx
  obtain⟨k,hk,rfl⟩:=List.mem_iff_getElem.1 hx
  have:=h k hk
  rwa [List.getD_eq_getElem?_getD,List.getElem?_eq_getElem hk]at this
 ·intro h k hk
  rw[List.getD_eq_getElem?_getD,List.getElem?_eq_getElem hk]
  exact h _ (List.getElem_mem hk)
theorem qmK(c:qf)(hc:c.ok):qh 70 [wA c] (.bool (qaZ c)):=by
 refine qh.of c70 fun H hH=>⟨Nat.le_of_ble_eq_true rfl,?_⟩
 have hbl:=hc.2.1
 simp(disch:=omega)[b70]
 refine qhd c.head.args _ hc.1.2.1 _ [] _ _ (by simp[qq]) fun n hn=>?_
 simp(disch:=omega)
 obtain⟨Q,hQ⟩:∃Q,wU c.body ([],vG c.head.args [])=Q:=⟨_,rfl⟩
 have hHe:∀s1 s2:List ByteArray,qa.Ok ⟨(H.next+2,.map (ul s2))::(H.next+1,.map (ul s1))::(H.next,.cells (yY c))::H.objs,H.next+3⟩:=fun _ _=>⟨Nat.lt_succ_self _,Nat.lt_succ_self _,Nat.lt_succ_self _,hH⟩
 refine qB (σ:=NNVV) (fun q=>(.nd .bot (.nd .bot (.nd (.map (H.next+1)) .nil .nil) (.nd .bot (.nd .bot (.nd (.int c.body.length) .nil .nil) .nil) .nil)) (.nd .bot (.nd (.map (H.next+2)) (.nd .bot (.nd (zA c.body) .nil .nil) .nil) .nil) (.nd .bot (.nd .bot (.nd (.int q.i) .nil .nil) .nil) .nil))))
  (fun q=>⟨(H.next+2,.map (ul q.q.2))::(H.next+1,.map (ul q.q.1))::(H.next,.cells (yY c))::H.objs,q.n⟩) (fun q=>c.body.length - q.i)
  (fun q=>H.next+3<=q.n/\q.i<=c.body.length/\wU (c.body.drop q.i) q.q=Q) ⟨0,n,([],vG c.head.args [])⟩ ⟨by dsimp only;omega,Nat.zero_le _,hQ⟩ (by simp[FT.Le,Wk]) ⟨HWk.refl _,fun h=>h⟩ ?_
 rintro⟨i,n,q⟩ ⟨hn,hi,he⟩ hok
 simp only at hn hi he
 by_cases hlt:i<c.body.length
 case neg=>
  rw[List.drop_eq_nil_of_le (by omega)]at he
  simp only[wU]at he
  subst he
  simp(disch:=omega)[hlt,rgL]
  have hR:qaZ c=q.2.all fun v=>wy v q.1:=by unfold qaZ;rw[hQ]
  obtain⟨A,hA⟩:∃A,qaZ c=A:=⟨_,rfl⟩
  rw[hA]at hR
  rw[hA]
  have hx:qa.Ok ⟨(H.next+2,.map (ul q.2))::(H.next+1,.map (ul q.1))::(H.next,.cells (yY c))::H.objs,n⟩:=qx.mono (hHe q.1 q.2) hn
  refine qB (σ:=NNI) (fun r=>(.nd .bot (.nd .bot (.nd (.map (H.next+1)) (.nd .bot (.nd .bot .nil (.nd (.ptr n 0) .nil .nil)) .nil) .nil) .nil) .nil))
   (fun r=>⟨(n,.iter (H.next+2) r.left r.cur q.2.length)::(H.next+2,.map (ul q.2))::(H.next+1,.map (ul q.1))::(H.next,.cells (yY c))::H.objs,n+1⟩) (fun r=>r.left.length)
   (fun r=>(∀k∈r.left,k<q.2.length)/\(r.left.all fun k=>wy (q.2.getD k ⟨⟨[]⟩⟩) q.1)=A) ⟨List.range q.2.length,none⟩ ⟨fun k hk=>List.mem_range.1 hk,?_⟩ (by simp[FT.Le,Wk]) ?_ ?_
  ·rw[hR];exact qzS (fun v=>wy v q.1) q.2 _
  ·exact⟨HWk.refl _,fun h=>h⟩
  rintro⟨left,cur⟩ ⟨hl,he⟩ hok
  dsimp only at hl he
  simp(disch:=omega)
  by_cases hl0:left=[]
  ·refine⟨n,H.next+2,left,cur,q.2.length,rfl,by simp[qq],.inl ⟨hl0,.inr ⟨ul q.2,by simp(disch:=omega)[qe,qq],by simp⟩,?_⟩⟩
   subst hl0
   simp(disch:=omega)
   exact qp hH (by simp[<-he])
  ·refine⟨n,H.next+2,left,cur,q.2.length,rfl,by simp[qq],.inr ⟨hl0,ul q.2,by simp(disch:=omega)[qe,qq],by simp,fun j k e hj hk=>?_⟩⟩
   obtain⟨v,hv,rfl⟩:∃v,q.2[k]? = some v/\e=(.str v,B true):=by
    simp only[ul,List.getElem?_map]at hk
    obtain⟨v,h1,h2⟩:=Option.map_eq_some_iff.1 hk
    exact⟨v,h1,h2.symm⟩
   have hg:q.2.getD k ⟨⟨[]⟩⟩=v:=by rw[List.getD_eq_getElem?_getD,hv];rfl
   rw[qrY _ left j k hj,hg]at he
   simp(disch:=omega)[enL,hv]
   rw[lkV (S:=q.1) (by simp(disch:=omega)[qe,qq])]
   cases hb:wy v q.1
   ·simp(disch:=omega)
    rw[hb,Bool.false_and]at he
    exact qp hH (by simp[<-he])
   ·simp(disch:=omega)
    rw[hb,Bool.true_and]at he
    have hjl:j<left.length:=(List.getElem?_eq_some_iff.1 hj).1
    exact⟨⟨left.eraseIdx j,some k⟩,by dsimp only;rw[List.length_eraseIdx_of_lt hjl];omega,⟨fun m hm=>hl m (List.mem_of_mem_eraseIdx hm),he⟩,by simp[FT.Le,Wk],HWk.refl _,fun h=>h⟩
 rw[List.drop_eq_getElem_cons hlt]at he
 simp only[wU]at he
 have hlo:c.body[i].atom.ok:=hc.2.2 _ (yv hlt)
 by_cases hk1:c.body[i].kind=1
 ·simp only[qcc,if_pos hk1]at he
  simp(disch:=omega)[hlt,hk1]
  refine qhd _ _ hlo.2.1 _ q.1 _ _ (by simp(disch:=omega)[qq,qe]) fun n1 hn1=>?_
  simp(disch:=omega)[qk (show i<2^62 by omega)]
  have hx:=hHe (vG c.body[i].atom.args q.1) q.2
  exact⟨⟨i+1,n1,_⟩,by dsimp only;omega,⟨by dsimp only;omega,by dsimp only;omega,he⟩,by simp[FT.Le,Wk],zJ hx⟩
 by_cases hk2:c.body[i].kind=2
 ·simp only[qcc,if_neg hk1,if_pos hk2]at he
  simp(disch:=omega)[hlt,hk2]
  refine qhd _ _ hlo.2.1 _ q.2 _ _ (by simp(disch:=omega)[qq,qe]) fun n1 hn1=>?_
  simp(disch:=omega)[qk (show i<2^62 by omega)]
  have hx:=hHe q.1 (vG c.body[i].atom.args q.2)
  exact⟨⟨i+1,n1,_⟩,by dsimp only;omega,⟨by dsimp only;omega,by dsimp only;omega,he⟩,by simp[FT.Le,Wk],zJ hx⟩
 ·simp only[qcc,if_neg hk1,if_neg hk2]at he
  simp(disch:=omega)[hlt,hk1,hk2]
  refine qhd [c.body[i].a,c.body[i].b] _ (by simp) _ q.2 _ _ (by simp(disch:=omega)[qq,qe]) fun n1 hn1=>?_
  simp(disch:=omega)[qk (show i<2^62 by omega)]
  have hx:=hHe q.1 (vG [c.body[i].a,c.body[i].b] q.2)
  exact⟨⟨i+1,n1,_⟩,by dsimp only;omega,⟨by dsimp only;omega,by dsimp only;omega,he⟩,by simp[FT.Le,Wk],zJ hx⟩
def z6(E:qm):List ByteArray:=E.map (·.1)
theorem wH{a b:ByteArray}:qK a b=true↔a=b:=by
 constructor
 ·intro h
  unfold qK at h
  rw[ByteArray.toList_eq,ByteArray.toList_eq]at h
  have h1:=eq_of_beq h
  obtain⟨⟨x⟩⟩:=a
  obtain⟨⟨y⟩⟩:=b
  simp at h1
  rw[h1]
 ·rintro rfl;exact qbG _
theorem qgu{k:ByteArray}{v:qn}:∀{E:qm},(z6 E).Nodup->(qY k E=some v↔(k,v)∈E)
 |[],_=>by simp[qY]
 |(j,u)::r,hn=>by
  simp only[z6,List.map_cons,List.nodup_cons]at hn
  have ih:=qgu (k:=k) (v:=v) (E:=r) hn.2
  simp only[qY]
  by_cases h:qK k j=true
  ·have e:=wH.1 h;subst e
   rw[if_pos h]
   constructor
   ·intro h';cases h';exact .head _
   ·intro h'
    rcases List.mem_cons.1 h' with h'|h'
    ·cases h';rfl
    ·exact absurd (List.mem_map.2 ⟨_,h',rfl⟩) hn.1
  ·rw[if_neg h,ih]
   constructor
   ·exact fun h'=>.tail _ h'
   ·intro h'
    rcases List.mem_cons.1 h' with h'|h'
    ·cases h';exact absurd (qbG _) h
    ·exact h'
theorem qqm{k:ByteArray}{E F:qm}(hn:(z6 E).Nodup)(hp:E.Perm F):qY k E=qY k F:=by
 have hf:(z6 F).Nodup:=(hp.map _).nodup_iff.1 hn
 apply Option.ext
 intro v
 rw[qgu hn,qgu hf]
 exact hp.mem_iff
theorem qdQ{k:ByteArray}:∀{E:qm},qY k E=none->k∉z6 E
 |[],_=>by simp[z6]
 |(j,u)::r,h=>by
  simp only[qY]at h
  split at h
  ·cases h
  ·rename_i hj
   have:=qdQ h
   simp only[z6,List.map_cons,List.mem_cons,not_or]
   exact⟨fun e=>hj (by subst e;exact qbG _),this⟩
theorem qhq{k:ByteArray}{v:qn}:∀{E:qm},k∉z6 E->qaB k v E=E++[(k,v)]
 |[],_=>rfl
 |(j,u)::r,h=>by
  simp only[z6,List.map_cons,List.mem_cons,not_or]at h
  simp only[qaB]
  rw[if_neg (fun e=>h.1 (wH.1 e)),qhq h.2]
  rfl
theorem qjB{k:ByteArray}{v:qn}:∀{E:qm},qY k E=some v->qaB k v E=E
 |[],h=>by cases h
 |(j,u)::r,h=>by
  simp only[qY]at h
  split at h
  ·rename_i hj
   cases h
   simp only[qaB,hj,if_true]
  ·rename_i hj
   simp only[qaB,hj,if_false,qjB h,Bool.false_eq_true]
theorem qgv{x y:qn}(h:eqT x y=true):x=y:=by
 simp only[eqT,Bool.and_eq_true,decide_eq_true_eq]at h
 obtain⟨h1,h2,h3⟩:=h
 cases x;cases y
 simp only at h1 h2 h3
 rw[h1,h2,wH.1 h3]
def zg:qm->List qn->List qn->Option qm
 |E,[],_=>some E
 |_,_::_,[]=>none
 |E,p::ps,q::qs=>
  if p.kind=3 then
   match qY p.s E with
   |some old=>if eqT old q then zg E ps qs else none
   |none=>zg (E++[(p.s,q)]) ps qs
  else if eqT p q then zg E ps qs else none
theorem qiK:∀(ps qs:List qn)(E F:qm),(z6 E).Nodup->E.Perm F->(zg E ps qs=none↔zg F ps qs=none)/\∀R,zg E ps qs=some R->(z6 R).Nodup/\∃R',zg F ps qs=some R'/\R.Perm R'
 |[],qs,E,F,hn,hp=>by
  simp only[zg]
  exact⟨by simp,fun R h=>by cases h;exact⟨hn,F,rfl,hp⟩⟩
 |p::ps,[],E,F,hn,hp=>by
  simp only[zg]
  exact⟨by simp,fun R h=>by cases h⟩
 |p::ps,q::qs,E,F,hn,hp=>by
  simp only[zg,qqm (k:=p.s) hn hp]
  by_cases hk:p.kind=3
  ·simp only[if_pos hk]
   cases hf:qY p.s F with
   |none=>
    simp only
    have hne:p.s∉z6 E:=qdQ (by rw[qqm hn hp,hf])
    refine qiK ps qs _ _ ?_ (hp.append_right _)
    simp only[z6,List.map_append,List.map_cons,List.map_nil]
    exact List.nodup_append.2 ⟨hn,by simp,fun a ha b hb e=>by simp at hb;subst hb;subst e;exact hne ha⟩
   |some old=>
    simp only
    by_cases hq:eqT old q=true
    ·simp only[if_pos hq]
     exact qiK ps qs E F hn hp
    ·simp only[if_neg hq]
     exact⟨by simp,fun R h=>by cases h⟩
  ·simp only[if_neg hk]
   by_cases hq:eqT p q=true
   ·simp only[if_pos hq]
    exact qiK ps qs E F hn hp
   ·simp only[if_neg hq]
    exact⟨by simp,fun R h=>by cases h⟩
theorem qbD:Tryz.prog.follows .mixedOrders=true:=by kernel_rfl
theorem qaK:qft Tryz.prog E0 F0:=⟨fun f b h=>by
 simp only[F0,qj]at h
 obtain⟨fn,h1,h2⟩:=Option.bind_eq_some_iff.1 h
 split at h2
 ·cases h2
 ·rename_i hn
  exact⟨fn,h1,h2,by simpa using hn⟩,fun _ _ _ _ h=>h,fun _ _ _ _ h=>h⟩
theorem qh.x{f:FuncId}{args:List LV}{v:LV}(h:qh f args v)(hv:Bel 0 v){l:List (Nat×qc)}{m:Nat}{kv kp:HP}(hk:kv v ⟨l,m⟩):cP E0 F0 f args ⟨l,m⟩ kv kp:=
 qlP.of qbD qaK (fun _ _ _ _ h=>h) h hv ⟨l,m⟩ kv kp hk
theorem qea(a:qd):Bel 0 (.agg [.str a.pred,.int a.args.length]):=.agg fun i c h=>by
 match i with
 |0=>simp at h;subst h;exact .sc _
 |1=>simp at h;subst h;exact .sc _
 |i+2=>simp at h
theorem qvD{α β:Type}(f:α->β){l m:List β}(h:l.Perm m):∀K:List α,m=K.map f->∃K':List α,K'.Perm K/\l=K'.map f:=by
 induction h with
 |nil=>intro K hK;exact⟨K,.refl _,hK⟩
 |cons x _ ih=>
  intro K hK
  cases K with
  |nil=>simp at hK
  |cons k K=>
   simp only[List.map_cons,List.cons.injEq]at hK
   obtain⟨K',h1,h2⟩:=ih K hK.2
   exact⟨k::K',h1.cons k,by rw[List.map_cons,<-h2,hK.1]⟩
 |swap x y l=>
  intro K hK
  match K,hK with
  |[],hK=>simp at hK
  |[_],hK=>simp at hK
  |a::b::K,hK=>
   simp only[List.map_cons,List.cons.injEq]at hK
   exact⟨b::a::K,.swap _ _ _,by simp[hK.1,hK.2.1,hK.2.2]⟩
 |trans _ _ ih1 ih2=>
  intro K hK
  obtain⟨K1,h1,h2⟩:=ih2 K hK
  obtain⟨K2,h3,h4⟩:=ih1 K1 h2
  exact⟨K2,h3.trans h1,h4⟩
def zf(K:qm)(p a:qd):Option qm:=if qK p.pred a.pred&&decide (p.args.length=a.args.length) then zg K p.args a.args else none
theorem qhz{α:Type}(l:List α):(List.range l.length).filterMap (fun k=>l[k]?)=l:=by
 apply List.ext_getElem?
 intro i
 have:∀n,n<=l.length->(List.range n).filterMap (fun k=>l[k]?)=l.take n:=by
  intro n
  induction n with
  |zero=>intro _;rfl
  |succ n ih=>
   intro hn
   rw[List.range_succ,List.filterMap_append,ih (by omega),List.take_add_one]
   have:l[n]? = some l[n]:=List.getElem?_eq_getElem (by omega)
   simp[this]
 rw[this _ (Nat.le_refl _),List.take_length]
theorem qeB{α:Type}:∀(l:List α)(j:Nat)(k:α),l[j]? = some k->l.Perm (k::l.eraseIdx j)
 |[],_,_,h=>by simp at h
 |a::r,0,k,h=>by simp at h;subst h;exact .refl _
 |a::r,j+1,k,h=>by
  simp only[List.getElem?_cons_succ]at h
  exact((qeB r j k h).cons a).trans (.swap _ _ _)
theorem qoW{base:List (Nat×qc)}{N n:Nat}{x y z:qc}(hB:qa.Ok ⟨base,N⟩)(hn:N+3<=n):qi ⟨(N+2,x)::base,N+3⟩ ⟨(N+2,x)::(N+1,y)::(N,z)::base,n⟩:=
 ⟨hn,fun i o h=>by
  simp only[look]at h ⊢
  split at h
  ·rename_i hi;rw[if_pos hi];exact h
  ·rename_i hi
   have:=hB.look h
   simp only at this
   rw[if_neg hi,if_neg (by omega),if_neg (by omega)]
   exact h⟩
structure NNIV where
 left:List Nat
 cur:Option Nat
 v:qm
 n:Nat
theorem qup(p a:qd)(hp:p.ok)(ha:a.ok)(H:qa)(o:Nat)(K:qm)(hl:look o H.objs=some (.um (qG K)))(hno:∀i m l k n,look i H.objs=some (.iter m l k n)->m≠o)(hKn:(z6 K).Nodup):
  cP E0 F0 92 [qg p,qg a,.map o] H (fun u H'=>∃K':qm,K'.Perm K/\((zf K p a=none/\u=.sc (.map none)/\∃n,H'=⟨qy o (.map (qG K')) H.objs,n⟩) \/
   (∃R R',zf K p a=some R/\List.Perm R' R/\u=.map (H.next+2)/\∃n,H'=⟨(H.next+2,.map (qG R'))::qy o (.map (qG K')) H.objs,n⟩))) (fun _ _=>False):=by
 refine qzd c92 (fun l h=>by cases h) hl hno fun hH es' hperm=>⟨Nat.le_of_ble_eq_true rfl,?_⟩
 obtain⟨K',hK',rfl⟩:=qvD _ hperm K rfl
 have hn':(z6 K').Nodup:=(hK'.map _).nodup_iff.2 hKn
 have hlp:=hp.2.1
 have hla:=ha.2.1
 have hon:o<H.next:=hH.look hl
 obtain⟨base,hbase⟩:∃base,qy o (.map (qG K')) H.objs=base:=⟨_,rfl⟩
 have hlb:look o base=some (.map (qG K')):=by rw[<-hbase];exact jl hl
 obtain⟨N,hN⟩:∃N,H.next=N:=⟨_,rfl⟩
 have hB:qa.Ok ⟨base,N⟩:=by rw[<-hbase,<-hN];exact qx.put hH
 have hput:H.put o (.map (qG K'))=⟨base,N⟩:=by rw[<-hbase,<-hN];rfl
 rw[hput]
 rw[hN]at hon ⊢
 simp(disch:=omega)[b92]
 refine(qbR p).x (qea p) ?_
 simp(disch:=omega)
 refine(qbR a).x (qea a) ?_
 cases h1:qK p.pred a.pred
 ·simp(disch:=omega)[h1]
  exact⟨⟨base,N+2⟩,(zJ hB).1,(zJ hB).2,K',hK',by simp[zf,h1],N+2,by rw[hbase]⟩
 by_cases h2:p.args.length=a.args.length
 case neg=>
  have h2i:¬(p.args.length:Int)=(a.args.length:Int):=by omega
  simp(disch:=omega)[h1,h2,h2i]
  exact⟨⟨base,N+2⟩,(zJ hB).1,(zJ hB).2,K',hK',by simp[zf,h1,h2],N+2,by rw[hbase]⟩
 have h2i:(p.args.length:Int)=(a.args.length:Int):=by omega
 have hA0:zf K p a=zg K p.args a.args:=by simp[zf,h1,h2]
 have hrg:∀(l:List (Nat×qc))(m:Nat),look o l=some (.map (qG K'))->rgL ⟨l,m⟩ (.map o)=some (.ptr m 0,⟨(m,.iter o (List.range K'.length) none K'.length)::l,m+1⟩):=fun l m h=>by
  simp[rgL,h,qa.alloc]
 simp(disch:=omega)[h1,h2i]
 rw[hrg _ _ (by simp(disch:=omega)[qe,hlb])]
 simp(disch:=omega)
 refine qB (σ:=NNIV) (fun q=>(.nd .bot (.nd .bot (.nd (.ptr N 0) (.nd (.map (N+2)) .nil .nil) .nil) (.nd .bot .nil (.nd .bot (.nd (.ptr (N+3) 0) .nil .nil) .nil))) (.nd .bot (.nd (.ptr (N+1) 0) .nil .nil) .nil)))
  (fun q=>⟨(N+3,.iter o q.left q.cur K'.length)::(N+2,.map (qG q.v))::(N+1,.cells [.str a.pred,ql a.args])::(N,.cells [.str p.pred,ql p.args])::base,q.n⟩) (fun q=>q.left.length)
  (fun q=>N+4<=q.n/\(q.v++q.left.filterMap (fun k=>K'[k]?)).Perm K') ⟨List.range K'.length,none,[],N+4⟩ ⟨by dsimp only;omega,by dsimp only;rw[qhz];exact .refl _⟩ (by simp[FT.Le,Wk]) ⟨HWk.refl _,fun h=>h⟩ ?_
 rintro⟨left,cur,V,n⟩ ⟨hn,hV⟩ hok
 dsimp only at hn hV
 have hVn:(z6 (V++left.filterMap (fun k=>K'[k]?))).Nodup:=(hV.map _).nodup_iff.2 hn'
 simp(disch:=omega)
 by_cases hl0:left=[]
 case neg=>
  refine⟨N+3,o,left,cur,K'.length,rfl,by simp[qq],.inr ⟨hl0,qG K',by simp(disch:=omega)[qe,hlb],by simp,fun j k e hj hk=>?_⟩⟩
  obtain⟨v,hv,rfl⟩:∃v,K'[k]? = some v/\e=(.str v.1,qW v.2):=by
   simp only[qG,List.getElem?_map]at hk
   obtain⟨v,h1,h2⟩:=Option.map_eq_some_iff.1 hk
   exact⟨v,h1,h2.symm⟩
  have hjl:j<left.length:=(List.getElem?_eq_some_iff.1 hj).1
  have hje:left[j]=k:=(List.getElem?_eq_some_iff.1 hj).2
  have hpe:left.Perm (k::left.eraseIdx j):=qeB left j k hj
  have hfe:(left.filterMap (fun k=>K'[k]?)).Perm (v::(left.eraseIdx j).filterMap (fun k=>K'[k]?)):=by
   have:=hpe.filterMap (fun k=>K'[k]?)
   rwa [List.filterMap_cons_some hv]at this
  have hnew:v.1∉z6 V:=by
   have h3:=((List.Perm.append_left V hfe).map Prod.fst).nodup_iff.1 hVn
   rw[List.map_append,List.map_cons]at h3
   intro hc
   exact(List.nodup_append.1 h3).2.2 _ hc _ (List.mem_cons_self) rfl
  simp(disch:=omega)[enL,hlb,hv]
  rw[qkA (E:=V) (by simp(disch:=omega)[qe])]
  simp(disch:=omega)[qhq hnew]
  have hx:qa.Ok ⟨(N+3,.iter o (left.eraseIdx j) (some k) K'.length)::(N+2,.map (qG V++[(.str v.1,qW v.2)]))::(N+1,.cells [.str a.pred,ql a.args])::(N,.cells [.str p.pred,ql p.args])::base,N+4⟩:=⟨Nat.lt_succ_self _,Nat.lt_succ_self _,Nat.lt_succ_self _,Nat.lt_succ_self _,hB⟩
  refine⟨⟨left.eraseIdx j,some k,V++[v],n+1⟩,by dsimp only;rw[List.length_eraseIdx_of_lt hjl];omega,⟨by dsimp only;omega,?_⟩,by simp[FT.Le,Wk],?_⟩
  ·dsimp only
   rw[List.append_assoc]
   exact(List.Perm.append_left V hfe).symm.trans hV
  ·dsimp only
   rw[show qG (V++[v])=qG V++[(.str v.1,qW v.2)] from List.map_append]
   exact zJ hx
 refine⟨N+3,o,left,cur,K'.length,rfl,by simp[qq],.inl ⟨hl0,.inr ⟨qG K',by simp(disch:=omega)[qe,hlb],by simp⟩,?_⟩⟩
 subst hl0
 simp only[List.filterMap_nil,List.append_nil]at hV hVn
 have hVK:V.Perm K:=hV.trans hK'
 obtain⟨hp1,hp2⟩:=qiK p.args a.args V K hVn hVK
 obtain⟨A,hA⟩:∃A,zg V p.args a.args=A:=⟨_,rfl⟩
 rw[hA]at hp1 hp2
 simp(disch:=omega)
 have hHe:∀e:qm,qa.Ok ⟨(N+2,.map (qG e))::(N+1,.cells [.str a.pred,ql a.args])::(N,.cells [.str p.pred,ql p.args])::base,N+3⟩:=fun _=>⟨Nat.lt_succ_self _,Nat.lt_succ_self _,Nat.lt_succ_self _,hB⟩
 refine qB (σ:=NNE) (fun q=>(.nd .bot (.nd .bot (.nd (.ptr N 0) (.nd (.map (N+2)) (.nd .bot (.nd (ql p.args) .nil .nil) .nil) .nil) .nil) (.nd .bot (.nd .bot (.nd .bot (.nd (.int q.i) .nil .nil) .nil) .nil) .nil)) (.nd .bot (.nd (.ptr (N+1) 0) (.nd .bot (.nd .bot (.nd (.int p.args.length) .nil .nil) .nil) .nil) .nil) .nil)))
  (fun q=>⟨(N+2,.map (qG q.e))::(N+1,.cells [.str a.pred,ql a.args])::(N,.cells [.str p.pred,ql p.args])::base,q.n⟩) (fun q=>p.args.length - q.i)
  (fun q=>N+3<=q.n/\q.i<=p.args.length/\zg q.e (p.args.drop q.i) (a.args.drop q.i)=A) ⟨0,n,V⟩ ⟨by dsimp only;omega,Nat.zero_le _,hA⟩ (by simp[FT.Le,Wk])
  (zo (hHe V) (by first|exact qi.refl' _|(repeat (first|exact qi.refl (by first|omega|(dsimp only;omega))|refine qi.cons' (hHe V) (by first|omega|(dsimp only;omega)) (by first|omega|(dsimp only;omega)) ?_)))) ?_
 rintro⟨i,n,e⟩ ⟨hn,hi,he⟩ hok
 simp only at hn hi he
 by_cases hlt:i<p.args.length
 case neg=>
  rw[List.drop_eq_nil_of_le (by omega)]at he
  simp only[zg]at he
  obtain⟨R,hR1,hR2⟩:=(hp2 e he.symm).2
  have hc:qa.Ok ⟨(N+2,.map (qG e))::base,N+3⟩:=⟨Nat.lt_succ_self _,qx.mono hB (show N<=N+2 by omega)⟩
  have hbk:=zo hc (qoW (y:=.cells [.str a.pred,ql a.args]) (z:=.cells [.str p.pred,ql p.args]) hB hn)
  simp(disch:=omega)[hlt]
  exact⟨_,hbk.1,hbk.2,K',hK',R,by rw[hA0,hR1],e,hR2,n,by rw[hbase]⟩
 have hly:i<a.args.length:=by omega
 rw[List.drop_eq_getElem_cons hlt,List.drop_eq_getElem_cons hly]at he
 have hnone:none=A->zf K p a=none:=fun h=>by rw[hA0];exact hp1.1 h.symm
 by_cases hk3:p.args[i].kind=3
 case neg=>
  by_cases hq:eqT p.args[i] a.args[i]=true
  case neg=>
   have hq':eqT p.args[i] a.args[i]=false:=by simpa using hq
   simp only[eqT]at hq'
   simp only[zg,if_neg hk3,if_neg hq]at he
   simp(disch:=omega)[hlt,hly,hk3,hq']
   have hx:qi ⟨base,N⟩ ⟨(n,.cells (ui p.args[i]))::(N+2,.map (qG e))::(N+1,.cells [.str a.pred,ql a.args])::(N,.cells [.str p.pred,ql p.args])::base,n+1⟩:=(by first|exact qi.refl' _|(repeat (first|exact qi.refl (by first|omega|(dsimp only;omega))|refine qi.cons' hB (by first|omega|(dsimp only;omega)) (by first|omega|(dsimp only;omega)) ?_)))
   exact⟨⟨base,n+1⟩,(zo hB hx).1,(zo hB hx).2,K',hK',hnone he,n+1,by rw[hbase]⟩
  ·have hq':=hq
   simp only[eqT]at hq'
   simp only[zg,if_neg hk3,if_pos hq]at he
   simp(disch:=omega)[hlt,hly,hk3,hq',qk (show i<2^62 by omega)]
   exact⟨⟨i+1,n+1,e⟩,by dsimp only;omega,⟨by dsimp only;omega,by dsimp only;omega,he⟩,by simp[FT.Le,Wk],zo (hHe e) (by first|exact qi.refl' _|(repeat (first|exact qi.refl (by first|omega|(dsimp only;omega))|refine qi.cons' (hHe e) (by first|omega|(dsimp only;omega)) (by first|omega|(dsimp only;omega)) ?_)))⟩
 simp(disch:=omega)[hlt,hly,hk3]
 rw[qoX (E:=e) (by simp(disch:=omega)[qe])]
 have hmu:∀(l:List (Nat×qc))(m:Nat),look (N+2) l=some (.map (qG e))->muL ⟨l,m⟩ (.pl 1) (.map (N+2)) (.str p.args[i].s) (qW a.args[i])=some (qa.put ⟨l,m⟩ (N+2) (.map (qG (qaB p.args[i].s a.args[i] e)))):=fun l m h=>qkA h _ _
 cases hf:qY p.args[i].s e with
 |none=>
  simp only[zg,if_pos hk3,hf]at he
  have hsb:=qhq (v:=a.args[i]) (qdQ hf)
  simp(disch:=omega)[hlt,hly,hk3]
  rw[hmu _ _ (by simp(disch:=omega)[qe]),hsb]
  simp(disch:=omega)[hlt,hly,hk3,qk (show i<2^62 by omega)]
  have hx:qa.Ok ⟨(N+2,.map (qG e++[(.str p.args[i].s,qW a.args[i])]))::(N+1,.cells [.str a.pred,ql a.args])::(N,.cells [.str p.pred,ql p.args])::base,N+3⟩:=⟨Nat.lt_succ_self _,Nat.lt_succ_self _,Nat.lt_succ_self _,hB⟩
  refine⟨⟨i+1,n+2,e++[(p.args[i].s,a.args[i])]⟩,by dsimp only;omega,⟨by dsimp only;omega,by dsimp only;omega,he⟩,by simp[FT.Le,Wk],?_⟩
  dsimp only
  rw[show qG (e++[(p.args[i].s,a.args[i])])=qG e++[(.str p.args[i].s,qW a.args[i])] from List.map_append]
  exact zJ hx
 |some old=>
  by_cases hq:eqT old a.args[i]=true
  case neg=>
   have hq':eqT old a.args[i]=false:=by simpa using hq
   simp only[eqT]at hq'
   simp only[zg,if_pos hk3,hf,if_neg hq]at he
   simp(disch:=omega)[hlt,hly,hk3,hq']
   have hx:∀x y,qi ⟨base,N⟩ ⟨(n+1,x)::(n,y)::(N+2,.map (qG e))::(N+1,.cells [.str a.pred,ql a.args])::(N,.cells [.str p.pred,ql p.args])::base,n+1+1⟩:=fun x y=>(by first|exact qi.refl' _|(repeat (first|exact qi.refl (by first|omega|(dsimp only;omega))|refine qi.cons' hB (by first|omega|(dsimp only;omega)) (by first|omega|(dsimp only;omega)) ?_)))
   exact⟨⟨base,n+1+1⟩,(zo hB (hx _ _)).1,(zo hB (hx _ _)).2,K',hK',hnone he,n+1+1,by rw[hbase]⟩
  ·have hq':=hq
   simp only[eqT]at hq'
   simp only[zg,if_pos hk3,hf,if_pos hq]at he
   have hold:qaB p.args[i].s a.args[i] e=e:=qjB (by rw[hf,qgv hq])
   simp(disch:=omega)[hlt,hly,hk3,hq']
   rw[hmu _ _ (by simp(disch:=omega)[qe]),hold]
   simp(disch:=omega)[hlt,hly,hk3,qk (show i<2^62 by omega)]
   exact⟨⟨i+1,n+2,e⟩,by dsimp only;omega,⟨by dsimp only;omega,by dsimp only;omega,he⟩,by simp[FT.Le,Wk],zo (hHe e) (by first|exact qi.refl' _|(repeat (first|exact qi.refl (by first|omega|(dsimp only;omega))|refine qi.cons' (hHe e) (by first|omega|(dsimp only;omega)) (by first|omega|(dsimp only;omega)) ?_)))⟩
structure qv where
 pred:ByteArray
 args:Int
 level:Int
abbrev zc(x:qv):List LV:=[.str x.pred,.int x.args,.int x.level]
abbrev qH(x:qv):LV:=.agg (zc x)
def or2(a b:Int):Int:=if a≠0 then a else b
theorem t_or2(a b:Int):qh 52 [.sl [.int a,.int b] .full] (.int (or2 a b)):=by
 refine qh.of c52 fun H hH=>⟨Nat.le_of_ble_eq_true rfl,?_⟩
 simp(disch:=omega)[b52]
 refine qaJ ?_
 by_cases ha:a=0
 case neg=>
  simp(disch:=omega)[ha]
  exact qp hH (by simp[or2,ha])
 simp(disch:=omega)[ha,qk (show 0<2^62 by omega),uM]
 refine qaJ ?_
 by_cases hb:b=0
 case neg=>
  simp(disch:=omega)[hb,uM]
  exact qp hH (by simp[or2,ha,hb])
 simp(disch:=omega)[hb,uM]
 refine qaJ ?_
 simp(disch:=omega)[uM]
 exact qp hH (by simp[or2,ha,hb])
def qgF(x y:qv):Int:=or2 (zQ x.pred y.pred) (zP x.args y.args)
theorem quh(x y:qv):qh 69 [qH x,qH y] (.int (qgF x y)):=by
 refine qh.of c69 fun H hH=>⟨Nat.le_of_ble_eq_true rfl,?_⟩
 simp(disch:=omega)[b69]
 refine(qjp _ _).go fun n hn=>?_
 simp(disch:=omega)
 refine(qhi _ _).go fun n1 hn1=>?_
 simp(disch:=omega)
 refine(t_or2 _ _).go fun n2 hn2=>?_
 simp(disch:=omega)
 exact qp hH (by simp[qgF])
def ltS(x y:qv):Bool:=decide (qgF x y<0)
theorem qaY(x:qv):(zc x).length=3:=rfl
abbrev qL(A:List qv):qc:=.arr 3 (A.flatMap zc)
structure NNA where
 i:Nat
 a:List qv
theorem qpj{A:List qv}{j o:Nat}{l:List (Nat×qc)}{m:Nat}(hl:look o l=some (qL A))(hj:j<A.length):qS ⟨l,m⟩ (some 3) (.ptr o (j*3))=some (qH A[j]):=by
 have h1:j*3+3<=(A.flatMap zc).length:=by rw[qdc qaY];omega
 simp only[qS,hl,zm,h1,if_true]
 rw[qld qaY hj]
theorem qnv{A:List qv}{j o:Nat}{l:List (Nat×qc)}{m:Nat}(hl:look o l=some (qL A))(hj:j<A.length)(x:qv):stL ⟨l,m⟩ 3 (.ptr o (j*3)) (qH x)=some ⟨qy o (qL (A.set j x)) l,m⟩:=by
 have h1:j*3+3<=(A.flatMap zc).length:=by rw[qdc qaY];omega
 have h2:(A.flatMap zc).take (j*3)++zc x++(A.flatMap zc).drop (j*3+3)=(A.set j x).flatMap zc:=qqa qaY hj x
 have hc:(qH x).cells.length=3/\(qH x).whole/\j*3+3<=(A.flatMap zc).length:=⟨rfl,rfl,h1⟩
 unfold stL
 simp only[hl]
 rw[if_pos hc]
 show some (qa.put ⟨l,m⟩ o (.arr 3 ((A.flatMap zc).take (j*3)++zc x++(A.flatMap zc).drop (j*3+3))))=_
 rw[h2]
 rfl
theorem qmb{j k:Nat}(hk:j=k+1)(h:k<2^62):IntKind.wrap .i64 ((j:Int) - 1)=(k:Int):=by
 rw[uM (by omega) (by omega)];omega
theorem qkU{A:List qv}{j o n:Nat}{l:List (Nat×qc)}{m:Nat}(hl:look o l=some (qL A))(hj:j<n):iaL ⟨l,m⟩ 3 (.asl o 0 n) (.sc (.int .i64 (j:Int)))=some (.ptr o (j*3)):=by
 simp[iaL,uG,hl,hj]
theorem qtQ(A:List qv)(o:Nat)(ob:List (Nat×qc))(nx:Nat)(hlo:look o ob=some (qL A))(hA:A.length<2^40){kv kp:HP}
  (hk:kv (.tup []) ⟨qy o (qL (we ltS (A.length - 1) 1 A)) ob,nx⟩):
  cP E0 F0 141 [.asl o 0 A.length,.int 0,.int A.length,.fn (.func 69) [] []] ⟨ob,nx⟩ kv kp:=by
 refine zX c141 fun hH=>⟨Nat.le_of_ble_eq_true rfl,?_⟩
 simp(disch:=omega)[b141,uM]
 obtain⟨R,hR⟩:∃R,we ltS (A.length - 1) 1 A=R:=⟨_,rfl⟩
 rw[hR]at hk
 refine qB (σ:=NNA) (fun q=>(.nd (.asl o 0 A.length) (.nd (.int 0) (.nd (.fn (.func 69) [] []) .nil .nil) .nil) (.nd (.int A.length) (.nd .bot (.nd (.int q.i) .nil .nil) .nil) .nil)))
  (fun q=>⟨qy o (qL q.a) ob,nx⟩) (fun q=>A.length - q.i)
  (fun q=>q.a.length=A.length/\we ltS (A.length - q.i) q.i q.a=R) ⟨1,A⟩ ⟨rfl,hR⟩ (by simp[FT.Le,Wk]) ?_ ?_
 ·dsimp only;rw[qfN hlo];exact⟨HWk.refl _,fun h=>h⟩
 rintro⟨i,B⟩ ⟨hl,he⟩ hok
 dsimp only at hl he
 have hlB:∀B:List qv,look o (qy o (qL B) ob)=some (qL B):=fun B=>jl hlo
 by_cases hlt:i<A.length
 case neg=>
  rw[show A.length - i=0 by omega]at he
  simp only[we]at he
  subst he
  simp(disch:=omega)[hlt,zw]
  exact keep hk
 simp(disch:=omega)[hlt]
 obtain⟨W,hW⟩:∃W,wD ltS B i=W:=⟨_,rfl⟩
 have hWl:W.length=A.length:=by rw[<-hW,qnB,hl]
 rw[show A.length - i=(A.length - (i+1))+1 by omega]at he
 simp only[we,hW]at he
 refine qB (σ:=NNA) (fun q=>(.nd (.asl o 0 A.length) (.nd (.int 0) (.nd (.fn (.func 69) [] []) .nil .nil) (.nd .bot (.nd (.int q.i) .nil .nil) .nil)) (.nd (.int A.length) (.nd .bot (.nd (.int i) .nil .nil) .nil) .nil)))
  (fun q=>⟨qy o (qL q.a) ob,nx⟩) (fun q=>q.i)
  (fun q=>q.i<=i/\q.a.length=A.length/\wD ltS q.a q.i=W) ⟨i,B⟩ ⟨Nat.le_refl _,hl,hW⟩ (by simp[FT.Le,Wk]) ⟨HWk.refl _,fun h=>h⟩ ?_
 rintro⟨j,C⟩ ⟨hj,hCl,hC⟩ hok2
 dsimp only at hj hCl hC
 by_cases hj0:j=0
 ·subst hj0
  simp only[wD]at hC
  subst hC
  simp(disch:=omega)[qk (show i<2^62 by omega)]
  exact⟨⟨i+1,C⟩,by dsimp only;omega,⟨hWl,he⟩,by simp[FT.Le,Wk],HWk.refl _,fun h=>h⟩
 obtain⟨k,hjk⟩:∃k,j=k+1:=⟨j - 1,by omega⟩
 have hk1:j<C.length:=by omega
 have hk0:k<C.length:=by omega
 have hi1:=qkU (n:=A.length) (m:=nx) (hlB C) (show j<A.length by omega)
 have hi0:=qkU (n:=A.length) (m:=nx) (hlB C) (show k<A.length by omega)
 have hl1:=qpj (m:=nx) (hlB C) hk1
 have hl0:=qpj (m:=nx) (hlB C) hk0
 have hpos:0<j:=by omega
 obtain⟨x,hx⟩:∃x,C[j]=x:=⟨_,rfl⟩
 obtain⟨y,hy⟩:∃y,C[k]=y:=⟨_,rfl⟩
 rw[hx]at hl1
 rw[hy]at hl0
 have hC':(if ltS x y=true then wD ltS ((C.set j y).set k x) k else C)=W:=by
  subst hjk
  simp only[wD,List.getElem?_eq_getElem hk1,List.getElem?_eq_getElem hk0,hx,hy]at hC
  exact hC
 simp(disch:=omega)[-iaL,-qS,hi1,hi0,hl1,hl0,hpos,qmb hjk (show k<2^62 by omega)]
 refine(quh x y).x (.sc _) ?_
 by_cases hlt2:qgF x y<0
 case neg=>
  have hf:ltS x y=false:=by simp[ltS,hlt2]
  rw[hf]at hC'
  simp at hC'
  subst hC'
  simp(disch:=omega)[hlt2,qk (show i<2^62 by omega)]
  exact⟨⟨i+1,C⟩,by dsimp only;omega,⟨hWl,he⟩,by simp[FT.Le,Wk],HWk.refl _,fun h=>h⟩
 have hf:ltS x y=true:=by simp[ltS,hlt2]
 rw[hf]at hC'
 simp at hC'
 have hs1:=qnv (m:=nx) (hlB C) hk1 y
 have hs0:=qnv (m:=nx) (j:=k) (hlB (C.set j y)) (by rw[List.length_set];exact hk0) x
 have hi2:=qkU (n:=A.length) (m:=nx) (hlB (C.set j y)) (show k<A.length by omega)
 rw[qbY]at hs1 hs0
 simp(disch:=omega)[-iaL,-qS,-stL,hi1,hi0,hl1,hl0,hi2,hs1,hs0,hlt2,qmb hjk (show k<2^62 by omega)]
 exact⟨⟨k,(C.set j y).set k x⟩,by dsimp only;omega,⟨by dsimp only;omega,by simp[hCl],hC'⟩,by simp[FT.Le,Wk],HWk.refl _,fun h=>h⟩
end Go.Abs.Tz
namespace Go.Abs.Tz
open Go Go.Abs Go.Proofs
theorem qfk:∀x:List UInt8,Op.bytesLess x x=false
 |[]=>rfl
 |a::x=>by
  have:¬a<a:=by rw[UInt8.lt_iff_toNat_lt];omega
  simp[Op.bytesLess,qfk x,this]
theorem qlE:∀x y:List UInt8,Op.bytesLess x y=false->Op.bytesLess y x=false->x=y
 |[],[],_,_=>rfl
 |[],_::_,h,_=>by simp[Op.bytesLess]at h
 |_::_,[],_,h=>by simp[Op.bytesLess]at h
 |a::x,b::y,h,k=>by
  simp only[Op.bytesLess,Bool.or_eq_false_iff,decide_eq_false_iff_not,Bool.and_eq_false_iff,beq_eq_false_iff_ne]at h k
  have e:a=b:=by
   apply UInt8.toNat_inj.1
   have h1:=h.1
   have k1:=k.1
   rw[UInt8.lt_iff_toNat_lt]at h1 k1
   omega
  subst e
  have h2:Op.bytesLess x y=false:=by rcases h.2 with h|h;exact absurd rfl h;exact h
  have k2:Op.bytesLess y x=false:=by rcases k.2 with h|h;exact absurd rfl h;exact h
  rw[qlE x y h2 k2]
theorem qiJ:∀x y z:List UInt8,Op.bytesLess x y=true->Op.bytesLess y z=true->Op.bytesLess x z=true
 |_,[],_,h,_=>by simp[Op.bytesLess]at h
 |_,_::_,[],_,k=>by simp[Op.bytesLess]at k
 |[],_::_,_::_,_,_=>rfl
 |a::x,b::y,c::z,h,k=>by
  simp only[Op.bytesLess,Bool.or_eq_true,decide_eq_true_iff,Bool.and_eq_true,beq_iff_eq]at h k ⊢
  rcases h with h|⟨rfl,h⟩
  ·rcases k with k|⟨rfl,k⟩
   ·left;rw[UInt8.lt_iff_toNat_lt]at h k ⊢;omega
   ·exact .inl h
  ·rcases k with k|⟨rfl,k⟩
   ·exact .inl k
   ·exact .inr ⟨rfl,qiJ x y z h k⟩
def ut(x y:qv):Prop:=z1 x.pred y.pred=true\/(x.pred=y.pred/\x.args<y.args)
theorem qib(a b:ByteArray):z1 a b=Op.bytesLess a.toList b.toList:=rfl
theorem toList_inj{a b:ByteArray}(h:a.toList=b.toList):a=b:=by
 rw[ByteArray.toList_eq,ByteArray.toList_eq]at h
 obtain⟨⟨x⟩⟩:=a
 obtain⟨⟨y⟩⟩:=b
 simp at h
 rw[h]
theorem qeH(x y:qv):ltS x y=true↔ut x y:=by
 have hself:∀a:ByteArray,z1 a a=false:=fun a=>qfk _
 unfold ltS ut qgF or2
 simp only[decide_eq_true_iff]
 by_cases h:z1 x.pred y.pred=true
 ·have h1:zQ x.pred y.pred=-1:=by simp[zQ,h]
  rw[h1];simp[h]
 ·have h0:z1 x.pred y.pred=false:=by simpa using h
  by_cases he:x.pred=y.pred
  ·have h1:zQ x.pred y.pred=0:=by simp[zQ,h0,he,qK,hself]
   rw[h1]
   simp only[ne_eq,not_true_eq_false,if_false]
   unfold zP
   rw[he,hself]
   by_cases h2:x.args<y.args
   ·simp[h2]
   ·by_cases h3:y.args<x.args<;>simp[h2,h3]
  ·have h1:zQ x.pred y.pred=1:=by
    have:qK x.pred y.pred=false:=by
     simp only[qK,beq_eq_false_iff_ne]
     exact fun e=>he (toList_inj e)
    simp[zQ,h0,this]
   rw[h1]
   simp[h0,he]
theorem qxc{x y:qv}(h:ut x y):¬ut y x:=by
 have hself:∀a:ByteArray,z1 a a=false:=fun a=>qfk _
 rintro(k|⟨k1,k2⟩)
 ·rcases h with h|⟨h1,_⟩
  ·have:=qiJ _ _ _ h k
   rw[qfk]at this;cases this
  ·rw[h1,hself]at k;cases k
 ·rcases h with h|⟨_,h2⟩
  ·rw[k1,hself]at h;cases h
  ·omega
theorem qpl{x y:qv}(h:¬ut x y)(k:¬ut y x):x.pred=y.pred/\x.args=y.args:=by
 have e:x.pred=y.pred:=by
  refine toList_inj (qlE _ _ ?_ ?_)
  ·simpa [ut,qib] using fun e=>h (.inl e)
  ·simpa [ut,qib] using fun e=>k (.inl e)
 refine⟨e,?_⟩
 have h1:¬x.args<y.args:=fun h'=>h (.inr ⟨e,h'⟩)
 have h2:¬y.args<x.args:=fun h'=>k (.inr ⟨e.symm,h'⟩)
 omega
theorem qpk{x y z:qv}(h:ut x y)(k:ut y z):ut x z:=by
 rcases h with h|⟨h1,h2⟩
 ·rcases k with k|⟨k1,_⟩
  ·exact .inl (qiJ _ _ _ h k)
  ·exact .inl (k1▸h)
 ·rcases k with k|⟨k1,k2⟩
  ·exact .inl (h1▸k)
  ·exact .inr ⟨h1.trans k1,by omega⟩
theorem qwM(x y:qv)(h:ltS x y=true):ltS y x=false:=by
 cases hk:ltS y x with
 |false=>rfl
 |true=>exact absurd ((qeH _ _).1 hk) (qxc ((qeH _ _).1 h))
theorem qwL(a b c:qv)(h:ltS b a=false)(k:ltS c b=false):ltS c a=false:=by
 cases hc:ltS c a with
 |false=>rfl
 |true=>
  have h1:¬ut b a:=fun e=>by rw[(qeH _ _).2 e]at h;cases h
  have k1:¬ut c b:=fun e=>by rw[(qeH _ _).2 e]at k;cases k
  have hca:=(qeH _ _).1 hc
  by_cases hbc:ut b c
  ·exact absurd (qpk hbc hca) h1
  ·obtain⟨e1,e2⟩:=qpl k1 hbc
   refine absurd ?_ h1
   unfold ut at hca ⊢
   rw[<-e1,<-e2]
   exact hca
theorem qoo{α:Type}{R:α->α->Prop}(hs:∀x y,R x y->R y x):∀{l:List α},l.Pairwise R->∀a∈l,∀b∈l,a≠b->R a b
 |[],_,a,ha,_,_,_=>by cases ha
 |c::l,h,a,ha,b,hb,hne=>by
  obtain⟨h1,h2⟩:=List.pairwise_cons.1 h
  rcases List.mem_cons.1 ha with ea|ha'
  ·rcases List.mem_cons.1 hb with eb|hb'
   ·exact absurd (ea.trans eb.symm) hne
   ·rw[ea];exact h1 b hb'
  ·rcases List.mem_cons.1 hb with eb|hb'
   ·rw[eb];exact hs _ _ (h1 a ha')
   ·exact qoo hs h2 a ha' b hb' hne
theorem quF{A A0:List qv}(hp:A.Perm A0)(hd:A0.Pairwise fun x y=>ltS x y=true\/ltS y x=true):we ltS (A.length - 1) 1 A=we ltS (A0.length - 1) 1 A0:=by
 have up:∀B:List qv,(we ltS (B.length - 1) 1 B).Pairwise fun x y=>ltS y x=false:=by
  intro B
  have hl:(we ltS (B.length - 1) 1 B).length=B.length:=(qeK ltS _ _ _).length_eq
  cases B with
  |nil=>simp[we]
  |cons b B=>
   have h:=qpo ltS qwM ((b::B).length - 1) 1 (b::B) (fun i x y hi _ _=>by omega) (by simp only[List.length_cons];omega)
   refine qmA ltS qwL _ ?_
   rw[hl]
   rw[show 1+((b::B).length - 1)=(b::B).length by simp only[List.length_cons];omega]at h
   exact h
 refine qkl (le:=fun x y=>ltS y x=false) (((qeK ltS _ _ A).trans hp).trans (qeK ltS _ _ A0).symm) (up A) (up A0) ?_
 have hall:=qoo (R:=fun x y=>ltS x y=true\/ltS y x=true) (fun _ _ h=>h.symm) hd
 intro a ha b hb h1 h2
 have ha':=hp.mem_iff.1 ((qeK ltS _ _ A).mem_iff.1 ha)
 have hb':=hp.mem_iff.1 ((qeK ltS _ _ A).mem_iff.1 hb)
 by_cases he:a=b
 ·exact he
 ·rcases hall a ha' b hb' he with h|h
  ·rw[h]at h2;cases h2
  ·rw[h]at h1;cases h1
end Go.Abs.Tz
namespace Go.Abs.Tz
open Go Go.Abs Go.Proofs
theorem qzB(n:Nat)(t:qn):Bel n (qW t):=.agg fun i c h=>by
 match i with
 |0=>simp at h;subst h;exact .sc _
 |1=>simp at h;subst h;exact .sc _
 |2=>simp at h;subst h;exact .sc _
 |i+3=>simp at h
theorem qrJ(n:Nat)(E:qm):∀(i:Nat)(kv:LV×LV),(qG E)[i]? = some kv->Bel n kv.1/\Bel n kv.2:=by
 intro i kv h
 simp only[qG,List.getElem?_map]at h
 obtain⟨e,_,rfl⟩:=Option.map_eq_some_iff.1 h
 exact⟨.sc _,qzB _ _⟩
theorem qhj(p a:qd)(hp:p.ok)(ha:a.ok)(H:qa)(o:Nat)(K:qm)(hl:look o H.objs=some (.um (qG K)))(hno:∀i m l k n,look i H.objs=some (.iter m l k n)->m≠o)(hKn:(z6 K).Nodup)
  {kv kp:HP} (hk1:zf K p a=none->kv (.sc (.map none)) H) (hk2:∀R,zf K p a=some R->kv (.map (H.next+2)) ⟨(H.next+2,.um (qG R))::H.objs,H.next+3⟩):
  cP E0 F0 92 [qg p,qg a,.map o] H kv kp:=by
 have h0:=qup p a hp ha H o K hl hno hKn
 have putback:∀(K':qm)(G:qb)(w:World)(ob:List (Nat×qc))(n:Nat),K'.Perm K->look o ob=some (.map (qG K'))->Inv G w ⟨ob,n⟩->Inv G w ⟨qy o (.um (qG K)) ob,n⟩:=by
  intro K' G w ob n hp hlo hI
  have:=hI.toUm (es':=qG K) hlo (hp.map _)
  exact this
 have hback:∀K':qm,qy o (.um (qG K)) (qy o (.map (qG K')) H.objs)=H.objs:=by
  intro K'
  rw[qbY,qfN hl]
 cases hb:zf K p a with
 |none=>
  intro hH
  have h1:Out E0 F0 (.call 92 [qg p,qg a,.map o] H) (fun r=>∃K':qm,K'.Perm K/\∃n,r=.ret (.sc (.map none)) ⟨qy o (.map (qG K')) H.objs,n⟩):=by
   refine .mono (h0 hH) fun r hr=>?_
   rcases hr with⟨u,H',rfl,_,K',hK,⟨_,rfl,n,rfl⟩|⟨R,R',hR,_⟩⟩|⟨u,H',rfl,_,hf⟩
   ·exact⟨K',hK,n,rfl⟩
   ·rw[hb]at hR;cases hR
   ·exact hf.elim
  have h2:qZ Tryz.prog E0 92 [qg p,qg a,.map o] H (fun r=>∃n,r=.ret (.sc (.map none)) ⟨H.objs,n⟩):=by
   refine(qag qbD qaK h1:qZ _ _ _ _ _ _).inv (fun v H' G' w' hT hI=>?_) (fun v H' hT=>?_)
   ·obtain⟨K',hK,n,hn⟩:=hT
    cases hn
    have:=putback K' G' w' _ n hK (jl hl) hI
    rw[hback]at this
    exact⟨_,this,n,rfl⟩
   ·obtain⟨K',hK,n,hn⟩:=hT
    cases hn
  exact .prim (h2.low (.sc _) (.inl ⟨_,H,rfl,hH,hk1 hb⟩))
 |some R=>
  intro hH
  have hon:o<H.next:=hH.look hl
  have h1:Out E0 F0 (.call 92 [qg p,qg a,.map o] H) (fun r=>∃K' R':qm,K'.Perm K/\R'.Perm R/\∃n,r=.ret (.map (H.next+2)) ⟨(H.next+2,.map (qG R'))::qy o (.map (qG K')) H.objs,n⟩):=by
   refine .mono (h0 hH) fun r hr=>?_
   rcases hr with⟨u,H',rfl,_,K',hK,⟨hn,_⟩|⟨R1,R',hR,hRp,rfl,n,rfl⟩⟩|⟨u,H',rfl,_,hf⟩
   ·rw[hb]at hn;cases hn
   ·rw[hb]at hR;cases hR
    exact⟨K',R',hK,hRp,n,rfl⟩
   ·exact hf.elim
  have h2:qZ Tryz.prog E0 92 [qg p,qg a,.map o] H (fun r=>∃n,r=.ret (.map (H.next+2)) ⟨(H.next+2,.um (qG R))::H.objs,n⟩):=by
   refine(qag qbD qaK h1:qZ _ _ _ _ _ _).inv (fun v H' G' w' hT hI=>?_) (fun v H' hT=>?_)
   ·obtain⟨K',R',hK,hR,n,hn⟩:=hT
    cases hn
    have h3:=putback K' G' w' _ n hK (by rw[qe (by omega)];exact jl hl) hI
    rw[uD (by omega),hback]at h3
    have h4:=h3.toUm (o:=H.next+2) (es':=qG R) (qq _ _ _) (hR.map _)
    rw[uQ]at h4
    exact⟨_,h4,n,rfl⟩
   ·obtain⟨K',R',hK,hR,n,hn⟩:=hT
    cases hn
  refine .prim (h2.low2 (n0:=H.next+3) (by omega) (.map (by omega)) (fun i x hx=>?_) (.inl ⟨_,_,rfl,⟨Nat.lt_succ_self _,qx.mono hH (by omega)⟩,hk2 R hb⟩))
  simp only[look]at hx
  split at hx
  ·rename_i hi
   subst hi
   simp only[Option.some.injEq]at hx
   subst hx
   exact .inr ⟨by omega,qrJ _ _⟩
  ·exact .inl hx
end Go.Abs.Tz
namespace Go.Abs.Tz
open Go Go.Abs Go.Proofs
set_option maxRecDepth 20000
set_option linter.unusedSimpArgs false
attribute [local simp ↓] yC yB jT jS yf uO zu zG jR uB vl vm yD yF yG yE jY j6 j9 jZ ga gc j7 j8 j0 jW jU jX jV vj vh vk vi yy yw yz yx yK yI yJ jj z8 ge zw zU yi vn vo yN yP yO yL yM yZ gh gq gv gp gt gu g7 g6 gC gE jB jy jM jP jz jH jL jK jJ jI jF ju jv jw jx jN jD jE jq jO jQ jA jC jG jr gI gD gY ya gF gS gW gV gU gT gO gz g0 gM gN gw g9 yb gG gK gQ gx yd g8 gy yc gL gH gJ gA gZ gi gk gj yT yW yS yU yV qq uG
attribute [local simp] faL fdL iaL ixL qS zm ze eqK eqL qX zE uA yQ vg y5 y7 y9 vc ve vf y6 vb y8 vd zM LV.cells LV.whole qq uQ gg gf stL zN ui uI qa.alloc yg ye yh yu yt yr yq yp yo yn ym yk yj qe uD
theorem qum(p a:qd)(hp:p.ok)(ha:a.ok)(H:qa):
  cP E0 F0 92 [qg p,qg a,.sc (.map none)] H (fun u H'=>(zf [] p a=none/\u=.sc (.map none)/\∃n,H'=⟨H.objs,n⟩) \/
   (∃R R',zf [] p a=some R/\List.Perm R' R/\u=.map (H.next+2)/\∃n,H'=⟨(H.next+2,.map (qG R'))::H.objs,n⟩)) (fun _ _=>False):=by
 refine zX c92 fun hH=>⟨Nat.le_of_ble_eq_true rfl,?_⟩
 have hlp:=hp.2.1
 have hla:=ha.2.1
 obtain⟨base,N⟩:=H
 obtain⟨base',hbase⟩:∃base',base=base':=⟨_,rfl⟩
 have hB:qa.Ok ⟨base,N⟩:=hH
 dsimp only
 simp(disch:=omega)[b92]
 refine(qbR p).x (qea p) ?_
 simp(disch:=omega)
 refine(qbR a).x (qea a) ?_
 cases h1:qK p.pred a.pred
 ·simp(disch:=omega)[h1]
  exact⟨⟨base,N+2⟩,(zJ hB).1,(zJ hB).2,by simp[zf,h1],N+2,rfl⟩
 by_cases h2:p.args.length=a.args.length
 case neg=>
  have h2i:¬(p.args.length:Int)=(a.args.length:Int):=by omega
  simp(disch:=omega)[h1,h2,h2i]
  exact⟨⟨base,N+2⟩,(zJ hB).1,(zJ hB).2,by simp[zf,h1,h2],N+2,rfl⟩
 have h2i:(p.args.length:Int)=(a.args.length:Int):=by omega
 have hA0:zf [] p a=zg [] p.args a.args:=by simp[zf,h1,h2]
 obtain⟨A,hA⟩:∃A,zg [] p.args a.args=A:=⟨_,rfl⟩
 simp(disch:=omega)[h1,h2i,rgL]
 refine qaJ ?_
 simp(disch:=omega)
 have hHe:∀e:qm,qa.Ok ⟨(N+2,.map (qG e))::(N+1,.cells [.str a.pred,ql a.args])::(N,.cells [.str p.pred,ql p.args])::base,N+3⟩:=fun _=>⟨Nat.lt_succ_self _,Nat.lt_succ_self _,Nat.lt_succ_self _,hB⟩
 refine qB (σ:=NNE) (fun q=>(.nd .bot (.nd .bot (.nd (.ptr N 0) (.nd (.map (N+2)) (.nd .bot (.nd (ql p.args) .nil .nil) .nil) .nil) .nil) (.nd .bot (.nd .bot (.nd .bot (.nd (.int q.i) .nil .nil) .nil) .nil) .nil)) (.nd .bot (.nd (.ptr (N+1) 0) (.nd .bot (.nd .bot (.nd (.int p.args.length) .nil .nil) .nil) .nil) .nil) .nil)))
  (fun q=>⟨(N+2,.map (qG q.e))::(N+1,.cells [.str a.pred,ql a.args])::(N,.cells [.str p.pred,ql p.args])::base,q.n⟩) (fun q=>p.args.length - q.i)
  (fun q=>N+3<=q.n/\q.i<=p.args.length/\zg q.e (p.args.drop q.i) (a.args.drop q.i)=A) ⟨0,N+4,[]⟩ ⟨by dsimp only;omega,Nat.zero_le _,hA⟩ (by simp[FT.Le,Wk])
  (zo (hHe []) (by first|exact qi.refl' _|(repeat (first|exact qi.refl (by first|omega|(dsimp only;omega))|refine qi.cons' (hHe []) (by first|omega|(dsimp only;omega)) (by first|omega|(dsimp only;omega)) ?_)))) ?_
 rintro⟨i,n,e⟩ ⟨hn,hi,he⟩ hok
 simp only at hn hi he
 by_cases hlt:i<p.args.length
 case neg=>
  rw[List.drop_eq_nil_of_le (by omega)]at he
  simp only[zg]at he
  have hc:qa.Ok ⟨(N+2,.map (qG e))::base,N+3⟩:=⟨Nat.lt_succ_self _,qx.mono hB (show N<=N+2 by omega)⟩
  have hbk:=zo hc (qoW (y:=.cells [.str a.pred,ql a.args]) (z:=.cells [.str p.pred,ql p.args]) hB hn)
  simp(disch:=omega)[hlt]
  exact⟨_,hbk.1,hbk.2,e,by rw[hA0,hA,he],e,.refl _,n,rfl⟩
 have hly:i<a.args.length:=by omega
 rw[List.drop_eq_getElem_cons hlt,List.drop_eq_getElem_cons hly]at he
 have hnone:none=A->zf [] p a=none:=fun h=>by rw[hA0,hA,h]
 by_cases hk3:p.args[i].kind=3
 case neg=>
  by_cases hq:eqT p.args[i] a.args[i]=true
  case neg=>
   have hq':eqT p.args[i] a.args[i]=false:=by simpa using hq
   simp only[eqT]at hq'
   simp only[zg,if_neg hk3,if_neg hq]at he
   simp(disch:=omega)[hlt,hly,hk3,hq']
   have hx:qi ⟨base,N⟩ ⟨(n,.cells (ui p.args[i]))::(N+2,.map (qG e))::(N+1,.cells [.str a.pred,ql a.args])::(N,.cells [.str p.pred,ql p.args])::base,n+1⟩:=(by first|exact qi.refl' _|(repeat (first|exact qi.refl (by first|omega|(dsimp only;omega))|refine qi.cons' hB (by first|omega|(dsimp only;omega)) (by first|omega|(dsimp only;omega)) ?_)))
   exact⟨⟨base,n+1⟩,(zo hB hx).1,(zo hB hx).2,hnone he,n+1,rfl⟩
  ·have hq':=hq
   simp only[eqT]at hq'
   simp only[zg,if_neg hk3,if_pos hq]at he
   simp(disch:=omega)[hlt,hly,hk3,hq',qk (show i<2^62 by omega)]
   exact⟨⟨i+1,n+1,e⟩,by dsimp only;omega,⟨by dsimp only;omega,by dsimp only;omega,he⟩,by simp[FT.Le,Wk],zo (hHe e) (by first|exact qi.refl' _|(repeat (first|exact qi.refl (by first|omega|(dsimp only;omega))|refine qi.cons' (hHe e) (by first|omega|(dsimp only;omega)) (by first|omega|(dsimp only;omega)) ?_)))⟩
 simp(disch:=omega)[hlt,hly,hk3]
 rw[qoX (E:=e) (by simp(disch:=omega)[qe])]
 have hmu:∀(l:List (Nat×qc))(m:Nat),look (N+2) l=some (.map (qG e))->muL ⟨l,m⟩ (.pl 1) (.map (N+2)) (.str p.args[i].s) (qW a.args[i])=some (qa.put ⟨l,m⟩ (N+2) (.map (qG (qaB p.args[i].s a.args[i] e)))):=fun l m h=>qkA h _ _
 cases hf:qY p.args[i].s e with
 |none=>
  simp only[zg,if_pos hk3,hf]at he
  have hsb:=qhq (v:=a.args[i]) (qdQ hf)
  simp(disch:=omega)[hlt,hly,hk3]
  rw[hmu _ _ (by simp(disch:=omega)[qe]),hsb]
  simp(disch:=omega)[hlt,hly,hk3,qk (show i<2^62 by omega)]
  have hx:qa.Ok ⟨(N+2,.map (qG e++[(.str p.args[i].s,qW a.args[i])]))::(N+1,.cells [.str a.pred,ql a.args])::(N,.cells [.str p.pred,ql p.args])::base,N+3⟩:=⟨Nat.lt_succ_self _,Nat.lt_succ_self _,Nat.lt_succ_self _,hB⟩
  refine⟨⟨i+1,n+2,e++[(p.args[i].s,a.args[i])]⟩,by dsimp only;omega,⟨by dsimp only;omega,by dsimp only;omega,he⟩,by simp[FT.Le,Wk],?_⟩
  dsimp only
  rw[show qG (e++[(p.args[i].s,a.args[i])])=qG e++[(.str p.args[i].s,qW a.args[i])] from List.map_append]
  exact zJ hx
 |some old=>
  by_cases hq:eqT old a.args[i]=true
  case neg=>
   have hq':eqT old a.args[i]=false:=by simpa using hq
   simp only[eqT]at hq'
   simp only[zg,if_pos hk3,hf,if_neg hq]at he
   simp(disch:=omega)[hlt,hly,hk3,hq']
   have hx:∀x y,qi ⟨base,N⟩ ⟨(n+1,x)::(n,y)::(N+2,.map (qG e))::(N+1,.cells [.str a.pred,ql a.args])::(N,.cells [.str p.pred,ql p.args])::base,n+1+1⟩:=fun x y=>(by first|exact qi.refl' _|(repeat (first|exact qi.refl (by first|omega|(dsimp only;omega))|refine qi.cons' hB (by first|omega|(dsimp only;omega)) (by first|omega|(dsimp only;omega)) ?_)))
   exact⟨⟨base,n+1+1⟩,(zo hB (hx _ _)).1,(zo hB (hx _ _)).2,hnone he,n+1+1,rfl⟩
  ·have hq':=hq
   simp only[eqT]at hq'
   simp only[zg,if_pos hk3,hf,if_pos hq]at he
   have hold:qaB p.args[i].s a.args[i] e=e:=qjB (by rw[hf,qgv hq])
   simp(disch:=omega)[hlt,hly,hk3,hq']
   rw[hmu _ _ (by simp(disch:=omega)[qe]),hold]
   simp(disch:=omega)[hlt,hly,hk3,qk (show i<2^62 by omega)]
   exact⟨⟨i+1,n+2,e⟩,by dsimp only;omega,⟨by dsimp only;omega,by dsimp only;omega,he⟩,by simp[FT.Le,Wk],zo (hHe e) (by first|exact qi.refl' _|(repeat (first|exact qi.refl (by first|omega|(dsimp only;omega))|refine qi.cons' (hHe e) (by first|omega|(dsimp only;omega)) (by first|omega|(dsimp only;omega)) ?_)))⟩
theorem qun(p a:qd)(hp:p.ok)(ha:a.ok)(H:qa)
  {kv kp:HP} (hk1:zf [] p a=none->kv (.sc (.map none)) H) (hk2:∀R,zf [] p a=some R->kv (.map (H.next+2)) ⟨(H.next+2,.um (qG R))::H.objs,H.next+3⟩):
  cP E0 F0 92 [qg p,qg a,.sc (.map none)] H kv kp:=by
 have h0:=qum p a hp ha H
 cases hb:zf [] p a with
 |none=>
  intro hH
  have h1:Out E0 F0 (.call 92 [qg p,qg a,.sc (.map none)] H) (fun r=>∃n,r=.ret (.sc (.map none)) ⟨H.objs,n⟩):=by
   refine .mono (h0 hH) fun r hr=>?_
   rcases hr with⟨u,H',rfl,_,⟨_,rfl,n,rfl⟩|⟨R,R',hR,_⟩⟩|⟨u,H',rfl,_,hf⟩
   ·exact⟨n,rfl⟩
   ·rw[hb]at hR;cases hR
   ·exact hf.elim
  have h2:qZ Tryz.prog E0 92 [qg p,qg a,.sc (.map none)] H (fun r=>∃n,r=.ret (.sc (.map none)) ⟨H.objs,n⟩):=qag qbD qaK h1
  exact .prim (h2.low (.sc _) (.inl ⟨_,H,rfl,hH,hk1 hb⟩))
 |some R=>
  intro hH
  have h1:Out E0 F0 (.call 92 [qg p,qg a,.sc (.map none)] H) (fun r=>∃R':qm,R'.Perm R/\∃n,r=.ret (.map (H.next+2)) ⟨(H.next+2,.map (qG R'))::H.objs,n⟩):=by
   refine .mono (h0 hH) fun r hr=>?_
   rcases hr with⟨u,H',rfl,_,⟨hn,_⟩|⟨R1,R',hR,hRp,rfl,n,rfl⟩⟩|⟨u,H',rfl,_,hf⟩
   ·rw[hb]at hn;cases hn
   ·rw[hb]at hR;cases hR
    exact⟨R',hRp,n,rfl⟩
   ·exact hf.elim
  have h2:qZ Tryz.prog E0 92 [qg p,qg a,.sc (.map none)] H (fun r=>∃n,r=.ret (.map (H.next+2)) ⟨(H.next+2,.um (qG R))::H.objs,n⟩):=by
   refine(qag qbD qaK h1:qZ _ _ _ _ _ _).inv (fun v H' G' w' hT hI=>?_) (fun v H' hT=>?_)
   ·obtain⟨R',hR,n,hn⟩:=hT
    cases hn
    have h4:=hI.toUm (o:=H.next+2) (es':=qG R) (qq _ _ _) (hR.map _)
    rw[uQ]at h4
    exact⟨_,h4,n,rfl⟩
   ·obtain⟨R',hR,n,hn⟩:=hT
    cases hn
  refine .prim (h2.low2 (n0:=H.next+3) (by omega) (.map (by omega)) (fun i x hx=>?_) (.inl ⟨_,_,rfl,⟨Nat.lt_succ_self _,qx.mono hH (by omega)⟩,hk2 R hb⟩))
  simp only[look]at hx
  split at hx
  ·rename_i hi
   subst hi
   simp only[Option.some.injEq]at hx
   subst hx
   exact .inr ⟨by omega,qrJ _ _⟩
  ·exact .inl hx
def l42:qr:=match b30.body with
 |.seq _ (.seq _ (.seq _ (.seq _ (.seq l _))))=>l
 |_=>.bad
def r42:qr:=match b30.body with
 |.seq _ (.seq _ (.seq _ (.seq _ (.seq _ r))))=>r
 |_=>.bad
def mx(a b:Int):Int:=if b > a then b else a
def ub(t:Int)(l:List Int):Int:=l.foldl mx t
theorem qwy(t a b:Int):mx (mx t a) b=mx (mx t b) a:=by
 unfold mx
 repeat' split
 all_goals omega
theorem qwH{l m:List Int}(h:l.Perm m):∀t,ub t l=ub t m:=by
 induction h with
 |nil=>intro t;rfl
 |cons x _ ih=>intro t;exact ih (mx t x)
 |swap x y l=>
  intro t
  show ub (mx (mx t y) x) l=ub (mx (mx t x) y) l
  rw[qwy]
 |trans _ _ ih1 ih2=>intro t;rw[ih1,ih2]
structure NNM where
 left:List Nat
 cur:Option Nat
 top:Int
theorem qoO(v0 v7:LV)(o:Nat)(ms:List (LV×Int))(top:Int)(H:qa)(hl:look o H.objs=some (.map (ms.map fun e=>(e.1,.int e.2)))):
  lP E0 F0 l42 (.nd (v0) (.nd .bot (.nd .bot (.nd (v7) .nil .nil) .nil) (.nd .bot (.nd (.int top) .nil .nil) .nil)) (.nd .bot .nil (.nd (.map o) .nil .nil))) H (fun e t' H'=>e=.normal/\FT.Le (.nd (v0) (.nd .bot (.nd .bot (.nd (v7) .nil .nil) .nil) (.nd .bot (.nd (.int (ub top (ms.map (·.2)))) .nil .nil) .nil)) (.nd .bot .nil (.nd (.map o) .nil .nil))) t'/\HWk H' ⟨H.objs,H.next+1⟩/\(H'.Ok->qa.Ok ⟨H.objs,H.next+1⟩)):=by
 refine ur ?_
 obtain⟨ob,N⟩:=H
 dsimp only at hl ⊢
 obtain⟨M,hM⟩:∃M,ub top (ms.map (·.2))=M:=⟨_,rfl⟩
 rw[hM]
 simp(disch:=omega)[l42,b30,rgL,hl]
 refine qB (σ:=NNM) (fun q=>(.nd (v0) (.nd .bot (.nd .bot (.nd (v7) .nil .nil) .nil) (.nd .bot (.nd (.int q.top) .nil .nil) .nil)) (.nd .bot .nil (.nd (.map o) .nil (.nd .bot .nil (.nd (.ptr N 0) .nil .nil))))))
  (fun q=>⟨(N,.iter o q.left q.cur ms.length)::ob,N+1⟩) (fun q=>q.left.length)
  (fun q=>ub q.top (q.left.filterMap (fun k=>(ms.map (·.2))[k]?))=M) ⟨List.range ms.length,none,top⟩ ?_ (by simp[FT.Le,Wk]) ⟨HWk.refl _,fun h=>h⟩ ?_
 ·dsimp only
  rw[<-hM]
  congr 1
  have:=qhz (ms.map (·.2))
  rwa [List.length_map]at this
 rintro⟨left,cur,tp⟩ hT hok
 dsimp only at hT hok
 have hlt:o<N:=by
  have h2:qa.Ok ⟨ob,N⟩:=hok.2
  exact h2.look hl
 simp(disch:=omega)
 by_cases hl0:left=[]
 ·refine⟨N,o,left,cur,ms.length,rfl,by simp[qq],.inl ⟨hl0,.inr ⟨_,by rw[qe (by omega)];exact hl,by simp⟩,?_⟩⟩
  subst hl0
  simp only[List.filterMap_nil]at hT
  have hT':tp=M:=hT
  simp(disch:=omega)[hT']
  have hB:qa.Ok ⟨ob,N⟩:=hok.2
  exact⟨by simp[FT.Le,Wk],zJ hB⟩
 ·refine⟨N,o,left,cur,ms.length,rfl,by simp[qq],.inr ⟨hl0,_,by rw[qe (by omega)];exact hl,by simp,fun j k e hj hk=>?_⟩⟩
  obtain⟨v,hv,rfl⟩:∃v,ms[k]? = some v/\e=(v.1,.int v.2):=by
   simp only[List.getElem?_map]at hk
   obtain⟨v,h1,h2⟩:=Option.map_eq_some_iff.1 hk
   exact⟨v,h1,h2.symm⟩
  have hjl:j<left.length:=(List.getElem?_eq_some_iff.1 hj).1
  have hfe:(left.filterMap (fun k=>(ms.map (·.2))[k]?)).Perm (v.2::(left.eraseIdx j).filterMap (fun k=>(ms.map (·.2))[k]?)):=by
   have:=(qeB left j k hj).filterMap (fun k=>(ms.map (·.2))[k]?)
   rwa [List.filterMap_cons_some (by rw[List.getElem?_map,hv];rfl)]at this
  rw[qwH hfe]at hT
  have hT':ub (mx tp v.2) ((left.eraseIdx j).filterMap (fun k=>(ms.map (·.2))[k]?))=M:=hT
  simp(disch:=omega)[enL,hl,hv]
  refine⟨⟨left.eraseIdx j,some k,mx tp v.2⟩,by dsimp only;rw[List.length_eraseIdx_of_lt hjl];omega,by simpa using hT',?_,HWk.refl _,fun h=>h⟩
  simp[FT.Le,Wk,mx]
end Go.Abs.Tz
