/- Part of the proof that the law CustomKeepsYears holds. Conditions: none. -/
import Derived.Test.YtjbhehjoaalhiaaGreatDoorPartD
import Derived.Test.YtjbhehjoaalhiaaGreatDoorPartF
import Derived.Lib.ItoaNum
import Derived.Laws.AppendOwn
set_option linter.unusedVariables false
set_option linter.unusedSimpArgs false
set_option linter.unusedSectionVars false
namespace Go.Abs.Tz
open Go Go.Abs Go.Proofs
def rfOf:Code->Code×Code
 |.seq _ (.seq _ (.seq _ (.seq (.seq _ (.block _ (.rangeFunc _ _ a b))) _)))=>(a,b)
 |_=>(.skip,.skip)
noncomputable def rcT(k:Nat):Code×Code:=match k with
 |0=>rfOf (((Tryz.prog.funcs[48]?).bind (·.body)).getD .skip)
 |_=>(.skip,.skip)
def powT:List (Nat×Array Value):=[(3,(Lib.pow10Tab.map fun z=>Value.int .u64 z).toArray)]
noncomputable def E0:Env:=⟨Tryz.prog,fun _=>.bot,rcT,powT⟩
noncomputable def F0:Fns:=⟨fun f b=>qi Tryz.prog f=some b,fun f args H S=>qV Tryz.prog E0 f args H S,fun k N ba bb=>qu Tryz.prog N (E0.rc k).1=some ba/\qu Tryz.prog N (E0.rc k).2=some bb⟩
abbrev qg(f:FuncId)(args:List LV)(v:LV):Prop:=qbc E0 F0 f args v
theorem qg.of{b:BFn}{f:FuncId}{args:List LV}{v:LV}(hf:qi Tryz.prog f=some b)(h:∀H:qa,H.Ok->fnP E0 F0 b args H (qdF H v) (fun _ _=>False)):qg f args v:=qbc.of_fn hf h
theorem qg.go{f:FuncId}{args:List LV}{v:LV}(h:qg f args v){l:List (Nat×qc)}{m:Nat}{kv kp:HP}(hk:∀n,m<=n->kv v ⟨l,n⟩):cP E0 F0 f args ⟨l,m⟩ kv kp:=h ⟨l,m⟩ kv kp hk
theorem qj.cons'{H:qa}(hH:H.Ok){i m:Nat}{o:qc}{l:List (Nat×qc)}(hi:H.next<=i)(hm:H.next<=m)(h:qj H ⟨l,H.next⟩):qj H ⟨(i,o)::l,m⟩:=qj.cons hH hi h hm
theorem qq{H H':qa}{u v:LV}(hH:H.Ok)(h:u=v)(he:qj H H':=by first|exact qj.refl' _|(repeat (first|exact qj.refl (by first|omega|(dsimp only;omega))|refine qj.cons' (by assumption) (by first|omega|(dsimp only;omega)) (by first|omega|(dsimp only;omega)) ?_))):qdF H v u H':=qcn hH h he
theorem zO{H:qa}{l:List (Nat×qc)}{n:Nat}(hH:H.Ok)(he:qj H ⟨l,n⟩):HWk ⟨l,n⟩ ⟨H.objs,n⟩/\(qa.Ok ⟨l,n⟩->qa.Ok ⟨H.objs,n⟩):=
 ⟨⟨Nat.le_refl _,he.2⟩,fun _=>qt.mono hH he.1⟩
theorem uw{H:qa}{l:List (Nat×qc)}{n:Nat}(hH:H.Ok)(he:qj H ⟨l,n⟩:=by first|exact qj.refl' _|(repeat (first|exact qj.refl (by first|omega|(dsimp only;omega))|refine qj.cons' (by assumption) (by first|omega|(dsimp only;omega)) (by first|omega|(dsimp only;omega)) ?_))):HWk ⟨l,n⟩ ⟨H.objs,n⟩/\(qa.Ok ⟨l,n⟩->qa.Ok ⟨H.objs,n⟩):=zO hH he
theorem qbY{α:Type}(p:α->Bool){l:List α}{i:Nat}(h:i<l.length):(l.drop i).all p=(p l[i]&&(l.drop (i+1)).all p):=by
 rw[List.drop_eq_getElem_cons h,List.all_cons]
theorem up{α:Type}{l:List α}{i:Nat}(h:i<l.length):l[i]∈l:=List.getElem_mem h
theorem ge(k:IntKind)(n:Int):(Value.int k n).oneCell'=true:=rfl
theorem gc(s:ByteArray):(Value.string s).oneCell'=true:=rfl
theorem gf(b:Bool):(Value.bool b).oneCell'=true:=rfl
theorem gw{α:Type}(a0:α)(l:List α):(a0::l)[0]? = some a0:=rfl
theorem gv{α:Type}(a0 a1:α)(l:List α):(a0::a1::l)[1]? = some a1:=rfl
theorem gu{α:Type}(a0 a1 a2:α)(l:List α):(a0::a1::a2::l)[2]? = some a2:=rfl
theorem gt{α:Type}(a0 a1 a2 a3:α)(l:List α):(a0::a1::a2::a3::l)[3]? = some a3:=rfl
theorem gq{α:Type}(a0 a1 a2 a3 a4:α)(l:List α):(a0::a1::a2::a3::a4::l)[4]? = some a4:=rfl
theorem gp{α:Type}(a0 a1 a2 a3 a4 a5:α)(l:List α):(a0::a1::a2::a3::a4::a5::l)[5]? = some a5:=rfl
theorem gk{α:Type}(a0 a1 a2 a3 a4 a5 a6:α)(l:List α):(a0::a1::a2::a3::a4::a5::a6::l)[6]? = some a6:=rfl
theorem gj{α:Type}(a0 a1 a2 a3 a4 a5 a6 a7:α)(l:List α):(a0::a1::a2::a3::a4::a5::a6::a7::l)[7]? = some a7:=rfl
theorem gi{α:Type}(a0 a1 a2 a3 a4 a5 a6 a7 a8:α)(l:List α):(a0::a1::a2::a3::a4::a5::a6::a7::a8::l)[8]? = some a8:=rfl
theorem gh{α:Type}(a0 a1 a2 a3 a4 a5 a6 a7 a8 a9:α)(l:List α):(a0::a1::a2::a3::a4::a5::a6::a7::a8::a9::l)[9]? = some a9:=rfl
structure NN where
 i:Nat
 n:Nat
structure Term where
 kind:Int
 n:Int
 s:ByteArray
structure Atom where
 pred:ByteArray
 args:List Term
abbrev U(n:Int):LV:=.sc (.int .u8 n)
abbrev zF(t:Term):List LV:=[.int t.kind,.int t.n,.str t.s]
abbrev zl(t:Term):LV:=.agg (zF t)
abbrev qz(l:List Term):LV:=.sl (l.map zl) .no
abbrev qh(a:Atom):LV:=.agg [.str a.pred,qz a.args]
def lessB(a b:ByteArray):Bool:=Op.bytesLess a.toList b.toList
def eqBA(a b:ByteArray):Bool:=a.toList==b.toList
theorem ze(a b:ByteArray):eqB 1 (.sc (.string a)) (.sc (.string b))=some (eqBA a b):=rfl
theorem ut(k:IntKind)(a b:Int):eqB 0 (.sc (.int k a)) (.sc (.int k b))=some (decide (a=b)):=by
 simp only[eqB,if_true]
 congr 1
theorem gV(a b:Bool):eqB 2 (.sc (.bool a)) (.sc (.bool b))=some (a==b):=rfl
theorem yk(k:IntKind)(a b:Int):zI .add (.sc (.int k a)) (.sc (.int k b))=some (.sc (.int k (k.wrap (a+b)))):=by simp[zI]
theorem g9(k:IntKind)(a b:Int):zI .sub (.sc (.int k a)) (.sc (.int k b))=some (.sc (.int k (k.wrap (a - b)))):=by simp[zI]
theorem yb(k:IntKind)(a b:Int):zI .lss (.sc (.int k a)) (.sc (.int k b))=some (.sc (.bool (decide (a<b)))):=by simp[zI]
theorem yd(k:IntKind)(a b:Int):zI .leq (.sc (.int k a)) (.sc (.int k b))=some (.sc (.bool (decide (a<=b)))):=by simp[zI]
theorem yf(k:IntKind)(a b:Int):zI .gtr (.sc (.int k a)) (.sc (.int k b))=some (.sc (.bool (decide (b<a)))):=by simp[zI]
theorem yh(k:IntKind)(a b:Int):zI .geq (.sc (.int k a)) (.sc (.int k b))=some (.sc (.bool (decide (b<=a)))):=by simp[zI]
theorem yj(a b:ByteArray):zI .add (.sc (.string a)) (.sc (.string b))=if a.size+b.size<=2^40 then some (.str (a++b)) else none:=rfl
theorem ya(a b:ByteArray):zI .lss (.sc (.string a)) (.sc (.string b))=some (.sc (.bool (lessB a b))):=rfl
theorem ye(a b:ByteArray):zI .gtr (.sc (.string a)) (.sc (.string b))=some (.sc (.bool !(lessB a b||eqBA a b))):=rfl
theorem yc(a b:ByteArray):zI .leq (.sc (.string a)) (.sc (.string b))=some (.sc (.bool (lessB a b||eqBA a b))):=rfl
theorem yg(a b:ByteArray):zI .geq (.sc (.string a)) (.sc (.string b))=some (.sc (.bool !lessB a b)):=rfl
theorem qjf(s:ByteArray):eqBA s ⟨⟨[]⟩⟩=decide (s.size=0):=by
 unfold eqBA
 rw[ByteArray.toList_eq,ByteArray.toList_eq]
 rcases s with⟨⟨l⟩⟩
 cases l with
 |nil=>rfl
 |cons a l=>rfl
theorem yX{n:Int}(h1:-2^63<=n)(h2:n<2^63):IntKind.wrap .i64 n=n:=by
 have h64:(IntKind.i64.bits:Nat)=64:=rfl
 have hs:IntKind.i64.signed=true:=rfl
 simp only[IntKind.wrap,h64,hs,Bool.true_and]
 by_cases h0:0<=n
 ·have e1:n % (2^64:Int)=n:=by omega
  rw[e1]
  split
  ·rename_i hge;simp at hge;omega
  ·rfl
 ·have e1:n % (2^64:Int)=n+2^64:=by omega
  rw[e1]
  split
  ·omega
  ·rename_i hge;simp at hge;omega
theorem qw{n:Nat}(h:n<2^62):IntKind.wrap .i64 ((n:Int)+1)=((n+1:Nat):Int):=by
 rw[yX (by omega) (by omega)];omega
theorem vJ{H:qa}{u v:LV}{n:Nat}(hH:H.Ok)(h:u=v)(hn:H.next<=n):qdF H v u ⟨H.objs,n⟩:=qcn hH h (qj.refl hn)
theorem vI{H:qa}{u v:LV}(hH:H.Ok)(h:u=v):qdF H v u H:=qcn hH h (qj.refl' H)
end Go.Abs.Tz
namespace Go.Abs.Tz
open Go Go.Abs Go.Proofs
set_option maxRecDepth 20000
set_option linter.unusedSimpArgs false
attribute [local simp ↓] gF gD uZ uY gd zX qW zk uX zU yq yr gG gI gJ gH jd jg jj je jk jl jh ji jf jb u9 jc ja yo ym yp yn gA gy gC gz gM gK gL ue zz jm qS jn gg yt yu gQ gT gS gN gO g8 jp jw jz jv jx jy j5 j3 jF jH uH uE uS uV uF uN uR uQ uP uO uL uA uB uC uD uT uJ uK uy uU uW uG uI uM uz jL jG jY j8 jI jT jX jW jV jU jR jD j0 jP jQ jA j7 j9 jJ jN jS jB gb j6 jC ga jO jK jM jE jZ jq ju jr gY g7 gW gZ g6 qm uo
attribute [local simp] faL fdL iaL ixL za q9 qN eqK eqL qL ze ut gV yk g9 yb yd yf yh yj ya ye yc yg zr LV.cells LV.whole qm uf zK jo stL zw zF zV qa.alloc ge gc gf gw gv gu gt gq gp gk gj gi gh qd ug
def qeD(n:Int):Bool:=decide (97<=n)&&decide (n<=122)
def capB(n:Int):Bool:=decide (65<=n)&&decide (n<=90)
def qft(n:Int):Bool:=decide (48<=n)&&decide (n<=57)
def qfd(n:Int):Bool:=qeD n||capB n
theorem qks(n:Int):qg 131 [U n] (.bool (qeD n)):=by
 refine qg.of c131 fun H hH=>⟨Nat.le_of_ble_eq_true rfl,?_⟩
 simp[b131,qei,qfj,qfk]
 repeat' (first|apply And.intro|intro _)
 all_goals first|omega|(refine vI hH ?_;simp_all [qeD];done)|(refine vI hH ?_;simp_all [qeD];omega)
theorem qkH(n:Int):qg 170 [U n] (.bool (capB n)):=by
 refine qg.of c170 fun H hH=>⟨Nat.le_of_ble_eq_true rfl,?_⟩
 simp[b170,qei,qfj,qfk]
 repeat' (first|apply And.intro|intro _)
 all_goals first|omega|(refine vI hH ?_;simp_all [capB];done)|(refine vI hH ?_;simp_all [capB];omega)
theorem qrn(n:Int):qg 169 [U n] (.bool (qft n)):=by
 refine qg.of c169 fun H hH=>⟨Nat.le_of_ble_eq_true rfl,?_⟩
 simp[b169,qei,qfj,qfk]
 repeat' (first|apply And.intro|intro _)
 all_goals first|omega|(refine vI hH ?_;simp_all [qft];done)|(refine vI hH ?_;simp_all [qft];omega)
theorem qqU(n:Int):qg 167 [U n] (.bool (qfd n)):=by
 refine qg.of c167 fun H hH=>⟨Nat.le_of_ble_eq_true rfl,?_⟩
 simp[b167]
 refine(qks n).go fun m hm=>?_
 simp
 cases h:qeD n
 ·simp
  refine(qkH n).go fun k hk=>?_
  simp
  exact vJ hH (by simp[qfd,h]) (Nat.le_trans hm hk)
 ·simp
  exact vJ hH (by simp[qfd,h]) hm
theorem qey(a b c:Int):qg 70 [.int a,.int b,.int c] (.bool (decide (b<=a)&&decide (a<=c))):=by
 refine qg.of c70 fun H hH=>⟨Nat.le_of_ble_eq_true rfl,?_⟩
 simp[b70,qei,qfj,qfk]
 repeat' (first|apply And.intro|intro _)
 all_goals first|omega|(refine vI hH ?_;simp_all [];done)|(refine vI hH ?_;simp_all [];omega)
theorem qkz(a:ByteArray):qg 162 [.str a] (.bool false):=by
 refine qg.of c162 fun H hH=>⟨Nat.le_of_ble_eq_true rfl,?_⟩
 simp[b162]
 exact vI hH (by simp[eqBA])
theorem qky(a:Int):qg 152 [.int a] (.bool false):=by
 refine qg.of c152 fun H hH=>⟨Nat.le_of_ble_eq_true rfl,?_⟩
 simp[b152]
 exact vI hH rfl
def cmpB(a b:ByteArray):Int:=if lessB a b then -1 else if eqBA a b then 0 else 1
def cmpI(a b:Int):Int:=if a<b then -1 else if b<a then 1 else 0
theorem qkE(a b:ByteArray):qg 104 [.str a,.str b] (.int (cmpB a b)):=by
 refine qg.of c104 fun H hH=>⟨Nat.le_of_ble_eq_true rfl,?_⟩
 simp[b104]
 refine(qkz a).go fun n hn=>?_
 simp
 refine(qkz b).go fun m hm=>?_
 have h1:H.next<=m:=Nat.le_trans hn hm
 cases h:lessB a b
 ·cases h':eqBA a b
  ·simp[h,h']
   exact vJ hH (by simp[cmpB,h,h']) h1
  ·simp[h,h']
   exact vJ hH (by simp[cmpB,h,h']) h1
 ·simp[h]
  exact vJ hH (by simp[cmpB,h]) h1
theorem qfS(a b:Int):qg 94 [.int a,.int b] (.int (cmpI a b)):=by
 refine qg.of c94 fun H hH=>⟨Nat.le_of_ble_eq_true rfl,?_⟩
 simp[b94]
 refine(qky a).go fun n hn=>?_
 simp
 refine(qky b).go fun m hm=>?_
 have h1:H.next<=m:=Nat.le_trans hn hm
 by_cases h:a<b
 ·simp[h]
  exact vJ hH (by simp[cmpI,h]) h1
 ·by_cases h':b<a
  ·simp[h,h']
   exact vJ hH (by simp[cmpI,h,h']) h1
  ·simp[h,h']
   exact vJ hH (by simp[cmpI,h,h']) h1
theorem qez(a b:Int):qg 125 [.int a,.int b] (.int (cmpI a b)):=by
 refine qg.of c125 fun H hH=>⟨Nat.le_of_ble_eq_true rfl,?_⟩
 simp[b125,qei,qfj,qfk]
 repeat' (first|apply And.intro|intro _)
 all_goals first|omega|(refine vI hH ?_;simp_all [cmpI];done)|(refine vI hH ?_;simp_all [cmpI];omega)
theorem qhp(a b:ByteArray):qg 124 [.str a,.str b] (.int (cmpB a b)):=by
 refine qg.of c124 fun H hH=>⟨Nat.le_of_ble_eq_true rfl,?_⟩
 cases h:lessB a b
 ·cases h':eqBA a b
  ·simp[b124,h,h']
   exact vI hH (by simp[cmpB,h,h'])
  ·simp[b124,h,h']
   exact vI hH (by simp[cmpB,h,h'])
 ·simp[b124,h]
  exact vI hH (by simp[cmpB,h])
def wL(p:Int->Bool):List UInt8->Nat
 |[]=>0
 |c::r=>if p (c.toNat:Int) then wL p r+1 else 0
def sL(s:ByteArray):List UInt8:=s.data.toList
theorem qpn{s:ByteArray}{i:Nat}(h:i<s.size):∃c,s.data[i]'h=c/\(sL s).drop i=c::(sL s).drop (i+1):=by
 have h':i<s.data.size:=h
 refine⟨s.data[i],rfl,?_⟩
 have:i<(sL s).length:=by simpa [sL] using h'
 rw[List.drop_eq_getElem_cons this]
 simp[sL]
theorem t_run(s:ByteArray)(hs:s.size<2^40)(f:FuncId)(p:Int->Bool)(hp:∀n,qg f [U n] (.bool (p n))):qg 165 [.str s,.int 0,.fn (.func f) [] []] (.int (wL p (sL s))):=by
 refine qg.of c165 fun H hH=>⟨Nat.le_of_ble_eq_true rfl,?_⟩
 simp[b165]
 refine qE (σ:=NN) (fun q=>(.nd (.str s) (.nd (.int q.i) .nil .nil) (.nd (.fn (.func f) [] []) .nil .nil))) (fun q=>⟨H.objs,q.n⟩) (fun q=>s.size - q.i)
  (fun q=>H.next<=q.n/\q.i<=s.size/\q.i+wL p ((sL s).drop q.i)=wL p (sL s)) ⟨0,H.next⟩ ⟨Nat.le_refl _,Nat.zero_le _,by simp⟩ (by simp[FT.Le,Wk]) ⟨HWk.refl _,fun h=>h⟩ ?_
 rintro⟨i,n⟩ ⟨hn,hi,he⟩ hok
 simp only at hn hi he
 by_cases hlt:i<s.size
 ·obtain⟨c,hc,hd⟩:=qpn hlt
  rw[hd]at he
  simp[hlt,hc]
  refine(hp _).go fun n1 h1=>?_
  cases hl:p (c.toNat:Int)
  ·simp[hlt,hc]
   refine vJ hH ?_ (by omega)
   simp[wL,hl]at he
   simp[he]
  ·simp[qw (show i<2^62 by omega)]
   refine⟨⟨i+1,n1⟩,by dsimp only;omega,⟨by dsimp only;omega,by dsimp only;omega,?_⟩,by simp[FT.Le,Wk],HWk.refl _,fun h=>h⟩
   simp[wL,hl]at he
   dsimp only
   omega
 ·obtain rfl:i=s.size:=by omega
  simp
  refine vJ hH ?_ (by omega)
  rw[List.drop_eq_nil_of_le (by simp[sL])]at he
  simp[wL]at he
  simp[he]
def qaL(n:Int):Bool:=qfd n||qft n
theorem qqR(n:Int):qg 180 [U n] (.bool (qaL n)):=by
 refine qg.of c180 fun H hH=>⟨Nat.le_of_ble_eq_true rfl,?_⟩
 simp[b180]
 refine(qqU _).go fun m hm=>?_
 cases h:qfd n
 ·simp
  refine(qrn _).go fun k hk=>?_
  simp
  exact vJ hH (by simp[qaL,h]) (Nat.le_trans hm hk)
 ·simp
  exact vJ hH (by simp[qaL,h]) hm
def qfn(lo hi:Int):List UInt8->Bool
 |[]=>false
 |c::_=>decide (lo<=(c.toNat:Int))&&decide ((c.toNat:Int)<=hi)
def yR(lo hi:Int)(s:ByteArray):Bool:=decide (1<=s.size)&&(decide (s.size<=24)&&(!eqBA s ⟨⟨[105,102]⟩⟩&&(!eqBA s ⟨⟨[110,111,116]⟩⟩&&(qfn lo hi (sL s)&&decide (wL qaL (sL s)=s.size)))))
theorem byte0{s:ByteArray}(h:0<s.size):∃c r,s.data[0]'h=c/\sL s=c::r:=by
 obtain⟨c,h1,h2⟩:=qpn h
 exact⟨c,_,h1,by simpa using h2⟩
theorem qhq(s:ByteArray)(hs:s.size<2^40)(f:FuncId)(lo hi:Int)(hp:∀n,qg f [U n] (.bool (decide (lo<=n)&&decide (n<=hi)))):
  qg 130 [.str s,.fn (.func f) [] []] (.bool (yR lo hi s)):=by
 refine qg.of c130 fun H hH=>⟨Nat.le_of_ble_eq_true rfl,?_⟩
 by_cases h0:s.size=0
 ·simp[b130,qjf,h0]
  exact vI hH (by simp[yR,h0])
 have h0':0<s.size:=by omega
 by_cases h24:s.size<=24
 case neg=>
  have hi24:¬(s.size:Int)<=24:=by omega
  simp[b130,qjf,h0,h24,hi24]
  exact vI hH (by simp[yR,h24])
 obtain⟨c,r,hc,hr⟩:=byte0 h0'
 have hi24:(s.size:Int)<=24:=by omega
 simp[b130,qjf,hi24,h24,hc,h0',h0]
 refine(hp _).go fun n1 h1=>?_
 have hf:qfn lo hi (sL s)=(decide (lo<=(c.toNat:Int))&&decide ((c.toNat:Int)<=hi)):=by rw[hr];rfl
 rw[<-hf]
 cases hfb:qfn lo hi (sL s)
 ·simp
  exact vJ hH (by simp[yR,hfb]) h1
 simp
 refine(t_run s hs _ qaL qqR).go fun n2 h2=>?_
 have hn:H.next<=n2:=Nat.le_trans h1 h2
 by_cases hr:wL qaL (sL s)=s.size
 case neg=>
  have hri:((wL qaL (sL s):Nat):Int)≠(s.size:Int):=by omega
  simp[hri]
  refine vJ hH ?_ hn
  have:decide (wL qaL (sL s)=s.size)=false:=by simpa using hr
  simp only[yR,this,Bool.and_false]
 cases h5:eqBA s ⟨⟨[105,102]⟩⟩
 ·cases h6:eqBA s ⟨⟨[110,111,116]⟩⟩
  ·simp[hr,h5,h6]
   exact vJ hH (by simp[yR,hr,h5,h6,h24,hfb];omega) hn
  ·simp[hr,h5,h6]
   exact vJ hH (by simp[yR,h6]) hn
 ·simp[hr,h5]
  exact vJ hH (by simp[yR,h5]) hn
def Term.ok(t:Term):Prop:=t.s.size<2^40
def zg(t:Term):Bool:=
 if t.kind=1 then eqBA t.s ⟨⟨[]⟩⟩&&(decide (-1000000000<=t.n)&&decide (t.n<=1000000000))
 else if t.kind=2 then decide (t.n=0)&&yR 97 122 t.s
 else if t.kind=3 then decide (t.n=0)&&yR 65 90 t.s
 else false
theorem qmh(n:Int):qg 131 [U n] (.bool (decide (97<=n)&&decide (n<=122))):=qks n
theorem qsP(n:Int):qg 170 [U n] (.bool (decide (65<=n)&&decide (n<=90))):=qkH n
theorem qhs(t:Term)(ht:t.ok):qg 132 [zl t] (.bool (zg t)):=by
 refine qg.of c132 fun H hH=>⟨Nat.le_of_ble_eq_true rfl,?_⟩
 by_cases h1:t.kind=1
 ·cases h2:eqBA t.s ⟨⟨[]⟩⟩
  ·simp[qcC,h1,h2]
   exact qq hH (by simp[zg,h1,h2])
  ·simp[qcC,h1,h2]
   refine(qey _ _ _).go fun n hn=>?_
   simp
   exact qq hH (by simp[zg,h1,h2])
 by_cases h2:t.kind=2
 ·by_cases h3:t.n=0
  ·simp[qcC,h2,h3]
   refine(qhq t.s ht _ _ _ qmh).go fun n hn=>?_
   simp
   exact qq hH (by simp[zg,h2,h3])
  ·simp[qcC,h2,h3]
   exact qq hH (by simp[zg,h2,h3])
 by_cases h3:t.kind=3
 ·by_cases h4:t.n=0
  ·simp[qcC,h3,h4]
   refine(qhq t.s ht _ _ _ qsP).go fun n hn=>?_
   simp
   exact qq hH (by simp[zg,h3,h4])
  ·simp[qcC,h3,h4]
   exact qq hH (by simp[zg,h3,h4])
 simp[qcC,h1,h2,h3]
 exact qq hH (by simp[zg,h1,h2,h3])
def Atom.ok(a:Atom):Prop:=a.pred.size<2^40/\a.args.length<2^40/\∀t∈a.args,Term.ok t
def qR(a:Atom):Bool:=yR 97 122 a.pred&&(decide (a.args.length<=3)&&a.args.all zg)
theorem qeA(a:Atom)(ha:a.ok):qg 65 [qh a] (.bool (qR a)):=by
 refine qg.of c65 fun H hH=>⟨Nat.le_of_ble_eq_true rfl,?_⟩
 simp[b65]
 refine(qhq a.pred ha.1 _ _ _ qmh).go fun n hn=>?_
 cases h1:yR 97 122 a.pred
 ·simp
  exact qq hH (by simp[qR,h1])
 by_cases h2:(3:Int)<(a.args.length:Int)
 ·simp[h2]
  exact qq hH (by simp[qR,h1,show ¬a.args.length<=3 by omega])
 have h3:a.args.length<=3:=by omega
 simp[h2]
 obtain⟨A,hA⟩:∃A,a.args.all zg=A:=⟨_,rfl⟩
 refine qE (σ:=NN) (fun q=>(.nd (qh a) (.nd .bot .nil (.nd .bot (.nd .bot (.nd (.int a.args.length) .nil .nil) .nil) .nil)) (.nd (.bool false) (.nd .bot (.nd .bot (.nd (qz a.args) .nil .nil) .nil) .nil) (.nd .bot (.nd .bot (.nd (.int q.i) .nil .nil) .nil) .nil)))) (fun q=>⟨H.objs,q.n⟩) (fun q=>a.args.length - q.i)
  (fun q=>H.next<=q.n/\q.i<=a.args.length/\(a.args.drop q.i).all zg=A) ⟨0,n⟩ ⟨by dsimp only;omega,Nat.zero_le _,hA⟩ (by simp[FT.Le,Wk]) (uw hH) ?_
 rintro⟨i,n⟩ ⟨hn,hi,he⟩ hok
 simp only at hn hi he
 by_cases hlt:i<a.args.length
 ·rw[qbY zg hlt]at he
  simp[hlt]
  refine(qhs a.args[i] (ha.2.2 _ (up hlt))).go fun n1 h1'=>?_
  cases ht:zg a.args[i]
  ·rw[ht,Bool.false_and]at he
   simp
   exact qq hH (by simp[qR,h1,hA,<-he])
  ·rw[ht,Bool.true_and]at he
   simp[qw (show i<2^62 by omega)]
   exact⟨⟨i+1,n1⟩,by dsimp only;omega,⟨by dsimp only;omega,by dsimp only;omega,he⟩,by simp[FT.Le,Wk],uw hH⟩
 ·obtain rfl:i=a.args.length:=by omega
  rw[List.drop_eq_nil_of_le (Nat.le_refl _),List.all_nil]at he
  simp
  exact qq hH (by simp[qR,h1,h3,hA,<-he])
def ww(t:Term):Bool:=!decide (t.kind=3)
def Term.small(t:Term):Bool:=decide (t.s.size<=40)
def Atom.small(a:Atom):Bool:=decide (a.pred.size<=40)&&(decide (a.args.length<=6)&&a.args.all Term.small)
theorem qfR(a:Atom):qg 16 [qh a] (.bool a.small):=by
 refine qg.of c16 fun H hH=>⟨Nat.le_of_ble_eq_true rfl,?_⟩
 by_cases h1:(40:Int)<(a.pred.size:Int)
 ·simp[b16,h1]
  exact qq hH (by simp[Atom.small,show ¬a.pred.size<=40 by omega])
 have h1':a.pred.size<=40:=by omega
 by_cases h2:(6:Int)<(a.args.length:Int)
 ·simp[b16,h1,h2]
  exact qq hH (by simp[Atom.small,show ¬a.args.length<=6 by omega])
 have h2':a.args.length<=6:=by omega
 simp[b16,h1,h2]
 obtain⟨A,hA⟩:∃A,a.args.all Term.small=A:=⟨_,rfl⟩
 refine qE (σ:=NN) (fun q=>(.nd (qh a) (.nd (.ptr H.next 0) (.nd (.int q.i) .nil .nil) .nil) (.nd (.bool false) .nil .nil))) (fun q=>⟨(H.next,.cells [.str a.pred,qz a.args])::H.objs,q.n⟩) (fun q=>a.args.length - q.i)
  (fun q=>H.next+1<=q.n/\q.i<=a.args.length/\(a.args.drop q.i).all Term.small=A) ⟨0,H.next+1⟩ ⟨by dsimp only;omega,Nat.zero_le _,hA⟩ (by simp[FT.Le,Wk]) ⟨HWk.refl _,fun h=>h⟩ ?_
 rintro⟨i,n⟩ ⟨hn,hi,he⟩ hok
 simp only at hn hi he
 by_cases hlt:i<a.args.length
 ·rw[qbY Term.small hlt]at he
  by_cases hk:(40:Int)<(a.args[i].s.size:Int)
  ·have ht:Term.small a.args[i]=false:=by simp[Term.small];omega
   rw[ht,Bool.false_and]at he
   simp[hlt,hk]
   exact qq hH (by simp[Atom.small,hA,<-he])
  ·have ht:Term.small a.args[i]=true:=by simp[Term.small];omega
   rw[ht,Bool.true_and]at he
   simp[hlt,hk,qw (show i<2^62 by omega)]
   exact⟨⟨i+1,n⟩,by dsimp only;omega,⟨by dsimp only;omega,by dsimp only;omega,he⟩,by simp[FT.Le,Wk],HWk.refl _,fun h=>h⟩
 ·obtain rfl:i=a.args.length:=by omega
  rw[List.drop_eq_nil_of_le (Nat.le_refl _),List.all_nil]at he
  simp
  exact qq hH (by simp[Atom.small,h1',h2',hA,<-he])
theorem Atom.small_ok{a:Atom}(h:a.small=true):a.ok:=by
 simp[Atom.small,Term.small]at h
 exact⟨by omega,by omega,fun t ht=>by have:=h.2.2 t ht;unfold Term.ok;omega⟩
def or3(a b c:Int):Int:=if a≠0 then a else if b≠0 then b else c
theorem t_or(a b c:Int):qg 103 [.sl [.int a,.int b,.int c] .full] (.int (or3 a b c)):=by
 refine qg.of c103 fun H hH=>⟨Nat.le_of_ble_eq_true rfl,?_⟩
 simp[b103]
 refine qbr ?_
 by_cases ha:a=0
 case neg=>
  simp[ha]
  exact qq hH (by simp[or3,ha])
 simp[ha,yX]
 refine qbr ?_
 by_cases hb:b=0
 case neg=>
  simp[hb]
  exact qq hH (by simp[or3,ha,hb])
 simp[hb,yX]
 refine qbr ?_
 by_cases hc:c=0
 case neg=>
  simp[hc]
  exact qq hH (by simp[or3,ha,hb,hc])
 simp[hc,yX]
 refine qbr ?_
 simp
 exact qq hH (by simp[or3,ha,hb,hc])
def cmpT(x y:Term):Int:=or3 (cmpI x.kind y.kind) (cmpI x.n y.n) (cmpB x.s y.s)
theorem qru(x y:Term):qg 157 [zl x,zl y] (.int (cmpT x y)):=by
 refine qg.of c157 fun H hH=>⟨Nat.le_of_ble_eq_true rfl,?_⟩
 simp(disch:=omega)[b157]
 refine(qfS _ _).go fun n hn=>?_
 simp(disch:=omega)
 refine(qfS _ _).go fun n1 hn1=>?_
 simp(disch:=omega)
 refine(qkE _ _).go fun n2 hn2=>?_
 simp(disch:=omega)
 refine(t_or _ _ _).go fun n3 hn3=>?_
 simp(disch:=omega)
 exact qq hH (by simp[cmpT])
def cmpTs:List Term->List Term->Int
 |[],[]=>0
 |[],_::_=>-1
 |_::_,[]=>1
 |x::xs,y::ys=>if cmpT x y≠0 then cmpT x y else cmpTs xs ys
theorem qrt(x y:List Term)(hx:x.length<2^40)(hy:y.length<2^40):qg 156 [qz x,qz y,.fn (.func 157) [] []] (.int (cmpTs x y)):=by
 refine qg.of c156 fun H hH=>⟨Nat.le_of_ble_eq_true rfl,?_⟩
 simp(disch:=omega)[b156]
 obtain⟨A,hA⟩:∃A,cmpTs x y=A:=⟨_,rfl⟩
 rw[hA]
 refine qE (σ:=NN) (fun q=>(.nd (qz x) (.nd (qz y) (.nd .bot .nil (.nd (qz x) .nil .nil)) (.nd .bot .nil (.nd (.int q.i) .nil .nil))) (.nd (.fn (.func 157) [] []) (.nd .bot .nil (.nd (.int x.length) .nil .nil)) .nil))) (fun q=>⟨H.objs,q.n⟩) (fun q=>x.length - q.i)
  (fun q=>H.next<=q.n/\q.i<=x.length/\q.i<=y.length/\cmpTs (x.drop q.i) (y.drop q.i)=A) ⟨0,H.next⟩ ⟨Nat.le_refl _,Nat.zero_le _,Nat.zero_le _,hA⟩ (by simp[FT.Le,Wk]) (uw hH) ?_
 rintro⟨i,n⟩ ⟨hn,hi,hj,he⟩ hok
 simp only at hn hi hj he
 by_cases hlt:i<x.length
 ·by_cases hly:i<y.length
  ·rw[List.drop_eq_getElem_cons hlt,List.drop_eq_getElem_cons hly]at he
   have hly':¬(y.length:Int)<=(i:Int):=by omega
   simp(disch:=omega)[hlt,hly,hly']
   refine(qru _ _).go fun n1 h1=>?_
   by_cases hc:cmpT x[i] y[i]=0
   ·simp[cmpTs,hc]at he
    simp(disch:=omega)[hc,qw (show i<2^62 by omega)]
    exact⟨⟨i+1,n1⟩,by dsimp only;omega,⟨by dsimp only;omega,by dsimp only;omega,by dsimp only;omega,he⟩,by simp[FT.Le,Wk],uw hH⟩
   ·simp[cmpTs,hc]at he
    simp(disch:=omega)[hc]
    exact qq hH (by simp[<-he])
  ·have hly':(y.length:Int)<=(i:Int):=by omega
   obtain rfl:i=y.length:=by omega
   rw[List.drop_eq_getElem_cons hlt,List.drop_eq_nil_of_le (Nat.le_refl _)]at he
   simp(disch:=omega)[hlt,hly']
   simp[cmpTs]at he
   exact qq hH (by simp[<-he])
 ·obtain rfl:i=x.length:=by omega
  rw[List.drop_eq_nil_of_le (Nat.le_refl _)]at he
  by_cases hly:x.length<y.length
  ·rw[List.drop_eq_getElem_cons hly]at he
   simp(disch:=omega)[hly]
   simp[cmpTs]at he
   exact qq hH (by simp[<-he])
  ·rw[List.drop_eq_nil_of_le (by omega)]at he
   simp(disch:=omega)[hly]
   simp[cmpTs]at he
   exact qq hH (by simp[<-he])
def cmpA(a b:Atom):Int:=or3 (cmpB a.pred b.pred) (cmpI a.args.length b.args.length) (cmpTs a.args b.args)
theorem qkO(a b:Atom)(ha:a.ok)(hb:b.ok):qg 96 [qh a,qh b] (.int (cmpA a b)):=by
 refine qg.of c96 fun H hH=>⟨Nat.le_of_ble_eq_true rfl,?_⟩
 simp(disch:=omega)[b96]
 refine(qkE _ _).go fun n hn=>?_
 simp(disch:=omega)
 refine(qfS _ _).go fun n1 hn1=>?_
 simp(disch:=omega)
 refine(qrt _ _ ha.2.1 hb.2.1).go fun n2 hn2=>?_
 simp(disch:=omega)
 refine(t_or _ _ _).go fun n3 hn3=>?_
 simp(disch:=omega)
 exact qq hH (by simp[cmpA])
structure NNC where
 i:Nat
 n:Nat
 c:Int
theorem qqN(a b:Atom)(ha:a.ok)(hb:b.ok):qg 59 [qh a,qh b] (.int (cmpA a b)):=by
 have hla:=ha.2.1
 have hlb:=hb.2.1
 refine qg.of c59 fun H hH=>⟨Nat.le_of_ble_eq_true rfl,?_⟩
 have hH2:qa.Ok ⟨(H.next+1,.cells [.str b.pred,qz b.args])::(H.next,.cells [.str a.pred,qz a.args])::H.objs,H.next+2⟩:=⟨Nat.lt_succ_self _,Nat.lt_succ_self _,hH⟩
 simp(disch:=omega)[b59]
 refine(qhp _ _).go fun n hn=>?_
 by_cases h1:cmpB a.pred b.pred=0
 ·simp(disch:=omega)[h1]
  refine(qez _ _).go fun n1 hn1=>?_
  simp(disch:=omega)
  have hR:cmpA a b=if cmpI a.args.length b.args.length≠0 then cmpI a.args.length b.args.length else cmpTs a.args b.args:=by simp[cmpA,or3,h1]
  refine qE (σ:=NNC) (fun q=>(.nd .bot (.nd .bot (.nd (.ptr (H.next+1) 0) .nil .nil) (.nd (.int q.c) .nil .nil)) (.nd (.ptr H.next 0) .nil (.nd (.int q.i) .nil .nil)))) (fun q=>⟨(H.next+1,.cells [.str b.pred,qz b.args])::(H.next,.cells [.str a.pred,qz a.args])::H.objs,q.n⟩) (fun q=>a.args.length - q.i)
   (fun q=>H.next+2<=q.n/\q.i<=a.args.length/\((q.c≠0/\q.c=cmpA a b)\/(q.c=0/\a.args.length=b.args.length/\cmpTs (a.args.drop q.i) (b.args.drop q.i)=cmpA a b))) ⟨0,n1,cmpI a.args.length b.args.length⟩ ⟨by dsimp only;omega,Nat.zero_le _,?_⟩ (by simp[FT.Le,Wk]) ⟨HWk.refl _,fun h=>h⟩ ?_
  ·dsimp only
   by_cases h2:cmpI a.args.length b.args.length=0
   ·rw[h2]at hR
    refine .inr ⟨h2,?_,by rw[hR];simp⟩
    unfold cmpI at h2
    split at h2
    ·cases h2
    ·split at h2
     ·cases h2
     ·omega
   ·exact .inl ⟨h2,by rw[hR,if_pos h2]⟩
  rintro⟨i,n,c⟩ ⟨hn,hi,hI⟩ hok
  simp only at hn hi hI
  rcases hI with⟨hc,hI⟩|⟨rfl,hlen,hI⟩
  ·by_cases hlt:i<a.args.length
   ·simp(disch:=omega)[hlt,hc]
    exact qq hH (by simp[hI])
   ·simp(disch:=omega)[hlt]
    exact qq hH (by simp[hI])
  by_cases hlt:i<a.args.length
  case neg=>
   simp(disch:=omega)[hlt]
   rw[List.drop_eq_nil_of_le (by omega),List.drop_eq_nil_of_le (by omega)]at hI
   exact qq hH (by simp[<-hI,cmpTs])
  have hly:i<b.args.length:=by omega
  rw[List.drop_eq_getElem_cons hlt,List.drop_eq_getElem_cons hly]at hI
  have hR:cmpA a b=if cmpT a.args[i] b.args[i]≠0 then cmpT a.args[i] b.args[i] else cmpTs (a.args.drop (i+1)) (b.args.drop (i+1)):=hI.symm
  simp(disch:=omega)[hlt,hly]
  refine(qez _ _).go fun n1 hn1=>?_
  by_cases hk:cmpI a.args[i].kind b.args[i].kind=0
  case neg=>
   simp(disch:=omega)[hk,qw (show i<2^62 by omega)]
   have hT:cmpT a.args[i] b.args[i]=cmpI a.args[i].kind b.args[i].kind:=by simp[cmpT,or3,hk]
   rw[hT,if_pos hk]at hR
   exact⟨⟨i+1,n1,cmpI a.args[i].kind b.args[i].kind⟩,by dsimp only;omega,⟨by dsimp only;omega,by dsimp only;omega,.inl ⟨hk,hR.symm⟩⟩,by simp[FT.Le,Wk],uw hH2⟩
  simp(disch:=omega)[hk]
  refine(qez _ _).go fun n2 hn2=>?_
  by_cases hk2:cmpI a.args[i].n b.args[i].n=0
  case neg=>
   simp(disch:=omega)[hk2,qw (show i<2^62 by omega)]
   have hT:cmpT a.args[i] b.args[i]=cmpI a.args[i].n b.args[i].n:=by simp[cmpT,or3,hk,hk2]
   rw[hT,if_pos hk2]at hR
   exact⟨⟨i+1,n2,cmpI a.args[i].n b.args[i].n⟩,by dsimp only;omega,⟨by dsimp only;omega,by dsimp only;omega,.inl ⟨hk2,hR.symm⟩⟩,by simp[FT.Le,Wk],uw hH2⟩
  simp(disch:=omega)[hk2]
  refine(qhp _ _).go fun n3 hn3=>?_
  simp(disch:=omega)[qw (show i<2^62 by omega)]
  have hT:cmpT a.args[i] b.args[i]=cmpB a.args[i].s b.args[i].s:=by simp[cmpT,or3,hk,hk2]
  rw[hT]at hR
  by_cases hk3:cmpB a.args[i].s b.args[i].s=0
  ·exact⟨⟨i+1,n3,cmpB a.args[i].s b.args[i].s⟩,by dsimp only;omega,⟨by dsimp only;omega,by dsimp only;omega,.inr ⟨hk3,hlen,by rw[hR,hk3];simp⟩⟩,by simp[FT.Le,Wk],uw hH2⟩
  ·rw[if_pos hk3]at hR
   exact⟨⟨i+1,n3,cmpB a.args[i].s b.args[i].s⟩,by dsimp only;omega,⟨by dsimp only;omega,by dsimp only;omega,.inl ⟨hk3,hR.symm⟩⟩,by simp[FT.Le,Wk],uw hH2⟩
 ·simp(disch:=omega)[h1]
  have hR:cmpA a b=cmpB a.pred b.pred:=by simp[cmpA,or3,h1]
  refine qE (σ:=NNC) (fun q=>(.nd .bot (.nd .bot (.nd (.ptr (H.next+1) 0) .nil .nil) (.nd (.int q.c) .nil .nil)) (.nd (.ptr H.next 0) .nil (.nd (.int q.i) .nil .nil)))) (fun q=>⟨(H.next+1,.cells [.str b.pred,qz b.args])::(H.next,.cells [.str a.pred,qz a.args])::H.objs,q.n⟩) (fun q=>a.args.length - q.i)
   (fun q=>H.next+2<=q.n/\q.i<=a.args.length/\((q.c≠0/\q.c=cmpA a b)\/(q.c=0/\a.args.length=b.args.length/\cmpTs (a.args.drop q.i) (b.args.drop q.i)=cmpA a b))) ⟨0,n,cmpB a.pred b.pred⟩ ⟨by dsimp only;omega,Nat.zero_le _,.inl ⟨h1,hR.symm⟩⟩ (by simp[FT.Le,Wk]) ⟨HWk.refl _,fun h=>h⟩ ?_
  rintro⟨i,n,c⟩ ⟨hn,hi,hI⟩ hok
  simp only at hn hi hI
  rcases hI with⟨hc,hI⟩|⟨rfl,hlen,hI⟩
  ·by_cases hlt:i<a.args.length
   ·simp(disch:=omega)[hlt,hc]
    exact qq hH (by simp[hI])
   ·simp(disch:=omega)[hlt]
    exact qq hH (by simp[hI])
  by_cases hlt:i<a.args.length
  case neg=>
   simp(disch:=omega)[hlt]
   rw[List.drop_eq_nil_of_le (by omega),List.drop_eq_nil_of_le (by omega)]at hI
   exact qq hH (by simp[<-hI,cmpTs])
  have hly:i<b.args.length:=by omega
  rw[List.drop_eq_getElem_cons hlt,List.drop_eq_getElem_cons hly]at hI
  have hR:cmpA a b=if cmpT a.args[i] b.args[i]≠0 then cmpT a.args[i] b.args[i] else cmpTs (a.args.drop (i+1)) (b.args.drop (i+1)):=hI.symm
  simp(disch:=omega)[hlt,hly]
  refine(qez _ _).go fun n1 hn1=>?_
  by_cases hk:cmpI a.args[i].kind b.args[i].kind=0
  case neg=>
   simp(disch:=omega)[hk,qw (show i<2^62 by omega)]
   have hT:cmpT a.args[i] b.args[i]=cmpI a.args[i].kind b.args[i].kind:=by simp[cmpT,or3,hk]
   rw[hT,if_pos hk]at hR
   exact⟨⟨i+1,n1,cmpI a.args[i].kind b.args[i].kind⟩,by dsimp only;omega,⟨by dsimp only;omega,by dsimp only;omega,.inl ⟨hk,hR.symm⟩⟩,by simp[FT.Le,Wk],uw hH2⟩
  simp(disch:=omega)[hk]
  refine(qez _ _).go fun n2 hn2=>?_
  by_cases hk2:cmpI a.args[i].n b.args[i].n=0
  case neg=>
   simp(disch:=omega)[hk2,qw (show i<2^62 by omega)]
   have hT:cmpT a.args[i] b.args[i]=cmpI a.args[i].n b.args[i].n:=by simp[cmpT,or3,hk,hk2]
   rw[hT,if_pos hk2]at hR
   exact⟨⟨i+1,n2,cmpI a.args[i].n b.args[i].n⟩,by dsimp only;omega,⟨by dsimp only;omega,by dsimp only;omega,.inl ⟨hk2,hR.symm⟩⟩,by simp[FT.Le,Wk],uw hH2⟩
  simp(disch:=omega)[hk2]
  refine(qhp _ _).go fun n3 hn3=>?_
  simp(disch:=omega)[qw (show i<2^62 by omega)]
  have hT:cmpT a.args[i] b.args[i]=cmpB a.args[i].s b.args[i].s:=by simp[cmpT,or3,hk,hk2]
  rw[hT]at hR
  by_cases hk3:cmpB a.args[i].s b.args[i].s=0
  ·exact⟨⟨i+1,n3,cmpB a.args[i].s b.args[i].s⟩,by dsimp only;omega,⟨by dsimp only;omega,by dsimp only;omega,.inr ⟨hk3,hlen,by rw[hR,hk3];simp⟩⟩,by simp[FT.Le,Wk],uw hH2⟩
  ·rw[if_pos hk3]at hR
   exact⟨⟨i+1,n3,cmpB a.args[i].s b.args[i].s⟩,by dsimp only;omega,⟨by dsimp only;omega,by dsimp only;omega,.inl ⟨hk3,hR.symm⟩⟩,by simp[FT.Le,Wk],uw hH2⟩
def qbO(p:Term->Bool):List Term->Nat->Int
 |[],_=>-1
 |t::r,i=>if p t then (i:Int) else qbO p r (i+1)
theorem qnu(p:Term->Bool):∀(l:List Term)(i:Nat),decide (0<=qbO p l i)=l.any p
 |[],i=>rfl
 |t::r,i=>by
  simp only[qbO,List.any_cons]
  by_cases h:p t=true
  ·simp[h]
  ·simp only[h,if_false,Bool.false_eq_true]
   rw[qnu p r (i+1)];simp
theorem qre(l:List Term)(hl:l.length<2^40)(f:FuncId)(p:Term->Bool)(hp:∀t,qg f [zl t] (.bool (p t))):
  qg 182 [qz l,.fn (.func f) [] []] (.int (qbO p l 0)):=by
 refine qg.of c182 fun H hH=>⟨Nat.le_of_ble_eq_true rfl,?_⟩
 simp(disch:=omega)[b182]
 obtain⟨A,hA⟩:∃A,qbO p l 0=A:=⟨_,rfl⟩
 rw[hA]
 refine qE (σ:=NN) (fun q=>(.nd (qz l) (.nd (.fn (.func f) [] []) (.nd .bot (.nd (.int l.length) .nil .nil) .nil) .nil) (.nd .bot (.nd .bot (.nd (.int q.i) .nil .nil) .nil) (.nd (qz l) .nil .nil)))) (fun q=>⟨H.objs,q.n⟩) (fun q=>l.length - q.i)
  (fun q=>H.next<=q.n/\q.i<=l.length/\qbO p (l.drop q.i) q.i=A) ⟨0,H.next⟩ ⟨Nat.le_refl _,Nat.zero_le _,hA⟩ (by simp[FT.Le,Wk]) (uw hH) ?_
 rintro⟨i,n⟩ ⟨hn,hi,he⟩ hok
 simp only at hn hi he
 by_cases hlt:i<l.length
 ·rw[List.drop_eq_getElem_cons hlt]at he
  simp(disch:=omega)[hlt]
  refine(hp _).go fun n1 h1=>?_
  cases ht:p l[i]
  ·simp[qbO,ht]at he
   simp(disch:=omega)[qw (show i<2^62 by omega)]
   exact⟨⟨i+1,n1⟩,by dsimp only;omega,⟨by dsimp only;omega,by dsimp only;omega,he⟩,by simp[FT.Le,Wk],uw hH⟩
  ·simp[qbO,ht]at he
   simp(disch:=omega)
   exact qq hH (by simp[<-he])
 ·obtain rfl:i=l.length:=by omega
  rw[List.drop_eq_nil_of_le (Nat.le_refl _)]at he
  simp(disch:=omega)
  simp[qbO]at he
  exact qq hH (by simp[<-he])
theorem qrp(l:List Term)(hl:l.length<2^40)(f:FuncId)(p:Term->Bool)(hp:∀t,qg f [zl t] (.bool (p t))):
  qg 134 [qz l,.fn (.func f) [] []] (.bool (l.any p)):=by
 refine qg.of c134 fun H hH=>⟨Nat.le_of_ble_eq_true rfl,?_⟩
 simp(disch:=omega)[b134]
 refine(qre l hl f p hp).go fun n hn=>?_
 simp(disch:=omega)
 exact qcn hH (by rw[qnu]) (by first|exact qj.refl' _|(repeat (first|exact qj.refl (by first|omega|(dsimp only;omega))|refine qj.cons' hH (by first|omega|(dsimp only;omega)) (by first|omega|(dsimp only;omega)) ?_)))
theorem qrh(t:Term):qg 135 [zl t] (.bool (decide (t.kind=3))):=by
 refine qg.of c135 fun H hH=>⟨Nat.le_of_ble_eq_true rfl,?_⟩
 simp(disch:=omega)[b135]
 exact qq hH (by simp[])
theorem qhr(a:Atom)(ha:a.ok):qg 68 [qh a] (.bool (a.args.all ww)):=by
 refine qg.of c68 fun H hH=>⟨Nat.le_of_ble_eq_true rfl,?_⟩
 simp(disch:=omega)[b68]
 refine(qrp a.args ha.2.1 _ _ qrh).go fun n hn=>?_
 simp(disch:=omega)
 refine qcn hH ?_ (by first|exact qj.refl' _|(repeat (first|exact qj.refl (by first|omega|(dsimp only;omega))|refine qj.cons' hH (by first|omega|(dsimp only;omega)) (by first|omega|(dsimp only;omega)) ?_)))
 congr 2
 rw[List.not_any_eq_all_not];rfl
theorem qch(a:Atom):qg 100 [qh a] (.agg [.str a.pred,.int a.args.length]):=by
 refine qg.of c100 fun H hH=>⟨Nat.le_of_ble_eq_true rfl,?_⟩
 simp(disch:=omega)[b100]
 exact qq hH (by simp[])
abbrev qv:=List (ByteArray×Term)
def zc(k:ByteArray):qv->Option Term
 |[]=>none
 |(j,t)::r=>if eqBA k j then some t else zc k r
def eqT(x y:Term):Bool:=decide (x.kind=y.kind)&&(decide (x.n=y.n)&&eqBA x.s y.s)
abbrev qI(E:qv):List (LV×LV):=E.map fun e=>(.str e.1,zl e.2)
def qaN(k:ByteArray)(v:Term):qv->qv
 |[]=>[(k,v)]
 |(j,u)::r=>if eqBA k j then (j,v)::r else (j,u)::qaN k v r
theorem qoc(k:ByteArray):∀E:qv,vm (.pl 1) (.str k) (qI E)=some ((zc k E).map zl)
 |[]=>rfl
 |(j,t)::r=>by
  have ih:=qoc k r
  simp only[qI,List.map_cons,vm,eqK,ze,zc]
  cases h:eqBA k j
  ·simpa using ih
  ·simp
theorem qlk(k:ByteArray)(v:Term):∀E:qv,vE (.pl 1) (.str k) (zl v) (qI E)=some (qI (qaN k v E))
 |[]=>rfl
 |(j,t)::r=>by
  have ih:=qlk k v r
  simp only[qI,List.map_cons,vE,eqK,ze,qaN]
  cases h:eqBA k j
  ·simp only[qI]at ih
   simp[ih]
  ·simp
theorem qaV(a:ByteArray):eqBA a a=true:=by simp[eqBA]
theorem qtS{H:qa}{o:Nat}{E:qv}(h:look o H.objs=some (.map (qI E)))(k:ByteArray)(z:LV):lkL H (.pl 1) true z (.map o) (.str k)=some (match zc k E with|some t=>.tup [zl t,.bool true]|none=>.tup [z,.bool false]):=by
 unfold lkL
 simp only[eqK,ze,qaV,Option.isSome_some,if_true,h,qoc]
 cases zc k E<;>rfl
theorem qmx{H:qa}{o:Nat}{E:qv}(h:look o H.objs=some (.map (qI E)))(k:ByteArray)(v:Term):muL H (.pl 1) (.map o) (.str k) (zl v)=some (H.put o (.map (qI (qaN k v E)))):=by
 unfold muL
 simp only[h,eqK,ze,qaV,Option.isNone_some,Bool.false_eq_true,if_false,qlk,Option.map_some]
structure NNE where
 i:Nat
 n:Nat
 e:qv
structure Lit where
 kind:Int
 atom:Atom
 a:Term
 b:Term
structure qe where
 head:Atom
 body:List Lit
abbrev wV(l:Lit):List LV:=[.int l.kind,.str l.atom.pred,qz l.atom.args,.int l.a.kind,.int l.a.n,.str l.a.s,.int l.b.kind,.int l.b.n,.str l.b.s]
abbrev qfc(l:Lit):LV:=.agg (wV l)
abbrev wi(l:List Lit):LV:=.sl (l.map qfc) .no
abbrev vT(c:qe):List LV:=[.str c.head.pred,qz c.head.args,wi c.body]
abbrev yU(c:qe):LV:=.agg (vT c)
abbrev z8(S:List ByteArray):List (LV×LV):=S.map fun k=>(.str k,B true)
def vO(k:ByteArray)(S:List ByteArray):Bool:=S.any (eqBA k)
def qaZ(k:ByteArray)(S:List ByteArray):List ByteArray:=if vO k S then S else S++[k]
def qfA(t:Term)(S:List ByteArray):List ByteArray:=if t.kind=3 then qaZ t.s S else S
def vg:List Term->List ByteArray->List ByteArray
 |[],S=>S
 |t::r,S=>vg r (qfA t S)
theorem qli(k:ByteArray):∀S:List ByteArray,vE (.pl 1) (.str k) (B true) (z8 S)=some (z8 (qaZ k S))
 |[]=>rfl
 |j::r=>by
  have ih:=qli k r
  have hc:vO k (j::r)=(eqBA k j||vO k r):=rfl
  by_cases h:eqBA k j=true
  ·simp[z8,qaZ,hc,vE,eqK,ze,h]
  ·have h':eqBA k j=false:=by simpa using h
   by_cases hb:vO k r=true
   ·simp only[z8,qaZ,if_pos hb]at ih
    simp[z8,qaZ,hc,vE,eqK,ze,h',hb,ih]
   ·simp only[z8,qaZ,if_neg hb]at ih
    have hb':vO k r=false:=by simpa using hb
    simp only[z8,qaZ,hc,vE,eqK,ze,h',hb',List.map_cons,ih]
    simp
theorem qoa(k:ByteArray):∀S:List ByteArray,vm (.pl 1) (.str k) (z8 S)=some (if vO k S then some (B true) else none)
 |[]=>rfl
 |j::r=>by
  have ih:=qoa k r
  simp only[z8,vO,List.map_cons,vm,eqK,ze,List.any_cons]
  by_cases h:eqBA k j=true
  ·simp[h]
  ·simp only[h,Bool.false_or]
   simpa [vO] using ih
theorem muV{H:qa}{o:Nat}{S:List ByteArray}(h:look o H.objs=some (.map (z8 S)))(k:ByteArray):muL H (.pl 1) (.map o) (.str k) (B true)=some (H.put o (.map (z8 (qaZ k S)))):=by
 unfold muL
 simp only[h,eqK,ze,qaV,Option.isNone_some,Bool.false_eq_true,if_false,qli,Option.map_some]
theorem lkV{H:qa}{o:Nat}{S:List ByteArray}(h:look o H.objs=some (.map (z8 S)))(k:ByteArray):lkL H (.pl 1) false (B false) (.map o) (.str k)=some (B (vO k S)):=by
 unfold lkL
 simp only[eqK,ze,qaV,Option.isSome_some,if_true,h,qoa]
 cases vO k S<;>rfl
theorem vL{o:Nat}{x y:qc}:∀{l:List (Nat×qc)},look o l=some x->look o (qx o y l)=some y
 |[],h=>by cases h
 |(j,z)::r,h=>by
  simp only[look]at h
  simp only[qx]
  split
  ·rename_i e;subst e;simp[look]
  ·rename_i e
   rw[if_neg e]at h
   simp only[look,if_neg e]
   exact vL h
theorem qbp{o:Nat}{x y:qc}:∀(l:List (Nat×qc)),qx o y (qx o x l)=qx o y l
 |[]=>rfl
 |(j,z)::r=>by
  simp only[qx]
  split
  ·rename_i e;subst e;simp[qx]
  ·rename_i e
   simp only[qx,if_neg e,qbp r]
theorem qeH{o:Nat}{x:qc}:∀{l:List (Nat×qc)},look o l=some x->qx o x l=l
 |[],h=>by cases h
 |(j,z)::r,h=>by
  simp only[look]at h
  simp only[qx]
  split
  ·rename_i e;subst e;simp at h;rw[h]
  ·rename_i e
   rw[if_neg e]at h
   rw[qeH h]
theorem keep{H':qa}{v:LV}{kv:HP}(h:kv v H'):∃H'',HWk H' H''/\(H'.Ok->H''.Ok)/\kv v H'':=⟨H',HWk.refl _,fun h=>h,h⟩
structure NNV where
 i:Nat
 n:Nat
 s:List ByteArray
theorem qfP(l:List Term)(own:Own)(hl:l.length<2^40)(o:Nat)(S:List ByteArray)(ob:List (Nat×qc))(nx:Nat)(ho:look o ob=some (.map (z8 S))){kv kp:HP}
  (hk:∀n,nx<=n->kv (.tup []) ⟨qx o (.map (z8 (vg l S))) ob,n⟩):cP E0 F0 163 [.sl (l.map zl) own,.map o] ⟨ob,nx⟩ kv kp:=by
 refine ub c163 fun hH=>⟨Nat.le_of_ble_eq_true rfl,?_⟩
 have hon:o<nx:=hH.look ho
 simp(disch:=omega)[b163]
 obtain⟨A,hA⟩:∃A,vg l S=A:=⟨_,rfl⟩
 rw[hA]at hk
 refine qE (σ:=NNV) (fun q=>(.nd .bot (.nd (.map o) (.nd .bot (.nd (.int l.length) .nil .nil) .nil) .nil) (.nd .bot (.nd .bot (.nd (.int q.i) .nil .nil) .nil) (.nd (.sl (l.map zl) own) .nil .nil))))
  (fun q=>⟨qx o (.map (z8 q.s)) ob,q.n⟩) (fun q=>l.length - q.i)
  (fun q=>nx<=q.n/\q.i<=l.length/\vg (l.drop q.i) q.s=A) ⟨0,nx,S⟩ ⟨Nat.le_refl _,Nat.zero_le _,hA⟩ (by simp[FT.Le,Wk]) ?_ ?_
 ·dsimp only;rw[qeH ho];exact⟨HWk.refl _,fun h=>h⟩
 rintro⟨i,n,s⟩ ⟨hn,hi,he⟩ hok
 simp only at hn hi he
 have hHe:∀s:List ByteArray,qa.Ok ⟨qx o (.map (z8 s)) ob,nx⟩:=fun s=>qt.put hH
 by_cases hlt:i<l.length
 case neg=>
  rw[List.drop_eq_nil_of_le (by omega)]at he
  simp only[vg]at he
  subst he
  simp(disch:=omega)[hlt,qS]
  exact keep (hk _ (by omega))
 rw[List.drop_eq_getElem_cons hlt]at he
 simp only[vg]at he
 have hlo:look o (qx o (.map (z8 s)) ob)=some (.map (z8 s)):=vL ho
 by_cases hk3:l[i].kind=3
 ·simp only[qfA,if_pos hk3]at he
  simp(disch:=omega)[hlt,hk3]
  rw[muV (S:=s) (by simp(disch:=omega)[qd,hlo])]
  simp(disch:=omega)[hlt,hk3,qw (show i<2^62 by omega),qbp]
  exact⟨⟨i+1,n+1,qaZ l[i].s s⟩,by dsimp only;omega,⟨by dsimp only;omega,by dsimp only;omega,he⟩,by simp[FT.Le,Wk],zO (hHe _) (by first|exact qj.refl' _|(repeat (first|exact qj.refl (by first|omega|(dsimp only;omega))|refine qj.cons' (hHe _) (by first|omega|(dsimp only;omega)) (by first|omega|(dsimp only;omega)) ?_)))⟩
 ·simp only[qfA,if_neg hk3]at he
  simp(disch:=omega)[hlt,hk3,qw (show i<2^62 by omega)]
  exact⟨⟨i+1,n+1,s⟩,by dsimp only;omega,⟨by dsimp only;omega,by dsimp only;omega,he⟩,by simp[FT.Le,Wk],zO (hHe _) (by first|exact qj.refl' _|(repeat (first|exact qj.refl (by first|omega|(dsimp only;omega))|refine qj.cons' (hHe _) (by first|omega|(dsimp only;omega)) (by first|omega|(dsimp only;omega)) ?_)))⟩
def qbq(l:Lit)(q:List ByteArray×List ByteArray):List ByteArray×List ByteArray:=
 if l.kind=1 then (vg l.atom.args q.1,q.2) else if l.kind=2 then (q.1,vg l.atom.args q.2) else (q.1,vg [l.a,l.b] q.2)
def wU:List Lit->List ByteArray×List ByteArray->List ByteArray×List ByteArray
 |[],q=>q
 |l::r,q=>wU r (qbq l q)
def qbD(c:qe):Bool:=(wU c.body ([],vg c.head.args [])).2.all fun v=>vO v (wU c.body ([],vg c.head.args [])).1
def Lit.ok(l:Lit):Prop:=l.atom.ok
def qe.ok(c:qe):Prop:=c.head.ok/\c.body.length<2^40/\∀l∈c.body,Lit.ok l
structure NNVV where
 i:Nat
 n:Nat
 q:List ByteArray×List ByteArray
structure NNI where
 left:List Nat
 cur:Option Nat
theorem qpJ(p:Nat->Bool):∀(l:List Nat)(j q:Nat),l[j]? = some q->l.all p=(p q&&(l.eraseIdx j).all p)
 |[],_,_,h=>by simp at h
 |a::r,0,q,h=>by simp at h;subst h;rfl
 |a::r,j+1,q,h=>by
  simp only[List.getElem?_cons_succ]at h
  have ih:=qpJ p r j q h
  simp only[List.eraseIdx_cons_succ,List.all_cons,ih]
  cases p a<;>cases p q<;>rfl
theorem qxd{α:Type}(p:α->Bool)(l:List α)(d:α):((List.range l.length).all fun k=>p (l.getD k d))=l.all p:=by
 rw[Bool.eq_iff_iff]
 simp only[List.all_eq_true,List.mem_range]
 constructor
 ·intro h x hx
  obtain⟨k,hk,rfl⟩:=List.mem_iff_getElem.1 hx
  have:=h k hk
  rwa [List.getD_eq_getElem?_getD,List.getElem?_eq_getElem hk]at this
 ·intro h k hk
  rw[List.getD_eq_getElem?_getD,List.getElem?_eq_getElem hk]
  exact h _ (List.getElem_mem hk)
theorem qqL(c:qe)(hc:c.ok):qg 105 [yU c] (.bool (qbD c)):=by
 refine qg.of c105 fun H hH=>⟨Nat.le_of_ble_eq_true rfl,?_⟩
 have hbl:=hc.2.1
 simp(disch:=omega)[b105]
 refine qfP c.head.args _ hc.1.2.1 _ [] _ _ (by simp[qm]) fun n hn=>?_
 simp(disch:=omega)
 obtain⟨Q,hQ⟩:∃Q,wU c.body ([],vg c.head.args [])=Q:=⟨_,rfl⟩
 have hHe:∀s1 s2:List ByteArray,qa.Ok ⟨(H.next+2,.map (z8 s2))::(H.next+1,.map (z8 s1))::(H.next,.cells (vT c))::H.objs,H.next+3⟩:=fun _ _=>⟨Nat.lt_succ_self _,Nat.lt_succ_self _,Nat.lt_succ_self _,hH⟩
 refine qE (σ:=NNVV) (fun q=>(.nd .bot (.nd .bot (.nd (.map (H.next+1)) .nil .nil) (.nd .bot (.nd .bot (.nd (.int c.body.length) .nil .nil) .nil) .nil)) (.nd .bot (.nd (.map (H.next+2)) (.nd .bot (.nd (wi c.body) .nil .nil) .nil) .nil) (.nd .bot (.nd .bot (.nd (.int q.i) .nil .nil) .nil) .nil))))
  (fun q=>⟨(H.next+2,.map (z8 q.q.2))::(H.next+1,.map (z8 q.q.1))::(H.next,.cells (vT c))::H.objs,q.n⟩) (fun q=>c.body.length - q.i)
  (fun q=>H.next+3<=q.n/\q.i<=c.body.length/\wU (c.body.drop q.i) q.q=Q) ⟨0,n,([],vg c.head.args [])⟩ ⟨by dsimp only;omega,Nat.zero_le _,hQ⟩ (by simp[FT.Le,Wk]) ⟨HWk.refl _,fun h=>h⟩ ?_
 rintro⟨i,n,q⟩ ⟨hn,hi,he⟩ hok
 simp only at hn hi he
 by_cases hlt:i<c.body.length
 case neg=>
  rw[List.drop_eq_nil_of_le (by omega)]at he
  simp only[wU]at he
  subst he
  simp(disch:=omega)[hlt,rgL]
  have hR:qbD c=q.2.all fun v=>vO v q.1:=by unfold qbD;rw[hQ]
  obtain⟨A,hA⟩:∃A,qbD c=A:=⟨_,rfl⟩
  rw[hA]at hR
  rw[hA]
  have hx:qa.Ok ⟨(H.next+2,.map (z8 q.2))::(H.next+1,.map (z8 q.1))::(H.next,.cells (vT c))::H.objs,n⟩:=qt.mono (hHe q.1 q.2) hn
  refine qE (σ:=NNI) (fun r=>(.nd .bot (.nd .bot (.nd (.map (H.next+1)) (.nd .bot (.nd .bot .nil (.nd (.ptr n 0) .nil .nil)) .nil) .nil) .nil) .nil))
   (fun r=>⟨(n,.iter (H.next+2) r.left r.cur q.2.length)::(H.next+2,.map (z8 q.2))::(H.next+1,.map (z8 q.1))::(H.next,.cells (vT c))::H.objs,n+1⟩) (fun r=>r.left.length)
   (fun r=>(∀k∈r.left,k<q.2.length)/\(r.left.all fun k=>vO (q.2.getD k ⟨⟨[]⟩⟩) q.1)=A) ⟨List.range q.2.length,none⟩ ⟨fun k hk=>List.mem_range.1 hk,?_⟩ (by simp[FT.Le,Wk]) ?_ ?_
  ·rw[hR];exact qxd (fun v=>vO v q.1) q.2 _
  ·exact⟨HWk.refl _,fun h=>h⟩
  rintro⟨left,cur⟩ ⟨hl,he⟩ hok
  dsimp only at hl he
  simp(disch:=omega)
  by_cases hl0:left=[]
  ·refine⟨n,H.next+2,left,cur,q.2.length,rfl,by simp[qm],.inl ⟨hl0,.inr ⟨z8 q.2,by simp(disch:=omega)[qd,qm],by simp⟩,?_⟩⟩
   subst hl0
   simp(disch:=omega)
   exact qq hH (by simp[<-he])
  ·refine⟨n,H.next+2,left,cur,q.2.length,rfl,by simp[qm],.inr ⟨hl0,z8 q.2,by simp(disch:=omega)[qd,qm],by simp,fun j k e hj hk=>?_⟩⟩
   obtain⟨v,hv,rfl⟩:∃v,q.2[k]? = some v/\e=(.str v,B true):=by
    simp only[z8,List.getElem?_map]at hk
    obtain⟨v,h1,h2⟩:=Option.map_eq_some_iff.1 hk
    exact⟨v,h1,h2.symm⟩
   have hg:q.2.getD k ⟨⟨[]⟩⟩=v:=by rw[List.getD_eq_getElem?_getD,hv];rfl
   rw[qpJ _ left j k hj,hg]at he
   simp(disch:=omega)[enL,hv]
   rw[lkV (S:=q.1) (by simp(disch:=omega)[qd,qm])]
   cases hb:vO v q.1
   ·simp(disch:=omega)
    rw[hb,Bool.false_and]at he
    exact qq hH (by simp[<-he])
   ·simp(disch:=omega)
    rw[hb,Bool.true_and]at he
    have hjl:j<left.length:=(List.getElem?_eq_some_iff.1 hj).1
    exact⟨⟨left.eraseIdx j,some k⟩,by dsimp only;rw[List.length_eraseIdx_of_lt hjl];omega,⟨fun m hm=>hl m (List.mem_of_mem_eraseIdx hm),he⟩,by simp[FT.Le,Wk],HWk.refl _,fun h=>h⟩
 rw[List.drop_eq_getElem_cons hlt]at he
 simp only[wU]at he
 have hlo:c.body[i].atom.ok:=hc.2.2 _ (up hlt)
 by_cases hk1:c.body[i].kind=1
 ·simp only[qbq,if_pos hk1]at he
  simp(disch:=omega)[hlt,hk1]
  refine qfP _ _ hlo.2.1 _ q.1 _ _ (by simp(disch:=omega)[qm,qd]) fun n1 hn1=>?_
  simp(disch:=omega)[qw (show i<2^62 by omega)]
  have hx:=hHe (vg c.body[i].atom.args q.1) q.2
  exact⟨⟨i+1,n1,_⟩,by dsimp only;omega,⟨by dsimp only;omega,by dsimp only;omega,he⟩,by simp[FT.Le,Wk],uw hx⟩
 by_cases hk2:c.body[i].kind=2
 ·simp only[qbq,if_neg hk1,if_pos hk2]at he
  simp(disch:=omega)[hlt,hk2]
  refine qfP _ _ hlo.2.1 _ q.2 _ _ (by simp(disch:=omega)[qm,qd]) fun n1 hn1=>?_
  simp(disch:=omega)[qw (show i<2^62 by omega)]
  have hx:=hHe q.1 (vg c.body[i].atom.args q.2)
  exact⟨⟨i+1,n1,_⟩,by dsimp only;omega,⟨by dsimp only;omega,by dsimp only;omega,he⟩,by simp[FT.Le,Wk],uw hx⟩
 ·simp only[qbq,if_neg hk1,if_neg hk2]at he
  simp(disch:=omega)[hlt,hk1,hk2]
  refine qfP [c.body[i].a,c.body[i].b] _ (by simp) _ q.2 _ _ (by simp(disch:=omega)[qm,qd]) fun n1 hn1=>?_
  simp(disch:=omega)[qw (show i<2^62 by omega)]
  have hx:=hHe q.1 (vg [c.body[i].a,c.body[i].b] q.2)
  exact⟨⟨i+1,n1,_⟩,by dsimp only;omega,⟨by dsimp only;omega,by dsimp only;omega,he⟩,by simp[FT.Le,Wk],uw hx⟩
def qeu(t:Term):Bool:=decide (t.kind=0)&&(decide (t.n=0)&&eqBA t.s ⟨⟨[]⟩⟩)
def y7(l:Lit):Bool:=
 if l.kind=1\/l.kind=2 then qR l.atom&&(qeu l.a&&qeu l.b)
 else if l.kind=3\/l.kind=4\/l.kind=5\/l.kind=6 then zg l.a&&(zg l.b&&(eqBA l.atom.pred ⟨⟨[]⟩⟩&&decide (l.atom.args.length=0)))
 else false
def Lit.ok2(l:Lit):Prop:=l.atom.ok/\l.a.ok/\l.b.ok
theorem qri(l:Lit)(hl:l.ok2):qg 126 [qfc l] (.bool (y7 l)):=by
 refine qg.of c126 fun H hH=>⟨Nat.le_of_ble_eq_true rfl,?_⟩
 by_cases h12:l.kind=1\/l.kind=2
 ·have e1:(decide (l.a.kind=0)&&(decide (l.a.n=0)&&eqBA l.a.s ⟨⟨[]⟩⟩))=qeu l.a:=rfl
  have e2:(decide (l.b.kind=0)&&(decide (l.b.n=0)&&eqBA l.b.s ⟨⟨[]⟩⟩))=qeu l.b:=rfl
  rcases h12 with h1|h1
  all_goals
   simp[b126,h1]
   refine(qeA l.atom hl.1).go fun n hn=>?_
   cases ha:qR l.atom
   ·simp
    exact qq hH (by simp[y7,h1,ha])
   simp[e1]
   cases hz:qeu l.a
   ·simp
    exact qq hH (by simp[y7,h1,ha,hz])
   simp[e2]
   exact qq hH (by simp[y7,h1,ha,hz])
 have h1:¬l.kind=1:=fun e=>h12 (.inl e)
 have h2:¬l.kind=2:=fun e=>h12 (.inr e)
 by_cases hk:l.kind=3\/l.kind=4\/l.kind=5\/l.kind=6
 ·rcases hk with h3|h3|h3|h3
  all_goals
   simp[b126,h3]
   refine(qhs l.a hl.2.1).go fun n hn=>?_
   cases ha:zg l.a
   ·simp
    exact qq hH (by simp[y7,h3,ha])
   simp
   refine(qhs l.b hl.2.2).go fun n1 hn1=>?_
   cases hb:zg l.b
   ·simp
    exact qq hH (by simp[y7,h3,ha,hb])
   simp
   cases hp:eqBA l.atom.pred ⟨⟨[]⟩⟩
   ·simp
    exact qq hH (by simp[y7,h3,ha,hb,hp])
   simp
   exact qq hH (by simp[y7,h3,ha,hb,hp])
 ·have h3:¬l.kind=3:=fun e=>hk (.inl e)
  have h4:¬l.kind=4:=fun e=>hk (.inr (.inl e))
  have h5:¬l.kind=5:=fun e=>hk (.inr (.inr (.inl e)))
  have h6:¬l.kind=6:=fun e=>hk (.inr (.inr (.inr e)))
  simp[b126,h1,h2,h3,h4,h5,h6]
  exact qq hH (by simp[y7,h1,h2,h3,h4,h5,h6])
def qe.ok2(c:qe):Prop:=c.head.ok/\c.body.length<2^40/\∀l∈c.body,Lit.ok2 l
def wF(c:qe):Bool:=qR c.head&&(decide (c.body.length<=5)&&c.body.all y7)
theorem qrj(c:qe)(hc:c.ok2):qg 60 [yU c] (.bool (wF c)):=by
 refine qg.of c60 fun H hH=>⟨Nat.le_of_ble_eq_true rfl,?_⟩
 simp[b60]
 refine(qeA c.head hc.1).go fun n hn=>?_
 cases h1:qR c.head
 ·simp
  exact qq hH (by simp[wF,h1])
 by_cases h2:(5:Int)<(c.body.length:Int)
 ·simp[h2]
  exact qq hH (by simp[wF,h1,show ¬c.body.length<=5 by omega])
 have h3:c.body.length<=5:=by omega
 simp[h2]
 obtain⟨A,hA⟩:∃A,c.body.all y7=A:=⟨_,rfl⟩
 refine qE (σ:=NN) (fun q=>(.nd (yU c) (.nd .bot .nil (.nd .bot (.nd .bot (.nd (.int c.body.length) .nil .nil) .nil) .nil)) (.nd (.bool false) (.nd .bot (.nd .bot (.nd (wi c.body) .nil .nil) .nil) .nil) (.nd .bot (.nd .bot (.nd (.int q.i) .nil .nil) .nil) .nil)))) (fun q=>⟨H.objs,q.n⟩) (fun q=>c.body.length - q.i)
  (fun q=>H.next<=q.n/\q.i<=c.body.length/\(c.body.drop q.i).all y7=A) ⟨0,n⟩ ⟨by dsimp only;omega,Nat.zero_le _,hA⟩ (by simp[FT.Le,Wk]) (uw hH) ?_
 rintro⟨i,n⟩ ⟨hn,hi,he⟩ hok
 simp only at hn hi he
 by_cases hlt:i<c.body.length
 ·rw[qbY y7 hlt]at he
  simp[hlt]
  refine(qri c.body[i] (hc.2.2 _ (up hlt))).go fun n1 h1'=>?_
  cases ht:y7 c.body[i]
  ·rw[ht,Bool.false_and]at he
   simp
   exact qq hH (by simp[wF,h1,hA,<-he])
  ·rw[ht,Bool.true_and]at he
   simp[qw (show i<2^62 by omega)]
   exact⟨⟨i+1,n1⟩,by dsimp only;omega,⟨by dsimp only;omega,by dsimp only;omega,he⟩,by simp[FT.Le,Wk],uw hH⟩
 ·obtain rfl:i=c.body.length:=by omega
  rw[List.drop_eq_nil_of_le (Nat.le_refl _),List.all_nil]at he
  simp
  exact qq hH (by simp[wF,h1,h3,hA,<-he])
def wh:List qe->Nat->Int×Int
 |[],_=>(0,0)
 |c::r,i=>if wF c=false then (7,(i:Int)) else if qbD c=false then (80,(i:Int)) else wh r (i+1)
def qQ(l:List qe):Int×Int:=if 40<l.length then (2,0) else wh l 0
abbrev qF(l:List qe):LV:=.sl (l.map yU) .no
def qe.ok3(c:qe):Prop:=c.ok2/\c.ok
theorem qkP(l:List qe)(hc:l.length<=40->∀c∈l,qe.ok3 c):qg 47 [qF l] (.tup [.int (qQ l).1,.int (qQ l).2]):=by
 refine qg.of c47 fun H hH=>⟨Nat.le_of_ble_eq_true rfl,?_⟩
 by_cases h1:(40:Int)<(l.length:Int)
 ·simp[b47,h1]
  exact qq hH (by simp[qQ,show 40<l.length by omega])
 have hc:=hc (by omega)
 simp[b47,h1]
 obtain⟨R,hR⟩:∃R,wh l 0=R:=⟨_,rfl⟩
 have hB:qQ l=R:=by rw[<-hR];unfold qQ;rw[if_neg (by omega)]
 rw[hB]
 refine qE (σ:=NN) (fun q=>(.nd .bot (.nd .bot (.nd (.int 0) .nil (.nd (.int q.i) .nil .nil)) (.nd .bot (.nd (qF l) .nil .nil) .nil)) (.nd (.int 0) .nil (.nd .bot (.nd (.int l.length) .nil .nil) .nil)))) (fun q=>⟨H.objs,q.n⟩) (fun q=>l.length - q.i)
  (fun q=>H.next<=q.n/\q.i<=l.length/\wh (l.drop q.i) q.i=R) ⟨0,H.next⟩ ⟨Nat.le_refl _,Nat.zero_le _,hR⟩ (by simp[FT.Le,Wk]) ⟨HWk.refl _,fun h=>h⟩ ?_
 rintro⟨i,n⟩ ⟨hn,hi,he⟩ hok
 simp only at hn hi he
 by_cases hlt:i<l.length
 ·rw[List.drop_eq_getElem_cons hlt]at he
  simp[hlt]
  refine(qrj l[i] (hc _ (up hlt)).1).go fun n1 h1'=>?_
  cases hf:wF l[i]
  ·simp only[wh,hf,if_true]at he
   simp
   exact qq hH (by simp[<-he])
  simp
  refine(qqL l[i] (hc _ (up hlt)).2).go fun n2 h2'=>?_
  cases hs:qbD l[i]
  ·simp[wh,hf,hs]at he
   simp
   exact qq hH (by simp[<-he])
  simp[wh,hf,hs]at he
  simp[qw (show i<2^62 by omega)]
  exact⟨⟨i+1,n2⟩,by dsimp only;omega,⟨by dsimp only;omega,by dsimp only;omega,he⟩,by simp[FT.Le,Wk],uw hH⟩
 ·obtain rfl:i=l.length:=by omega
  rw[List.drop_eq_nil_of_le (Nat.le_refl _)]at he
  simp only[wh]at he
  simp
  exact qq hH (by simp[<-he])
theorem qxc{α:Type}(p:α->Bool){l:List α}{i:Nat}(h:i<l.length):(l.drop i).any p=(p l[i]||(l.drop (i+1)).any p):=by
 rw[List.drop_eq_getElem_cons h,List.any_cons]
structure NNT where
 i:Nat
 n:Nat
 ts:List Term
theorem qdq{a:Atom}(h:qR a=true):a.args.length<=3/\a.args.all zg=true:=by
 unfold qR at h
 simp only[Bool.and_eq_true,decide_eq_true_eq]at h
 exact h.2
theorem qbV{c:qe}(h:wF c=true):qR c.head=true/\c.body.length<=5/\∀x∈c.body,y7 x=true:=by
 unfold wF at h
 simp only[Bool.and_eq_true,decide_eq_true_eq,List.all_eq_true]at h
 exact⟨h.1,h.2.1,h.2.2⟩
theorem qtU{x:Lit}(h:y7 x=true):x.atom.args.length<=3:=by
 unfold y7 at h
 split at h
 ·simp only[Bool.and_eq_true]at h;exact(qdq h.1).1
 ·split at h
  ·simp only[Bool.and_eq_true,decide_eq_true_eq]at h;omega
  ·cases h
end Go.Abs.Tz
namespace Go.Abs
open Go
theorem Inv.grown{G:qb}{w w':World}{H:qa}(hI:Inv G w H)(hg:w.grownBy w' none):Ext G w G w'/\Inv G w' H:=by
 have hb:∀k,k<w.heap.size->w'.heap[k]? = w.heap[k]?:=fun k hk=>hg.block k hk (by simp)
 have hlt:∀{k:Nat}{o:Obj},w.heap[k]? = some o->k<w.heap.size:=fun h=>(Array.getElem?_eq_some_iff.1 h).1
 have hx:Ext G w G w':=by
  refine⟨hg.os,hg.tape,hg.output,hg.size,rfl,fun k hk=>hb k (hI.hB k hk),Nat.le_refl _,fun _ _=>rfl,fun _ _=>rfl,fun b x hc=>⟨hc,fun v hv=>?_⟩,fun t _ m b c h=>⟨m,b,c,h,Nat.le_refl _,fun _=>⟨rfl,rfl⟩⟩,rfl⟩
  have:b<w.heap.size:=by
   rcases Nat.lt_or_ge b w.heap.size with h|h
   ·exact h
   ·rw[hI.free b x h]at hc;cases hc
  rw[qal (hb b this)];exact hv
 refine⟨hx,Inv.step (W:=fun _ _=>False) (V:=fun _=>False) (fun _=>False) hI hx ⟨fun k vs el fz h=>⟨vs,by rw[hb k (hlt h)];exact h,rfl,fun _ _=>rfl⟩,fun k ob h _ _=>by rw[hb k (hlt h)];exact h⟩
  hI.n (fun b x h=>hI.free b x (Nat.le_trans hg.size h)) (fun b x h=>hI.old b x h) (fun _ _ _ h=>h) (fun _ _ _ _ _ h=>h) (fun _ _ _ h=>h) (fun _ _ _ _=>⟨fun h=>h,fun h=>h⟩) (fun _ _ _=>rfl) ?_ (fun _ _ h=>h.elim)⟩
 intro m es' hm he'
 obtain⟨_,hob⟩:=hI.objs m _ he'
 obtain⟨ents,clock,h1,_⟩:=hob
 refine⟨es',he',Nat.le_refl _,fun _ ents' clock' h'=>⟨ents,clock,h1,?_⟩⟩
 rw[hb _ (hlt h1),h1]at h'
 cases h'
 exact⟨rfl,fun _=>rfl⟩
theorem qpi{P:Program}{E:Env}{f:FuncId}{args:List LV}{H:qa}{v:LV}{S:Res->Prop}(he:qcL P f)(hS:S (.ret v H))
  (h:∀(G:qb)(w:World)(us:Array Value),Inv G w H->yC G w args us->Calls P f us w fun e w'=>∃u,e=.returned u/\VR G w' v u/\w.grownBy w' none):qV P E f args H S:=by
 refine⟨he,fun G w us hI _ ha=>(h G w us hI ha).mono fun e w' hw=>?_⟩
 obtain⟨u,rfl,hv,hg⟩:=hw
 obtain⟨hx,hI'⟩:=hI.grown hg
 exact⟨v,H,G,hS,hv,hI',hx⟩
theorem qbc.of_calls{P:Program}{E:Env}{F:Fns}(hF:∀f args H S,qV P E f args H S->F.prim f args H S){f:FuncId}{args:List LV}{v:LV}(he:qcL P f)
  (h:∀(G:qb)(w:World)(us:Array Value),yC G w args us->Calls P f us w fun e w'=>∃u,e=.returned u/\VR G w' v u/\w.grownBy w' none):qbc E F f args v:=by
 intro H kv kp hk hH
 exact .prim (hF _ _ _ _ (qpi (v:=v) he (.inl ⟨v,H,rfl,hH,hk H.next (Nat.le_refl _)⟩) fun G w us _ ha=>h G w us ha))
theorem qbc.of_callsE{P:Program}{E:Env}{F:Fns}(hF:∀f args H S,qV P E f args H S->F.prim f args H S){f:FuncId}{args:List LV}{v:LV}(he:qcL P f)
  (h:∀(G:qb)(w:World)(us:Array Value),yJ E G w->yC G w args us->Calls P f us w fun e w'=>∃u,e=.returned u/\VR G w' v u/\w.grownBy w' none):qbc E F f args v:=by
 intro H kv kp hk hH
 refine .prim (hF _ _ _ _ ⟨he,fun G w us hI hE ha=>(h G w us hE ha).mono fun e w' hw=>?_⟩)
 obtain⟨u,rfl,hv,hg⟩:=hw
 obtain⟨hx,hI'⟩:=hI.grown hg
 exact⟨v,H,G,.inl ⟨v,H,rfl,hH,hk H.next (Nat.le_refl _)⟩,hv,hI',hx⟩
theorem qdR(w:World):w.grownBy w none:=⟨rfl,rfl,rfl,Nat.le_refl _,fun _ _ _=>rfl⟩
end Go.Abs
namespace Go.Abs
open Go
inductive Bel (n:Nat):LV->Prop
 |sc (v:Value):Bel n (.sc v)
 |bot:Bel n .bot
 |agg {cs:List LV}:(∀(i:Nat)(c:LV),cs[i]? = some c->Bel n c)->Bel n (.agg cs)
 |tup {cs:List LV}:(∀(i:Nat)(c:LV),cs[i]? = some c->Bel n c)->Bel n (.tup cs)
 |sl {es:List LV} {own:Own}:(∀(i:Nat)(e:LV)(j:Nat)(c:LV),es[i]? = some e->e.cells[j]? = some c->Bel n c)->(∀t,own=.tok t->t<n)->Bel n (.sl es own)
 |asl {o off len:Nat}:o<n->Bel n (.asl o off len)
 |ptr {o off:Nat}:o<n->Bel n (.ptr o off)
 |cptr {cs:List LV} {off:Nat}:(∀(j:Nat)(c:LV),cs[j]? = some c->Bel n c)->Bel n (.cptr cs off)
 |map {o:Nat}:o<n->Bel n (.map o)
 |fn {f:Fn} {a c:List LV}:qdi n f->(∀(i:Nat)(x:LV),a[i]? = some x->Bel n x)->(∀(i:Nat)(x:LV),c[i]? = some x->Bel n x)->Bel n (.fn f a c)
 |iface {t:TypeId} {x:LV}:Bel n x->Bel n (.iface t x)
theorem Bel.mono{n m:Nat}{x:LV}(h:Bel n x)(hm:n<=m):Bel m x:=by
 induction h with
 |sc v=>exact .sc v
 |bot=>exact .bot
 |agg _ ih=>exact .agg ih
 |tup _ ih=>exact .tup ih
 |sl _ ho ih=>exact .sl ih (fun t ht=>Nat.lt_of_lt_of_le (ho t ht) hm)
 |asl h=>exact .asl (Nat.lt_of_lt_of_le h hm)
 |ptr h=>exact .ptr (Nat.lt_of_lt_of_le h hm)
 |cptr _ ih=>exact .cptr ih
 |map h=>exact .map (Nat.lt_of_lt_of_le h hm)
 |fn hf _ _ ih1 ih2=>exact .fn (qnR hf hm) ih1 ih2
 |iface _ ih=>exact .iface ih
def qb.low(G:qb)(n:Nat):qb:=⟨G.B,n,G.loc,G.asz,G.tk,G.own,G.rc⟩
theorem yW.bel{G:qb}{own:Own}{base:Option Addr}{l c:Nat}(h:yW G own base l c):∀t,own=.tok t->t<G.n:=by
 rintro t rfl;exact h.1
theorem yW.low{G:qb}{n:Nat}{own:Own}{base:Option Addr}{l c:Nat}(h:yW G own base l c)(hb:∀t,own=.tok t->t<n):yW (G.low n) own base l c:=by
 cases own with
 |no=>exact trivial
 |full=>exact h
 |tok t=>exact⟨hb t rfl,h.2⟩
theorem VR.bel{G:qb}{w:World}{x:LV}{v:Value}(h:VR G w x v):Bel G.n x:=by
 induction h with
 |sc v=>exact .sc v
 |bot v=>exact .bot
 |agg _ _ _ ih=>exact .agg ih
 |tup _ _ ih=>exact .tup ih
 |sl _ _ _ _ ho ih=>exact .sl ih ho.bel
 |sln ho=>exact .sl (fun i e j c h=>by simp at h) ho.bel
 |sle a=>exact .sl (fun i e j c h=>by simp at h) (fun t h=>by cases h)
 |asl ho _ _=>exact .asl ho
 |ptr ho=>exact .ptr ho
 |cptr _ _ ih=>exact .cptr ih
 |map ho=>exact .map ho
 |fn hf _ _ _ _ ih1 ih2=>exact .fn hf ih1 ih2
 |iface _ ih=>exact .iface ih
theorem VR.low{G:qb}{w:World}{n:Nat}{x:LV}{v:Value}(h:VR G w x v):Bel n x->VR (G.low n) w x v:=by
 induction h with
 |sc v=>exact fun _=>.sc v
 |bot v=>exact fun _=>.bot v
 |agg hs _ h1 ih=>intro hb;cases hb with|agg hb=>exact .agg hs (fun i c hc=>ih i c hc (hb i c hc)) h1
 |tup hs _ ih=>intro hb;cases hb with|tup hb=>exact .tup hs (fun i c hc=>ih i c hc (hb i c hc))
 |sl hc hz hx _ ho ih=>intro hb;cases hb with|sl hb ho'=>exact .sl hc hz hx (fun i e j c h1 h2=>ih i e j c h1 h2 (hb i e j c h1 h2)) (ho.low ho')
 |sln ho=>intro hb;cases hb with|sl _ ho'=>exact .sln (ho.low ho')
 |sle a=>exact fun _=>.sle a
 |asl ho hl hc=>intro hb;cases hb with|asl hb=>exact .asl (G:=qb.low _ n) hb hl hc
 |ptr ho=>intro hb;cases hb with|ptr hb=>exact .ptr (G:=qb.low _ n) hb
 |cptr hx _ ih=>intro hb;cases hb with|cptr hb=>exact .cptr hx (fun j c h=>ih j c h (hb j c h))
 |map ho=>intro hb;cases hb with|map hb=>exact .map (G:=qb.low _ n) hb
 |fn hf h1 h2 _ _ ih1 ih2=>intro hb;cases hb with|fn hbf hb1 hb2=>exact .fn (G:=qb.low _ n) hbf h1 h2 (fun i x h=>ih1 i x h (hb1 i x h)) (fun i x h=>ih2 i x h (hb2 i x h))
 |iface _ ih=>intro hb;cases hb with|iface hb=>exact .iface (ih hb)
theorem yI.low{G G':qb}{w w':World}{H H':qa}{o:Nat}{ob:qc}(h0:yI G w H o ob)(h:yI G' w' H' o ob)(hobj:H'.objs=H.objs):yI (G'.low G.n) w' H o ob:=by
 have mapc:∀es:List (LV×LV),qar G w o es->∀es',es'.Perm es->qar G' w' o es'->qar (G'.low G.n) w' o es':=by
  rintro es ⟨ents0,clock0,_,_,_,hsz0,k0,_⟩ es' hp ⟨ents,clock,h1,h2,h3,h4,h5,h6⟩
  refine⟨ents,clock,h1,h2,h3,h4,fun i kv e hi he=>?_,h6⟩
  obtain⟨v1,v2⟩:=h5 i kv e hi he
  obtain⟨j,hj⟩:=List.mem_iff_getElem?.1 (hp.mem_iff.1 (List.mem_iff_getElem?.2 ⟨i,hi⟩))
  have hjl:j<ents0.size:=by rw[hsz0];exact(List.getElem?_eq_some_iff.1 hj).1
  obtain⟨b1,b2⟩:=k0 j kv ents0[j] hj (Array.getElem?_eq_getElem hjl)
  exact⟨v1.low b1.bel,v2.low b2.bel⟩
 cases ob with
 |cells cs=>
  obtain⟨vs0,el0,fz0,_,_,_,_,_,k0⟩:=h0
  obtain⟨vs,el,fz,h1,h2,h3,h4,h5,h6⟩:=h
  exact⟨vs,el,fz,h1,h2,h3,h4,h5,fun i c hc=>⟨(h6 i c hc).1.low (k0 i c hc).1.bel,(h6 i c hc).2⟩⟩
 |arr sz cs=>
  obtain⟨vs0,el0,fz0,_,_,_,_,_,_,k0⟩:=h0
  obtain⟨vs,el,fz,h1,h2,h3,h3',h4,h5,h6⟩:=h
  exact⟨vs,el,fz,h1,h2,h3,h3',h4,h5,fun i c hc=>⟨(h6 i c hc).1.low (k0 i c hc).1.bel,(h6 i c hc).2⟩⟩
 |map es=>exact mapc es h0 es (List.Perm.refl _) h
 |um es=>
  obtain⟨es0,hp0,h0⟩:=h0
  obtain⟨es1,hp1,h1⟩:=h
  exact⟨es1,hp1,mapc es0 h0 es1 (hp1.trans hp0.symm) h1⟩
 |iter m left cur n=>
  obtain⟨_,_,k3⟩:=h0
  obtain⟨h1,h2,h3⟩:=h
  refine⟨h1,h2,?_⟩
  split at h3
  ·rename_i hm
   rw[if_pos hm];exact h3
  ·rename_i hm
   rw[if_neg hm]at k3 ⊢
   obtain⟨_,_,_,km,_⟩:=k3
   rw[hobj]at h3
   obtain⟨seen,stepped,q1,_,q3⟩:=h3
   exact⟨seen,stepped,q1,km,q3⟩
 |tok n sz=>exact h
 |bld tb te l=>exact h
 |dfr=>exact h
 |rcd busy fo ps k=>
  obtain⟨fn0,tmps0,df0,g1,g2,g3,g4,g5⟩:=h0
  obtain⟨fn,tmps,df,h1,h2,h3,h4,h5⟩:=h
  exact⟨fn,tmps,df,h1,h2,h3,h4,fun i x hi=>(h5 i x hi).low ((g5 i x hi).bel)⟩
theorem qV.low{P:Program}{E:Env}{f:FuncId}{args:List LV}{H:qa}{v:LV}{S:Res->Prop}(h:qV P E f args H fun r=>∃n,r=.ret v ⟨H.objs,n⟩)(hv:Bel 0 v)(hS:S (.ret v H)):qV P E f args H S:=by
 refine⟨h.1,fun G w us hI hE ha=>(h.2 G w us hI hE ha).mono fun e w' hp=>?_⟩
 cases e with
 |outgrown=>exact hp.elim
 |panicked ch=>
  obtain⟨_,_,_,_,⟨n,hn⟩,_⟩:=hp
  cases hn
 |returned u=>
  obtain⟨v',H',G',⟨n,hn⟩,hV,hI',hx⟩:=hp
  cases hn
  refine⟨v,H,G'.low G.n,hS,hV.low (hv.mono (Nat.zero_le _)),⟨hI.n,hI'.hB,hI'.free,hI'.old,fun o x ho=>?_⟩,?_⟩
  ·obtain⟨h1,h2⟩:=hI.objs o x ho
   exact⟨h1,yI.low h2 (hI'.objs o x ho).2 rfl⟩
  ·exact⟨hx.os,hx.tape,hx.output,hx.size,hx.hB,hx.block,Nat.le_refl _,hx.loc,hx.asz,hx.cl,hx.tk,hx.rc⟩
def OBel(n:Nat):qc->Prop
 |.cells cs=>∀(i:Nat)(c:LV),cs[i]? = some c->Bel n c
 |.arr _ cs=>∀(i:Nat)(c:LV),cs[i]? = some c->Bel n c
 |.map es=>∀(i:Nat)(kv:LV×LV),es[i]? = some kv->Bel n kv.1/\Bel n kv.2
 |.um es=>∀(i:Nat)(kv:LV×LV),es[i]? = some kv->Bel n kv.1/\Bel n kv.2
 |.iter m _ _ _=>m<n
 |.tok _ _=>True
 |.bld _ _ _=>True
 |.rcd _ fo _ _=>∀(i:Nat)(x:LV),fo[i]? = some x->Bel n x
 |.dfr=>True
theorem yI.low2{G:qb}{w:World}{H H':qa}{n o:Nat}{ob:qc}(h:yI G w H o ob)(hb:OBel n ob)(hobj:H'.objs=H.objs):yI (G.low n) w H' o ob:=by
 have mapc:∀es:List (LV×LV),(∀(i:Nat)(kv:LV×LV),es[i]? = some kv->Bel n kv.1/\Bel n kv.2)->qar G w o es->qar (G.low n) w o es:=by
  rintro es hbs ⟨ents,clock,h1,h2,h3,h4,h5,h6⟩
  exact⟨ents,clock,h1,h2,h3,h4,fun i kv e hi he=>⟨(h5 i kv e hi he).1.low (hbs i kv hi).1,(h5 i kv e hi he).2.low (hbs i kv hi).2⟩,h6⟩
 cases ob with
 |cells cs=>
  obtain⟨vs,el,fz,h1,h2,h3,h4,h5,h6⟩:=h
  exact⟨vs,el,fz,h1,h2,h3,h4,h5,fun i c hc=>⟨(h6 i c hc).1.low (hb i c hc),(h6 i c hc).2⟩⟩
 |arr sz cs=>
  obtain⟨vs,el,fz,h1,h2,h3,h3',h4,h5,h6⟩:=h
  exact⟨vs,el,fz,h1,h2,h3,h3',h4,h5,fun i c hc=>⟨(h6 i c hc).1.low (hb i c hc),(h6 i c hc).2⟩⟩
 |map es=>exact mapc es hb h
 |um es=>
  obtain⟨es1,hp1,h1⟩:=h
  refine⟨es1,hp1,mapc es1 (fun i kv hi=>?_) h1⟩
  obtain⟨j,hj⟩:=List.mem_iff_getElem?.1 (hp1.mem_iff.1 (List.mem_iff_getElem?.2 ⟨i,hi⟩))
  exact hb j kv hj
 |iter m left cur k=>
  obtain⟨h1,h2,h3⟩:=h
  refine⟨h1,h2,?_⟩
  split at h3
  ·rename_i hm
   rw[if_pos hm];exact h3
  ·rename_i hm
   rw[if_neg hm,hobj]
   obtain⟨seen,stepped,q1,_,q3⟩:=h3
   exact⟨seen,stepped,q1,hb,q3⟩
 |tok n sz=>exact h
 |bld tb te l=>exact h
 |dfr=>exact h
 |rcd busy fo ps k=>
  obtain⟨fn,tmps,df,h1,h2,h3,h4,h5⟩:=h
  exact⟨fn,tmps,df,h1,h2,h3,h4,fun i x hi=>(h5 i x hi).low (hb i x hi)⟩
theorem qV.low2{P:Program}{E:Env}{f:FuncId}{args:List LV}{H:qa}{v:LV}{ob:List (Nat×qc)}{n0:Nat}{S:Res->Prop}(h:qV P E f args H fun r=>∃n,r=.ret v ⟨ob,n⟩)
  (hn:H.next<=n0) (hv:Bel n0 v) (ho:∀o x,look o ob=some x->look o H.objs=some x\/(o<n0/\OBel n0 x)) (hS:S (.ret v ⟨ob,n0⟩)):qV P E f args H S:=by
 refine⟨h.1,fun G w us hI hE ha=>(h.2 G w us hI hE ha).mono fun e w' hp=>?_⟩
 cases e with
 |outgrown=>exact hp.elim
 |panicked ch=>
  obtain⟨_,_,_,_,⟨n,hn⟩,_⟩:=hp
  cases hn
 |returned u=>
  obtain⟨v',H',G',⟨n,hn'⟩,hV,hI',hx⟩:=hp
  cases hn'
  have hGn:G.n<=n0:=Nat.le_trans hI.n hn
  refine⟨v,⟨ob,n0⟩,G'.low n0,hS,hV.low hv,⟨Nat.le_refl _,hI'.hB,hI'.free,hI'.old,fun o x hl=>?_⟩,?_⟩
  ·have h2:=(hI'.objs o x hl).2
   rcases ho o x hl with h0|⟨h0,hb⟩
   ·obtain⟨h1,h3⟩:=hI.objs o x h0
    refine⟨Nat.lt_of_lt_of_le h1 hGn,h2.low2 ?_ rfl⟩
    cases x with
    |cells cs=>obtain⟨vs0,el0,fz0,_,_,_,_,_,k0⟩:=h3;exact fun i c hc=>(k0 i c hc).1.bel.mono hGn
    |arr sz cs=>obtain⟨vs0,el0,fz0,_,_,_,_,_,_,k0⟩:=h3;exact fun i c hc=>(k0 i c hc).1.bel.mono hGn
    |map es=>
     obtain⟨ents,clock,_,_,_,hsz,k0,_⟩:=h3
     intro i kv hi
     have hl:i<ents.size:=by rw[hsz];exact(List.getElem?_eq_some_iff.1 hi).1
     obtain⟨b1,b2⟩:=k0 i kv ents[i] hi (Array.getElem?_eq_getElem hl)
     exact⟨b1.bel.mono hGn,b2.bel.mono hGn⟩
    |um es=>
     obtain⟨es0,hp0,ents,clock,_,_,_,hsz,k0,_⟩:=h3
     intro i kv hi
     obtain⟨j,hj⟩:=List.mem_iff_getElem?.1 (hp0.symm.mem_iff.1 (List.mem_iff_getElem?.2 ⟨i,hi⟩))
     have hl:j<ents.size:=by rw[hsz];exact(List.getElem?_eq_some_iff.1 hj).1
     obtain⟨b1,b2⟩:=k0 j kv ents[j] hj (Array.getElem?_eq_getElem hl)
     exact⟨b1.bel.mono hGn,b2.bel.mono hGn⟩
    |iter m left cur k=>
     obtain⟨_,_,k3⟩:=h3
     split at k3
     ·rename_i hm
      show m<n0
      rw[hm];omega
     ·obtain⟨_,_,_,km,_⟩:=k3
      exact Nat.lt_of_lt_of_le km hGn
    |tok n sz=>exact trivial
    |bld tb te l=>exact trivial
    |dfr=>exact trivial
    |rcd busy fo ps k=>obtain⟨_,_,_,_,_,_,_,k0⟩:=h3;exact fun i x hi=>(k0 i x hi).bel.mono hGn
   ·exact⟨h0,h2.low2 hb rfl⟩
  ·exact⟨hx.os,hx.tape,hx.output,hx.size,hx.hB,hx.block,hGn,hx.loc,hx.asz,hx.cl,hx.tk,hx.rc⟩
def qhf(E:Env)(F:Fns)(f:FuncId)(args:List LV)(v:LV):Prop:=∀(H:qa)(kv kp:HP),kv v H->cP E F f args H kv kp
theorem qhf.of{P:Program}{E:Env}{F:Fns}(hmix:P.follows .mixedOrders=true)(hF:qep P E F)(hprim:∀f args H S,qV P E f args H S->F.prim f args H S){f:FuncId}{args:List LV}{v:LV}
  (h:qbc E F f args v) (hv:Bel 0 v):qhf E F f args v:=by
 intro H kv kp hk hH
 have h1:Out E F (.call f args H) fun r=>∃n,r=.ret v ⟨H.objs,n⟩:=by
  refine .mono (h H (fun u H'=>u=v/\∃n,H'=⟨H.objs,n⟩) (fun _ _=>False) (fun n _=>⟨rfl,n,rfl⟩) hH) fun r hr=>?_
  rcases hr with⟨u,H',rfl,_,rfl,n,rfl⟩|⟨u,H',rfl,_,hf⟩
  ·exact⟨n,rfl⟩
  ·exact hf.elim
 have h2:qV P E f args H fun r=>∃n,r=.ret v ⟨H.objs,n⟩:=qbi hmix hF h1
 exact .prim (hprim _ _ _ _ (h2.low hv (.inl ⟨v,H,rfl,hH,hk⟩)))
theorem qV.inv{P:Program}{E:Env}{f:FuncId}{args:List LV}{H:qa}{S T:Res->Prop}(h:qV P E f args H T)
  (hr:∀v H' G' w',T (.ret v H')->Inv G' w' H'->∃H'',Inv G' w' H''/\S (.ret v H'')) (hp:∀v H',T (.pan v H')->S (.pan v H')):qV P E f args H S:=by
 refine⟨h.1,fun G w us hI hE ha=>(h.2 G w us hI hE ha).mono fun e w' hq=>?_⟩
 cases e with
 |outgrown=>exact hq.elim
 |panicked ch=>
  obtain⟨v,u,H',G',hT,h1,h2,h3,h4⟩:=hq
  exact⟨v,u,H',G',hp _ _ hT,h1,h2,h3,h4⟩
 |returned u=>
  obtain⟨v,H',G',hT,hV,hI',hx⟩:=hq
  obtain⟨H'',h1,h2⟩:=hr v H' G' w' hT hI'
  exact⟨v,H'',G',h2,hV,h1,hx⟩
theorem qwq{E:Env}{F:Fns}{b:BFn}{f:FuncId}{args:List LV}{H:qa}{kv kp:HP}{o:Nat}{es:List (LV×LV)}(hf:F.fn f b)(nodrw:∀l,b.body≠.drw l)(hl:look o H.objs=some (.um es))
  (hno:∀i m l k n,look i H.objs=some (.iter m l k n)->m≠o)
  (h:H.Ok->∀es',es'.Perm es->fnP E F b args (H.put o (.map es')) (fun v H'=>∃H'',HWk H' H''/\(H'.Ok->H''.Ok)/\kv v H'') kp):cP E F f args H kv kp:=by
 intro hH
 have hn:args.length<=b.n:=(h hH es (List.Perm.refl _)).1
 have hb:Out E F (.code b.body (zu args) [] H) (XSP (qdX E b (fun v H'=>∃H'',HWk H' H''/\(H'.Ok->H''.Ok)/\kv v H'') kp)):=by
  refine .ofUm nodrw hl hno fun es' hp=>?_
  obtain⟨_,h⟩:=h hH es' hp
  obtain⟨t,h1,h2⟩:=qfz h
  have ht:t.get=zu args:=by
   funext j
   rw[h2 j]
   simp only[zu]
   by_cases hj:j<args.length
   ·rw[if_pos (by omega)];simp
   ·rw[if_neg (by omega)]
    have:args[j]? = none:=List.getElem?_eq_none (by omega)
    simp[List.getD_eq_getElem?_getD,this,FT.get_nil]
  have:=qaP b.body t (H.put o (.map es')) _ (qt.put hH) h1
  rwa [ht]at this
 refine .enter hf hn hb (fun fr df H' hT=>?_) (fun v fr df H' hT=>?_) (fun n fr df H' hT=>?_)
 ·have:∃(t':FT),fr=t'.get/\df=[]/\H'.Ok/\yZ E b.res t' H' fun v=>∃H'',HWk H' H''/\(H'.Ok->H''.Ok)/\kv v H'':=by
   rcases hT with⟨e,t',H'',he,hok,hk⟩|⟨e,t',H'',he,hok,hk⟩<;>cases he
   ·exact⟨t',rfl,rfl,hok,hk⟩
   ·exact⟨t',rfl,rfl,hok,hk⟩
  obtain⟨t',rfl,rfl,hok,v,hv,H1,h3,h4,h5⟩:=this
  exact⟨rfl,v,v,H1,hv,.inl rfl,h3,.inl ⟨v,H1,rfl,h4 hok,h5⟩⟩
 ·obtain⟨e,t',H'',he,hok,hk⟩:=hT
  cases he
  exact⟨rfl,v,H',.inl rfl,⟨Nat.le_refl _,fun _ _ h=>h⟩,.inr ⟨v,H',rfl,hok,hk⟩⟩
 ·obtain⟨e,t',H'',he,hok,hk⟩:=hT
  cases he
  cases hk
end Go.Abs
namespace Go.Abs
open Go
theorem Inv.grownCl{G:qb}{w w':World}{H:qa}(hI:Inv G w H)(hg:w.grownBy w' none){g:Nat}(h1:w.heap.size<=g)(h2:g<w'.heap.size):
  ∃G',Ext G w G' w'/\Inv G' w' H/\∀x,G'.Cl g x:=by
 have hb:∀k,k<w.heap.size->w'.heap[k]? = w.heap[k]?:=fun k hk=>hg.block k hk (by simp)
 have hlt:∀{k:Nat}{o:Obj},w.heap[k]? = some o->k<w.heap.size:=fun h=>(Array.getElem?_eq_some_iff.1 h).1
 let G':qb:=⟨G.B,G.n,G.loc,G.asz,G.tk,fun b x=>if b=g then .cl else G.own b x,G.rc⟩
 have hne:∀{b x:Nat}{l:Lab},G.own b x=l->l≠.free->b≠g:=by
  intro b x l h hl e
  subst e
  rw[hI.free b x h1]at h
  exact hl h.symm
 have hx:Ext G w G' w':=by
  refine⟨hg.os,hg.tape,hg.output,hg.size,rfl,fun k hk=>hb k (hI.hB k hk),Nat.le_refl _,fun _ _=>rfl,fun _ _=>rfl,fun b x hc=>⟨?_,fun v hv=>?_⟩,fun t _ m b c h=>⟨m,b,c,h,Nat.le_refl _,fun _=>⟨rfl,rfl⟩⟩,rfl⟩
  ·show (if b=g then Lab.cl else G.own b x)=.cl
   rw[if_neg (hne hc (by simp))];exact hc
  ·have:b<w.heap.size:=by
    rcases Nat.lt_or_ge b w.heap.size with h|h
    ·exact h
    ·rw[hI.free b x h]at hc;cases hc
   rw[qal (hb b this)];exact hv
 refine⟨G',hx,Inv.step (W:=fun _ _=>False) (V:=fun _=>False) (fun _=>False) hI hx ⟨fun k vs el fz h=>⟨vs,by rw[hb k (hlt h)];exact h,rfl,fun _ _=>rfl⟩,fun k ob h _ _=>by rw[hb k (hlt h)];exact h⟩
  hI.n (fun b x h=>?_) (fun b x h=>?_) (fun _ _ _ h=>h) (fun _ _ _ _ _ h=>h) (fun _ _ _ h=>h) (fun i k x _=>⟨fun h=>?_,fun h=>?_⟩) (fun _ _ _=>rfl) ?_ (fun _ _ h=>h.elim),fun x=>.inr (by show (if g=g then Lab.cl else G.own g x)=.cl;rw[if_pos rfl])⟩
 ·show (if b=g then Lab.cl else G.own b x)=.free
  rw[if_neg (by omega)];exact hI.free b x (Nat.le_trans hg.size h)
 ·show (if b=g then Lab.cl else G.own b x)=.free
  rw[if_neg (fun e=>by subst e;have:=hI.hB b h;omega)];exact hI.old b x h
 ·show (if k=g then Lab.cl else G.own k x)=_
  rw[if_neg (hne h (by simp))];exact h
 ·show (if k=g then Lab.cl else G.own k x)=_
  rw[if_neg (hne h (by simp))];exact h
 ·intro m es' hm he'
  obtain⟨_,hob⟩:=hI.objs m _ he'
  obtain⟨ents,clock,h1,_⟩:=hob
  refine⟨es',he',Nat.le_refl _,fun _ ents' clock' h'=>⟨ents,clock,h1,?_⟩⟩
  rw[hb _ (hlt h1),h1]at h'
  cases h'
  exact⟨rfl,fun _=>rfl⟩
theorem qph{P:Program}{E:Env}{f:FuncId}{args:List LV}{H:qa}{zs:List Int}{S:Res->Prop}(he:qcL P f)(hS:S (.ret (.sl (zs.map fun z=>.int z) .no) H))
  (h:∀(G:qb)(w:World)(us:Array Value),Inv G w H->yC G w args us->Calls P f us w fun e w'=>∃v,e=.returned v/\w.grownBy w' none /\
   ((v=.slice none 0 0/\zs=[])\/∃g cap,v=.slice (some (at_ g 0)) zs.length cap/\w.heap.size<=g/\g<w'.heap.size/\zs.length<=cap/\∀i z,zs[i]? = some z->w'.cell? (at_ g i)=some (.int .i64 z))):qV P E f args H S:=by
 refine⟨he,fun G w us hI _ ha=>(h G w us hI ha).mono fun e w' hw=>?_⟩
 obtain⟨v,rfl,hg,hc⟩:=hw
 rcases hc with⟨rfl,rfl⟩|⟨g,cap,rfl,h1,h2,h3,h4⟩
 ·obtain⟨hx,hI'⟩:=hI.grown hg
  exact⟨_,H,G,hS,.sln trivial,hI',hx⟩
 ·obtain⟨G',hx,hI',hcl⟩:=hI.grownCl hg h1 h2
  have hl:(zs.map fun z=>LV.int z).length=zs.length:=List.length_map _
  have hget:∀(i:Nat)(e:LV),(zs.map fun z=>LV.int z)[i]? = some e->∃z,zs[i]? = some z/\e=.int z:=by
   intro i e h
   rw[List.getElem?_map]at h
   obtain⟨z,hz,rfl⟩:=Option.map_eq_some_iff.1 h
   exact⟨z,hz,rfl⟩
  refine⟨_,H,G',hS,?_,hI',hx⟩
  rw[<-hl]
  refine .sl (sz:=1) (xs:=fun i _=>.int .i64 (zs.getD i 0)) (by rw[hl];exact h3) (fun i e h=>?_) (fun i e j c h hj=>?_) (fun i e j c h hj=>?_) trivial
  ·obtain⟨z,_,rfl⟩:=hget i e h;rfl
  ·obtain⟨z,hz,rfl⟩:=hget i e h
   match j,hj with
   |0,_=>
    refine⟨hcl _,?_,rfl⟩
    rw[List.getD_eq_getElem?_getD,hz]
    simpa using h4 i z hz
   |j+1,hj=>simp[LV.cells]at hj
  ·obtain⟨z,hz,rfl⟩:=hget i e h
   match j,hj with
   |0,hj=>
    simp[LV.cells]at hj;subst hj
    rw[List.getD_eq_getElem?_getD,hz]
    exact .sc _
   |j+1,hj=>simp[LV.cells]at hj
end Go.Abs
namespace Go.Abs.Tz
open Go Go.Abs
section
variable{α:Type}(lt:α->α->Bool)
def vX:List α->Nat->List α
 |A,0=>A
 |A,j+1=>match A[j+1]?,A[j]? with
  |some x,some y=>if lt x y then vX ((A.set (j+1) y).set j x) j else A
  |_,_=>A
def qag:Nat->Nat->List α->List α
 |0,_,A=>A
 |k+1,i,A=>qag k (i+1) (vX lt A i)
theorem qhC:∀(j:Nat)(A:List α),(vX lt A j).Perm A
 |0,A=>by unfold vX;exact .refl _
 |j+1,A=>by
  unfold vX
  split
  ·rename_i x y hx hy
   split
   ·refine(qhC j _).trans ?_
    have h1:=(List.getElem?_eq_some_iff.1 hx)
    have h2:=(List.getElem?_eq_some_iff.1 hy)
    obtain⟨h1,rfl⟩:=h1
    obtain⟨h2,rfl⟩:=h2
    exact List.set_set_perm h1 h2
   ·exact .refl _
  ·exact .refl _
theorem qle(j:Nat)(A:List α):(vX lt A j).length=A.length:=(qhC lt j A).length_eq
theorem qng:∀(k i:Nat)(A:List α),(qag lt k i A).Perm A
 |0,_,A=>.refl _
 |k+1,i,A=>(qng k (i+1) _).trans (qhC lt i A)
def qdu(A:List α)(n:Nat):Prop:=∀i x y,i+1<n->A[i]? = some x->A[i+1]? = some y->lt y x=false
def But(A:List α)(n j:Nat):Prop:=(∀i x y,i+1<n->i+1≠j->A[i]? = some x->A[i+1]? = some y->lt y x=false) /\
 (∀x y,0<j->j+1<n->A[j - 1]? = some x->A[j+1]? = some y->lt y x=false)
theorem qld(htr:∀a b,lt a b=true->lt b a=false):∀(j n:Nat)(A:List α),j<n->n<=A.length->But lt A n j->qdu lt (vX lt A j) n
 |0,n,A,hj,hn,hb=>by
  unfold vX
  intro i x y hi hx hy
  exact hb.1 i x y hi (by omega) hx hy
 |j+1,n,A,hj,hn,hb=>by
  unfold vX
  have h1:A[j+1]? = some (A[j+1]'(by omega)):=List.getElem?_eq_getElem (by omega)
  have h2:A[j]? = some (A[j]'(by omega)):=List.getElem?_eq_getElem (by omega)
  obtain⟨x,hx⟩:∃x,A[j+1]? = some x:=⟨_,h1⟩
  obtain⟨y,hy⟩:∃y,A[j]? = some y:=⟨_,h2⟩
  rw[hx,hy]
  simp only
  split
  ·rename_i hlt
   have hg:∀k,((A.set (j+1) y).set j x)[k]? = if k=j then some x else if k=j+1 then some y else A[k]?:=by
    intro k
    rw[List.getElem?_set]
    by_cases hk:j=k
    ·subst hk
     rw[if_pos rfl,if_pos rfl,if_pos (by rw[List.length_set];omega)]
    ·rw[if_neg hk,if_neg (fun e=>hk e.symm),List.getElem?_set]
     by_cases hk2:j+1=k
     ·subst hk2
      rw[if_pos rfl,if_pos rfl,if_pos (by omega)]
     ·rw[if_neg hk2,if_neg (fun e=>hk2 e.symm)]
   refine qld htr j n _ (by omega) (by rw[List.length_set,List.length_set];exact hn) ⟨fun i u v hi hne hu hv=>?_,fun u v h0 hi hu hv=>?_⟩
   ·rw[hg]at hu hv
    by_cases hij:i=j
    ·subst hij
     rw[if_pos rfl]at hu
     rw[if_neg (by omega),if_pos rfl]at hv
     cases hu;cases hv
     exact htr _ _ hlt
    ·rw[if_neg hij]at hu
     rw[if_neg hne]at hv
     by_cases hi1:i=j+1
     ·subst hi1
      rw[if_pos rfl]at hu
      cases hu
      rw[if_neg (by omega)]at hv
      exact hb.2 y v (by omega) (by omega) (by simpa using hy) hv
     ·rw[if_neg hi1]at hu
      rw[if_neg (by omega)]at hv
      exact hb.1 i u v hi (by omega) hu hv
   ·rw[hg]at hu hv
    rw[if_neg (by omega),if_neg (by omega)]at hu
    rw[if_neg (by omega),if_pos rfl]at hv
    cases hv
    have:=hb.1 (j - 1) u y (by omega) (by omega) hu (by rw[show j - 1+1=j by omega];exact hy)
    exact this
  ·rename_i hlt
   intro i u v hi hu hv
   by_cases hij:i+1=j+1
   ·obtain rfl:i=j:=by omega
    rw[hy]at hu;rw[hx]at hv
    cases hu;cases hv
    simpa using hlt
   ·exact hb.1 i u v hi hij hu hv
theorem qsb(htr:∀a b,lt a b=true->lt b a=false){i:Nat}{A:List α}(h:qdu lt A i)(hi:i<A.length):qdu lt (vX lt A i) (i+1):=
 qld lt htr i (i+1) A (Nat.lt_succ_self _) hi ⟨fun k x y hk hne hx hy=>h k x y (by omega) hx hy,fun x y h0 hk _ _=>by omega⟩
theorem qnf(htr:∀a b,lt a b=true->lt b a=false):∀(k i:Nat)(A:List α),qdu lt A i->i+k<=A.length->qdu lt (qag lt k i A) (i+k)
 |0,i,A,h,_=>h
 |k+1,i,A,h,hk=>by
  have h1:=qsb lt htr h (by omega)
  have:=qnf htr k (i+1) (vX lt A i) h1 (by rw[qle];omega)
  rw[show i+(k+1)=i+1+k by omega]
  exact this
theorem qkj(htot:∀a b c,lt b a=false->lt c b=false->lt c a=false):∀(A:List α),qdu lt A A.length->A.Pairwise fun x y=>lt y x=false
 |[],_=>.nil
 |[a],_=>by simp
 |a::b::r,h=>by
  have h1:qdu lt (b::r) (b::r).length:=fun i x y hi hx hy=>h (i+1) x y (by simp only[List.length_cons]at hi ⊢;omega) (by simpa using hx) (by simpa using hy)
  have ih:=qkj htot (b::r) h1
  have hab:lt b a=false:=h 0 a b (by simp) rfl rfl
  rw[List.pairwise_cons]
  refine⟨fun c hc=>?_,ih⟩
  rcases List.mem_cons.1 hc with rfl|hc
  ·exact hab
  ·exact htot a b c hab ((List.pairwise_cons.1 ih).1 c hc)
theorem qie{le:α->α->Prop}:∀{l m:List α},l.Perm m->l.Pairwise le->m.Pairwise le->(∀a∈l,∀b∈l,le a b->le b a->a=b)->l=m
 |[],m,hp,_,_,_=>hp.symm.eq_nil.symm
 |a::l,m,hp,hl,hm,ha=>by
  cases m with
  |nil=>exact absurd hp.eq_nil (by simp)
  |cons b m=>
   have hab:a=b:=by
    rcases List.mem_cons.1 (hp.mem_iff.1 (List.mem_cons_self)) with h|h
    ·exact h
    ·rcases List.mem_cons.1 (hp.mem_iff.2 (List.mem_cons_self (a:=b) (l:=m))) with h'|h'
     ·exact h'.symm
     ·exact ha a (List.mem_cons_self) b (List.mem_cons_of_mem _ h') ((List.pairwise_cons.1 hl).1 b h') ((List.pairwise_cons.1 hm).1 a h)
   subst hab
   rw[qie (List.perm_cons a |>.1 hp) (List.pairwise_cons.1 hl).2 (List.pairwise_cons.1 hm).2 fun x hx y hy=>ha x (List.mem_cons_of_mem _ hx) y (List.mem_cons_of_mem _ hy)]
end
end Go.Abs.Tz
namespace Go.Abs.Tz
open Go Go.Abs
section
variable{α:Type}{enc:α->List LV}{s:Nat}
theorem qdT(he:∀x,(enc x).length=s):∀A:List α,(A.flatMap enc).length=A.length*s
 |[]=>by simp
 |a::A=>by rw[List.flatMap_cons,List.length_append,qdT he A,he,List.length_cons,Nat.add_mul];omega
theorem qiW(he:∀x,(enc x).length=s):∀(A:List α)(j:Nat),(A.flatMap enc).drop (j*s)=(A.drop j).flatMap enc
 |A,0=>by simp
 |[],j+1=>by simp
 |a::A,j+1=>by
  rw[List.flatMap_cons,List.drop_succ_cons,<-qiW he A j]
  rw[show (j+1)*s=(enc a).length+j*s by rw[he,Nat.add_mul];omega,<-List.drop_drop,List.drop_left]
theorem qnT(he:∀x,(enc x).length=s):∀(A:List α)(j:Nat),(A.flatMap enc).take (j*s)=(A.take j).flatMap enc
 |A,0=>by simp
 |[],j+1=>by simp
 |a::A,j+1=>by
  rw[List.flatMap_cons,List.take_succ_cons,List.flatMap_cons,<-qnT he A j]
  rw[show (j+1)*s=(enc a).length+j*s by rw[he,Nat.add_mul];omega,List.take_length_add_append]
theorem qvc(he:∀x,(enc x).length=s){A:List α}{j:Nat}(hj:j<A.length):((A.flatMap enc).drop (j*s)).take s=enc A[j]:=by
 rw[qiW he,List.drop_eq_getElem_cons hj,List.flatMap_cons]
 have:s=(enc A[j]).length:=(he _).symm
 conv=>lhs;rw[this]
 rw[List.take_left]
theorem qvb(he:∀x,(enc x).length=s){A:List α}{j:Nat}(hj:j<A.length)(x:α):(A.flatMap enc).take (j*s)++enc x++(A.flatMap enc).drop (j*s+s)=(A.set j x).flatMap enc:=by
 rw[show j*s+s=(j+1)*s by rw[Nat.add_mul];omega,qiW he,qnT he,List.set_eq_take_append_cons_drop,if_pos hj,List.flatMap_append,List.flatMap_cons,List.append_assoc]
end
end Go.Abs.Tz
namespace Go.Abs.Tz
open Go Go.Abs Go.Proofs
set_option maxRecDepth 20000
set_option linter.unusedSimpArgs false
attribute [local simp ↓] gF gD uZ uY gd zX qW zk uX zU yq yr gG gI gJ gH jd jg jj je jk jl jh ji jf jb u9 jc ja yo ym yp yn gA gy gC gz gM gK gL ue zz jm qS jn gg yt yu gQ gT gS gN gO g8 jp jw jz jv jx jy j5 j3 jF jH uH uE uS uV uF uN uR uQ uP uO uL uA uB uC uD uT uJ uK uy uU uW uG uI uM uz jL jG jY j8 jI jT jX jW jV jU jR jD j0 jP jQ jA j7 j9 jJ jN jS jB gb j6 jC ga jO jK jM jE jZ jq ju jr gY g7 gW gZ g6 qm uo
attribute [local simp] faL fdL iaL ixL za q9 qN eqK eqL qL ze ut gV yk g9 yb yd yf yh yj ya ye yc yg zr LV.cells LV.whole qm uf zK jo stL zw zF zV qa.alloc ge gc gf gw gv gu gt gq gp gk gj gi gh qd ug
def uq(E:qv):List ByteArray:=E.map (·.1)
theorem wB{a b:ByteArray}:eqBA a b=true↔a=b:=by
 constructor
 ·intro h
  unfold eqBA at h
  rw[ByteArray.toList_eq,ByteArray.toList_eq]at h
  have h1:=eq_of_beq h
  obtain⟨⟨x⟩⟩:=a
  obtain⟨⟨y⟩⟩:=b
  simp at h1
  rw[h1]
 ·rintro rfl;exact qaV _
theorem qfo{k:ByteArray}{v:Term}:∀{E:qv},(uq E).Nodup->(zc k E=some v↔(k,v)∈E)
 |[],_=>by simp[zc]
 |(j,u)::r,hn=>by
  simp only[uq,List.map_cons,List.nodup_cons]at hn
  have ih:=qfo (k:=k) (v:=v) (E:=r) hn.2
  simp only[zc]
  by_cases h:eqBA k j=true
  ·have e:=wB.1 h;subst e
   rw[if_pos h]
   constructor
   ·intro h';cases h';exact .head _
   ·intro h'
    rcases List.mem_cons.1 h' with h'|h'
    ·cases h';rfl
    ·exact absurd (List.mem_map.2 ⟨_,h',rfl⟩) hn.1
  ·rw[if_neg h,ih]
   constructor
   ·exact fun h'=>.tail _ h'
   ·intro h'
    rcases List.mem_cons.1 h' with h'|h'
    ·cases h';exact absurd (qaV _) h
    ·exact h'
theorem qoe{k:ByteArray}{E F:qv}(hn:(uq E).Nodup)(hp:E.Perm F):zc k E=zc k F:=by
 have hf:(uq F).Nodup:=(hp.map _).nodup_iff.1 hn
 apply Option.ext
 intro v
 rw[qfo hn,qfo hf]
 exact hp.mem_iff
theorem qgP{k:ByteArray}:∀{E:qv},zc k E=none->k∉uq E
 |[],_=>by simp[uq]
 |(j,u)::r,h=>by
  simp only[zc]at h
  split at h
  ·cases h
  ·rename_i hj
   have:=qgP h
   simp only[uq,List.map_cons,List.mem_cons,not_or]
   exact⟨fun e=>hj (by subst e;exact qaV _),this⟩
theorem qhE{k:ByteArray}{v:Term}:∀{E:qv},k∉uq E->qaN k v E=E++[(k,v)]
 |[],_=>rfl
 |(j,u)::r,h=>by
  simp only[uq,List.map_cons,List.mem_cons,not_or]at h
  simp only[qaN]
  rw[if_neg (fun e=>h.1 (wB.1 e)),qhE h.2]
  rfl
theorem qlm{k:ByteArray}{v:Term}:∀{E:qv},zc k E=some v->qaN k v E=E
 |[],h=>by cases h
 |(j,u)::r,h=>by
  simp only[zc]at h
  split at h
  ·rename_i hj
   cases h
   simp only[qaN,hj,if_true]
  ·rename_i hj
   simp only[qaN,hj,if_false,qlm h,Bool.false_eq_true]
theorem qjd{x y:Term}(h:eqT x y=true):x=y:=by
 simp only[eqT,Bool.and_eq_true,decide_eq_true_eq]at h
 obtain⟨h1,h2,h3⟩:=h
 cases x;cases y
 simp only at h1 h2 h3
 rw[h1,h2,wB.1 h3]
def yF:qv->List Term->List Term->Option qv
 |E,[],_=>some E
 |_,_::_,[]=>none
 |E,p::ps,q::qs=>
  if p.kind=3 then
   match zc p.s E with
   |some old=>if eqT old q then yF E ps qs else none
   |none=>yF (E++[(p.s,q)]) ps qs
  else if eqT p q then yF E ps qs else none
theorem qhb:∀(ps qs:List Term)(E F:qv),(uq E).Nodup->E.Perm F->(yF E ps qs=none↔yF F ps qs=none)/\∀R,yF E ps qs=some R->(uq R).Nodup/\∃R',yF F ps qs=some R'/\R.Perm R'
 |[],qs,E,F,hn,hp=>by
  simp only[yF]
  exact⟨by simp,fun R h=>by cases h;exact⟨hn,F,rfl,hp⟩⟩
 |p::ps,[],E,F,hn,hp=>by
  simp only[yF]
  exact⟨by simp,fun R h=>by cases h⟩
 |p::ps,q::qs,E,F,hn,hp=>by
  simp only[yF,qoe (k:=p.s) hn hp]
  by_cases hk:p.kind=3
  ·simp only[if_pos hk]
   cases hf:zc p.s F with
   |none=>
    simp only
    have hne:p.s∉uq E:=qgP (by rw[qoe hn hp,hf])
    refine qhb ps qs _ _ ?_ (hp.append_right _)
    simp only[uq,List.map_append,List.map_cons,List.map_nil]
    exact List.nodup_append.2 ⟨hn,by simp,fun a ha b hb e=>by simp at hb;subst hb;subst e;exact hne ha⟩
   |some old=>
    simp only
    by_cases hq:eqT old q=true
    ·simp only[if_pos hq]
     exact qhb ps qs E F hn hp
    ·simp only[if_neg hq]
     exact⟨by simp,fun R h=>by cases h⟩
  ·simp only[if_neg hk]
   by_cases hq:eqT p q=true
   ·simp only[if_pos hq]
    exact qhb ps qs E F hn hp
   ·simp only[if_neg hq]
    exact⟨by simp,fun R h=>by cases h⟩
theorem qdf:Tryz.prog.follows .mixedOrders=true:=by kernel_rfl
theorem qbR:qep Tryz.prog E0 F0:=⟨fun f b h=>by
 simp only[F0,qi]at h
 obtain⟨fn,h1,h2⟩:=Option.bind_eq_some_iff.1 h
 split at h2
 ·cases h2
 ·rename_i hn
  exact⟨fn,h1,h2,by simpa using hn⟩,fun _ _ _ _ h=>h,fun _ _ _ _ h=>h⟩
theorem qg.x{f:FuncId}{args:List LV}{v:LV}(h:qg f args v)(hv:Bel 0 v){l:List (Nat×qc)}{m:Nat}{kv kp:HP}(hk:kv v ⟨l,m⟩):cP E0 F0 f args ⟨l,m⟩ kv kp:=
 qhf.of qdf qbR (fun _ _ _ _ h=>h) h hv ⟨l,m⟩ kv kp hk
theorem qfx(a:Atom):Bel 0 (.agg [.str a.pred,.int a.args.length]):=.agg fun i c h=>by
 match i with
 |0=>simp at h;subst h;exact .sc _
 |1=>simp at h;subst h;exact .sc _
 |i+2=>simp at h
theorem qsM{α β:Type}(f:α->β){l m:List β}(h:l.Perm m):∀K:List α,m=K.map f->∃K':List α,K'.Perm K/\l=K'.map f:=by
 induction h with
 |nil=>intro K hK;exact⟨K,.refl _,hK⟩
 |cons x _ ih=>
  intro K hK
  cases K with
  |nil=>simp at hK
  |cons k K=>
   simp only[List.map_cons,List.cons.injEq]at hK
   obtain⟨K',h1,h2⟩:=ih K hK.2
   exact⟨k::K',h1.cons k,by rw[List.map_cons,<-h2,hK.1]⟩
 |swap x y l=>
  intro K hK
  match K,hK with
  |[],hK=>simp at hK
  |[_],hK=>simp at hK
  |a::b::K,hK=>
   simp only[List.map_cons,List.cons.injEq]at hK
   exact⟨b::a::K,.swap _ _ _,by simp[hK.1,hK.2.1,hK.2.2]⟩
 |trans _ _ ih1 ih2=>
  intro K hK
  obtain⟨K1,h1,h2⟩:=ih2 K hK
  obtain⟨K2,h3,h4⟩:=ih1 K1 h2
  exact⟨K2,h3.trans h1,h4⟩
def vy(K:qv)(p a:Atom):Option qv:=if eqBA p.pred a.pred&&decide (p.args.length=a.args.length) then yF K p.args a.args else none
theorem qlS{α:Type}(l:List α):(List.range l.length).filterMap (fun k=>l[k]?)=l:=by
 apply List.ext_getElem?
 intro i
 have:∀n,n<=l.length->(List.range n).filterMap (fun k=>l[k]?)=l.take n:=by
  intro n
  induction n with
  |zero=>intro _;rfl
  |succ n ih=>
   intro hn
   rw[List.range_succ,List.filterMap_append,ih (by omega),List.take_add_one]
   have:l[n]? = some l[n]:=List.getElem?_eq_getElem (by omega)
   simp[this]
 rw[this _ (Nat.le_refl _),List.take_length]
theorem qif{α:Type}:∀(l:List α)(j:Nat)(k:α),l[j]? = some k->l.Perm (k::l.eraseIdx j)
 |[],_,_,h=>by simp at h
 |a::r,0,k,h=>by simp at h;subst h;exact .refl _
 |a::r,j+1,k,h=>by
  simp only[List.getElem?_cons_succ]at h
  exact((qif r j k h).cons a).trans (.swap _ _ _)
theorem qtP{base:List (Nat×qc)}{N n:Nat}{x y z:qc}(hB:qa.Ok ⟨base,N⟩)(hn:N+3<=n):qj ⟨(N+2,x)::base,N+3⟩ ⟨(N+2,x)::(N+1,y)::(N,z)::base,n⟩:=
 ⟨hn,fun i o h=>by
  simp only[look]at h ⊢
  split at h
  ·rename_i hi;rw[if_pos hi];exact h
  ·rename_i hi
   have:=hB.look h
   simp only at this
   rw[if_neg hi,if_neg (by omega),if_neg (by omega)]
   exact h⟩
structure NNIV where
 left:List Nat
 cur:Option Nat
 v:qv
 n:Nat
theorem qrF(p a:Atom)(hp:p.ok)(ha:a.ok)(H:qa)(o:Nat)(K:qv)(hl:look o H.objs=some (.um (qI K)))(hno:∀i m l k n,look i H.objs=some (.iter m l k n)->m≠o)(hKn:(uq K).Nodup):
  cP E0 F0 159 [qh p,qh a,.map o] H (fun u H'=>∃K':qv,K'.Perm K/\((vy K p a=none/\u=.sc (.map none)/\∃n,H'=⟨qx o (.map (qI K')) H.objs,n⟩) \/
   (∃R R',vy K p a=some R/\List.Perm R' R/\u=.map (H.next+2)/\∃n,H'=⟨(H.next+2,.map (qI R'))::qx o (.map (qI K')) H.objs,n⟩))) (fun _ _=>False):=by
 refine qwq c159 (fun l h=>by cases h) hl hno fun hH es' hperm=>⟨Nat.le_of_ble_eq_true rfl,?_⟩
 obtain⟨K',hK',rfl⟩:=qsM _ hperm K rfl
 have hn':(uq K').Nodup:=(hK'.map _).nodup_iff.2 hKn
 have hlp:=hp.2.1
 have hla:=ha.2.1
 have hon:o<H.next:=hH.look hl
 obtain⟨base,hbase⟩:∃base,qx o (.map (qI K')) H.objs=base:=⟨_,rfl⟩
 have hlb:look o base=some (.map (qI K')):=by rw[<-hbase];exact vL hl
 obtain⟨N,hN⟩:∃N,H.next=N:=⟨_,rfl⟩
 have hB:qa.Ok ⟨base,N⟩:=by rw[<-hbase,<-hN];exact qt.put hH
 have hput:H.put o (.map (qI K'))=⟨base,N⟩:=by rw[<-hbase,<-hN];rfl
 rw[hput]
 rw[hN]at hon ⊢
 simp(disch:=omega)[b159]
 refine(qch p).x (qfx p) ?_
 simp(disch:=omega)
 refine(qch a).x (qfx a) ?_
 cases h1:eqBA p.pred a.pred
 ·simp(disch:=omega)[h1]
  exact⟨⟨base,N+2⟩,(uw hB).1,(uw hB).2,K',hK',by simp[vy,h1],N+2,by rw[hbase]⟩
 by_cases h2:p.args.length=a.args.length
 case neg=>
  have h2i:¬(p.args.length:Int)=(a.args.length:Int):=by omega
  simp(disch:=omega)[h1,h2,h2i]
  exact⟨⟨base,N+2⟩,(uw hB).1,(uw hB).2,K',hK',by simp[vy,h1,h2],N+2,by rw[hbase]⟩
 have h2i:(p.args.length:Int)=(a.args.length:Int):=by omega
 have hA0:vy K p a=yF K p.args a.args:=by simp[vy,h1,h2]
 have hrg:∀(l:List (Nat×qc))(m:Nat),look o l=some (.map (qI K'))->rgL ⟨l,m⟩ (.map o)=some (.ptr m 0,⟨(m,.iter o (List.range K'.length) none K'.length)::l,m+1⟩):=fun l m h=>by
  simp[rgL,h,qa.alloc]
 simp(disch:=omega)[h1,h2i]
 rw[hrg _ _ (by simp(disch:=omega)[qd,hlb])]
 simp(disch:=omega)
 refine qE (σ:=NNIV) (fun q=>(.nd .bot (.nd .bot (.nd (.ptr N 0) (.nd (.map (N+2)) .nil .nil) .nil) (.nd .bot .nil (.nd .bot (.nd (.ptr (N+3) 0) .nil .nil) .nil))) (.nd .bot (.nd (.ptr (N+1) 0) .nil .nil) .nil)))
  (fun q=>⟨(N+3,.iter o q.left q.cur K'.length)::(N+2,.map (qI q.v))::(N+1,.cells [.str a.pred,qz a.args])::(N,.cells [.str p.pred,qz p.args])::base,q.n⟩) (fun q=>q.left.length)
  (fun q=>N+4<=q.n/\(q.v++q.left.filterMap (fun k=>K'[k]?)).Perm K') ⟨List.range K'.length,none,[],N+4⟩ ⟨by dsimp only;omega,by dsimp only;rw[qlS];exact .refl _⟩ (by simp[FT.Le,Wk]) ⟨HWk.refl _,fun h=>h⟩ ?_
 rintro⟨left,cur,V,n⟩ ⟨hn,hV⟩ hok
 dsimp only at hn hV
 have hVn:(uq (V++left.filterMap (fun k=>K'[k]?))).Nodup:=(hV.map _).nodup_iff.2 hn'
 simp(disch:=omega)
 by_cases hl0:left=[]
 case neg=>
  refine⟨N+3,o,left,cur,K'.length,rfl,by simp[qm],.inr ⟨hl0,qI K',by simp(disch:=omega)[qd,hlb],by simp,fun j k e hj hk=>?_⟩⟩
  obtain⟨v,hv,rfl⟩:∃v,K'[k]? = some v/\e=(.str v.1,zl v.2):=by
   simp only[qI,List.getElem?_map]at hk
   obtain⟨v,h1,h2⟩:=Option.map_eq_some_iff.1 hk
   exact⟨v,h1,h2.symm⟩
  have hjl:j<left.length:=(List.getElem?_eq_some_iff.1 hj).1
  have hje:left[j]=k:=(List.getElem?_eq_some_iff.1 hj).2
  have hpe:left.Perm (k::left.eraseIdx j):=qif left j k hj
  have hfe:(left.filterMap (fun k=>K'[k]?)).Perm (v::(left.eraseIdx j).filterMap (fun k=>K'[k]?)):=by
   have:=hpe.filterMap (fun k=>K'[k]?)
   rwa [List.filterMap_cons_some hv]at this
  have hnew:v.1∉uq V:=by
   have h3:=((List.Perm.append_left V hfe).map Prod.fst).nodup_iff.1 hVn
   rw[List.map_append,List.map_cons]at h3
   intro hc
   exact(List.nodup_append.1 h3).2.2 _ hc _ (List.mem_cons_self) rfl
  simp(disch:=omega)[enL,hlb,hv]
  rw[qmx (E:=V) (by simp(disch:=omega)[qd])]
  simp(disch:=omega)[qhE hnew]
  have hx:qa.Ok ⟨(N+3,.iter o (left.eraseIdx j) (some k) K'.length)::(N+2,.map (qI V++[(.str v.1,zl v.2)]))::(N+1,.cells [.str a.pred,qz a.args])::(N,.cells [.str p.pred,qz p.args])::base,N+4⟩:=⟨Nat.lt_succ_self _,Nat.lt_succ_self _,Nat.lt_succ_self _,Nat.lt_succ_self _,hB⟩
  refine⟨⟨left.eraseIdx j,some k,V++[v],n+1⟩,by dsimp only;rw[List.length_eraseIdx_of_lt hjl];omega,⟨by dsimp only;omega,?_⟩,by simp[FT.Le,Wk],?_⟩
  ·dsimp only
   rw[List.append_assoc]
   exact(List.Perm.append_left V hfe).symm.trans hV
  ·dsimp only
   rw[show qI (V++[v])=qI V++[(.str v.1,zl v.2)] from List.map_append]
   exact uw hx
 refine⟨N+3,o,left,cur,K'.length,rfl,by simp[qm],.inl ⟨hl0,.inr ⟨qI K',by simp(disch:=omega)[qd,hlb],by simp⟩,?_⟩⟩
 subst hl0
 simp only[List.filterMap_nil,List.append_nil]at hV hVn
 have hVK:V.Perm K:=hV.trans hK'
 obtain⟨hp1,hp2⟩:=qhb p.args a.args V K hVn hVK
 obtain⟨A,hA⟩:∃A,yF V p.args a.args=A:=⟨_,rfl⟩
 rw[hA]at hp1 hp2
 simp(disch:=omega)
 have hHe:∀e:qv,qa.Ok ⟨(N+2,.map (qI e))::(N+1,.cells [.str a.pred,qz a.args])::(N,.cells [.str p.pred,qz p.args])::base,N+3⟩:=fun _=>⟨Nat.lt_succ_self _,Nat.lt_succ_self _,Nat.lt_succ_self _,hB⟩
 refine qE (σ:=NNE) (fun q=>(.nd .bot (.nd .bot (.nd (.ptr N 0) (.nd (.map (N+2)) (.nd .bot (.nd (qz p.args) .nil .nil) .nil) .nil) .nil) (.nd .bot (.nd .bot (.nd .bot (.nd (.int q.i) .nil .nil) .nil) .nil) .nil)) (.nd .bot (.nd (.ptr (N+1) 0) (.nd .bot (.nd .bot (.nd (.int p.args.length) .nil .nil) .nil) .nil) .nil) .nil)))
  (fun q=>⟨(N+2,.map (qI q.e))::(N+1,.cells [.str a.pred,qz a.args])::(N,.cells [.str p.pred,qz p.args])::base,q.n⟩) (fun q=>p.args.length - q.i)
  (fun q=>N+3<=q.n/\q.i<=p.args.length/\yF q.e (p.args.drop q.i) (a.args.drop q.i)=A) ⟨0,n,V⟩ ⟨by dsimp only;omega,Nat.zero_le _,hA⟩ (by simp[FT.Le,Wk])
  (zO (hHe V) (by first|exact qj.refl' _|(repeat (first|exact qj.refl (by first|omega|(dsimp only;omega))|refine qj.cons' (hHe V) (by first|omega|(dsimp only;omega)) (by first|omega|(dsimp only;omega)) ?_)))) ?_
 rintro⟨i,n,e⟩ ⟨hn,hi,he⟩ hok
 simp only at hn hi he
 by_cases hlt:i<p.args.length
 case neg=>
  rw[List.drop_eq_nil_of_le (by omega)]at he
  simp only[yF]at he
  obtain⟨R,hR1,hR2⟩:=(hp2 e he.symm).2
  have hc:qa.Ok ⟨(N+2,.map (qI e))::base,N+3⟩:=⟨Nat.lt_succ_self _,qt.mono hB (show N<=N+2 by omega)⟩
  have hbk:=zO hc (qtP (y:=.cells [.str a.pred,qz a.args]) (z:=.cells [.str p.pred,qz p.args]) hB hn)
  simp(disch:=omega)[hlt]
  exact⟨_,hbk.1,hbk.2,K',hK',R,by rw[hA0,hR1],e,hR2,n,by rw[hbase]⟩
 have hly:i<a.args.length:=by omega
 rw[List.drop_eq_getElem_cons hlt,List.drop_eq_getElem_cons hly]at he
 have hnone:none=A->vy K p a=none:=fun h=>by rw[hA0];exact hp1.1 h.symm
 by_cases hk3:p.args[i].kind=3
 case neg=>
  by_cases hq:eqT p.args[i] a.args[i]=true
  case neg=>
   have hq':eqT p.args[i] a.args[i]=false:=by simpa using hq
   simp only[eqT]at hq'
   simp only[yF,if_neg hk3,if_neg hq]at he
   simp(disch:=omega)[hlt,hly,hk3,hq']
   have hx:qj ⟨base,N⟩ ⟨(n,.cells (zF p.args[i]))::(N+2,.map (qI e))::(N+1,.cells [.str a.pred,qz a.args])::(N,.cells [.str p.pred,qz p.args])::base,n+1⟩:=(by first|exact qj.refl' _|(repeat (first|exact qj.refl (by first|omega|(dsimp only;omega))|refine qj.cons' hB (by first|omega|(dsimp only;omega)) (by first|omega|(dsimp only;omega)) ?_)))
   exact⟨⟨base,n+1⟩,(zO hB hx).1,(zO hB hx).2,K',hK',hnone he,n+1,by rw[hbase]⟩
  ·have hq':=hq
   simp only[eqT]at hq'
   simp only[yF,if_neg hk3,if_pos hq]at he
   simp(disch:=omega)[hlt,hly,hk3,hq',qw (show i<2^62 by omega)]
   exact⟨⟨i+1,n+1,e⟩,by dsimp only;omega,⟨by dsimp only;omega,by dsimp only;omega,he⟩,by simp[FT.Le,Wk],zO (hHe e) (by first|exact qj.refl' _|(repeat (first|exact qj.refl (by first|omega|(dsimp only;omega))|refine qj.cons' (hHe e) (by first|omega|(dsimp only;omega)) (by first|omega|(dsimp only;omega)) ?_)))⟩
 simp(disch:=omega)[hlt,hly,hk3]
 rw[qtS (E:=e) (by simp(disch:=omega)[qd])]
 have hmu:∀(l:List (Nat×qc))(m:Nat),look (N+2) l=some (.map (qI e))->muL ⟨l,m⟩ (.pl 1) (.map (N+2)) (.str p.args[i].s) (zl a.args[i])=some (qa.put ⟨l,m⟩ (N+2) (.map (qI (qaN p.args[i].s a.args[i] e)))):=fun l m h=>qmx h _ _
 cases hf:zc p.args[i].s e with
 |none=>
  simp only[yF,if_pos hk3,hf]at he
  have hsb:=qhE (v:=a.args[i]) (qgP hf)
  simp(disch:=omega)[hlt,hly,hk3]
  rw[hmu _ _ (by simp(disch:=omega)[qd]),hsb]
  simp(disch:=omega)[hlt,hly,hk3,qw (show i<2^62 by omega)]
  have hx:qa.Ok ⟨(N+2,.map (qI e++[(.str p.args[i].s,zl a.args[i])]))::(N+1,.cells [.str a.pred,qz a.args])::(N,.cells [.str p.pred,qz p.args])::base,N+3⟩:=⟨Nat.lt_succ_self _,Nat.lt_succ_self _,Nat.lt_succ_self _,hB⟩
  refine⟨⟨i+1,n+2,e++[(p.args[i].s,a.args[i])]⟩,by dsimp only;omega,⟨by dsimp only;omega,by dsimp only;omega,he⟩,by simp[FT.Le,Wk],?_⟩
  dsimp only
  rw[show qI (e++[(p.args[i].s,a.args[i])])=qI e++[(.str p.args[i].s,zl a.args[i])] from List.map_append]
  exact uw hx
 |some old=>
  by_cases hq:eqT old a.args[i]=true
  case neg=>
   have hq':eqT old a.args[i]=false:=by simpa using hq
   simp only[eqT]at hq'
   simp only[yF,if_pos hk3,hf,if_neg hq]at he
   simp(disch:=omega)[hlt,hly,hk3,hq']
   have hx:∀x y,qj ⟨base,N⟩ ⟨(n+1,x)::(n,y)::(N+2,.map (qI e))::(N+1,.cells [.str a.pred,qz a.args])::(N,.cells [.str p.pred,qz p.args])::base,n+1+1⟩:=fun x y=>(by first|exact qj.refl' _|(repeat (first|exact qj.refl (by first|omega|(dsimp only;omega))|refine qj.cons' hB (by first|omega|(dsimp only;omega)) (by first|omega|(dsimp only;omega)) ?_)))
   exact⟨⟨base,n+1+1⟩,(zO hB (hx _ _)).1,(zO hB (hx _ _)).2,K',hK',hnone he,n+1+1,by rw[hbase]⟩
  ·have hq':=hq
   simp only[eqT]at hq'
   simp only[yF,if_pos hk3,hf,if_pos hq]at he
   have hold:qaN p.args[i].s a.args[i] e=e:=qlm (by rw[hf,qjd hq])
   simp(disch:=omega)[hlt,hly,hk3,hq']
   rw[hmu _ _ (by simp(disch:=omega)[qd]),hold]
   simp(disch:=omega)[hlt,hly,hk3,qw (show i<2^62 by omega)]
   exact⟨⟨i+1,n+2,e⟩,by dsimp only;omega,⟨by dsimp only;omega,by dsimp only;omega,he⟩,by simp[FT.Le,Wk],zO (hHe e) (by first|exact qj.refl' _|(repeat (first|exact qj.refl (by first|omega|(dsimp only;omega))|refine qj.cons' (hHe e) (by first|omega|(dsimp only;omega)) (by first|omega|(dsimp only;omega)) ?_)))⟩
structure qX where
 pred:ByteArray
 args:Int
 level:Int
abbrev qkV(x:qX):List LV:=[.str x.pred,.int x.args,.int x.level]
abbrev qkU(x:qX):LV:=.agg (qkV x)
abbrev arrS(A:List qX):qc:=.arr 3 (A.flatMap qkV)
structure NNA where
 i:Nat
 a:List qX
theorem qjW{j k:Nat}(hk:j=k+1)(h:k<2^62):IntKind.wrap .i64 ((j:Int) - 1)=(k:Int):=by
 rw[yX (by omega) (by omega)];omega
end Go.Abs.Tz
namespace Go.Abs.Tz
open Go Go.Abs Go.Proofs
theorem qjx:∀x:List UInt8,Op.bytesLess x x=false
 |[]=>rfl
 |a::x=>by
  have:¬a<a:=by rw[UInt8.lt_iff_toNat_lt];omega
  simp[Op.bytesLess,qjx x,this]
theorem qjv:∀x y:List UInt8,Op.bytesLess x y=false->Op.bytesLess y x=false->x=y
 |[],[],_,_=>rfl
 |[],_::_,h,_=>by simp[Op.bytesLess]at h
 |_::_,[],_,h=>by simp[Op.bytesLess]at h
 |a::x,b::y,h,k=>by
  simp only[Op.bytesLess,Bool.or_eq_false_iff,decide_eq_false_iff_not,Bool.and_eq_false_iff,beq_eq_false_iff_ne]at h k
  have e:a=b:=by
   apply UInt8.toNat_inj.1
   have h1:=h.1
   have k1:=k.1
   rw[UInt8.lt_iff_toNat_lt]at h1 k1
   omega
  subst e
  have h2:Op.bytesLess x y=false:=by rcases h.2 with h|h;exact absurd rfl h;exact h
  have k2:Op.bytesLess y x=false:=by rcases k.2 with h|h;exact absurd rfl h;exact h
  rw[qjv x y h2 k2]
theorem qjw:∀x y z:List UInt8,Op.bytesLess x y=true->Op.bytesLess y z=true->Op.bytesLess x z=true
 |_,[],_,h,_=>by simp[Op.bytesLess]at h
 |_,_::_,[],_,k=>by simp[Op.bytesLess]at k
 |[],_::_,_::_,_,_=>rfl
 |a::x,b::y,c::z,h,k=>by
  simp only[Op.bytesLess,Bool.or_eq_true,decide_eq_true_iff,Bool.and_eq_true,beq_iff_eq]at h k ⊢
  rcases h with h|⟨rfl,h⟩
  ·rcases k with k|⟨rfl,k⟩
   ·left;rw[UInt8.lt_iff_toNat_lt]at h k ⊢;omega
   ·exact .inl h
  ·rcases k with k|⟨rfl,k⟩
   ·exact .inl k
   ·exact .inr ⟨rfl,qjw x y z h k⟩
def vk(x y:qX):Prop:=lessB x.pred y.pred=true\/(x.pred=y.pred/\x.args<y.args)
theorem qiy(a b:ByteArray):lessB a b=Op.bytesLess a.toList b.toList:=rfl
theorem toList_inj{a b:ByteArray}(h:a.toList=b.toList):a=b:=by
 rw[ByteArray.toList_eq,ByteArray.toList_eq]at h
 obtain⟨⟨x⟩⟩:=a
 obtain⟨⟨y⟩⟩:=b
 simp at h
 rw[h]
theorem que{x y:qX}(h:¬vk x y)(k:¬vk y x):x.pred=y.pred/\x.args=y.args:=by
 have e:x.pred=y.pred:=by
  refine toList_inj (qjv _ _ ?_ ?_)
  ·simpa [vk,qiy] using fun e=>h (.inl e)
  ·simpa [vk,qiy] using fun e=>k (.inl e)
 refine⟨e,?_⟩
 have h1:¬x.args<y.args:=fun h'=>h (.inr ⟨e,h'⟩)
 have h2:¬y.args<x.args:=fun h'=>k (.inr ⟨e.symm,h'⟩)
 omega
theorem qud{x y z:qX}(h:vk x y)(k:vk y z):vk x z:=by
 rcases h with h|⟨h1,h2⟩
 ·rcases k with k|⟨k1,_⟩
  ·exact .inl (qjw _ _ _ h k)
  ·exact .inl (k1▸h)
 ·rcases k with k|⟨k1,k2⟩
  ·exact .inl (h1▸k)
  ·exact .inr ⟨h1.trans k1,by omega⟩
end Go.Abs.Tz
namespace Go.Abs.Tz
open Go Go.Abs Go.Proofs
theorem qnx{v:ByteArray}{S:List ByteArray}:vO v S=true↔v∈S:=by
 unfold vO
 rw[List.any_eq_true]
 exact⟨fun⟨x,h1,h2⟩=>by rw[wB.1 h2];exact h1,fun h=>⟨v,h,wB.2 rfl⟩⟩
theorem qtK{v k:ByteArray}{S:List ByteArray}:v∈qaZ k S↔v∈S\/v=k:=by
 unfold qaZ
 split
 ·rename_i h
  have:=qnx.1 h
  exact⟨.inl,fun h=>h.elim id fun e=>e▸this⟩
 ·rw[List.mem_append,List.mem_singleton]
def qdt(ts:List Term)(v:ByteArray):Prop:=∃t∈ts,t.kind=3/\t.s=v
theorem qeU{v:ByteArray}:∀{ts:List Term}{S:List ByteArray},v∈vg ts S↔v∈S\/qdt ts v
 |[],S=>by simp[vg,qdt]
 |t::ts,S=>by
  have ih:=qeU (v:=v) (ts:=ts) (S:=qfA t S)
  simp only[vg]
  rw[ih]
  unfold qfA qdt
  by_cases hk:t.kind=3
  ·rw[if_pos hk,qtK]
   constructor
   ·rintro((h|h)|⟨u,h1,h2⟩)
    ·exact .inl h
    ·exact .inr ⟨t,List.mem_cons_self,hk,h.symm⟩
    ·exact .inr ⟨u,List.mem_cons_of_mem _ h1,h2⟩
   ·rintro(h|⟨u,h1,h2,h3⟩)
    ·exact .inl (.inl h)
    ·rcases List.mem_cons.1 h1 with rfl|h1
     ·exact .inl (.inr h3.symm)
     ·exact .inr ⟨u,h1,h2,h3⟩
  ·rw[if_neg hk]
   constructor
   ·rintro(h|⟨u,h1,h2⟩)
    ·exact .inl h
    ·exact .inr ⟨u,List.mem_cons_of_mem _ h1,h2⟩
   ·rintro(h|⟨u,h1,h2,h3⟩)
    ·exact .inl h
    ·rcases List.mem_cons.1 h1 with rfl|h1
     ·exact absurd h2 hk
     ·exact .inr ⟨u,h1,h2,h3⟩
theorem qmN{v:ByteArray}:∀{b:List Lit}{q:List ByteArray×List ByteArray},v∈(wU b q).1↔v∈q.1\/∃x∈b,x.kind=1/\qdt x.atom.args v
 |[],q=>by simp[wU]
 |x::b,q=>by
  have ih:=qmN (v:=v) (b:=b) (q:=qbq x q)
  simp only[wU]
  rw[ih]
  have e:v∈(qbq x q).1↔v∈q.1\/(x.kind=1/\qdt x.atom.args v):=by
   unfold qbq
   by_cases h1:x.kind=1
   ·rw[if_pos h1];dsimp only;rw[qeU]
    exact⟨fun h=>h.imp id fun h=>⟨h1,h⟩,fun h=>h.imp id fun h=>h.2⟩
   ·rw[if_neg h1]
    have:∀a b:List ByteArray×List ByteArray,(if x.kind=2 then (q.1,a.1) else (q.1,b.1)).1=q.1:=fun _ _=>by split<;>rfl
    split<;>exact⟨.inl,fun h=>h.elim id fun h=>absurd h.1 h1⟩
  rw[e]
  constructor
  ·rintro((h|h)|⟨y,h1,h2⟩)
   ·exact .inl h
   ·exact .inr ⟨x,List.mem_cons_self,h⟩
   ·exact .inr ⟨y,List.mem_cons_of_mem _ h1,h2⟩
  ·rintro(h|⟨y,h1,h2⟩)
   ·exact .inl (.inl h)
   ·rcases List.mem_cons.1 h1 with rfl|h1
    ·exact .inl (.inr h2)
    ·exact .inr ⟨y,h1,h2⟩
theorem qgA{v:ByteArray}:∀{b:List Lit}{q:List ByteArray×List ByteArray},v∈(wU b q).2↔v∈q.2\/∃x∈b,¬x.kind=1/\qdt (if x.kind=2 then x.atom.args else [x.a,x.b]) v
 |[],q=>by simp[wU]
 |x::b,q=>by
  have ih:=qgA (v:=v) (b:=b) (q:=qbq x q)
  simp only[wU]
  rw[ih]
  have e:v∈(qbq x q).2↔v∈q.2\/(¬x.kind=1/\qdt (if x.kind=2 then x.atom.args else [x.a,x.b]) v):=by
   unfold qbq
   by_cases h1:x.kind=1
   ·rw[if_pos h1]
    exact⟨.inl,fun h=>h.elim id fun h=>absurd h1 h.1⟩
   ·rw[if_neg h1]
    by_cases h2:x.kind=2
    ·rw[if_pos h2,if_pos h2];dsimp only;rw[qeU]
     exact⟨fun h=>h.imp id fun h=>⟨h1,h⟩,fun h=>h.imp id fun h=>h.2⟩
    ·rw[if_neg h2,if_neg h2];dsimp only;rw[qeU]
     exact⟨fun h=>h.imp id fun h=>⟨h1,h⟩,fun h=>h.imp id fun h=>h.2⟩
  rw[e]
  constructor
  ·rintro((h|h)|⟨y,h1,h2⟩)
   ·exact .inl h
   ·exact .inr ⟨x,List.mem_cons_self,h⟩
   ·exact .inr ⟨y,List.mem_cons_of_mem _ h1,h2⟩
  ·rintro(h|⟨y,h1,h2⟩)
   ·exact .inl (.inl h)
   ·rcases List.mem_cons.1 h1 with rfl|h1
    ·exact .inl (.inr h2)
    ·exact .inr ⟨y,h1,h2⟩
end Go.Abs.Tz
namespace Go.Abs.Tz
section
variable{K:Type}[DecidableEq K]
abbrev wn(K:Type):=K×K×Nat
def qau(f:K->Nat)(e:wn K):K->Nat:=fun k=>if k=e.1 then max (f k) (f e.2.1+e.2.2) else f k
def y6(E:List (wn K))(f:K->Nat):K->Nat:=E.foldl qau f
def yH(E:List (wn K))(g:K->Nat):Prop:=∀e∈E,g e.2.1+e.2.2<=g e.1
theorem qkk(f:K->Nat)(e:wn K)(k:K):f k<=qau f e k:=by
 unfold qau;split<;>omega
theorem qmg:∀(E:List (wn K))(f:K->Nat)(k:K),f k<=y6 E f k
 |[],_,_=>Nat.le_refl _
 |e::E,f,k=>Nat.le_trans (qkk f e k) (qmg E (qau f e) k)
theorem qcY:∀{E:List (wn K)}{f g:K->Nat},yH E g->(∀k,f k<=g k)->∀k,y6 E f k<=g k
 |[],_,_,_,h,k=>h k
 |e::E,f,g,hs,h,k=>by
  refine qcY (E:=E) (fun e' he=>hs e' (List.mem_cons_of_mem _ he)) (fun k=>?_) k
  have h1:=hs e List.mem_cons_self
  have h2:=h e.2.1
  have h3:=h k
  unfold qau
  split
  ·rename_i hk;subst hk;omega
  ·exact h3
theorem qij:∀{E:List (wn K)}{f:K->Nat}{e:wn K},e∈E->f e.2.1+e.2.2<=y6 E f e.1
 |a::E,f,e,h=>by
  rcases List.mem_cons.1 h with rfl|h
  ·refine Nat.le_trans ?_ (qmg E (qau f e) e.1)
   unfold qau;rw[if_pos rfl];omega
  ·have:=qij (f:=qau f a) h
   have h2:=qkk f a e.2.1
   show _<=y6 E (qau f a) e.1
   omega
theorem qrZ{E:List (wn K)}{f:K->Nat}(h:∀e∈E,y6 E f e.1=f e.1):yH E f:=fun e he=>by rw[<-h e he];exact qij he
def yY(V:List K)(f:K->Nat):Nat:=(V.map f).sum
omit [DecidableEq K] in
theorem qkQ{V:List K}{f g:K->Nat}(h:∀k∈V,f k<=g k):yY V f<=yY V g:=by
 induction V with
 |nil=>exact Nat.le_refl _
 |cons a V ih=>
  have h1:=h a List.mem_cons_self
  have h2:=ih fun k hk=>h k (List.mem_cons_of_mem _ hk)
  simp only[yY,List.map_cons,List.sum_cons]at h2 ⊢
  omega
omit [DecidableEq K] in
theorem qfU{V:List K}{f g:K->Nat}(h:∀k∈V,f k<=g k){v:K}(hv:v∈V)(hlt:f v<g v):yY V f<yY V g:=by
 induction V with
 |nil=>cases hv
 |cons a V ih=>
  have h1:=h a List.mem_cons_self
  have h2:=qkQ (V:=V) fun k hk=>h k (List.mem_cons_of_mem _ hk)
  simp only[yY,List.map_cons,List.sum_cons]at h2 ⊢
  rcases List.mem_cons.1 hv with rfl|hv
  ·omega
  ·have h3:=ih (fun k hk=>h k (List.mem_cons_of_mem _ hk)) hv
   simp only[yY]at h3
   omega
omit [DecidableEq K] in
theorem qiz{E:List (wn K)}(V:List K){g:K->Nat}(hg:yH E g):∃F,yH E F/\∀g',yH E g'->yY V F<=yY V g':=by
 obtain⟨n,hn⟩:∃n,yY V g=n:=⟨_,rfl⟩
 induction n using Nat.strongRecOn generalizing g with
 |_ n ih=>
  by_cases h:∃g',yH E g'/\yY V g'<n
  ·obtain⟨g',h1,h2⟩:=h
   exact ih _ h2 h1 rfl
  ·refine⟨g,hg,fun g' h1=>?_⟩
   rcases Nat.lt_or_ge (yY V g') n with h2|h2
   ·exact absurd ⟨g',h1,h2⟩ h
   ·omega
theorem qsN{E:List (wn K)}{V:List K}{F f:K->Nat}(hF:yH E F)(hmin:∀g',yH E g'->yY V F<=yY V g')(hV:∀e∈E,e.1∈V/\e.2.1∈V)(hf:∀k,f k<=F k)
  {v:K} (hv:v∈V) (hne:f v≠F v):∃u∈V,f u≠F u/\y6 E f u=F u:=by
 have hall:∃e∈E,f e.1≠F e.1/\f e.2.1=F e.2.1/\F e.2.1+e.2.2=F e.1:=by
  apply Classical.byContradiction
  intro hno
  have hs:yH E fun k=>if f k=F k then F k else F k - 1:=by
   intro e he
   have h1:=hF e he
   have h2:=hf e.1
   show (if f e.2.1=F e.2.1 then F e.2.1 else F e.2.1 - 1)+e.2.2<=if f e.1=F e.1 then F e.1 else F e.1 - 1
   by_cases ha:f e.1=F e.1
   ·rw[if_pos ha]
    split<;>omega
   ·rw[if_neg ha]
    by_cases hb:f e.2.1=F e.2.1
    ·rw[if_pos hb]
     have:F e.2.1+e.2.2≠F e.1:=fun hq=>hno ⟨e,he,ha,hb,hq⟩
     omega
    ·rw[if_neg hb]
     have:=hf e.2.1
     omega
  have h1:=hmin _ hs
  have h2:=qfU (V:=V) (f:=fun k=>if f k=F k then F k else F k - 1) (g:=F) (fun k _=>by split<;>omega) hv (by
   have:=hf v
   rw[if_neg hne];omega)
  omega
 obtain⟨e,he,h1,h2,h3⟩:=hall
 refine⟨e.1,(hV e he).1,h1,?_⟩
 have h4:=qij (f:=f) he
 have h5:=qcY hF hf e.1
 omega
omit [DecidableEq K] in
theorem qvg{V:List K}{p q:K->Bool}(h:∀k∈V,q k=true->p k=true){u:K}(hu:u∈V)(hp:p u=true)(hq:q u=false):(V.filter q).length<(V.filter p).length:=by
 have hle:∀W:List K,(∀k∈W,q k=true->p k=true)->(W.filter q).length<=(W.filter p).length:=by
  intro W
  induction W with
  |nil=>intro _;exact Nat.le_refl _
  |cons a W ih=>
   intro hW
   have h1:=ih fun k hk=>hW k (List.mem_cons_of_mem _ hk)
   have h2:=hW a List.mem_cons_self
   simp only[List.filter_cons]
   cases hqa:q a<;>cases hpa:p a<;>simp_all
   omega
 induction V with
 |nil=>cases hu
 |cons a V ih=>
  have h2:=h a List.mem_cons_self
  have h3:=hle V fun k hk=>h k (List.mem_cons_of_mem _ hk)
  simp only[List.filter_cons]
  rcases List.mem_cons.1 hu with rfl|hu
  ·simp[hp,hq];omega
  ·have h1:=ih (fun k hk=>h k (List.mem_cons_of_mem _ hk)) hu
   cases hqa:q a<;>cases hpa:p a<;>simp_all
   omega
omit [DecidableEq K] in
theorem qgB{E:List (wn K)}{V:List K}{F:K->Nat}(hF:yH E F)(hmin:∀g',yH E g'->yY V F<=yY V g')(hV:∀e∈E,e.1∈V/\e.2.1∈V)(hw:∀e∈E,e.2.2<=1){v:K}(hv:v∈V):F v<V.length:=by
 have gap:∀m,(∃v∈V,F v=m+1)->∃v∈V,F v=m:=by
  rintro m ⟨v,hv,hm⟩
  apply Classical.byContradiction
  intro hno
  have hs:yH E fun k=>if m<F k then F k - 1 else F k:=by
   intro e he
   have h1:=hF e he
   have hw1:=hw e he
   have hb:F e.2.1≠m:=fun hq=>hno ⟨_,(hV e he).2,hq⟩
   show (if m<F e.2.1 then F e.2.1 - 1 else F e.2.1)+e.2.2<=if m<F e.1 then F e.1 - 1 else F e.1
   split<;>split<;>omega
  have h1:=hmin _ hs
  have h2:=qfU (V:=V) (f:=fun k=>if m<F k then F k - 1 else F k) (g:=F) (fun k _=>by split<;>omega) hv (by rw[if_pos (by omega)];omega)
  omega
 have down:∀j m,(∃v∈V,F v=m+j)->∃v∈V,F v=m:=by
  intro j
  induction j with
  |zero=>exact fun m h=>h
  |succ j ih=>exact fun m h=>ih m (gap (m+j) h)
 have all:∀m,m<=F v->m∈V.map F:=fun m hm=>by
  obtain⟨u,hu,he⟩:=down (F v - m) m ⟨v,hv,by omega⟩
  exact List.mem_map.2 ⟨u,hu,he⟩
 have cover:∀(n:Nat)(L:List Nat),(∀m,m<n->m∈L)->n<=L.length:=by
  intro n
  induction n with
  |zero=>exact fun _ _=>Nat.zero_le _
  |succ n ih=>
   intro L hL
   have hn:=hL n (Nat.lt_succ_self _)
   have h1:=ih (L.erase n) fun m hm=>(List.mem_erase_of_ne (by omega)).2 (hL m (by omega))
   have h2:=List.length_erase_of_mem hn
   have h3:=List.length_pos_of_mem hn
   omega
 have:=cover (F v+1) (V.map F) fun m hm=>all m (by omega)
 rw[List.length_map]at this
 omega
end
end Go.Abs.Tz
namespace Go.Abs.Tz
open Go Go.Abs Go.Proofs
abbrev PK:=ByteArray×Int
abbrev ur(k:PK):LV:=.agg [.str k.1,.int k.2]
abbrev qO(m:List (PK×Int)):List (LV×LV):=m.map fun e=>(ur e.1,LV.int e.2)
def wf(a b:PK):Bool:=eqBA a.1 b.1&&decide (a.2=b.2)
theorem vR{a b:PK}:wf a b=true↔a=b:=by
 obtain⟨p,n⟩:=a
 obtain⟨q,m⟩:=b
 have h:eqBA p q=true↔p=q:=by
  constructor
  ·intro h
   unfold eqBA at h
   rw[ByteArray.toList_eq,ByteArray.toList_eq]at h
   have h1:=eq_of_beq h
   obtain⟨⟨x⟩⟩:=p
   obtain⟨⟨y⟩⟩:=q
   simp at h1
   rw[h1]
  ·rintro rfl;simp[eqBA]
 simp[wf,h]
theorem qdZ(a b:PK):eqK (.st [1,0]) (ur a) (ur b)=some (wf a b):=by
 simp[eqK,eqL,ze,ut,wf]
def zG(k:PK)(v:Int):List (PK×Int)->List (PK×Int)
 |[]=>[(k,v)]
 |(j,u)::r=>if wf k j then (j,v)::r else (j,u)::zG k v r
def wb(k:PK):List (PK×Int)->Option Int
 |[]=>none
 |(j,u)::r=>if wf k j then some u else wb k r
theorem qlj(k:PK)(v:Int):∀m:List (PK×Int),vE (.st [1,0]) (ur k) (LV.int v) (qO m)=some (qO (zG k v m))
 |[]=>rfl
 |(j,u)::r=>by
  have ih:=qlj k v r
  show (match eqK (.st [1,0]) (ur k) (ur j) with
   |some true=>some ((ur j,LV.int v)::qO r)
   |some false=>(vE (.st [1,0]) (ur k) (LV.int v) (qO r)).map ((ur j,LV.int u)::·)
   |none=>none)=_
  rw[qdZ]
  cases h:wf k j
  ·simp only[ih,zG,h];rfl
  ·simp only[zG,h];rfl
theorem qob(k:PK):∀m:List (PK×Int),vm (.st [1,0]) (ur k) (qO m)=some ((wb k m).map LV.int)
 |[]=>rfl
 |(j,u)::r=>by
  have ih:=qob k r
  show (match eqK (.st [1,0]) (ur k) (ur j) with
   |some true=>some (some (LV.int u))
   |some false=>vm (.st [1,0]) (ur k) (qO r)
   |none=>none)=_
  rw[qdZ]
  cases h:wf k j
  ·simp only[ih,wb,h];rfl
  ·simp only[wb,h];rfl
def qB(m:List (PK×Int)):List PK:=m.map (·.1)
def qp(m:List (PK×Int))(k:PK):Int:=(wb k m).getD 0
theorem qmj(k j:PK)(v:Int):∀m:List (PK×Int),wb j (zG k v m)=if j=k then some v else wb j m
 |[]=>by
  simp only[zG,wb]
  by_cases h:j=k
  ·rw[if_pos (vR.2 h),if_pos h]
  ·rw[if_neg (fun e=>h (vR.1 e)),if_neg h]
 |(i,u)::r=>by
  have ih:=qmj k j v r
  simp only[zG]
  by_cases hk:wf k i=true
  ·rw[if_pos hk]
   obtain rfl:=vR.1 hk
   simp only[wb]
   by_cases hj:j=k
   ·rw[if_pos (vR.2 hj),if_pos hj]
   ·rw[if_neg (fun e=>hj (vR.1 e)),if_neg hj,if_neg (fun e=>hj (vR.1 e))]
  ·rw[if_neg hk]
   simp only[wb]
   by_cases hj:wf j i=true
   ·rw[if_pos hj,if_pos hj]
    obtain rfl:=vR.1 hj
    rw[if_neg (fun e=>hk (vR.2 e.symm))]
   ·rw[if_neg hj,if_neg hj,ih]
theorem qjI{k:PK}{l:List PK}:l.any (wf k)=true↔k∈l:=by
 rw[List.any_eq_true]
 constructor
 ·rintro⟨x,h1,h2⟩;rw[vR.1 h2];exact h1
 ·intro h;exact⟨k,h,vR.2 rfl⟩
theorem qdH(k:PK)(v:Int):∀m:List (PK×Int),qB (zG k v m)=if (qB m).any (wf k) then qB m else qB m++[k]
 |[]=>by simp[zG,qB]
 |(i,u)::r=>by
  have ih:=qdH k v r
  simp only[zG]
  have e2:qB ((i,u)::r)=i::qB r:=rfl
  by_cases hk:wf k i=true
  ·rw[if_pos hk,e2,List.any_cons,hk,Bool.true_or,if_pos rfl]
   rfl
  ·rw[if_neg hk]
   have hf:wf k i=false:=by simpa using hk
   have e1:qB ((i,u)::zG k v r)=i::qB (zG k v r):=rfl
   rw[e1,e2,ih,List.any_cons,hf,Bool.false_or]
   split<;>rfl
end Go.Abs.Tz
namespace Go.Abs.Tz
open Go Go.Abs Go.Proofs
set_option maxRecDepth 20000
set_option linter.unusedSimpArgs false
attribute [local simp ↓] gF gD uZ uY gd zX qW zk uX zU yq yr gG gI gJ gH jd jg jj je jk jl jh ji jf jb u9 jc ja yo ym yp yn gA gy gC gz gM gK gL ue zz jm qS jn gg yt yu gQ gT gS gN gO g8 jp jw jz jv jx jy j5 j3 jF jH uH uE uS uV uF uN uR uQ uP uO uL uA uB uC uD uT uJ uK uy uU uW uG uI uM uz jL jG jY j8 jI jT jX jW jV jU jR jD j0 jP jQ jA j7 j9 jJ jN jS jB gb j6 jC ga jO jK jM jE jZ jq ju jr gY g7 gW gZ g6 qm uo
attribute [local simp] faL fdL iaL ixL za q9 qN eqK eqL qL ze ut gV yk g9 yb yd yf yh yj ya ye yc yg zr LV.cells LV.whole qm uf zK jo stL zw zF zV qa.alloc ge gc gf gw gv gu gt gq gp gk gj gi gh qd ug
def ofA(a:Atom):PK:=(a.pred,a.args.length)
def wd(m:List (PK×Int))(x:Lit):List (PK×Int):=if decide (x.kind=1)||decide (x.kind=2) then zG (ofA x.atom) 0 m else m
def yN(m:List (PK×Int))(c:qe):List (PK×Int):=c.body.foldl wd (zG (ofA c.head) 0 m)
theorem muP{o:Nat}{m:List (PK×Int)}{ob:List (Nat×qc)}{nx:Nat}(hl:look o ob=some (.map (qO m)))(k:PK)(v:Int):
  muL ⟨ob,nx⟩ (.st [1,0]) (.map o) (ur k) (LV.int v)=some ⟨qx o (.map (qO (zG k v m))) ob,nx⟩:=by
 have hs:eqK (.st [1,0]) (ur k) (ur k)=some true:=by rw[qdZ,vR.2 rfl]
 have h2:=qlj k v m
 simp only[muL,hl]
 rw[hs,h2]
 rfl
structure NNP where
 i:Nat
 n:Nat
 m:List (PK×Int)
def i77:qk:=match b85.body with
 |.seq _ (.seq _ (.seq x _))=>x
 |_=>.bad
theorem qrc(l:List qe)(hl:l.length<2^40)(hb:∀c∈l,c.body.length<2^40)(o:Nat)(m0:List (PK×Int))(ob:List (Nat×qc))(nx:Nat)(ho:look o ob=some (.map (qO m0))):
  lP E0 F0 i77 (.nd (qF l) (.nd .bot (.nd (.bool false) .nil .nil) .nil) (.nd (.sc (.map none)) (.nd (.map o) .nil .nil) .nil)) ⟨ob,nx⟩ (fun e t' H'=>e=.normal/\FT.Le (.nd (qF l) (.nd .bot (.nd (.bool false) .nil .nil) .nil) (.nd (.sc (.map none)) (.nd (.map o) .nil .nil) .nil)) t'/\∃n,nx<=n/\HWk H' ⟨qx o (.map (qO (l.foldl yN m0))) ob,n⟩/\(H'.Ok->qa.Ok ⟨qx o (.map (qO (l.foldl yN m0))) ob,n⟩)):=by
 refine zD ?_
 simp(disch:=omega)[i77,b85]
 obtain⟨R,hR⟩:∃R,l.foldl yN m0=R:=⟨_,rfl⟩
 rw[hR]
 refine qE (σ:=NNP) (fun q=>(.nd (qF l) (.nd .bot (.nd (.bool false) .nil (.nd .bot (.nd (.int q.i) .nil .nil) .nil)) (.nd .bot (.nd .bot (.nd (qF l) .nil .nil) .nil) .nil)) (.nd (.sc (.map none)) (.nd (.map o) .nil .nil) (.nd .bot (.nd .bot (.nd (.int l.length) .nil .nil) .nil) .nil)))) (fun q=>⟨qx o (.map (qO q.m)) ob,q.n⟩) (fun q=>l.length - q.i)
  (fun q=>nx<=q.n/\q.i<=l.length/\(l.drop q.i).foldl yN q.m=R) ⟨0,nx,m0⟩ ⟨Nat.le_refl _,Nat.zero_le _,hR⟩ (by simp[FT.Le,Wk]) ?_ ?_
 ·dsimp only;rw[qeH ho];exact⟨HWk.refl _,fun h=>h⟩
 rintro⟨i,n,m⟩ ⟨hn,hi,he⟩ hok
 dsimp only at hn hi he hok
 by_cases hlt:i<l.length
 case neg=>
  rw[List.drop_eq_nil_of_le (by omega)]at he
  simp only[List.foldl_nil]at he
  subst he
  simp(disch:=omega)[hlt]
  exact⟨by simp[FT.Le,Wk],n,hn,HWk.refl _,fun h=>h⟩
 rw[List.drop_eq_getElem_cons hlt,List.foldl_cons]at he
 have hon:o<n:=by
  have h2:qa.Ok ⟨qx o (.map (qO m)) ob,n⟩:=hok
  exact h2.look (vL ho)
 have hself:∀k:PK,eqK (.st [1,0]) (ur k) (ur k)=some true:=fun k=>by rw[qdZ,vR.2 rfl]
 simp(disch:=omega)[hlt]
 refine(qch l[i].head).go fun n1 h1=>?_
 simp(disch:=omega)
 have hmu:=muP (nx:=n1) (ob:=(n,.cells [.str l[i].head.pred,qz l[i].head.args,wi l[i].body])::qx o (.map (qO m)) ob) (o:=o) (m:=m) (by rw[qd (by omega)];exact vL ho) (ofA l[i].head) 0
 rw[show muL ⟨(n,.cells [.str l[i].head.pred,qz l[i].head.args,wi l[i].body])::qx o (.map (qO m)) ob,n1⟩ (.st [1,0]) (.map o) (.agg [.str l[i].head.pred,.int l[i].head.args.length]) (Z 0)=_ from hmu]
 simp(disch:=omega)[qbp]
 have hHe:∀m':List (PK×Int),qa.Ok ⟨qx o (.map (qO m')) ob,n⟩:=fun m'=>by
  have:=qt.put (i:=o) (o:=.map (qO m')) (show qt (qx o (.map (qO m)) ob) n from hok)
  rwa [qbp]at this
 obtain⟨W,hW⟩:∃W,yN m l[i]=W:=⟨_,rfl⟩
 rw[hW]at he
 have hbl:=hb _ (up hlt)
 refine qE (σ:=NNP) (fun q=>(.nd (qF l) (.nd .bot (.nd (.bool false) .nil (.nd .bot (.nd (.int i) .nil .nil) .nil)) (.nd .bot (.nd .bot (.nd (qF l) .nil .nil) .nil) (.nd .bot .nil (.nd (.int l[i].body.length) .nil .nil)))) (.nd (.sc (.map none)) (.nd (.map o) .nil (.nd .bot .nil (.nd (wi l[i].body) .nil .nil))) (.nd .bot (.nd .bot (.nd (.int l.length) .nil .nil) .nil) (.nd .bot .nil (.nd (.int q.i) .nil .nil)))))) (fun q=>⟨qx o (.map (qO q.m)) ob,q.n⟩) (fun q=>l[i].body.length - q.i)
  (fun q=>n<=q.n/\q.i<=l[i].body.length/\(l[i].body.drop q.i).foldl wd q.m=W) ⟨0,n1,zG (ofA l[i].head) 0 m⟩ ⟨by dsimp only;omega,Nat.zero_le _,hW⟩ (by simp[FT.Le,Wk]) (zO (hHe _) (by first|exact qj.refl' _|(repeat (first|exact qj.refl (by first|omega|(dsimp only;omega))|refine qj.cons' (hHe _) (by first|omega|(dsimp only;omega)) (by first|omega|(dsimp only;omega)) ?_)))) ?_
 rintro⟨j,n2,m2⟩ ⟨hn2,hj,he2⟩ hok2
 dsimp only at hn2 hj he2 hok2
 by_cases hlt2:j<l[i].body.length
 case neg=>
  rw[List.drop_eq_nil_of_le (by omega)]at he2
  simp only[List.foldl_nil]at he2
  subst he2
  simp(disch:=omega)[hlt2,qw (show i<2^62 by omega)]
  exact⟨⟨i+1,n2,m2⟩,by dsimp only;omega,⟨by dsimp only;omega,by dsimp only;omega,he⟩,by simp[FT.Le,Wk],HWk.refl _,fun h=>h⟩
 rw[List.drop_eq_getElem_cons hlt2,List.foldl_cons]at he2
 have step:∀k:Int,l[i].body[j].kind=k->k=1\/k=2->(l[i].body.drop (j+1)).foldl wd (zG (ofA l[i].body[j].atom) 0 m2)=W:=by
  intro k hk h12
  rw[<-he2]
  congr 1
  unfold wd
  rcases h12 with rfl|rfl<;>simp[hk]
 by_cases h12:l[i].body[j].kind=1\/l[i].body[j].kind=2
 ·rcases h12 with hk|hk
  all_goals
   simp(disch:=omega)[hlt2,hk]
   refine(qch l[i].body[j].atom).go fun n3 h3=>?_
   simp(disch:=omega)
   have hmu:∀x:qc,muL ⟨(n2,x)::qx o (.map (qO m2)) ob,n3⟩ (.st [1,0]) (.map o) (.agg [.str l[i].body[j].atom.pred,.int l[i].body[j].atom.args.length]) (Z 0)=some ⟨qx o (.map (qO (zG (ofA l[i].body[j].atom) 0 m2))) ((n2,x)::qx o (.map (qO m2)) ob),n3⟩:=
    fun x=>muP (by rw[qd (by omega)];exact vL ho) (ofA l[i].body[j].atom) 0
   rw[hmu]
   simp(disch:=omega)[qbp,qw (show j<2^62 by omega)]
   exact⟨⟨j+1,n3,zG (ofA l[i].body[j].atom) 0 m2⟩,by dsimp only;omega,⟨by dsimp only;omega,by dsimp only;omega,step _ hk (by omega)⟩,by simp[FT.Le,Wk],zO (hHe _) (by first|exact qj.refl' _|(repeat (first|exact qj.refl (by first|omega|(dsimp only;omega))|refine qj.cons' (hHe _) (by first|omega|(dsimp only;omega)) (by first|omega|(dsimp only;omega)) ?_)))⟩
 ·have h1':¬l[i].body[j].kind=1:=fun e=>h12 (.inl e)
  have h2':¬l[i].body[j].kind=2:=fun e=>h12 (.inr e)
  simp(disch:=omega)[hlt2,h1',h2',qw (show j<2^62 by omega)]
  refine⟨⟨j+1,n2+1,m2⟩,by dsimp only;omega,⟨by dsimp only;omega,by dsimp only;omega,?_⟩,by simp[FT.Le,Wk],zO (hHe _) (by first|exact qj.refl' _|(repeat (first|exact qj.refl (by first|omega|(dsimp only;omega))|refine qj.cons' (hHe _) (by first|omega|(dsimp only;omega)) (by first|omega|(dsimp only;omega)) ?_)))⟩
  rw[<-he2]
  simp[wd,h1',h2']
theorem lkP{o:Nat}{m:List (PK×Int)}{ob:List (Nat×qc)}{nx:Nat}(hl:look o ob=some (.map (qO m)))(k:PK):
  lkL ⟨ob,nx⟩ (.st [1,0]) false (Z 0) (.map o) (ur k)=some (LV.int (qp m k)):=by
 have hs:eqK (.st [1,0]) (ur k) (ur k)=some true:=by rw[qdZ,vR.2 rfl]
 have h2:=qob k m
 unfold lkL
 rw[hs]
 simp only[Option.isSome_some,if_true,hl]
 rw[h2]
 unfold qp
 cases wb k m<;>rfl
def wT(m:List (PK×Int))(x:Lit):Int:=if x.kind=1 then qp m (ofA x.atom) else if x.kind=2 then qp m (ofA x.atom)+1 else -1
def yz(h:PK)(s:List (PK×Int)×Bool)(x:Lit):List (PK×Int)×Bool:=if qp s.1 h<wT s.1 x then (zG h (wT s.1 x) s.1,true) else s
def ul(s:List (PK×Int)×Bool)(c:qe):List (PK×Int)×Bool:=c.body.foldl (yz (ofA c.head)) s
def qab:List qe->List (PK×Int)×Bool->Option (List (PK×Int)×Bool)
 |[],s=>some s
 |c::r,s=>if ((ul s c).1.length:Int)<qp (ul s c).1 (ofA c.head) then none else qab r (ul s c)
def vN(l:List qe):Nat->List (PK×Int)->Option (Option (List (PK×Int)))
 |0,_=>none
 |n+1,m=>match qab l (m,false) with
  |none=>some none
  |some (m',true)=>vN l n m'
  |some (m',false)=>some (some m')
def InP(m:List (PK×Int))(N:Int):Prop:=∀k,0<=qp m k/\qp m k<=N
theorem qcp(k j:PK)(v:Int)(m:List (PK×Int)):qp (zG k v m) j=if j=k then v else qp m j:=by
 unfold qp
 rw[qmj]
 split<;>rfl
theorem qsQ{k:PK}{v:Int}{m:List (PK×Int)}(h:k∈qB m):qB (zG k v m)=qB m:=by
 rw[qdH,if_pos (qjI.2 h)]
theorem qmO{h:PK}{s:List (PK×Int)×Bool}{x:Lit}(hk:h∈qB s.1):qB (yz h s x).1=qB s.1:=by
 unfold yz
 split
 ·exact qsQ hk
 ·rfl
def InQ(h:PK)(m:List (PK×Int))(N M:Int):Prop:=∀k,0<=qp m k/\(k≠h->qp m k<=N)/\qp m k<=M
theorem qtW{h:PK}{s:List (PK×Int)×Bool}{x:Lit}{N M:Int}(hk:InQ h s.1 N M):InQ h (yz h s x).1 N (M+1):=by
 intro k
 have h1:=hk k
 have h3:=hk h
 have h2:wT s.1 x<=M+1:=by
  have:=hk (ofA x.atom)
  unfold wT
  repeat' split
  all_goals omega
 unfold yz
 split
 ·dsimp only
  rw[qcp]
  split
  ·rename_i e;subst e;exact⟨by omega,fun h=>absurd rfl h,by omega⟩
  ·exact⟨h1.1,h1.2.1,by omega⟩
 ·exact⟨h1.1,h1.2.1,by omega⟩
structure NNQ where
 i:Nat
 n:Nat
 m:List (PK×Int)
 ch:Bool
structure NNW where
 f:Nat
 n:Nat
 m:List (PK×Int)
 ch:Bool
def w77:qk:=match b85.body with
 |.seq _ (.seq _ (.seq _ (.seq x _)))=>x
 |_=>.bad
theorem wR(m:List (PK×Int)):(qB m).length=m.length:=List.length_map ..
def okR(o:Nat)(ob:List (Nat×qc))(nx:Nat)(R:Option (List (PK×Int))):XP:=fun e t' H'=>∃(n:Nat)(m1:List (PK×Int)),nx<=n/\HWk H' ⟨qx o (.map (qO m1)) ob,n⟩/\(H'.Ok->qa.Ok ⟨qx o (.map (qO m1)) ob,n⟩) /\
 ((R=none/\e=.ret/\FT.Le (.nd .bot (.nd .bot (.nd (.bool false) .nil .nil) .nil) (.nd (.sc (.map none)) .nil .nil)) t')\/(R=some m1/\e=.normal/\FT.Le (.nd .bot .nil (.nd .bot (.nd (.map o) .nil .nil) .nil)) t'))
theorem qqB(l:List qe)(hl:l.length<2^40)(hb:∀c∈l,c.body.length<2^40)(V:List PK)(hN:V.length<2^40)(hh:∀c∈l,ofA c.head∈V)(m0:List (PK×Int))(hk0:qB m0=V)(hi0:InP m0 V.length)(fuel:Nat)(R:Option (List (PK×Int)))(hR:vN l fuel m0=some R)
  (o:Nat) (x0:qc) (ob:List (Nat×qc)) (nx:Nat) (ho:look o ob=some x0):
  lP E0 F0 w77 (.nd (qF l) (.nd .bot (.nd (.bool false) .nil .nil) .nil) (.nd (.sc (.map none)) (.nd (.map o) .nil .nil) .nil)) ⟨qx o (.map (qO m0)) ob,nx⟩ (okR o ob nx R):=by
 refine zD ?_
 simp(disch:=omega)[w77,b85]
 refine qE (σ:=NNW) (fun q=>(.nd (qF l) (.nd .bot (.nd (.bool false) .nil .nil) (.nd .bot (.nd (.bool q.ch) .nil .nil) .nil)) (.nd (.sc (.map none)) (.nd (.map o) .nil .nil) .nil))) (fun q=>⟨qx o (.map (qO q.m)) ob,q.n⟩) (fun q=>if q.ch then q.f+1 else 0)
  (fun q=>nx<=q.n/\qB q.m=V/\InP q.m V.length/\(q.ch=true->vN l q.f q.m=some R)/\(q.ch=false->R=some q.m)) ⟨fuel,nx,m0,true⟩ ⟨Nat.le_refl _,hk0,hi0,fun _=>hR,fun h=>(by cases h)⟩ (by simp[FT.Le,Wk]) ⟨HWk.refl _,fun h=>h⟩ ?_
 rintro⟨f,n,m,ch⟩ ⟨hn,hk,hin,h1,h2⟩ hok
 dsimp only at hn hk hin h1 h2 hok
 cases ch
 ·simp(disch:=omega)
  exact⟨n,m,hn,HWk.refl _,fun h=>h,.inr ⟨h2 rfl,rfl,by simp[FT.Le,Wk]⟩⟩
 have h1:=h1 rfl
 cases f with
 |zero=>cases h1
 |succ f=>
 simp only[vN]at h1
 obtain⟨Q,hQ⟩:∃Q,qab l (m,false)=Q:=⟨_,rfl⟩
 rw[hQ]at h1
 simp(disch:=omega)
 refine qE (σ:=NNQ) (fun q=>(.nd (qF l) (.nd .bot (.nd (.bool false) .nil (.nd .bot (.nd .bot .nil (.nd (.int q.i) .nil .nil)) .nil)) (.nd .bot (.nd (.bool q.ch) (.nd .bot .nil (.nd (qF l) .nil .nil)) .nil) .nil)) (.nd (.sc (.map none)) (.nd (.map o) .nil .nil) (.nd .bot (.nd .bot (.nd .bot .nil (.nd (.int l.length) .nil .nil)) .nil) .nil)))) (fun q=>⟨qx o (.map (qO q.m)) ob,q.n⟩) (fun q=>l.length - q.i)
  (fun q=>n<=q.n/\q.i<=l.length/\qB q.m=V/\InP q.m V.length/\qab (l.drop q.i) (q.m,q.ch)=Q) ⟨0,n,m,false⟩ ⟨Nat.le_refl _,Nat.zero_le _,hk,hin,hQ⟩ (by simp[FT.Le,Wk]) ⟨HWk.refl _,fun h=>h⟩ ?_
 rintro⟨i,n2,m2,ch2⟩ ⟨hn2,hi,hk2,hin2,he⟩ hok2
 dsimp only at hn2 hi hk2 hin2 he hok2
 by_cases hlt:i<l.length
 case neg=>
  rw[List.drop_eq_nil_of_le (by omega)]at he
  simp only[qab]at he
  subst he
  simp(disch:=omega)[hlt]
  cases ch2
  ·simp only[Option.some.injEq]at h1
   exact⟨⟨f,n2,m2,false⟩,by simp,⟨by dsimp only;omega,hk2,hin2,fun h=>(by cases h),fun _=>h1.symm⟩,by simp[FT.Le,Wk],HWk.refl _,fun h=>h⟩
  ·exact⟨⟨f,n2,m2,true⟩,by simp,⟨by dsimp only;omega,hk2,hin2,fun _=>h1,fun h=>(by cases h)⟩,by simp[FT.Le,Wk],HWk.refl _,fun h=>h⟩
 rw[List.drop_eq_getElem_cons hlt]at he
 simp only[qab]at he
 have hon:o<n2:=by
  have h2:qa.Ok ⟨qx o (.map (qO m2)) ob,n2⟩:=hok2
  exact h2.look (vL ho)
 have hHe:∀m':List (PK×Int),qa.Ok ⟨qx o (.map (qO m')) ob,n2⟩:=fun m'=>by
  have:=qt.put (i:=o) (o:=.map (qO m')) (show qt (qx o (.map (qO m2)) ob) n2 from hok2)
  rwa [qbp]at this
 have hbl:=hb _ (up hlt)
 have hhd:=hh _ (up hlt)
 have hself:∀k:PK,eqK (.st [1,0]) (ur k) (ur k)=some true:=fun k=>by rw[qdZ,vR.2 rfl]
 simp(disch:=omega)[hlt]
 refine(qch l[i].head).x (qfx _) ?_
 simp(disch:=omega)
 obtain⟨W,hW⟩:∃W,ul (m2,ch2) l[i]=W:=⟨_,rfl⟩
 rw[hW]at he
 have hok3:∀m':List (PK×Int),qa.Ok ⟨(n2+1,.cells [.str l[i].head.pred,.int l[i].head.args.length])::(n2,.cells [.str l[i].head.pred,qz l[i].head.args,wi l[i].body])::qx o (.map (qO m')) ob,n2+1+1⟩:=fun m'=>⟨Nat.lt_succ_self _,Nat.lt_succ_self _,hHe m'⟩
 refine qE (σ:=NNQ) (fun q=>(.nd (qF l) (.nd .bot (.nd (.bool false) .nil (.nd .bot (.nd .bot .nil (.nd (.int i) .nil .nil)) (.nd .bot .nil (.nd (wi l[i].body) .nil .nil)))) (.nd .bot (.nd (.bool q.ch) (.nd .bot .nil (.nd (qF l) .nil .nil)) .nil) (.nd .bot .nil (.nd .bot .nil (.nd (.int q.i) .nil .nil))))) (.nd (.sc (.map none)) (.nd (.map o) .nil (.nd (.ptr (n2+1) 0) .nil (.nd .bot .nil (.nd (.int l[i].body.length) .nil .nil)))) (.nd .bot (.nd .bot (.nd .bot .nil (.nd (.int l.length) .nil .nil)) .nil) .nil))))
  (fun q=>⟨(n2+1,.cells [.str l[i].head.pred,.int l[i].head.args.length])::(n2,.cells [.str l[i].head.pred,qz l[i].head.args,wi l[i].body])::qx o (.map (qO q.m)) ob,q.n⟩) (fun q=>l[i].body.length - q.i)
  (fun q=>n2+1+1<=q.n/\q.i<=l[i].body.length/\qB q.m=V/\InQ (ofA l[i].head) q.m V.length (V.length+q.i)/\(l[i].body.drop q.i).foldl (yz (ofA l[i].head)) (q.m,q.ch)=W) ⟨0,n2+1+1,m2,ch2⟩
  ⟨Nat.le_refl _,Nat.zero_le _,hk2,fun k=>⟨(hin2 k).1,fun _=>(hin2 k).2,by have:=(hin2 k).2;dsimp only;omega⟩,hW⟩ (by simp[FT.Le,Wk]) ⟨HWk.refl _,fun h=>h⟩ ?_
 rintro⟨j,n3,m3,ch3⟩ ⟨hn3,hj,hk3,hin3,he3⟩ hok4
 dsimp only at hn3 hj hk3 hin3 he3 hok4
 have hlo:look o (qx o (.map (qO m3)) ob)=some (.map (qO m3)):=vL ho
 have hlk:∀(a:Atom)(n:Nat)(r:List (Nat×qc)),look o r=some (.map (qO m3))->lkL ⟨r,n⟩ (.st [1,0]) false (Z 0) (.map o) (.agg [.str a.pred,.int a.args.length])=some (LV.int (qp m3 (ofA a))):=
  fun a n r hr=>lkP hr (ofA a)
 have hln:m3.length=V.length:=by rw[<-hk3,wR]
 by_cases hlt2:j<l[i].body.length
 case neg=>
  rw[List.drop_eq_nil_of_le (by omega)]at he3
  simp only[List.foldl_nil]at he3
  subst he3
  dsimp only at he
  rw[hln]at he
  simp(disch:=omega)[hlt2]
  rw[hlk _ _ _ (by rw[qd (by omega),qd (by omega)];exact hlo)]
  simp(disch:=omega)[hlo,hln]
  by_cases hgt:(V.length:Int)<qp m3 (ofA l[i].head)
  ·rw[if_pos hgt]at he
   subst he
   simp only[Option.some.injEq]at h1
   simp(disch:=omega)[hgt]
   have hbk:=zO (hHe m3) (l:=(n2+1,.cells [.str l[i].head.pred,.int l[i].head.args.length])::(n2,.cells [.str l[i].head.pred,qz l[i].head.args,wi l[i].body])::qx o (.map (qO m3)) ob) (n:=n3) (by first|exact qj.refl' _|(repeat (first|exact qj.refl (by first|omega|(dsimp only;omega))|refine qj.cons' (hHe _) (by first|omega|(dsimp only;omega)) (by first|omega|(dsimp only;omega)) ?_)))
   exact⟨n3,m3,by omega,hbk.1,hbk.2,.inl ⟨h1.symm,rfl,by simp[FT.Le,Wk]⟩⟩
  ·rw[if_neg hgt]at he
   simp(disch:=omega)[hgt,qw (show i<2^62 by omega)]
   refine⟨⟨i+1,n3,m3,ch3⟩,by dsimp only;omega,⟨by dsimp only;omega,by dsimp only;omega,hk3,fun k=>⟨(hin3 k).1,?_⟩,he⟩,by simp[FT.Le,Wk],zO (hHe m3) (by first|exact qj.refl' _|(repeat (first|exact qj.refl (by first|omega|(dsimp only;omega))|refine qj.cons' (hHe _) (by first|omega|(dsimp only;omega)) (by first|omega|(dsimp only;omega)) ?_)))⟩
   by_cases hkh:k=ofA l[i].head
   ·rw[hkh];dsimp only;omega
   ·exact(hin3 k).2.1 hkh
 rw[List.drop_eq_getElem_cons hlt2,List.foldl_cons]at he3
 have hpv:∀k:PK,0<=qp m3 k/\qp m3 k<2^42:=fun k=>⟨(hin3 k).1,by have:=(hin3 k).2.2;omega⟩
 have hmu:∀(v:Int)(n:Nat)(r:List (Nat×qc)),look o r=some (.map (qO m3))->muL ⟨r,n⟩ (.st [1,0]) (.map o) (.agg [.str l[i].head.pred,.int l[i].head.args.length]) (LV.int v)=some ⟨qx o (.map (qO (zG (ofA l[i].head) v m3))) r,n⟩:=
  fun v n r hr=>muP hr (ofA l[i].head) v
 have hinS:=qtW (h:=ofA l[i].head) (s:=(m3,ch3)) (x:=l[i].body[j]) hin3
 have hkS:=qmO (h:=ofA l[i].head) (s:=(m3,ch3)) (x:=l[i].body[j]) (by dsimp only;rw[hk3];exact hhd)
 dsimp only at hinS hkS
 rw[hk3]at hkS
 have hc:(V.length:Int)+(j:Int)+1=V.length+((j+1:Nat):Int):=by omega
 rw[hc]at hinS
 obtain⟨v,hv⟩:∃v,wT m3 l[i].body[j]=v:=⟨_,rfl⟩
 have hst:yz (ofA l[i].head) (m3,ch3) l[i].body[j]=if qp m3 (ofA l[i].head)<v then (zG (ofA l[i].head) v m3,true) else (m3,ch3):=by
  unfold yz;dsimp only;rw[hv]
 have hokN:∀m':List (PK×Int),qa.Ok ⟨(n2+1,.cells [.str l[i].head.pred,.int l[i].head.args.length])::(n2,.cells [.str l[i].head.pred,qz l[i].head.args,wi l[i].body])::qx o (.map (qO m')) ob,n3⟩:=fun m'=>⟨by show n2+1<n3;omega,Nat.lt_succ_self _,hHe m'⟩
 by_cases hk1:l[i].body[j].kind=1
 ·have hv':qp m3 (ofA l[i].body[j].atom)=v:=by rw[<-hv];simp[wT,hk1]
  simp(disch:=omega)[hlt2,hk1]
  refine(qch l[i].body[j].atom).x (qfx _) ?_
  simp(disch:=omega)
  rw[hlk _ _ _ (by rw[qd (by omega),qd (by omega),qd (by omega)];exact hlo)]
  simp(disch:=omega)
  rw[hv']
  rw[hlk _ _ _ (by repeat (first|exact hlo|rw[qd (by omega)]))]
  simp(disch:=omega)
  by_cases hlt3:qp m3 (ofA l[i].head)<v
  ·rw[if_pos hlt3]at hst
   rw[hst]at hinS hkS he3
   simp(disch:=omega)[hlt3]
   rw[hmu _ _ _ (by repeat (first|exact hlo|rw[qd (by omega)]))]
   simp(disch:=omega)[qbp,qw (show j<2^62 by omega)]
   exact⟨⟨j+1,n3+1,zG (ofA l[i].head) v m3,true⟩,by dsimp only;omega,⟨by dsimp only;omega,by dsimp only;omega,hkS,hinS,he3⟩,by simp[FT.Le,Wk],zO (hokN _) (by first|exact qj.refl' _|(repeat (first|exact qj.refl (by first|omega|(dsimp only;omega))|refine qj.cons' (hokN _) (by first|omega|(dsimp only;omega)) (by first|omega|(dsimp only;omega)) ?_)))⟩
  ·rw[if_neg hlt3]at hst
   rw[hst]at hinS hkS he3
   simp(disch:=omega)[hlt3,qw (show j<2^62 by omega)]
   exact⟨⟨j+1,n3+1,m3,ch3⟩,by dsimp only;omega,⟨by dsimp only;omega,by dsimp only;omega,hkS,hinS,he3⟩,by simp[FT.Le,Wk],zO (hokN _) (by first|exact qj.refl' _|(repeat (first|exact qj.refl (by first|omega|(dsimp only;omega))|refine qj.cons' (hokN _) (by first|omega|(dsimp only;omega)) (by first|omega|(dsimp only;omega)) ?_)))⟩
 by_cases hk2':l[i].body[j].kind=2
 ·have hv':qp m3 (ofA l[i].body[j].atom)+1=v:=by rw[<-hv];simp[wT,hk2']
  have hpo:=hpv (ofA l[i].body[j].atom)
  simp(disch:=omega)[hlt2,hk1,hk2']
  refine(qch l[i].body[j].atom).x (qfx _) ?_
  simp(disch:=omega)
  rw[hlk _ _ _ (by rw[qd (by omega),qd (by omega),qd (by omega)];exact hlo)]
  simp(disch:=omega)[hv',yX]
  rw[hlk _ _ _ (by repeat (first|exact hlo|rw[qd (by omega)]))]
  simp(disch:=omega)
  by_cases hlt3:qp m3 (ofA l[i].head)<v
  ·rw[if_pos hlt3]at hst
   rw[hst]at hinS hkS he3
   simp(disch:=omega)[hlt3]
   rw[hmu _ _ _ (by repeat (first|exact hlo|rw[qd (by omega)]))]
   simp(disch:=omega)[qbp,qw (show j<2^62 by omega)]
   exact⟨⟨j+1,n3+1,zG (ofA l[i].head) v m3,true⟩,by dsimp only;omega,⟨by dsimp only;omega,by dsimp only;omega,hkS,hinS,he3⟩,by simp[FT.Le,Wk],zO (hokN _) (by first|exact qj.refl' _|(repeat (first|exact qj.refl (by first|omega|(dsimp only;omega))|refine qj.cons' (hokN _) (by first|omega|(dsimp only;omega)) (by first|omega|(dsimp only;omega)) ?_)))⟩
  ·rw[if_neg hlt3]at hst
   rw[hst]at hinS hkS he3
   simp(disch:=omega)[hlt3,qw (show j<2^62 by omega)]
   exact⟨⟨j+1,n3+1,m3,ch3⟩,by dsimp only;omega,⟨by dsimp only;omega,by dsimp only;omega,hkS,hinS,he3⟩,by simp[FT.Le,Wk],zO (hokN _) (by first|exact qj.refl' _|(repeat (first|exact qj.refl (by first|omega|(dsimp only;omega))|refine qj.cons' (hokN _) (by first|omega|(dsimp only;omega)) (by first|omega|(dsimp only;omega)) ?_)))⟩
 ·have hv':v=-1:=by rw[<-hv];simp[wT,hk1,hk2']
  simp(disch:=omega)[hlt2,hk1,hk2',yX]
  rw[hlk _ _ _ (by repeat (first|exact hlo|rw[qd (by omega)]))]
  have hlt3:¬qp m3 (ofA l[i].head) < -1:=by have:=(hpv (ofA l[i].head)).1;omega
  rw[if_neg (by rw[hv'];exact hlt3)]at hst
  rw[hst]at hinS hkS he3
  simp(disch:=omega)[hlt3,qw (show j<2^62 by omega)]
  exact⟨⟨j+1,n3+1,m3,ch3⟩,by dsimp only;omega,⟨by dsimp only;omega,by dsimp only;omega,hkS,hinS,he3⟩,by simp[FT.Le,Wk],zO (hokN _) (by first|exact qj.refl' _|(repeat (first|exact qj.refl (by first|omega|(dsimp only;omega))|refine qj.cons' (hokN _) (by first|omega|(dsimp only;omega)) (by first|omega|(dsimp only;omega)) ?_)))⟩
end Go.Abs.Tz
