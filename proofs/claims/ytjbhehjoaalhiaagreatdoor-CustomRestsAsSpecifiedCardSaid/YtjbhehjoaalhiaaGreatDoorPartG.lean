/- Part of the proof that the law CustomRestsAsSpecified holds. Conditions: none. -/
import Derived.Test.YtjbhehjoaalhiaaGreatDoorPartD
import Derived.Test.YtjbhehjoaalhiaaGreatDoorPartF
import Derived.Lib.ItoaNum
import Derived.Laws.AppendOwn
set_option linter.unusedVariables false
set_option linter.unusedSimpArgs false
set_option linter.unusedSectionVars false
namespace Go.Abs.Tz
open Go Go.Abs Go.Proofs
def rfOf:Code->Code×Code
 |.seq _ (.seq _ (.seq _ (.seq (.seq _ (.block _ (.rangeFunc _ _ a b))) _)))=>(a,b)
 |_=>(.skip,.skip)
noncomputable def rcT(k:Nat):Code×Code:=match k with
 |0=>rfOf (((Tryz.prog.funcs[48]?).bind (·.body)).getD .skip)
 |_=>(.skip,.skip)
def powT:List (Nat×Array Value):=[(3,(Lib.pow10Tab.map fun z=>Value.int .u64 z).toArray)]
noncomputable def E0:Env:=⟨Tryz.prog,fun _=>.bot,rcT,powT⟩
noncomputable def F0:Fns:=⟨fun f b=>qj Tryz.prog f=some b,fun f args H S=>qZ Tryz.prog E0 f args H S,fun k N ba bb=>qw Tryz.prog N (E0.rc k).1=some ba/\qw Tryz.prog N (E0.rc k).2=some bb⟩
abbrev qg(f:FuncId)(args:List LV)(v:LV):Prop:=qbw E0 F0 f args v
theorem qg.of{b:BFn}{f:FuncId}{args:List LV}{v:LV}(hf:qj Tryz.prog f=some b)(h:∀H:qa,H.Ok->fnP E0 F0 b args H (qdV H v) (fun _ _=>False)):qg f args v:=qbw.of_fn hf h
theorem qg.go{f:FuncId}{args:List LV}{v:LV}(h:qg f args v){l:List (Nat×qc)}{m:Nat}{kv kp:HP}(hk:∀n,m<=n->kv v ⟨l,n⟩):cP E0 F0 f args ⟨l,m⟩ kv kp:=h ⟨l,m⟩ kv kp hk
theorem ql.cons'{H:qa}(hH:H.Ok){i m:Nat}{o:qc}{l:List (Nat×qc)}(hi:H.next<=i)(hm:H.next<=m)(h:ql H ⟨l,H.next⟩):ql H ⟨(i,o)::l,m⟩:=ql.cons hH hi h hm
theorem qh{H H':qa}{u v:LV}(hH:H.Ok)(h:u=v)(he:ql H H':=by first|exact ql.refl' _|(repeat (first|exact ql.refl (by first|omega|(dsimp only;omega))|refine ql.cons' (by assumption) (by first|omega|(dsimp only;omega)) (by first|omega|(dsimp only;omega)) ?_))):qdV H v u H':=qcE hH h he
theorem zK{H:qa}{l:List (Nat×qc)}{n:Nat}(hH:H.Ok)(he:ql H ⟨l,n⟩):HWk ⟨l,n⟩ ⟨H.objs,n⟩/\(qa.Ok ⟨l,n⟩->qa.Ok ⟨H.objs,n⟩):=
 ⟨⟨Nat.le_refl _,he.2⟩,fun _=>qn.mono hH he.1⟩
theorem uf{H:qa}{l:List (Nat×qc)}{n:Nat}(hH:H.Ok)(he:ql H ⟨l,n⟩:=by first|exact ql.refl' _|(repeat (first|exact ql.refl (by first|omega|(dsimp only;omega))|refine ql.cons' (by assumption) (by first|omega|(dsimp only;omega)) (by first|omega|(dsimp only;omega)) ?_))):HWk ⟨l,n⟩ ⟨H.objs,n⟩/\(qa.Ok ⟨l,n⟩->qa.Ok ⟨H.objs,n⟩):=zK hH he
theorem qaC{α:Type}(p:α->Bool){l:List α}{i:Nat}(h:i<l.length):(l.drop i).all p=(p l[i]&&(l.drop (i+1)).all p):=by
 rw[List.drop_eq_getElem_cons h,List.all_cons]
theorem ub{α:Type}{l:List α}{i:Nat}(h:i<l.length):l[i]∈l:=List.getElem_mem h
theorem gJ(k:IntKind)(n:Int):(Value.int k n).oneCell'=true:=rfl
theorem gH(s:ByteArray):(Value.string s).oneCell'=true:=rfl
theorem gK(b:Bool):(Value.bool b).oneCell'=true:=rfl
theorem gY{α:Type}(a0:α)(l:List α):(a0::l)[0]? = some a0:=rfl
theorem gW{α:Type}(a0 a1:α)(l:List α):(a0::a1::l)[1]? = some a1:=rfl
theorem gV{α:Type}(a0 a1 a2:α)(l:List α):(a0::a1::a2::l)[2]? = some a2:=rfl
theorem gU{α:Type}(a0 a1 a2 a3:α)(l:List α):(a0::a1::a2::a3::l)[3]? = some a3:=rfl
theorem gT{α:Type}(a0 a1 a2 a3 a4:α)(l:List α):(a0::a1::a2::a3::a4::l)[4]? = some a4:=rfl
theorem gS{α:Type}(a0 a1 a2 a3 a4 a5:α)(l:List α):(a0::a1::a2::a3::a4::a5::l)[5]? = some a5:=rfl
theorem gQ{α:Type}(a0 a1 a2 a3 a4 a5 a6:α)(l:List α):(a0::a1::a2::a3::a4::a5::a6::l)[6]? = some a6:=rfl
theorem gO{α:Type}(a0 a1 a2 a3 a4 a5 a6 a7:α)(l:List α):(a0::a1::a2::a3::a4::a5::a6::a7::l)[7]? = some a7:=rfl
theorem gN{α:Type}(a0 a1 a2 a3 a4 a5 a6 a7 a8:α)(l:List α):(a0::a1::a2::a3::a4::a5::a6::a7::a8::l)[8]? = some a8:=rfl
theorem gM{α:Type}(a0 a1 a2 a3 a4 a5 a6 a7 a8 a9:α)(l:List α):(a0::a1::a2::a3::a4::a5::a6::a7::a8::a9::l)[9]? = some a9:=rfl
structure NN where
 i:Nat
 n:Nat
structure Term where
 kind:Int
 n:Int
 s:ByteArray
structure Atom where
 pred:ByteArray
 args:List Term
abbrev U(n:Int):LV:=.sc (.int .u8 n)
abbrev zR(t:Term):List LV:=[.int t.kind,.int t.n,.str t.s]
abbrev qW(t:Term):LV:=.agg (zR t)
abbrev qk(l:List Term):LV:=.sl (l.map qW) .no
abbrev qd(a:Atom):LV:=.agg [.str a.pred,qk a.args]
def lessB(a b:ByteArray):Bool:=Op.bytesLess a.toList b.toList
def eqBA(a b:ByteArray):Bool:=a.toList==b.toList
theorem zo(a b:ByteArray):eqB 1 (.sc (.string a)) (.sc (.string b))=some (eqBA a b):=rfl
theorem uO(k:IntKind)(a b:Int):eqB 0 (.sc (.int k a)) (.sc (.int k b))=some (decide (a=b)):=by
 simp only[eqB,if_true]
 congr 1
theorem yr(a b:Bool):eqB 2 (.sc (.bool a)) (.sc (.bool b))=some (a==b):=rfl
theorem yK(k:IntKind)(a b:Int):zt .add (.sc (.int k a)) (.sc (.int k b))=some (.sc (.int k (k.wrap (a+b)))):=by simp[zt]
theorem yA(k:IntKind)(a b:Int):zt .sub (.sc (.int k a)) (.sc (.int k b))=some (.sc (.int k (k.wrap (a - b)))):=by simp[zt]
theorem yC(k:IntKind)(a b:Int):zt .lss (.sc (.int k a)) (.sc (.int k b))=some (.sc (.bool (decide (a<b)))):=by simp[zt]
theorem yE(k:IntKind)(a b:Int):zt .leq (.sc (.int k a)) (.sc (.int k b))=some (.sc (.bool (decide (a<=b)))):=by simp[zt]
theorem yG(k:IntKind)(a b:Int):zt .gtr (.sc (.int k a)) (.sc (.int k b))=some (.sc (.bool (decide (b<a)))):=by simp[zt]
theorem yI(k:IntKind)(a b:Int):zt .geq (.sc (.int k a)) (.sc (.int k b))=some (.sc (.bool (decide (b<=a)))):=by simp[zt]
theorem yJ(a b:ByteArray):zt .add (.sc (.string a)) (.sc (.string b))=if a.size+b.size<=2^40 then some (.str (a++b)) else none:=rfl
theorem yB(a b:ByteArray):zt .lss (.sc (.string a)) (.sc (.string b))=some (.sc (.bool (lessB a b))):=rfl
theorem yF(a b:ByteArray):zt .gtr (.sc (.string a)) (.sc (.string b))=some (.sc (.bool !(lessB a b||eqBA a b))):=rfl
theorem yD(a b:ByteArray):zt .leq (.sc (.string a)) (.sc (.string b))=some (.sc (.bool (lessB a b||eqBA a b))):=rfl
theorem yH(a b:ByteArray):zt .geq (.sc (.string a)) (.sc (.string b))=some (.sc (.bool !lessB a b)):=rfl
theorem qho(s:ByteArray):eqBA s ⟨⟨[]⟩⟩=decide (s.size=0):=by
 unfold eqBA
 rw[ByteArray.toList_eq,ByteArray.toList_eq]
 rcases s with⟨⟨l⟩⟩
 cases l with
 |nil=>rfl
 |cons a l=>rfl
theorem ui{n:Int}(h1:-2^63<=n)(h2:n<2^63):IntKind.wrap .i64 n=n:=by
 have h64:(IntKind.i64.bits:Nat)=64:=rfl
 have hs:IntKind.i64.signed=true:=rfl
 simp only[IntKind.wrap,h64,hs,Bool.true_and]
 by_cases h0:0<=n
 ·have e1:n % (2^64:Int)=n:=by omega
  rw[e1]
  split
  ·rename_i hge;simp at hge;omega
  ·rfl
 ·have e1:n % (2^64:Int)=n+2^64:=by omega
  rw[e1]
  split
  ·omega
  ·rename_i hge;simp at hge;omega
theorem qi{n:Nat}(h:n<2^62):IntKind.wrap .i64 ((n:Int)+1)=((n+1:Nat):Int):=by
 rw[ui (by omega) (by omega)];omega
theorem vq{H:qa}{u v:LV}{n:Nat}(hH:H.Ok)(h:u=v)(hn:H.next<=n):qdV H v u ⟨H.objs,n⟩:=qcE hH h (ql.refl hn)
theorem uD{H:qa}{u v:LV}(hH:H.Ok)(h:u=v):qdV H v u H:=qcE hH h (ql.refl' H)
end Go.Abs.Tz
namespace Go.Abs.Tz
open Go Go.Abs Go.Proofs
set_option maxRecDepth 20000
set_option linter.unusedSimpArgs false
attribute [local simp ↓] yb ya jv ju gI ut zg zB jr up yP yQ yc ye yf yd jA jD jG jB jH jI jE jF jC jy jw jz jx yN yL yO yM g7 gZ g8 g6 yk yh yj uu zx jL zh z7 gL yS yT yo yq yp ym yn yz jO jT jW jS jU jV gy gx j5 j7 jb uZ jm jp u9 jh jl jk jj ji jf uV uW uX uY jn jd je uT jo jq ja jc jg uU gb j6 gu gC j8 gj gt gq gp gk gh j0 gw gf gg jX gA gD j9 gd gi jY gG gz jZ gF ge ga gc j3 gv jP jR jQ yu yx yt yv yw qp uL
attribute [local simp] faL fdL iaL ixL qL zb qV eqK eqL qR zo uO yr yK yA yC yE yG yI yJ yB yF yD yH zC LV.cells LV.whole qp uC uw jM stL zF zR uq qa.alloc gJ gH gK gY gW gV gU gT gS gQ gO gN gM qe ux
def qdO(n:Int):Bool:=decide (97<=n)&&decide (n<=122)
def qfK(n:Int):Bool:=decide (65<=n)&&decide (n<=90)
def qag(n:Int):Bool:=decide (48<=n)&&decide (n<=57)
def qas(n:Int):Bool:=qdO n||qfK n
theorem qla(n:Int):qg 131 [U n] (.bool (qdO n)):=by
 refine qg.of c131 fun H hH=>⟨Nat.le_of_ble_eq_true rfl,?_⟩
 simp[b131,qdC,qei,qej]
 repeat' (first|apply And.intro|intro _)
 all_goals first|omega|(refine uD hH ?_;simp_all [qdO];done)|(refine uD hH ?_;simp_all [qdO];omega)
theorem qlD(n:Int):qg 170 [U n] (.bool (qfK n)):=by
 refine qg.of c170 fun H hH=>⟨Nat.le_of_ble_eq_true rfl,?_⟩
 simp[b170,qdC,qei,qej]
 repeat' (first|apply And.intro|intro _)
 all_goals first|omega|(refine uD hH ?_;simp_all [qfK];done)|(refine uD hH ?_;simp_all [qfK];omega)
theorem qsx(n:Int):qg 169 [U n] (.bool (qag n)):=by
 refine qg.of c169 fun H hH=>⟨Nat.le_of_ble_eq_true rfl,?_⟩
 simp[b169,qdC,qei,qej]
 repeat' (first|apply And.intro|intro _)
 all_goals first|omega|(refine uD hH ?_;simp_all [qag];done)|(refine uD hH ?_;simp_all [qag];omega)
theorem qrQ(n:Int):qg 114 [U n] (.bool (qag n)):=by
 refine qg.of c114 fun H hH=>⟨Nat.le_of_ble_eq_true rfl,?_⟩
 simp[b114,qdC,qei,qej]
 repeat' (first|apply And.intro|intro _)
 all_goals first|omega|(refine uD hH ?_;simp_all [qag];done)|(refine uD hH ?_;simp_all [qag];omega)
theorem qsf(n:Int):qg 167 [U n] (.bool (qas n)):=by
 refine qg.of c167 fun H hH=>⟨Nat.le_of_ble_eq_true rfl,?_⟩
 simp[b167]
 refine(qla n).go fun m hm=>?_
 simp
 cases h:qdO n
 ·simp
  refine(qlD n).go fun k hk=>?_
  simp
  exact vq hH (by simp[qas,h]) (Nat.le_trans hm hk)
 ·simp
  exact vq hH (by simp[qas,h]) hm
theorem qrL(n:Int):qg 111 [U n] (.bool (qas n)):=by
 refine qg.of c111 fun H hH=>⟨Nat.le_of_ble_eq_true rfl,?_⟩
 by_cases h1:97<=n<;>by_cases h2:n<=122<;>by_cases h3:65<=n<;>by_cases h4:n<=90<;>first|omega|(simp[b111,h1,h2,h3,h4];refine uD hH ?_;simp[qas,qdO,qfK,h1,h2,h3,h4])
theorem qeK(a b c:Int):qg 70 [.int a,.int b,.int c] (.bool (decide (b<=a)&&decide (a<=c))):=by
 refine qg.of c70 fun H hH=>⟨Nat.le_of_ble_eq_true rfl,?_⟩
 simp[b70,qdC,qei,qej]
 repeat' (first|apply And.intro|intro _)
 all_goals first|omega|(refine uD hH ?_;simp_all [];done)|(refine uD hH ?_;simp_all [];omega)
theorem qlv(a:ByteArray):qg 162 [.str a] (.bool false):=by
 refine qg.of c162 fun H hH=>⟨Nat.le_of_ble_eq_true rfl,?_⟩
 simp[b162]
 exact uD hH (by simp[eqBA])
theorem qlu(a:Int):qg 152 [.int a] (.bool false):=by
 refine qg.of c152 fun H hH=>⟨Nat.le_of_ble_eq_true rfl,?_⟩
 simp[b152]
 exact uD hH rfl
def cmpB(a b:ByteArray):Int:=if lessB a b then -1 else if eqBA a b then 0 else 1
def cmpI(a b:Int):Int:=if a<b then -1 else if b<a then 1 else 0
theorem qlA(a b:ByteArray):qg 104 [.str a,.str b] (.int (cmpB a b)):=by
 refine qg.of c104 fun H hH=>⟨Nat.le_of_ble_eq_true rfl,?_⟩
 simp[b104]
 refine(qlv a).go fun n hn=>?_
 simp
 refine(qlv b).go fun m hm=>?_
 have h1:H.next<=m:=Nat.le_trans hn hm
 cases h:lessB a b
 ·cases h':eqBA a b
  ·simp[h,h']
   exact vq hH (by simp[cmpB,h,h']) h1
  ·simp[h,h']
   exact vq hH (by simp[cmpB,h,h']) h1
 ·simp[h]
  exact vq hH (by simp[cmpB,h]) h1
theorem qif(a b:Int):qg 94 [.int a,.int b] (.int (cmpI a b)):=by
 refine qg.of c94 fun H hH=>⟨Nat.le_of_ble_eq_true rfl,?_⟩
 simp[b94]
 refine(qlu a).go fun n hn=>?_
 simp
 refine(qlu b).go fun m hm=>?_
 have h1:H.next<=m:=Nat.le_trans hn hm
 by_cases h:a<b
 ·simp[h]
  exact vq hH (by simp[cmpI,h]) h1
 ·by_cases h':b<a
  ·simp[h,h']
   exact vq hH (by simp[cmpI,h,h']) h1
  ·simp[h,h']
   exact vq hH (by simp[cmpI,h,h']) h1
theorem qeL(a b:Int):qg 125 [.int a,.int b] (.int (cmpI a b)):=by
 refine qg.of c125 fun H hH=>⟨Nat.le_of_ble_eq_true rfl,?_⟩
 simp[b125,qdC,qei,qej]
 repeat' (first|apply And.intro|intro _)
 all_goals first|omega|(refine uD hH ?_;simp_all [cmpI];done)|(refine uD hH ?_;simp_all [cmpI];omega)
theorem qhU(a b:ByteArray):qg 124 [.str a,.str b] (.int (cmpB a b)):=by
 refine qg.of c124 fun H hH=>⟨Nat.le_of_ble_eq_true rfl,?_⟩
 cases h:lessB a b
 ·cases h':eqBA a b
  ·simp[b124,h,h']
   exact uD hH (by simp[cmpB,h,h'])
  ·simp[b124,h,h']
   exact uD hH (by simp[cmpB,h,h'])
 ·simp[b124,h]
  exact uD hH (by simp[cmpB,h])
def jJ(p:Int->Bool):List UInt8->Nat
 |[]=>0
 |c::r=>if p (c.toNat:Int) then jJ p r+1 else 0
def sL(s:ByteArray):List UInt8:=s.data.toList
theorem qkb{s:ByteArray}{i:Nat}(h:i<s.size):∃c,s.data[i]'h=c/\(sL s).drop i=c::(sL s).drop (i+1):=by
 have h':i<s.data.size:=h
 refine⟨s.data[i],rfl,?_⟩
 have:i<(sL s).length:=by simpa [sL] using h'
 rw[List.drop_eq_getElem_cons this]
 simp[sL]
theorem qrr(s:ByteArray)(hs:s.size<2^40):qg 112 [.str s,.int 0] (.int (jJ (fun c=>qas c||qag c) (sL s))):=by
 refine qg.of c112 fun H hH=>⟨Nat.le_of_ble_eq_true rfl,?_⟩
 simp[b112]
 refine qy (σ:=NN) (fun q=>(.nd (.str s) (.nd (.int q.i) .nil .nil) .nil)) (fun q=>⟨H.objs,q.n⟩) (fun q=>s.size - q.i)
  (fun q=>H.next<=q.n/\q.i<=s.size/\q.i+jJ (fun c=>qas c||qag c) ((sL s).drop q.i)=jJ (fun c=>qas c||qag c) (sL s)) ⟨0,H.next⟩ ⟨Nat.le_refl _,Nat.zero_le _,by simp⟩ (by simp[FT.Le,Wk]) ⟨HWk.refl _,fun h=>h⟩ ?_
 rintro⟨i,n⟩ ⟨hn,hi,he⟩ hok
 simp only at hn hi he
 by_cases hlt:i<s.size
 ·obtain⟨c,hc,hd⟩:=qkb hlt
  rw[hd]at he
  simp[hlt,hc]
  refine(qrL _).go fun n1 h1=>?_
  cases hl:qas (c.toNat:Int)
  ·simp[hlt,hc]
   refine(qrQ _).go fun n2 h2=>?_
   cases hg:qag (c.toNat:Int)
   ·simp
    refine vq hH ?_ (by omega)
    simp[jJ,hl,hg]at he
    simp[he]
   ·simp[qi (show i<2^62 by omega)]
    refine⟨⟨i+1,n2⟩,by dsimp only;omega,⟨by dsimp only;omega,by dsimp only;omega,?_⟩,by simp[FT.Le,Wk],HWk.refl _,fun h=>h⟩
    simp[jJ,hl,hg]at he
    dsimp only
    omega
  ·simp[qi (show i<2^62 by omega)]
   refine⟨⟨i+1,n1⟩,by dsimp only;omega,⟨by dsimp only;omega,by dsimp only;omega,?_⟩,by simp[FT.Le,Wk],HWk.refl _,fun h=>h⟩
   simp[jJ,hl]at he
   dsimp only
   omega
 ·obtain rfl:i=s.size:=by omega
  simp
  refine vq hH ?_ (by omega)
  rw[List.drop_eq_nil_of_le (by simp[sL])]at he
  simp[jJ]at he
  simp[he]
theorem t_run(s:ByteArray)(hs:s.size<2^40)(f:FuncId)(p:Int->Bool)(hp:∀n,qg f [U n] (.bool (p n))):qg 165 [.str s,.int 0,.fn (.func f) [] []] (.int (jJ p (sL s))):=by
 refine qg.of c165 fun H hH=>⟨Nat.le_of_ble_eq_true rfl,?_⟩
 simp[b165]
 refine qy (σ:=NN) (fun q=>(.nd (.str s) (.nd (.int q.i) .nil .nil) (.nd (.fn (.func f) [] []) .nil .nil))) (fun q=>⟨H.objs,q.n⟩) (fun q=>s.size - q.i)
  (fun q=>H.next<=q.n/\q.i<=s.size/\q.i+jJ p ((sL s).drop q.i)=jJ p (sL s)) ⟨0,H.next⟩ ⟨Nat.le_refl _,Nat.zero_le _,by simp⟩ (by simp[FT.Le,Wk]) ⟨HWk.refl _,fun h=>h⟩ ?_
 rintro⟨i,n⟩ ⟨hn,hi,he⟩ hok
 simp only at hn hi he
 by_cases hlt:i<s.size
 ·obtain⟨c,hc,hd⟩:=qkb hlt
  rw[hd]at he
  simp[hlt,hc]
  refine(hp _).go fun n1 h1=>?_
  cases hl:p (c.toNat:Int)
  ·simp[hlt,hc]
   refine vq hH ?_ (by omega)
   simp[jJ,hl]at he
   simp[he]
  ·simp[qi (show i<2^62 by omega)]
   refine⟨⟨i+1,n1⟩,by dsimp only;omega,⟨by dsimp only;omega,by dsimp only;omega,?_⟩,by simp[FT.Le,Wk],HWk.refl _,fun h=>h⟩
   simp[jJ,hl]at he
   dsimp only
   omega
 ·obtain rfl:i=s.size:=by omega
  simp
  refine vq hH ?_ (by omega)
  rw[List.drop_eq_nil_of_le (by simp[sL])]at he
  simp[jJ]at he
  simp[he]
def qaH(n:Int):Bool:=qas n||qag n
theorem qsc(n:Int):qg 180 [U n] (.bool (qaH n)):=by
 refine qg.of c180 fun H hH=>⟨Nat.le_of_ble_eq_true rfl,?_⟩
 simp[b180]
 refine(qsf _).go fun m hm=>?_
 cases h:qas n
 ·simp
  refine(qsx _).go fun k hk=>?_
  simp
  exact vq hH (by simp[qaH,h]) (Nat.le_trans hm hk)
 ·simp
  exact vq hH (by simp[qaH,h]) hm
def qcN(lo hi:Int):List UInt8->Bool
 |[]=>false
 |c::_=>decide (lo<=(c.toNat:Int))&&decide ((c.toNat:Int)<=hi)
def zN(lo hi:Int)(s:ByteArray):Bool:=decide (1<=s.size)&&(decide (s.size<=24)&&(!eqBA s ⟨⟨[105,102]⟩⟩&&(!eqBA s ⟨⟨[110,111,116]⟩⟩&&(qcN lo hi (sL s)&&decide (jJ qaH (sL s)=s.size)))))
theorem qqd{s:ByteArray}(h:0<s.size):∃c r,s.data[0]'h=c/\sL s=c::r:=by
 obtain⟨c,h1,h2⟩:=qkb h
 exact⟨c,_,h1,by simpa using h2⟩
theorem qib(s:ByteArray)(hs:s.size<2^40)(f:FuncId)(lo hi:Int)(hp:∀n,qg f [U n] (.bool (decide (lo<=n)&&decide (n<=hi)))):
  qg 130 [.str s,.fn (.func f) [] []] (.bool (zN lo hi s)):=by
 refine qg.of c130 fun H hH=>⟨Nat.le_of_ble_eq_true rfl,?_⟩
 by_cases h0:s.size=0
 ·simp[b130,qho,h0]
  exact uD hH (by simp[zN,h0])
 have h0':0<s.size:=by omega
 by_cases h24:s.size<=24
 case neg=>
  have hi24:¬(s.size:Int)<=24:=by omega
  simp[b130,qho,h0,h24,hi24]
  exact uD hH (by simp[zN,h24])
 obtain⟨c,r,hc,hr⟩:=qqd h0'
 have hi24:(s.size:Int)<=24:=by omega
 simp[b130,qho,hi24,h24,hc,h0',h0]
 refine(hp _).go fun n1 h1=>?_
 have hf:qcN lo hi (sL s)=(decide (lo<=(c.toNat:Int))&&decide ((c.toNat:Int)<=hi)):=by rw[hr];rfl
 rw[<-hf]
 cases hfb:qcN lo hi (sL s)
 ·simp
  exact vq hH (by simp[zN,hfb]) h1
 simp
 refine(t_run s hs _ qaH qsc).go fun n2 h2=>?_
 have hn:H.next<=n2:=Nat.le_trans h1 h2
 by_cases hr:jJ qaH (sL s)=s.size
 case neg=>
  have hri:((jJ qaH (sL s):Nat):Int)≠(s.size:Int):=by omega
  simp[hri]
  refine vq hH ?_ hn
  have:decide (jJ qaH (sL s)=s.size)=false:=by simpa using hr
  simp only[zN,this,Bool.and_false]
 cases h5:eqBA s ⟨⟨[105,102]⟩⟩
 ·cases h6:eqBA s ⟨⟨[110,111,116]⟩⟩
  ·simp[hr,h5,h6]
   exact vq hH (by simp[zN,hr,h5,h6,h24,hfb];omega) hn
  ·simp[hr,h5,h6]
   exact vq hH (by simp[zN,h6]) hn
 ·simp[hr,h5]
  exact vq hH (by simp[zN,h5]) hn
theorem qia(s:ByteArray)(hs:s.size<2^40)(lo hi:Int):qg 137 [.str s,U lo,U hi] (.bool (zN lo hi s)):=by
 refine qg.of c137 fun H hH=>⟨Nat.le_of_ble_eq_true rfl,?_⟩
 by_cases h0:s.size=0
 ·simp[qcQ,qho,h0]
  exact uD hH (by simp[zN,h0])
 have h0':0<s.size:=by omega
 have h0i:¬(s.size:Int)<1:=by omega
 by_cases h24:s.size<=24
 case neg=>
  have hi24:(24:Int)<(s.size:Int):=by omega
  simp[qcQ,h0,h0i,h24,hi24]
  exact uD hH (by simp[zN,h24])
 have hi24:¬(24:Int)<(s.size:Int):=by omega
 obtain⟨c,r,hc,hr⟩:=qqd h0'
 cases h5:eqBA s ⟨⟨[105,102]⟩⟩
 case true=>
  simp[qcQ,h0,h0i,hi24,h5]
  exact uD hH (by simp[zN,h5])
 cases h6:eqBA s ⟨⟨[110,111,116]⟩⟩
 case true=>
  simp[qcQ,h0,h0i,hi24,h5,h6]
  exact uD hH (by simp[zN,h6])
 by_cases hlo:lo<=(c.toNat:Int)
 case neg=>
  simp[qcQ,h0,h0i,hi24,h5,h6,h0',hc,hlo]
  exact uD hH (by simp[zN,qcN,hr,hlo])
 by_cases hhi:(c.toNat:Int)<=hi
 case neg=>
  simp[qcQ,h0,h0i,hi24,h5,h6,h0',hc,hlo,hhi]
  exact uD hH (by simp[zN,qcN,hr,hhi])
 simp[qcQ,h0,h0i,hi24,h5,h6,h0',hc,hlo,hhi]
 refine(qrr s hs).go fun n2 h2=>?_
 by_cases hrr:jJ qaH (sL s)=s.size
 case neg=>
  have hri:((jJ (fun c=>qas c||qag c) (sL s):Nat):Int)≠(s.size:Int):=fun h=>hrr (by exact_mod_cast h)
  simp[hri]
  exact vq hH (by simp[zN,hrr,hri]) h2
 have hri:((jJ (fun c=>qas c||qag c) (sL s):Nat):Int)=(s.size:Int):=by exact_mod_cast hrr
 simp[hri]
 exact vq hH (by simp[zN,hrr,h5,h6,h24,qcN,hr,hlo,hhi];rw[<-hr];exact⟨by omega,hrr⟩) h2
def Term.ok(t:Term):Prop:=t.s.size<2^40
def qF(t:Term):Bool:=
 if t.kind=1 then eqBA t.s ⟨⟨[]⟩⟩&&(decide (-1000000000<=t.n)&&decide (t.n<=1000000000))
 else if t.kind=2 then decide (t.n=0)&&zN 97 122 t.s
 else if t.kind=3 then decide (t.n=0)&&zN 65 90 t.s
 else false
theorem qnd(n:Int):qg 131 [U n] (.bool (decide (97<=n)&&decide (n<=122))):=qla n
theorem qtZ(n:Int):qg 170 [U n] (.bool (decide (65<=n)&&decide (n<=90))):=qlD n
theorem qid(t:Term)(ht:t.ok):qg 132 [qW t] (.bool (qF t)):=by
 refine qg.of c132 fun H hH=>⟨Nat.le_of_ble_eq_true rfl,?_⟩
 by_cases h1:t.kind=1
 ·cases h2:eqBA t.s ⟨⟨[]⟩⟩
  ·simp[qcR,h1,h2]
   exact qh hH (by simp[qF,h1,h2])
  ·simp[qcR,h1,h2]
   refine(qeK _ _ _).go fun n hn=>?_
   simp
   exact qh hH (by simp[qF,h1,h2])
 by_cases h2:t.kind=2
 ·by_cases h3:t.n=0
  ·simp[qcR,h2,h3]
   refine(qib t.s ht _ _ _ qnd).go fun n hn=>?_
   simp
   exact qh hH (by simp[qF,h2,h3])
  ·simp[qcR,h2,h3]
   exact qh hH (by simp[qF,h2,h3])
 by_cases h3:t.kind=3
 ·by_cases h4:t.n=0
  ·simp[qcR,h3,h4]
   refine(qib t.s ht _ _ _ qtZ).go fun n hn=>?_
   simp
   exact qh hH (by simp[qF,h3,h4])
  ·simp[qcR,h3,h4]
   exact qh hH (by simp[qF,h3,h4])
 simp[qcR,h1,h2,h3]
 exact qh hH (by simp[qF,h1,h2,h3])
theorem qhX(t:Term)(ht:t.ok):qg 138 [qW t] (.bool (qF t)):=by
 refine qg.of c138 fun H hH=>⟨Nat.le_of_ble_eq_true rfl,?_⟩
 by_cases h1:t.kind=1
 ·by_cases h4:-1000000000<=t.n
  ·by_cases h5:t.n<=1000000000
   ·simp[qcn,h1,h4,h5]
    exact qh hH (by simp[qF,h1,h4,h5])
   ·simp[qcn,h1,h4,h5]
    exact qh hH (by simp[qF,h1,h4,h5])
  ·simp[qcn,h1,h4]
   exact qh hH (by simp[qF,h1,h4])
 by_cases h2:t.kind=2
 ·by_cases h3:t.n=0
  ·simp[qcn,h2,h3]
   refine(qia t.s ht _ _).go fun n hn=>?_
   simp
   exact qh hH (by simp[qF,h2,h3])
  ·simp[qcn,h2,h3]
   exact qh hH (by simp[qF,h2,h3])
 by_cases h3:t.kind=3
 ·by_cases h4:t.n=0
  ·simp[qcn,h3,h4]
   refine(qia t.s ht _ _).go fun n hn=>?_
   simp
   exact qh hH (by simp[qF,h3,h4])
  ·simp[qcn,h3,h4]
   exact qh hH (by simp[qF,h3,h4])
 simp[qcn,h1,h2,h3]
 exact qh hH (by simp[qF,h1,h2,h3])
def Atom.ok(a:Atom):Prop:=a.pred.size<2^40/\a.args.length<2^40/\∀t∈a.args,Term.ok t
def qM(a:Atom):Bool:=zN 97 122 a.pred&&(decide (a.args.length<=3)&&a.args.all qF)
theorem qeO(a:Atom)(ha:a.ok):qg 65 [qd a] (.bool (qM a)):=by
 refine qg.of c65 fun H hH=>⟨Nat.le_of_ble_eq_true rfl,?_⟩
 simp[b65]
 refine(qib a.pred ha.1 _ _ _ qnd).go fun n hn=>?_
 cases h1:zN 97 122 a.pred
 ·simp
  exact qh hH (by simp[qM,h1])
 by_cases h2:(3:Int)<(a.args.length:Int)
 ·simp[h2]
  exact qh hH (by simp[qM,h1,show ¬a.args.length<=3 by omega])
 have h3:a.args.length<=3:=by omega
 simp[h2]
 obtain⟨A,hA⟩:∃A,a.args.all qF=A:=⟨_,rfl⟩
 refine qy (σ:=NN) (fun q=>(.nd (qd a) (.nd .bot .nil (.nd .bot (.nd .bot (.nd (.int a.args.length) .nil .nil) .nil) .nil)) (.nd (.bool false) (.nd .bot (.nd .bot (.nd (qk a.args) .nil .nil) .nil) .nil) (.nd .bot (.nd .bot (.nd (.int q.i) .nil .nil) .nil) .nil)))) (fun q=>⟨H.objs,q.n⟩) (fun q=>a.args.length - q.i)
  (fun q=>H.next<=q.n/\q.i<=a.args.length/\(a.args.drop q.i).all qF=A) ⟨0,n⟩ ⟨by dsimp only;omega,Nat.zero_le _,hA⟩ (by simp[FT.Le,Wk]) (uf hH) ?_
 rintro⟨i,n⟩ ⟨hn,hi,he⟩ hok
 simp only at hn hi he
 by_cases hlt:i<a.args.length
 ·rw[qaC qF hlt]at he
  simp[hlt]
  refine(qid a.args[i] (ha.2.2 _ (ub hlt))).go fun n1 h1'=>?_
  cases ht:qF a.args[i]
  ·rw[ht,Bool.false_and]at he
   simp
   exact qh hH (by simp[qM,h1,hA,<-he])
  ·rw[ht,Bool.true_and]at he
   simp[qi (show i<2^62 by omega)]
   exact⟨⟨i+1,n1⟩,by dsimp only;omega,⟨by dsimp only;omega,by dsimp only;omega,he⟩,by simp[FT.Le,Wk],uf hH⟩
 ·obtain rfl:i=a.args.length:=by omega
  rw[List.drop_eq_nil_of_le (Nat.le_refl _),List.all_nil]at he
  simp
  exact qh hH (by simp[qM,h1,h3,hA,<-he])
theorem qeN(a:Atom)(ha:a.ok):qg 73 [qd a] (.bool (qM a)):=by
 refine qg.of c73 fun H hH=>⟨Nat.le_of_ble_eq_true rfl,?_⟩
 simp[b73]
 refine(qia a.pred ha.1 _ _).go fun n hn=>?_
 cases h1:zN 97 122 a.pred
 ·simp
  exact qh hH (by simp[qM,h1])
 by_cases h2:(3:Int)<(a.args.length:Int)
 ·simp[h2]
  exact qh hH (by simp[qM,h1,show ¬a.args.length<=3 by omega])
 have h3:a.args.length<=3:=by omega
 simp[h2]
 obtain⟨A,hA⟩:∃A,a.args.all qF=A:=⟨_,rfl⟩
 obtain⟨H1,hd1⟩:∃H1:qa,H1=⟨(H.next,.cells [.str a.pred,qk a.args])::H.objs,H.next+1⟩:=⟨_,rfl⟩
 have hH1:H1.Ok:=by rw[hd1];exact⟨Nat.lt_succ_self _,hH⟩
 refine qy (σ:=NN) (fun q=>(.nd (qd a) (.nd (.ptr H.next 0) .nil .nil) (.nd (.bool false) (.nd (.int q.i) .nil .nil) .nil))) (fun q=>⟨(H.next,.cells [.str a.pred,qk a.args])::H.objs,q.n⟩) (fun q=>a.args.length - q.i)
  (fun q=>H.next+1<=q.n/\q.i<=a.args.length/\(a.args.drop q.i).all qF=A) ⟨0,n⟩ ⟨by dsimp only;omega,Nat.zero_le _,hA⟩ (by simp[FT.Le,Wk]) ⟨HWk.refl _,fun h=>h⟩ ?_
 rintro⟨i,n⟩ ⟨hn,hi,he⟩ hok
 simp only at hn hi he
 by_cases hlt:i<a.args.length
 ·rw[qaC qF hlt]at he
  simp[hlt]
  refine(qhX a.args[i] (ha.2.2 _ (ub hlt))).go fun n1 h1'=>?_
  cases ht:qF a.args[i]
  ·rw[ht,Bool.false_and]at he
   simp
   exact qh hH (by simp[qM,h1,hA,<-he])
  ·rw[ht,Bool.true_and]at he
   simp[qi (show i<2^62 by omega)]
   exact⟨⟨i+1,n1⟩,by dsimp only;omega,⟨by dsimp only;omega,by dsimp only;omega,he⟩,by simp[FT.Le,Wk],HWk.refl _,fun h=>h⟩
 ·obtain rfl:i=a.args.length:=by omega
  rw[List.drop_eq_nil_of_le (Nat.le_refl _),List.all_nil]at he
  simp
  exact qh hH (by simp[qM,h1,h3,hA,<-he])
def ua(t:Term):Bool:=!decide (t.kind=3)
theorem qhW(a:Atom)(ha:a.ok):qg 74 [qd a] (.bool (a.args.all ua)):=by
 refine qg.of c74 fun H hH=>⟨Nat.le_of_ble_eq_true rfl,?_⟩
 simp[b74]
 have hl:=ha.2.1
 obtain⟨A,hA⟩:∃A,a.args.all ua=A:=⟨_,rfl⟩
 rw[hA]
 refine qy (σ:=NN) (fun q=>(.nd (qd a) (.nd (.ptr H.next 0) (.nd (.int q.i) .nil .nil) .nil) (.nd (.bool false) .nil .nil))) (fun q=>⟨(H.next,.cells [.str a.pred,qk a.args])::H.objs,q.n⟩) (fun q=>a.args.length - q.i)
  (fun q=>H.next+1<=q.n/\q.i<=a.args.length/\(a.args.drop q.i).all ua=A) ⟨0,H.next+1⟩ ⟨by dsimp only;omega,Nat.zero_le _,hA⟩ (by simp[FT.Le,Wk]) ⟨HWk.refl _,fun h=>h⟩ ?_
 rintro⟨i,n⟩ ⟨hn,hi,he⟩ hok
 simp only at hn hi he
 by_cases hlt:i<a.args.length
 ·rw[qaC ua hlt]at he
  by_cases hk:a.args[i].kind=3
  ·have ht:ua a.args[i]=false:=by simp[ua,hk]
   rw[ht,Bool.false_and]at he
   simp[hlt,hk]
   exact qh hH (by simp[<-he])
  ·have ht:ua a.args[i]=true:=by simp[ua,hk]
   rw[ht,Bool.true_and]at he
   simp[hlt,hk,qi (show i<2^62 by omega)]
   exact⟨⟨i+1,n⟩,by dsimp only;omega,⟨by dsimp only;omega,by dsimp only;omega,he⟩,by simp[FT.Le,Wk],HWk.refl _,fun h=>h⟩
 ·obtain rfl:i=a.args.length:=by omega
  rw[List.drop_eq_nil_of_le (Nat.le_refl _),List.all_nil]at he
  simp
  exact qh hH (by simp[<-he])
def Term.small(t:Term):Bool:=decide (t.s.size<=40)
def Atom.small(a:Atom):Bool:=decide (a.pred.size<=40)&&(decide (a.args.length<=6)&&a.args.all Term.small)
theorem qgi(a:Atom):qg 16 [qd a] (.bool a.small):=by
 refine qg.of c16 fun H hH=>⟨Nat.le_of_ble_eq_true rfl,?_⟩
 by_cases h1:(40:Int)<(a.pred.size:Int)
 ·simp[b16,h1]
  exact qh hH (by simp[Atom.small,show ¬a.pred.size<=40 by omega])
 have h1':a.pred.size<=40:=by omega
 by_cases h2:(6:Int)<(a.args.length:Int)
 ·simp[b16,h1,h2]
  exact qh hH (by simp[Atom.small,show ¬a.args.length<=6 by omega])
 have h2':a.args.length<=6:=by omega
 simp[b16,h1,h2]
 obtain⟨A,hA⟩:∃A,a.args.all Term.small=A:=⟨_,rfl⟩
 refine qy (σ:=NN) (fun q=>(.nd (qd a) (.nd (.ptr H.next 0) (.nd (.int q.i) .nil .nil) .nil) (.nd (.bool false) .nil .nil))) (fun q=>⟨(H.next,.cells [.str a.pred,qk a.args])::H.objs,q.n⟩) (fun q=>a.args.length - q.i)
  (fun q=>H.next+1<=q.n/\q.i<=a.args.length/\(a.args.drop q.i).all Term.small=A) ⟨0,H.next+1⟩ ⟨by dsimp only;omega,Nat.zero_le _,hA⟩ (by simp[FT.Le,Wk]) ⟨HWk.refl _,fun h=>h⟩ ?_
 rintro⟨i,n⟩ ⟨hn,hi,he⟩ hok
 simp only at hn hi he
 by_cases hlt:i<a.args.length
 ·rw[qaC Term.small hlt]at he
  by_cases hk:(40:Int)<(a.args[i].s.size:Int)
  ·have ht:Term.small a.args[i]=false:=by simp[Term.small];omega
   rw[ht,Bool.false_and]at he
   simp[hlt,hk]
   exact qh hH (by simp[Atom.small,hA,<-he])
  ·have ht:Term.small a.args[i]=true:=by simp[Term.small];omega
   rw[ht,Bool.true_and]at he
   simp[hlt,hk,qi (show i<2^62 by omega)]
   exact⟨⟨i+1,n⟩,by dsimp only;omega,⟨by dsimp only;omega,by dsimp only;omega,he⟩,by simp[FT.Le,Wk],HWk.refl _,fun h=>h⟩
 ·obtain rfl:i=a.args.length:=by omega
  rw[List.drop_eq_nil_of_le (Nat.le_refl _),List.all_nil]at he
  simp
  exact qh hH (by simp[Atom.small,h1',h2',hA,<-he])
theorem Atom.small_ok{a:Atom}(h:a.small=true):a.ok:=by
 simp[Atom.small,Term.small]at h
 exact⟨by omega,by omega,fun t ht=>by have:=h.2.2 t ht;unfold Term.ok;omega⟩
def or3(a b c:Int):Int:=if a≠0 then a else if b≠0 then b else c
theorem t_or(a b c:Int):qg 103 [.sl [.int a,.int b,.int c] .full] (.int (or3 a b c)):=by
 refine qg.of c103 fun H hH=>⟨Nat.le_of_ble_eq_true rfl,?_⟩
 simp[b103]
 refine qaQ ?_
 by_cases ha:a=0
 case neg=>
  simp[ha]
  exact qh hH (by simp[or3,ha])
 simp[ha,ui]
 refine qaQ ?_
 by_cases hb:b=0
 case neg=>
  simp[hb]
  exact qh hH (by simp[or3,ha,hb])
 simp[hb,ui]
 refine qaQ ?_
 by_cases hc:c=0
 case neg=>
  simp[hc]
  exact qh hH (by simp[or3,ha,hb,hc])
 simp[hc,ui]
 refine qaQ ?_
 simp
 exact qh hH (by simp[or3,ha,hb,hc])
def cmpT(x y:Term):Int:=or3 (cmpI x.kind y.kind) (cmpI x.n y.n) (cmpB x.s y.s)
theorem qsE(x y:Term):qg 157 [qW x,qW y] (.int (cmpT x y)):=by
 refine qg.of c157 fun H hH=>⟨Nat.le_of_ble_eq_true rfl,?_⟩
 simp(disch:=omega)[b157]
 refine(qif _ _).go fun n hn=>?_
 simp(disch:=omega)
 refine(qif _ _).go fun n1 hn1=>?_
 simp(disch:=omega)
 refine(qlA _ _).go fun n2 hn2=>?_
 simp(disch:=omega)
 refine(t_or _ _ _).go fun n3 hn3=>?_
 simp(disch:=omega)
 exact qh hH (by simp[cmpT])
def cmpTs:List Term->List Term->Int
 |[],[]=>0
 |[],_::_=>-1
 |_::_,[]=>1
 |x::xs,y::ys=>if cmpT x y≠0 then cmpT x y else cmpTs xs ys
theorem qsD(x y:List Term)(hx:x.length<2^40)(hy:y.length<2^40):qg 156 [qk x,qk y,.fn (.func 157) [] []] (.int (cmpTs x y)):=by
 refine qg.of c156 fun H hH=>⟨Nat.le_of_ble_eq_true rfl,?_⟩
 simp(disch:=omega)[b156]
 obtain⟨A,hA⟩:∃A,cmpTs x y=A:=⟨_,rfl⟩
 rw[hA]
 refine qy (σ:=NN) (fun q=>(.nd (qk x) (.nd (qk y) (.nd .bot .nil (.nd (qk x) .nil .nil)) (.nd .bot .nil (.nd (.int q.i) .nil .nil))) (.nd (.fn (.func 157) [] []) (.nd .bot .nil (.nd (.int x.length) .nil .nil)) .nil))) (fun q=>⟨H.objs,q.n⟩) (fun q=>x.length - q.i)
  (fun q=>H.next<=q.n/\q.i<=x.length/\q.i<=y.length/\cmpTs (x.drop q.i) (y.drop q.i)=A) ⟨0,H.next⟩ ⟨Nat.le_refl _,Nat.zero_le _,Nat.zero_le _,hA⟩ (by simp[FT.Le,Wk]) (uf hH) ?_
 rintro⟨i,n⟩ ⟨hn,hi,hj,he⟩ hok
 simp only at hn hi hj he
 by_cases hlt:i<x.length
 ·by_cases hly:i<y.length
  ·rw[List.drop_eq_getElem_cons hlt,List.drop_eq_getElem_cons hly]at he
   have hly':¬(y.length:Int)<=(i:Int):=by omega
   simp(disch:=omega)[hlt,hly,hly']
   refine(qsE _ _).go fun n1 h1=>?_
   by_cases hc:cmpT x[i] y[i]=0
   ·simp[cmpTs,hc]at he
    simp(disch:=omega)[hc,qi (show i<2^62 by omega)]
    exact⟨⟨i+1,n1⟩,by dsimp only;omega,⟨by dsimp only;omega,by dsimp only;omega,by dsimp only;omega,he⟩,by simp[FT.Le,Wk],uf hH⟩
   ·simp[cmpTs,hc]at he
    simp(disch:=omega)[hc]
    exact qh hH (by simp[<-he])
  ·have hly':(y.length:Int)<=(i:Int):=by omega
   obtain rfl:i=y.length:=by omega
   rw[List.drop_eq_getElem_cons hlt,List.drop_eq_nil_of_le (Nat.le_refl _)]at he
   simp(disch:=omega)[hlt,hly']
   simp[cmpTs]at he
   exact qh hH (by simp[<-he])
 ·obtain rfl:i=x.length:=by omega
  rw[List.drop_eq_nil_of_le (Nat.le_refl _)]at he
  by_cases hly:x.length<y.length
  ·rw[List.drop_eq_getElem_cons hly]at he
   simp(disch:=omega)[hly]
   simp[cmpTs]at he
   exact qh hH (by simp[<-he])
  ·rw[List.drop_eq_nil_of_le (by omega)]at he
   simp(disch:=omega)[hly]
   simp[cmpTs]at he
   exact qh hH (by simp[<-he])
def cmpA(a b:Atom):Int:=or3 (cmpB a.pred b.pred) (cmpI a.args.length b.args.length) (cmpTs a.args b.args)
theorem qta(a b:Atom)(ha:a.ok)(hb:b.ok):qg 96 [qd a,qd b] (.int (cmpA a b)):=by
 refine qg.of c96 fun H hH=>⟨Nat.le_of_ble_eq_true rfl,?_⟩
 simp(disch:=omega)[b96]
 refine(qlA _ _).go fun n hn=>?_
 simp(disch:=omega)
 refine(qif _ _).go fun n1 hn1=>?_
 simp(disch:=omega)
 refine(qsD _ _ ha.2.1 hb.2.1).go fun n2 hn2=>?_
 simp(disch:=omega)
 refine(t_or _ _ _).go fun n3 hn3=>?_
 simp(disch:=omega)
 exact qh hH (by simp[cmpA])
structure NNC where
 i:Nat
 n:Nat
 c:Int
theorem qhZ(a b:Atom)(ha:a.ok)(hb:b.ok):qg 59 [qd a,qd b] (.int (cmpA a b)):=by
 have hla:=ha.2.1
 have hlb:=hb.2.1
 refine qg.of c59 fun H hH=>⟨Nat.le_of_ble_eq_true rfl,?_⟩
 have hH2:qa.Ok ⟨(H.next+1,.cells [.str b.pred,qk b.args])::(H.next,.cells [.str a.pred,qk a.args])::H.objs,H.next+2⟩:=⟨Nat.lt_succ_self _,Nat.lt_succ_self _,hH⟩
 simp(disch:=omega)[b59]
 refine(qhU _ _).go fun n hn=>?_
 by_cases h1:cmpB a.pred b.pred=0
 ·simp(disch:=omega)[h1]
  refine(qeL _ _).go fun n1 hn1=>?_
  simp(disch:=omega)
  have hR:cmpA a b=if cmpI a.args.length b.args.length≠0 then cmpI a.args.length b.args.length else cmpTs a.args b.args:=by simp[cmpA,or3,h1]
  refine qy (σ:=NNC) (fun q=>(.nd .bot (.nd .bot (.nd (.ptr (H.next+1) 0) .nil .nil) (.nd (.int q.c) .nil .nil)) (.nd (.ptr H.next 0) .nil (.nd (.int q.i) .nil .nil)))) (fun q=>⟨(H.next+1,.cells [.str b.pred,qk b.args])::(H.next,.cells [.str a.pred,qk a.args])::H.objs,q.n⟩) (fun q=>a.args.length - q.i)
   (fun q=>H.next+2<=q.n/\q.i<=a.args.length/\((q.c≠0/\q.c=cmpA a b)\/(q.c=0/\a.args.length=b.args.length/\cmpTs (a.args.drop q.i) (b.args.drop q.i)=cmpA a b))) ⟨0,n1,cmpI a.args.length b.args.length⟩ ⟨by dsimp only;omega,Nat.zero_le _,?_⟩ (by simp[FT.Le,Wk]) ⟨HWk.refl _,fun h=>h⟩ ?_
  ·dsimp only
   by_cases h2:cmpI a.args.length b.args.length=0
   ·rw[h2]at hR
    refine .inr ⟨h2,?_,by rw[hR];simp⟩
    unfold cmpI at h2
    split at h2
    ·cases h2
    ·split at h2
     ·cases h2
     ·omega
   ·exact .inl ⟨h2,by rw[hR,if_pos h2]⟩
  rintro⟨i,n,c⟩ ⟨hn,hi,hI⟩ hok
  simp only at hn hi hI
  rcases hI with⟨hc,hI⟩|⟨rfl,hlen,hI⟩
  ·by_cases hlt:i<a.args.length
   ·simp(disch:=omega)[hlt,hc]
    exact qh hH (by simp[hI])
   ·simp(disch:=omega)[hlt]
    exact qh hH (by simp[hI])
  by_cases hlt:i<a.args.length
  case neg=>
   simp(disch:=omega)[hlt]
   rw[List.drop_eq_nil_of_le (by omega),List.drop_eq_nil_of_le (by omega)]at hI
   exact qh hH (by simp[<-hI,cmpTs])
  have hly:i<b.args.length:=by omega
  rw[List.drop_eq_getElem_cons hlt,List.drop_eq_getElem_cons hly]at hI
  have hR:cmpA a b=if cmpT a.args[i] b.args[i]≠0 then cmpT a.args[i] b.args[i] else cmpTs (a.args.drop (i+1)) (b.args.drop (i+1)):=hI.symm
  simp(disch:=omega)[hlt,hly]
  refine(qeL _ _).go fun n1 hn1=>?_
  by_cases hk:cmpI a.args[i].kind b.args[i].kind=0
  case neg=>
   simp(disch:=omega)[hk,qi (show i<2^62 by omega)]
   have hT:cmpT a.args[i] b.args[i]=cmpI a.args[i].kind b.args[i].kind:=by simp[cmpT,or3,hk]
   rw[hT,if_pos hk]at hR
   exact⟨⟨i+1,n1,cmpI a.args[i].kind b.args[i].kind⟩,by dsimp only;omega,⟨by dsimp only;omega,by dsimp only;omega,.inl ⟨hk,hR.symm⟩⟩,by simp[FT.Le,Wk],uf hH2⟩
  simp(disch:=omega)[hk]
  refine(qeL _ _).go fun n2 hn2=>?_
  by_cases hk2:cmpI a.args[i].n b.args[i].n=0
  case neg=>
   simp(disch:=omega)[hk2,qi (show i<2^62 by omega)]
   have hT:cmpT a.args[i] b.args[i]=cmpI a.args[i].n b.args[i].n:=by simp[cmpT,or3,hk,hk2]
   rw[hT,if_pos hk2]at hR
   exact⟨⟨i+1,n2,cmpI a.args[i].n b.args[i].n⟩,by dsimp only;omega,⟨by dsimp only;omega,by dsimp only;omega,.inl ⟨hk2,hR.symm⟩⟩,by simp[FT.Le,Wk],uf hH2⟩
  simp(disch:=omega)[hk2]
  refine(qhU _ _).go fun n3 hn3=>?_
  simp(disch:=omega)[qi (show i<2^62 by omega)]
  have hT:cmpT a.args[i] b.args[i]=cmpB a.args[i].s b.args[i].s:=by simp[cmpT,or3,hk,hk2]
  rw[hT]at hR
  by_cases hk3:cmpB a.args[i].s b.args[i].s=0
  ·exact⟨⟨i+1,n3,cmpB a.args[i].s b.args[i].s⟩,by dsimp only;omega,⟨by dsimp only;omega,by dsimp only;omega,.inr ⟨hk3,hlen,by rw[hR,hk3];simp⟩⟩,by simp[FT.Le,Wk],uf hH2⟩
  ·rw[if_pos hk3]at hR
   exact⟨⟨i+1,n3,cmpB a.args[i].s b.args[i].s⟩,by dsimp only;omega,⟨by dsimp only;omega,by dsimp only;omega,.inl ⟨hk3,hR.symm⟩⟩,by simp[FT.Le,Wk],uf hH2⟩
 ·simp(disch:=omega)[h1]
  have hR:cmpA a b=cmpB a.pred b.pred:=by simp[cmpA,or3,h1]
  refine qy (σ:=NNC) (fun q=>(.nd .bot (.nd .bot (.nd (.ptr (H.next+1) 0) .nil .nil) (.nd (.int q.c) .nil .nil)) (.nd (.ptr H.next 0) .nil (.nd (.int q.i) .nil .nil)))) (fun q=>⟨(H.next+1,.cells [.str b.pred,qk b.args])::(H.next,.cells [.str a.pred,qk a.args])::H.objs,q.n⟩) (fun q=>a.args.length - q.i)
   (fun q=>H.next+2<=q.n/\q.i<=a.args.length/\((q.c≠0/\q.c=cmpA a b)\/(q.c=0/\a.args.length=b.args.length/\cmpTs (a.args.drop q.i) (b.args.drop q.i)=cmpA a b))) ⟨0,n,cmpB a.pred b.pred⟩ ⟨by dsimp only;omega,Nat.zero_le _,.inl ⟨h1,hR.symm⟩⟩ (by simp[FT.Le,Wk]) ⟨HWk.refl _,fun h=>h⟩ ?_
  rintro⟨i,n,c⟩ ⟨hn,hi,hI⟩ hok
  simp only at hn hi hI
  rcases hI with⟨hc,hI⟩|⟨rfl,hlen,hI⟩
  ·by_cases hlt:i<a.args.length
   ·simp(disch:=omega)[hlt,hc]
    exact qh hH (by simp[hI])
   ·simp(disch:=omega)[hlt]
    exact qh hH (by simp[hI])
  by_cases hlt:i<a.args.length
  case neg=>
   simp(disch:=omega)[hlt]
   rw[List.drop_eq_nil_of_le (by omega),List.drop_eq_nil_of_le (by omega)]at hI
   exact qh hH (by simp[<-hI,cmpTs])
  have hly:i<b.args.length:=by omega
  rw[List.drop_eq_getElem_cons hlt,List.drop_eq_getElem_cons hly]at hI
  have hR:cmpA a b=if cmpT a.args[i] b.args[i]≠0 then cmpT a.args[i] b.args[i] else cmpTs (a.args.drop (i+1)) (b.args.drop (i+1)):=hI.symm
  simp(disch:=omega)[hlt,hly]
  refine(qeL _ _).go fun n1 hn1=>?_
  by_cases hk:cmpI a.args[i].kind b.args[i].kind=0
  case neg=>
   simp(disch:=omega)[hk,qi (show i<2^62 by omega)]
   have hT:cmpT a.args[i] b.args[i]=cmpI a.args[i].kind b.args[i].kind:=by simp[cmpT,or3,hk]
   rw[hT,if_pos hk]at hR
   exact⟨⟨i+1,n1,cmpI a.args[i].kind b.args[i].kind⟩,by dsimp only;omega,⟨by dsimp only;omega,by dsimp only;omega,.inl ⟨hk,hR.symm⟩⟩,by simp[FT.Le,Wk],uf hH2⟩
  simp(disch:=omega)[hk]
  refine(qeL _ _).go fun n2 hn2=>?_
  by_cases hk2:cmpI a.args[i].n b.args[i].n=0
  case neg=>
   simp(disch:=omega)[hk2,qi (show i<2^62 by omega)]
   have hT:cmpT a.args[i] b.args[i]=cmpI a.args[i].n b.args[i].n:=by simp[cmpT,or3,hk,hk2]
   rw[hT,if_pos hk2]at hR
   exact⟨⟨i+1,n2,cmpI a.args[i].n b.args[i].n⟩,by dsimp only;omega,⟨by dsimp only;omega,by dsimp only;omega,.inl ⟨hk2,hR.symm⟩⟩,by simp[FT.Le,Wk],uf hH2⟩
  simp(disch:=omega)[hk2]
  refine(qhU _ _).go fun n3 hn3=>?_
  simp(disch:=omega)[qi (show i<2^62 by omega)]
  have hT:cmpT a.args[i] b.args[i]=cmpB a.args[i].s b.args[i].s:=by simp[cmpT,or3,hk,hk2]
  rw[hT]at hR
  by_cases hk3:cmpB a.args[i].s b.args[i].s=0
  ·exact⟨⟨i+1,n3,cmpB a.args[i].s b.args[i].s⟩,by dsimp only;omega,⟨by dsimp only;omega,by dsimp only;omega,.inr ⟨hk3,hlen,by rw[hR,hk3];simp⟩⟩,by simp[FT.Le,Wk],uf hH2⟩
  ·rw[if_pos hk3]at hR
   exact⟨⟨i+1,n3,cmpB a.args[i].s b.args[i].s⟩,by dsimp only;omega,⟨by dsimp only;omega,by dsimp only;omega,.inl ⟨hk3,hR.symm⟩⟩,by simp[FT.Le,Wk],uf hH2⟩
def qcj(p:Term->Bool):List Term->Nat->Int
 |[],_=>-1
 |t::r,i=>if p t then (i:Int) else qcj p r (i+1)
theorem qof(p:Term->Bool):∀(l:List Term)(i:Nat),decide (0<=qcj p l i)=l.any p
 |[],i=>rfl
 |t::r,i=>by
  simp only[qcj,List.any_cons]
  by_cases h:p t=true
  ·simp[h]
  ·simp only[h,if_false,Bool.false_eq_true]
   rw[qof p r (i+1)];simp
theorem qso(l:List Term)(hl:l.length<2^40)(f:FuncId)(p:Term->Bool)(hp:∀t,qg f [qW t] (.bool (p t))):
  qg 182 [qk l,.fn (.func f) [] []] (.int (qcj p l 0)):=by
 refine qg.of c182 fun H hH=>⟨Nat.le_of_ble_eq_true rfl,?_⟩
 simp(disch:=omega)[b182]
 obtain⟨A,hA⟩:∃A,qcj p l 0=A:=⟨_,rfl⟩
 rw[hA]
 refine qy (σ:=NN) (fun q=>(.nd (qk l) (.nd (.fn (.func f) [] []) (.nd .bot (.nd (.int l.length) .nil .nil) .nil) .nil) (.nd .bot (.nd .bot (.nd (.int q.i) .nil .nil) .nil) (.nd (qk l) .nil .nil)))) (fun q=>⟨H.objs,q.n⟩) (fun q=>l.length - q.i)
  (fun q=>H.next<=q.n/\q.i<=l.length/\qcj p (l.drop q.i) q.i=A) ⟨0,H.next⟩ ⟨Nat.le_refl _,Nat.zero_le _,hA⟩ (by simp[FT.Le,Wk]) (uf hH) ?_
 rintro⟨i,n⟩ ⟨hn,hi,he⟩ hok
 simp only at hn hi he
 by_cases hlt:i<l.length
 ·rw[List.drop_eq_getElem_cons hlt]at he
  simp(disch:=omega)[hlt]
  refine(hp _).go fun n1 h1=>?_
  cases ht:p l[i]
  ·simp[qcj,ht]at he
   simp(disch:=omega)[qi (show i<2^62 by omega)]
   exact⟨⟨i+1,n1⟩,by dsimp only;omega,⟨by dsimp only;omega,by dsimp only;omega,he⟩,by simp[FT.Le,Wk],uf hH⟩
  ·simp[qcj,ht]at he
   simp(disch:=omega)
   exact qh hH (by simp[<-he])
 ·obtain rfl:i=l.length:=by omega
  rw[List.drop_eq_nil_of_le (Nat.le_refl _)]at he
  simp(disch:=omega)
  simp[qcj]at he
  exact qh hH (by simp[<-he])
theorem qsz(l:List Term)(hl:l.length<2^40)(f:FuncId)(p:Term->Bool)(hp:∀t,qg f [qW t] (.bool (p t))):
  qg 134 [qk l,.fn (.func f) [] []] (.bool (l.any p)):=by
 refine qg.of c134 fun H hH=>⟨Nat.le_of_ble_eq_true rfl,?_⟩
 simp(disch:=omega)[b134]
 refine(qso l hl f p hp).go fun n hn=>?_
 simp(disch:=omega)
 exact qcE hH (by rw[qof]) (by first|exact ql.refl' _|(repeat (first|exact ql.refl (by first|omega|(dsimp only;omega))|refine ql.cons' hH (by first|omega|(dsimp only;omega)) (by first|omega|(dsimp only;omega)) ?_)))
theorem qsr(t:Term):qg 135 [qW t] (.bool (decide (t.kind=3))):=by
 refine qg.of c135 fun H hH=>⟨Nat.le_of_ble_eq_true rfl,?_⟩
 simp(disch:=omega)[b135]
 exact qh hH (by simp[])
theorem qic(a:Atom)(ha:a.ok):qg 68 [qd a] (.bool (a.args.all ua)):=by
 refine qg.of c68 fun H hH=>⟨Nat.le_of_ble_eq_true rfl,?_⟩
 simp(disch:=omega)[b68]
 refine(qsz a.args ha.2.1 _ _ qsr).go fun n hn=>?_
 simp(disch:=omega)
 refine qcE hH ?_ (by first|exact ql.refl' _|(repeat (first|exact ql.refl (by first|omega|(dsimp only;omega))|refine ql.cons' hH (by first|omega|(dsimp only;omega)) (by first|omega|(dsimp only;omega)) ?_)))
 congr 2
 rw[List.not_any_eq_all_not];rfl
theorem qcx(a:Atom):qg 100 [qd a] (.agg [.str a.pred,.int a.args.length]):=by
 refine qg.of c100 fun H hH=>⟨Nat.le_of_ble_eq_true rfl,?_⟩
 simp(disch:=omega)[b100]
 exact qh hH (by simp[])
abbrev qq:=List (ByteArray×Term)
def qS(k:ByteArray):qq->Option Term
 |[]=>none
 |(j,t)::r=>if eqBA k j then some t else qS k r
def uE(g:qq)(t:Term):Term:=if t.kind=3 then (qS t.s g).getD t else t
abbrev wt(e:ByteArray×Term):LV:=.agg [.str e.1,.int e.2.kind,.int e.2.n,.str e.2.s]
theorem qlr(g:qq)(own:Own)(hg:g.length<2^40)(t:Term):qg 213 [.sl (g.map wt) own,qW t] (qW (uE g t)):=by
 refine qg.of c213 fun H hH=>⟨Nat.le_of_ble_eq_true rfl,?_⟩
 simp(disch:=omega)[b213]
 obtain⟨A,hA⟩:∃A,uE g t=A:=⟨_,rfl⟩
 rw[hA]
 refine qy (σ:=NN) (fun q=>(.nd (.sl (g.map wt) own) (.nd .bot (.nd (.ptr H.next 0) .nil .nil) (.nd (.int q.i) .nil .nil)) (.nd .bot (.nd (.ptr (H.next+1) 0) .nil .nil) .nil))) (fun q=>⟨(H.next+1,.cells [Z 0,Z 0,S []])::(H.next,.cells (zR t))::H.objs,q.n⟩) (fun q=>g.length - q.i)
  (fun q=>H.next+2<=q.n/\q.i<=g.length/\uE (g.drop q.i) t=A) ⟨0,H.next+2⟩ ⟨Nat.le_refl _,Nat.zero_le _,hA⟩ (by simp[FT.Le,Wk]) ⟨HWk.refl _,fun h=>h⟩ ?_
 rintro⟨i,n⟩ ⟨hn,hi,he⟩ hok
 simp only at hn hi he
 by_cases hlt:i<g.length
 ·rw[List.drop_eq_getElem_cons hlt]at he
  by_cases hk:t.kind=3
  ·cases hs:eqBA g[i].1 t.s
   ·have hs':eqBA t.s g[i].1=false:=by rw[<-hs];exact Bool.beq_comm
    simp(disch:=omega)[hlt,hk,hs,qi (show i<2^62 by omega)]
    refine⟨⟨i+1,n⟩,by dsimp only;omega,⟨by dsimp only;omega,by dsimp only;omega,?_⟩,by simp[FT.Le,Wk],HWk.refl _,fun h=>h⟩
    simpa [uE,hk,qS,hs'] using he
   ·have hs':eqBA t.s g[i].1=true:=by rw[<-hs];exact Bool.beq_comm
    simp[uE,hk,qS,hs']at he
    simp(disch:=omega)[hlt,hk,hs]
    exact qh hH (by simp[<-he])
  ·simp(disch:=omega)[hlt,hk,qi (show i<2^62 by omega)]
   refine⟨⟨i+1,n⟩,by dsimp only;omega,⟨by dsimp only;omega,by dsimp only;omega,?_⟩,by simp[FT.Le,Wk],HWk.refl _,fun h=>h⟩
   simpa [uE,hk] using he
 ·obtain rfl:i=g.length:=by omega
  rw[List.drop_eq_nil_of_le (Nat.le_refl _)]at he
  have he':t=A:=by rw[<-he];simp[uE,qS]
  simp(disch:=omega)
  exact qh hH (by simp[he'])
def eqT(x y:Term):Bool:=decide (x.kind=y.kind)&&(decide (x.n=y.n)&&eqBA x.s y.s)
abbrev qJ(E:qq):List (LV×LV):=E.map fun e=>(.str e.1,qW e.2)
def qbd(k:ByteArray)(v:Term):qq->qq
 |[]=>[(k,v)]
 |(j,u)::r=>if eqBA k j then (j,v)::r else (j,u)::qbd k v r
theorem qoT(k:ByteArray):∀E:qq,vM (.pl 1) (.str k) (qJ E)=some ((qS k E).map qW)
 |[]=>rfl
 |(j,t)::r=>by
  have ih:=qoT k r
  simp only[qJ,List.map_cons,vM,eqK,zo,qS]
  cases h:eqBA k j
  ·simpa using ih
  ·simp
theorem qmc(k:ByteArray)(v:Term):∀E:qq,wg (.pl 1) (.str k) (qW v) (qJ E)=some (qJ (qbd k v E))
 |[]=>rfl
 |(j,t)::r=>by
  have ih:=qmc k v r
  simp only[qJ,List.map_cons,wg,eqK,zo,qbd]
  cases h:eqBA k j
  ·simp only[qJ]at ih
   simp[ih]
  ·simp
theorem qbp(a:ByteArray):eqBA a a=true:=by simp[eqBA]
theorem qvh{H:qa}{o:Nat}{E:qq}(h:look o H.objs=some (.map (qJ E)))(k:ByteArray)(z:LV):lkL H (.pl 1) true z (.map o) (.str k)=some (match qS k E with|some t=>.tup [qW t,.bool true]|none=>.tup [z,.bool false]):=by
 unfold lkL
 simp only[eqK,zo,qbp,Option.isSome_some,if_true,h,qoT]
 cases qS k E<;>rfl
theorem qns{H:qa}{o:Nat}{E:qq}(h:look o H.objs=some (.map (qJ E)))(k:ByteArray)(v:Term):muL H (.pl 1) (.map o) (.str k) (qW v)=some (H.put o (.map (qJ (qbd k v E)))):=by
 unfold muL
 simp only[h,eqK,zo,qbp,Option.isNone_some,Bool.false_eq_true,if_false,qmc,Option.map_some]
structure NNE where
 i:Nat
 n:Nat
 e:qq
theorem qvY(G:qq):(G.map wt).all (fun e=>e.cells.length==4)=true:=by simp[LV.cells]
structure Lit where
 kind:Int
 atom:Atom
 a:Term
 b:Term
structure qf where
 head:Atom
 body:List Lit
abbrev y6(l:Lit):List LV:=[.int l.kind,.str l.atom.pred,qk l.atom.args,.int l.a.kind,.int l.a.n,.str l.a.s,.int l.b.kind,.int l.b.n,.str l.b.s]
abbrev qfp(l:Lit):LV:=.agg (y6 l)
abbrev zG(l:List Lit):LV:=.sl (l.map qfp) .no
abbrev ww(c:qf):List LV:=[.str c.head.pred,qk c.head.args,zG c.body]
abbrev uH(c:qf):LV:=.agg (ww c)
abbrev ud(S:List ByteArray):List (LV×LV):=S.map fun k=>(.str k,B true)
def wq(k:ByteArray)(S:List ByteArray):Bool:=S.any (eqBA k)
def qbt(k:ByteArray)(S:List ByteArray):List ByteArray:=if wq k S then S else S++[k]
def qfP(t:Term)(S:List ByteArray):List ByteArray:=if t.kind=3 then qbt t.s S else S
def vz:List Term->List ByteArray->List ByteArray
 |[],S=>S
 |t::r,S=>vz r (qfP t S)
theorem qma(k:ByteArray):∀S:List ByteArray,wg (.pl 1) (.str k) (B true) (ud S)=some (ud (qbt k S))
 |[]=>rfl
 |j::r=>by
  have ih:=qma k r
  have hc:wq k (j::r)=(eqBA k j||wq k r):=rfl
  by_cases h:eqBA k j=true
  ·simp[ud,qbt,hc,wg,eqK,zo,h]
  ·have h':eqBA k j=false:=by simpa using h
   by_cases hb:wq k r=true
   ·simp only[ud,qbt,if_pos hb]at ih
    simp[ud,qbt,hc,wg,eqK,zo,h',hb,ih]
   ·simp only[ud,qbt,if_neg hb]at ih
    have hb':wq k r=false:=by simpa using hb
    simp only[ud,qbt,hc,wg,eqK,zo,h',hb',List.map_cons,ih]
    simp
theorem qoR(k:ByteArray):∀S:List ByteArray,vM (.pl 1) (.str k) (ud S)=some (if wq k S then some (B true) else none)
 |[]=>rfl
 |j::r=>by
  have ih:=qoR k r
  simp only[ud,wq,List.map_cons,vM,eqK,zo,List.any_cons]
  by_cases h:eqBA k j=true
  ·simp[h]
  ·simp only[h,Bool.false_or]
   simpa [wq] using ih
theorem muV{H:qa}{o:Nat}{S:List ByteArray}(h:look o H.objs=some (.map (ud S)))(k:ByteArray):muL H (.pl 1) (.map o) (.str k) (B true)=some (H.put o (.map (ud (qbt k S)))):=by
 unfold muL
 simp only[h,eqK,zo,qbp,Option.isNone_some,Bool.false_eq_true,if_false,qma,Option.map_some]
theorem lkV{H:qa}{o:Nat}{S:List ByteArray}(h:look o H.objs=some (.map (ud S)))(k:ByteArray):lkL H (.pl 1) false (B false) (.map o) (.str k)=some (B (wq k S)):=by
 unfold lkL
 simp only[eqK,zo,qbp,Option.isSome_some,if_true,h,qoR]
 cases wq k S<;>rfl
theorem vI{o:Nat}{x y:qc}:∀{l:List (Nat×qc)},look o l=some x->look o (qx o y l)=some y
 |[],h=>by cases h
 |(j,z)::r,h=>by
  simp only[look]at h
  simp only[qx]
  split
  ·rename_i e;subst e;simp[look]
  ·rename_i e
   rw[if_neg e]at h
   simp only[look,if_neg e]
   exact vI h
theorem qcd{o:Nat}{x y:qc}:∀(l:List (Nat×qc)),qx o y (qx o x l)=qx o y l
 |[]=>rfl
 |(j,z)::r=>by
  simp only[qx]
  split
  ·rename_i e;subst e;simp[qx]
  ·rename_i e
   simp only[qx,if_neg e,qcd r]
theorem qgy{o:Nat}{x:qc}:∀{l:List (Nat×qc)},look o l=some x->qx o x l=l
 |[],h=>by cases h
 |(j,z)::r,h=>by
  simp only[look]at h
  simp only[qx]
  split
  ·rename_i e;subst e;simp at h;rw[h]
  ·rename_i e
   rw[if_neg e]at h
   rw[qgy h]
theorem keep{H':qa}{v:LV}{kv:HP}(h:kv v H'):∃H'',HWk H' H''/\(H'.Ok->H''.Ok)/\kv v H'':=⟨H',HWk.refl _,fun h=>h,h⟩
structure NNV where
 i:Nat
 n:Nat
 s:List ByteArray
theorem qgg(l:List Term)(own:Own)(hl:l.length<2^40)(o:Nat)(S:List ByteArray)(ob:List (Nat×qc))(nx:Nat)(ho:look o ob=some (.map (ud S))){kv kp:HP}
  (hk:∀n,nx<=n->kv (.tup []) ⟨qx o (.map (ud (vz l S))) ob,n⟩):cP E0 F0 163 [.sl (l.map qW) own,.map o] ⟨ob,nx⟩ kv kp:=by
 refine ur c163 fun hH=>⟨Nat.le_of_ble_eq_true rfl,?_⟩
 have hon:o<nx:=hH.look ho
 simp(disch:=omega)[b163]
 obtain⟨A,hA⟩:∃A,vz l S=A:=⟨_,rfl⟩
 rw[hA]at hk
 refine qy (σ:=NNV) (fun q=>(.nd .bot (.nd (.map o) (.nd .bot (.nd (.int l.length) .nil .nil) .nil) .nil) (.nd .bot (.nd .bot (.nd (.int q.i) .nil .nil) .nil) (.nd (.sl (l.map qW) own) .nil .nil))))
  (fun q=>⟨qx o (.map (ud q.s)) ob,q.n⟩) (fun q=>l.length - q.i)
  (fun q=>nx<=q.n/\q.i<=l.length/\vz (l.drop q.i) q.s=A) ⟨0,nx,S⟩ ⟨Nat.le_refl _,Nat.zero_le _,hA⟩ (by simp[FT.Le,Wk]) ?_ ?_
 ·dsimp only;rw[qgy ho];exact⟨HWk.refl _,fun h=>h⟩
 rintro⟨i,n,s⟩ ⟨hn,hi,he⟩ hok
 simp only at hn hi he
 have hHe:∀s:List ByteArray,qa.Ok ⟨qx o (.map (ud s)) ob,nx⟩:=fun s=>qn.put hH
 by_cases hlt:i<l.length
 case neg=>
  rw[List.drop_eq_nil_of_le (by omega)]at he
  simp only[vz]at he
  subst he
  simp(disch:=omega)[hlt,zh]
  exact keep (hk _ (by omega))
 rw[List.drop_eq_getElem_cons hlt]at he
 simp only[vz]at he
 have hlo:look o (qx o (.map (ud s)) ob)=some (.map (ud s)):=vI ho
 by_cases hk3:l[i].kind=3
 ·simp only[qfP,if_pos hk3]at he
  simp(disch:=omega)[hlt,hk3]
  rw[muV (S:=s) (by simp(disch:=omega)[qe,hlo])]
  simp(disch:=omega)[hlt,hk3,qi (show i<2^62 by omega),qcd]
  exact⟨⟨i+1,n+1,qbt l[i].s s⟩,by dsimp only;omega,⟨by dsimp only;omega,by dsimp only;omega,he⟩,by simp[FT.Le,Wk],zK (hHe _) (by first|exact ql.refl' _|(repeat (first|exact ql.refl (by first|omega|(dsimp only;omega))|refine ql.cons' (hHe _) (by first|omega|(dsimp only;omega)) (by first|omega|(dsimp only;omega)) ?_)))⟩
 ·simp only[qfP,if_neg hk3]at he
  simp(disch:=omega)[hlt,hk3,qi (show i<2^62 by omega)]
  exact⟨⟨i+1,n+1,s⟩,by dsimp only;omega,⟨by dsimp only;omega,by dsimp only;omega,he⟩,by simp[FT.Le,Wk],zK (hHe _) (by first|exact ql.refl' _|(repeat (first|exact ql.refl (by first|omega|(dsimp only;omega))|refine ql.cons' (hHe _) (by first|omega|(dsimp only;omega)) (by first|omega|(dsimp only;omega)) ?_)))⟩
def qbK(l:Lit)(q:List ByteArray×List ByteArray):List ByteArray×List ByteArray:=
 if l.kind=1 then (vz l.atom.args q.1,q.2) else if l.kind=2 then (q.1,vz l.atom.args q.2) else (q.1,vz [l.a,l.b] q.2)
def wL:List Lit->List ByteArray×List ByteArray->List ByteArray×List ByteArray
 |[],q=>q
 |l::r,q=>wL r (qbK l q)
def qbe(c:qf):Bool:=(wL c.body ([],vz c.head.args [])).2.all fun v=>wq v (wL c.body ([],vz c.head.args [])).1
def Lit.ok(l:Lit):Prop:=l.atom.ok
def qf.ok(c:qf):Prop:=c.head.ok/\c.body.length<2^40/\∀l∈c.body,Lit.ok l
structure NNVV where
 i:Nat
 n:Nat
 q:List ByteArray×List ByteArray
structure NNI where
 left:List Nat
 cur:Option Nat
theorem qqy(p:Nat->Bool):∀(l:List Nat)(j q:Nat),l[j]? = some q->l.all p=(p q&&(l.eraseIdx j).all p)
 |[],_,_,h=>by simp at h
 |a::r,0,q,h=>by simp at h;subst h;rfl
 |a::r,j+1,q,h=>by
  simp only[List.getElem?_cons_succ]at h
  have ih:=qqy p r j q h
  simp only[List.eraseIdx_cons_succ,List.all_cons,ih]
  cases p a<;>cases p q<;>rfl
theorem qym{α:Type}(p:α->Bool)(l:List α)(d:α):((List.range l.length).all fun k=>p (l.getD k d))=l.all p:=by
 rw[Bool.eq_iff_iff]
 simp only[List.all_eq_true,List.mem_range]
 constructor
 ·intro h x hx
  obtain⟨k,hk,rfl⟩:=List.mem_iff_getElem.1 hx
  have:=h k hk
  rwa [List.getD_eq_getElem?_getD,List.getElem?_eq_getElem hk]at this
 ·intro h k hk
  rw[List.getD_eq_getElem?_getD,List.getElem?_eq_getElem hk]
  exact h _ (List.getElem_mem hk)
theorem qrB(c:qf)(hc:c.ok):qg 105 [uH c] (.bool (qbe c)):=by
 refine qg.of c105 fun H hH=>⟨Nat.le_of_ble_eq_true rfl,?_⟩
 have hbl:=hc.2.1
 simp(disch:=omega)[b105]
 refine qgg c.head.args _ hc.1.2.1 _ [] _ _ (by simp[qp]) fun n hn=>?_
 simp(disch:=omega)
 obtain⟨Q,hQ⟩:∃Q,wL c.body ([],vz c.head.args [])=Q:=⟨_,rfl⟩
 have hHe:∀s1 s2:List ByteArray,qa.Ok ⟨(H.next+2,.map (ud s2))::(H.next+1,.map (ud s1))::(H.next,.cells (ww c))::H.objs,H.next+3⟩:=fun _ _=>⟨Nat.lt_succ_self _,Nat.lt_succ_self _,Nat.lt_succ_self _,hH⟩
 refine qy (σ:=NNVV) (fun q=>(.nd .bot (.nd .bot (.nd (.map (H.next+1)) .nil .nil) (.nd .bot (.nd .bot (.nd (.int c.body.length) .nil .nil) .nil) .nil)) (.nd .bot (.nd (.map (H.next+2)) (.nd .bot (.nd (zG c.body) .nil .nil) .nil) .nil) (.nd .bot (.nd .bot (.nd (.int q.i) .nil .nil) .nil) .nil))))
  (fun q=>⟨(H.next+2,.map (ud q.q.2))::(H.next+1,.map (ud q.q.1))::(H.next,.cells (ww c))::H.objs,q.n⟩) (fun q=>c.body.length - q.i)
  (fun q=>H.next+3<=q.n/\q.i<=c.body.length/\wL (c.body.drop q.i) q.q=Q) ⟨0,n,([],vz c.head.args [])⟩ ⟨by dsimp only;omega,Nat.zero_le _,hQ⟩ (by simp[FT.Le,Wk]) ⟨HWk.refl _,fun h=>h⟩ ?_
 rintro⟨i,n,q⟩ ⟨hn,hi,he⟩ hok
 simp only at hn hi he
 by_cases hlt:i<c.body.length
 case neg=>
  rw[List.drop_eq_nil_of_le (by omega)]at he
  simp only[wL]at he
  subst he
  simp(disch:=omega)[hlt,rgL]
  have hR:qbe c=q.2.all fun v=>wq v q.1:=by unfold qbe;rw[hQ]
  obtain⟨A,hA⟩:∃A,qbe c=A:=⟨_,rfl⟩
  rw[hA]at hR
  rw[hA]
  have hx:qa.Ok ⟨(H.next+2,.map (ud q.2))::(H.next+1,.map (ud q.1))::(H.next,.cells (ww c))::H.objs,n⟩:=qn.mono (hHe q.1 q.2) hn
  refine qy (σ:=NNI) (fun r=>(.nd .bot (.nd .bot (.nd (.map (H.next+1)) (.nd .bot (.nd .bot .nil (.nd (.ptr n 0) .nil .nil)) .nil) .nil) .nil) .nil))
   (fun r=>⟨(n,.iter (H.next+2) r.left r.cur q.2.length)::(H.next+2,.map (ud q.2))::(H.next+1,.map (ud q.1))::(H.next,.cells (ww c))::H.objs,n+1⟩) (fun r=>r.left.length)
   (fun r=>(∀k∈r.left,k<q.2.length)/\(r.left.all fun k=>wq (q.2.getD k ⟨⟨[]⟩⟩) q.1)=A) ⟨List.range q.2.length,none⟩ ⟨fun k hk=>List.mem_range.1 hk,?_⟩ (by simp[FT.Le,Wk]) ?_ ?_
  ·rw[hR];exact qym (fun v=>wq v q.1) q.2 _
  ·exact⟨HWk.refl _,fun h=>h⟩
  rintro⟨left,cur⟩ ⟨hl,he⟩ hok
  dsimp only at hl he
  simp(disch:=omega)
  by_cases hl0:left=[]
  ·refine⟨n,H.next+2,left,cur,q.2.length,rfl,by simp[qp],.inl ⟨hl0,.inr ⟨ud q.2,by simp(disch:=omega)[qe,qp],by simp⟩,?_⟩⟩
   subst hl0
   simp(disch:=omega)
   exact qh hH (by simp[<-he])
  ·refine⟨n,H.next+2,left,cur,q.2.length,rfl,by simp[qp],.inr ⟨hl0,ud q.2,by simp(disch:=omega)[qe,qp],by simp,fun j k e hj hk=>?_⟩⟩
   obtain⟨v,hv,rfl⟩:∃v,q.2[k]? = some v/\e=(.str v,B true):=by
    simp only[ud,List.getElem?_map]at hk
    obtain⟨v,h1,h2⟩:=Option.map_eq_some_iff.1 hk
    exact⟨v,h1,h2.symm⟩
   have hg:q.2.getD k ⟨⟨[]⟩⟩=v:=by rw[List.getD_eq_getElem?_getD,hv];rfl
   rw[qqy _ left j k hj,hg]at he
   simp(disch:=omega)[enL,hv]
   rw[lkV (S:=q.1) (by simp(disch:=omega)[qe,qp])]
   cases hb:wq v q.1
   ·simp(disch:=omega)
    rw[hb,Bool.false_and]at he
    exact qh hH (by simp[<-he])
   ·simp(disch:=omega)
    rw[hb,Bool.true_and]at he
    have hjl:j<left.length:=(List.getElem?_eq_some_iff.1 hj).1
    exact⟨⟨left.eraseIdx j,some k⟩,by dsimp only;rw[List.length_eraseIdx_of_lt hjl];omega,⟨fun m hm=>hl m (List.mem_of_mem_eraseIdx hm),he⟩,by simp[FT.Le,Wk],HWk.refl _,fun h=>h⟩
 rw[List.drop_eq_getElem_cons hlt]at he
 simp only[wL]at he
 have hlo:c.body[i].atom.ok:=hc.2.2 _ (ub hlt)
 by_cases hk1:c.body[i].kind=1
 ·simp only[qbK,if_pos hk1]at he
  simp(disch:=omega)[hlt,hk1]
  refine qgg _ _ hlo.2.1 _ q.1 _ _ (by simp(disch:=omega)[qp,qe]) fun n1 hn1=>?_
  simp(disch:=omega)[qi (show i<2^62 by omega)]
  have hx:=hHe (vz c.body[i].atom.args q.1) q.2
  exact⟨⟨i+1,n1,_⟩,by dsimp only;omega,⟨by dsimp only;omega,by dsimp only;omega,he⟩,by simp[FT.Le,Wk],uf hx⟩
 by_cases hk2:c.body[i].kind=2
 ·simp only[qbK,if_neg hk1,if_pos hk2]at he
  simp(disch:=omega)[hlt,hk2]
  refine qgg _ _ hlo.2.1 _ q.2 _ _ (by simp(disch:=omega)[qp,qe]) fun n1 hn1=>?_
  simp(disch:=omega)[qi (show i<2^62 by omega)]
  have hx:=hHe q.1 (vz c.body[i].atom.args q.2)
  exact⟨⟨i+1,n1,_⟩,by dsimp only;omega,⟨by dsimp only;omega,by dsimp only;omega,he⟩,by simp[FT.Le,Wk],uf hx⟩
 ·simp only[qbK,if_neg hk1,if_neg hk2]at he
  simp(disch:=omega)[hlt,hk1,hk2]
  refine qgg [c.body[i].a,c.body[i].b] _ (by simp) _ q.2 _ _ (by simp(disch:=omega)[qp,qe]) fun n1 hn1=>?_
  simp(disch:=omega)[qi (show i<2^62 by omega)]
  have hx:=hHe q.1 (vz [c.body[i].a,c.body[i].b] q.2)
  exact⟨⟨i+1,n1,_⟩,by dsimp only;omega,⟨by dsimp only;omega,by dsimp only;omega,he⟩,by simp[FT.Le,Wk],uf hx⟩
def qbz(t:Term):Bool:=decide (t.kind=0)&&(decide (t.n=0)&&eqBA t.s ⟨⟨[]⟩⟩)
def zD(l:Lit):Bool:=
 if l.kind=1\/l.kind=2 then qM l.atom&&(qbz l.a&&qbz l.b)
 else if l.kind=3\/l.kind=4\/l.kind=5\/l.kind=6 then qF l.a&&(qF l.b&&(eqBA l.atom.pred ⟨⟨[]⟩⟩&&decide (l.atom.args.length=0)))
 else false
def Lit.ok2(l:Lit):Prop:=l.atom.ok/\l.a.ok/\l.b.ok
theorem qss(l:Lit)(hl:l.ok2):qg 126 [qfp l] (.bool (zD l)):=by
 refine qg.of c126 fun H hH=>⟨Nat.le_of_ble_eq_true rfl,?_⟩
 by_cases h12:l.kind=1\/l.kind=2
 ·have e1:(decide (l.a.kind=0)&&(decide (l.a.n=0)&&eqBA l.a.s ⟨⟨[]⟩⟩))=qbz l.a:=rfl
  have e2:(decide (l.b.kind=0)&&(decide (l.b.n=0)&&eqBA l.b.s ⟨⟨[]⟩⟩))=qbz l.b:=rfl
  rcases h12 with h1|h1
  all_goals
   simp[b126,h1]
   refine(qeO l.atom hl.1).go fun n hn=>?_
   cases ha:qM l.atom
   ·simp
    exact qh hH (by simp[zD,h1,ha])
   simp[e1]
   cases hz:qbz l.a
   ·simp
    exact qh hH (by simp[zD,h1,ha,hz])
   simp[e2]
   exact qh hH (by simp[zD,h1,ha,hz])
 have h1:¬l.kind=1:=fun e=>h12 (.inl e)
 have h2:¬l.kind=2:=fun e=>h12 (.inr e)
 by_cases hk:l.kind=3\/l.kind=4\/l.kind=5\/l.kind=6
 ·rcases hk with h3|h3|h3|h3
  all_goals
   simp[b126,h3]
   refine(qid l.a hl.2.1).go fun n hn=>?_
   cases ha:qF l.a
   ·simp
    exact qh hH (by simp[zD,h3,ha])
   simp
   refine(qid l.b hl.2.2).go fun n1 hn1=>?_
   cases hb:qF l.b
   ·simp
    exact qh hH (by simp[zD,h3,ha,hb])
   simp
   cases hp:eqBA l.atom.pred ⟨⟨[]⟩⟩
   ·simp
    exact qh hH (by simp[zD,h3,ha,hb,hp])
   simp
   exact qh hH (by simp[zD,h3,ha,hb,hp])
 ·have h3:¬l.kind=3:=fun e=>hk (.inl e)
  have h4:¬l.kind=4:=fun e=>hk (.inr (.inl e))
  have h5:¬l.kind=5:=fun e=>hk (.inr (.inr (.inl e)))
  have h6:¬l.kind=6:=fun e=>hk (.inr (.inr (.inr e)))
  simp[b126,h1,h2,h3,h4,h5,h6]
  exact qh hH (by simp[zD,h1,h2,h3,h4,h5,h6])
def qf.ok2(c:qf):Prop:=c.head.ok/\c.body.length<2^40/\∀l∈c.body,Lit.ok2 l
def yy(c:qf):Bool:=qM c.head&&(decide (c.body.length<=5)&&c.body.all zD)
theorem qst(c:qf)(hc:c.ok2):qg 60 [uH c] (.bool (yy c)):=by
 refine qg.of c60 fun H hH=>⟨Nat.le_of_ble_eq_true rfl,?_⟩
 simp[b60]
 refine(qeO c.head hc.1).go fun n hn=>?_
 cases h1:qM c.head
 ·simp
  exact qh hH (by simp[yy,h1])
 by_cases h2:(5:Int)<(c.body.length:Int)
 ·simp[h2]
  exact qh hH (by simp[yy,h1,show ¬c.body.length<=5 by omega])
 have h3:c.body.length<=5:=by omega
 simp[h2]
 obtain⟨A,hA⟩:∃A,c.body.all zD=A:=⟨_,rfl⟩
 refine qy (σ:=NN) (fun q=>(.nd (uH c) (.nd .bot .nil (.nd .bot (.nd .bot (.nd (.int c.body.length) .nil .nil) .nil) .nil)) (.nd (.bool false) (.nd .bot (.nd .bot (.nd (zG c.body) .nil .nil) .nil) .nil) (.nd .bot (.nd .bot (.nd (.int q.i) .nil .nil) .nil) .nil)))) (fun q=>⟨H.objs,q.n⟩) (fun q=>c.body.length - q.i)
  (fun q=>H.next<=q.n/\q.i<=c.body.length/\(c.body.drop q.i).all zD=A) ⟨0,n⟩ ⟨by dsimp only;omega,Nat.zero_le _,hA⟩ (by simp[FT.Le,Wk]) (uf hH) ?_
 rintro⟨i,n⟩ ⟨hn,hi,he⟩ hok
 simp only at hn hi he
 by_cases hlt:i<c.body.length
 ·rw[qaC zD hlt]at he
  simp[hlt]
  refine(qss c.body[i] (hc.2.2 _ (ub hlt))).go fun n1 h1'=>?_
  cases ht:zD c.body[i]
  ·rw[ht,Bool.false_and]at he
   simp
   exact qh hH (by simp[yy,h1,hA,<-he])
  ·rw[ht,Bool.true_and]at he
   simp[qi (show i<2^62 by omega)]
   exact⟨⟨i+1,n1⟩,by dsimp only;omega,⟨by dsimp only;omega,by dsimp only;omega,he⟩,by simp[FT.Le,Wk],uf hH⟩
 ·obtain rfl:i=c.body.length:=by omega
  rw[List.drop_eq_nil_of_le (Nat.le_refl _),List.all_nil]at he
  simp
  exact qh hH (by simp[yy,h1,h3,hA,<-he])
def wa:List qf->Nat->Int×Int
 |[],_=>(0,0)
 |c::r,i=>if yy c=false then (7,(i:Int)) else if qbe c=false then (80,(i:Int)) else wa r (i+1)
def qA(l:List qf):Int×Int:=if 40<l.length then (2,0) else wa l 0
abbrev qt(l:List qf):LV:=.sl (l.map uH) .no
def qf.ok3(c:qf):Prop:=c.ok2/\c.ok
theorem qlM(l:List qf)(hc:l.length<=40->∀c∈l,qf.ok3 c):qg 47 [qt l] (.tup [.int (qA l).1,.int (qA l).2]):=by
 refine qg.of c47 fun H hH=>⟨Nat.le_of_ble_eq_true rfl,?_⟩
 by_cases h1:(40:Int)<(l.length:Int)
 ·simp[b47,h1]
  exact qh hH (by simp[qA,show 40<l.length by omega])
 have hc:=hc (by omega)
 simp[b47,h1]
 obtain⟨R,hR⟩:∃R,wa l 0=R:=⟨_,rfl⟩
 have hB:qA l=R:=by rw[<-hR];unfold qA;rw[if_neg (by omega)]
 rw[hB]
 refine qy (σ:=NN) (fun q=>(.nd .bot (.nd .bot (.nd (.int 0) .nil (.nd (.int q.i) .nil .nil)) (.nd .bot (.nd (qt l) .nil .nil) .nil)) (.nd (.int 0) .nil (.nd .bot (.nd (.int l.length) .nil .nil) .nil)))) (fun q=>⟨H.objs,q.n⟩) (fun q=>l.length - q.i)
  (fun q=>H.next<=q.n/\q.i<=l.length/\wa (l.drop q.i) q.i=R) ⟨0,H.next⟩ ⟨Nat.le_refl _,Nat.zero_le _,hR⟩ (by simp[FT.Le,Wk]) ⟨HWk.refl _,fun h=>h⟩ ?_
 rintro⟨i,n⟩ ⟨hn,hi,he⟩ hok
 simp only at hn hi he
 by_cases hlt:i<l.length
 ·rw[List.drop_eq_getElem_cons hlt]at he
  simp[hlt]
  refine(qst l[i] (hc _ (ub hlt)).1).go fun n1 h1'=>?_
  cases hf:yy l[i]
  ·simp only[wa,hf,if_true]at he
   simp
   exact qh hH (by simp[<-he])
  simp
  refine(qrB l[i] (hc _ (ub hlt)).2).go fun n2 h2'=>?_
  cases hs:qbe l[i]
  ·simp[wa,hf,hs]at he
   simp
   exact qh hH (by simp[<-he])
  simp[wa,hf,hs]at he
  simp[qi (show i<2^62 by omega)]
  exact⟨⟨i+1,n2⟩,by dsimp only;omega,⟨by dsimp only;omega,by dsimp only;omega,he⟩,by simp[FT.Le,Wk],uf hH⟩
 ·obtain rfl:i=l.length:=by omega
  rw[List.drop_eq_nil_of_le (Nat.le_refl _)]at he
  simp only[wa]at he
  simp
  exact qh hH (by simp[<-he])
theorem qlc(a b c:Int):qg 86 [.int a,.int b,.int c] (.bool (decide (b<=a)&&decide (a<=c))):=by
 refine qg.of c86 fun H hH=>⟨Nat.le_of_ble_eq_true rfl,?_⟩
 by_cases h1:b<=a
 ·simp(disch:=omega)[b86,h1]
  exact qh hH (by simp[h1])
 ·simp(disch:=omega)[b86,h1]
  exact qh hH (by simp[h1])
theorem qrN(l:Lit)(hl:l.ok2):qg 188 [qfp l] (.bool (zD l)):=by
 refine qg.of c188 fun H hH=>⟨Nat.le_of_ble_eq_true rfl,?_⟩
 by_cases h12:l.kind=1\/l.kind=2
 ·have e1:(decide (l.a.kind=0)&&(decide (l.a.n=0)&&eqBA l.a.s ⟨⟨[]⟩⟩))=qbz l.a:=rfl
  have e2:(decide (l.b.kind=0)&&(decide (l.b.n=0)&&eqBA l.b.s ⟨⟨[]⟩⟩))=qbz l.b:=rfl
  rcases h12 with h1|h1
  all_goals
   simp(disch:=omega)[b188,h1]
   refine(qeN l.atom hl.1).go fun n hn=>?_
   cases ha:qM l.atom
   ·simp(disch:=omega)
    exact qh hH (by simp[zD,h1,ha])
   simp(disch:=omega)[e1]
   cases hz:qbz l.a
   ·simp(disch:=omega)
    exact qh hH (by simp[zD,h1,ha,hz])
   simp(disch:=omega)[e2]
   exact qh hH (by simp[zD,h1,ha,hz])
 have h1:¬l.kind=1:=fun e=>h12 (.inl e)
 have h2:¬l.kind=2:=fun e=>h12 (.inr e)
 simp(disch:=omega)[b188,h1,h2]
 refine(qlc _ _ _).go fun n hn=>?_
 simp(disch:=omega)
 refine(qhX l.a hl.2.1).go fun n1 hn1=>?_
 simp(disch:=omega)
 refine(qhX l.b hl.2.2).go fun n2 hn2=>?_
 obtain⟨K,hK⟩:∃K,(decide (3<=l.kind)&&decide (l.kind<=6))=K:=⟨_,rfl⟩
 rw[hK]
 have hl0:zD l=(K&&(qF l.a&&(qF l.b&&(eqBA l.atom.pred ⟨⟨[]⟩⟩&&decide (l.atom.args.length=0))))):=by
  unfold zD
  rw[if_neg h12]
  by_cases hk:l.kind=3\/l.kind=4\/l.kind=5\/l.kind=6
  ·rw[if_pos hk,<-hK]
   have h3:3<=l.kind:=by omega
   have h6:l.kind<=6:=by omega
   simp[h3,h6]
  ·rw[if_neg hk]
   have:K=false:=by
    rw[<-hK,Bool.and_eq_false_iff,decide_eq_false_iff_not,decide_eq_false_iff_not]
    omega
   rw[this];rfl
 rw[hl0]
 cases K
 ·simp(disch:=omega)
  exact qh hH (by simp[])
 cases ha:qF l.a
 ·simp(disch:=omega)
  exact qh hH (by simp[])
 cases hb:qF l.b
 ·simp(disch:=omega)
  exact qh hH (by simp[])
 cases hp:eqBA l.atom.pred ⟨⟨[]⟩⟩
 ·simp(disch:=omega)[hp]
  exact qh hH (by first|rfl|simp[])
 simp(disch:=omega)[hp]
 exact qh hH (by first|rfl|simp[])
theorem qrO(c:qf)(hc:c.ok2):qg 148 [uH c] (.bool (yy c)):=by
 refine qg.of c148 fun H hH=>⟨Nat.le_of_ble_eq_true rfl,?_⟩
 simp(disch:=omega)[b148]
 refine(qeN c.head hc.1).go fun n hn=>?_
 cases h1:qM c.head
 ·simp(disch:=omega)
  exact qh hH (by simp[yy,h1])
 by_cases h2:(5:Int)<(c.body.length:Int)
 ·simp(disch:=omega)[h2]
  exact qh hH (by simp[yy,h1,show ¬c.body.length<=5 by omega])
 have h3:c.body.length<=5:=by omega
 simp(disch:=omega)[h2]
 obtain⟨A,hA⟩:∃A,c.body.all zD=A:=⟨_,rfl⟩
 refine qy (σ:=NN) (fun q=>(.nd .bot (.nd (.ptr H.next 0) .nil .nil) (.nd (.bool false) (.nd (.int q.i) .nil .nil) .nil))) (fun q=>⟨(H.next,.cells [.str c.head.pred,qk c.head.args,zG c.body])::H.objs,q.n⟩) (fun q=>c.body.length - q.i)
  (fun q=>H.next+1<=q.n/\q.i<=c.body.length/\(c.body.drop q.i).all zD=A) ⟨0,n⟩ ⟨by dsimp only;omega,Nat.zero_le _,hA⟩ (by simp[FT.Le,Wk]) ⟨HWk.refl _,fun h=>h⟩ ?_
 rintro⟨i,n⟩ ⟨hn,hi,he⟩ hok
 simp only at hn hi he
 by_cases hlt:i<c.body.length
 ·rw[qaC zD hlt]at he
  simp(disch:=omega)[hlt]
  refine(qrN c.body[i] (hc.2.2 _ (ub hlt))).go fun n1 h1'=>?_
  cases ht:zD c.body[i]
  ·rw[ht,Bool.false_and]at he
   simp(disch:=omega)
   exact qh hH (by simp[yy,h1,hA,<-he])
  ·rw[ht,Bool.true_and]at he
   simp(disch:=omega)[qi (show i<2^62 by omega)]
   exact⟨⟨i+1,n1⟩,by dsimp only;omega,⟨by dsimp only;omega,by dsimp only;omega,he⟩,by simp[FT.Le,Wk],HWk.refl _,fun h=>h⟩
 ·obtain rfl:i=c.body.length:=by omega
  rw[List.drop_eq_nil_of_le (Nat.le_refl _),List.all_nil]at he
  simp(disch:=omega)
  exact qh hH (by simp[yy,h1,h3,hA,<-he])
def qay(c:qf)(t:Term):Bool:=if t.kind=3 then c.body.any (fun x=>decide (x.kind=1)&&x.atom.args.any fun u=>eqT u t) else true
theorem qhF{α:Type}(p:α->Bool){l:List α}{i:Nat}(h:i<l.length):(l.drop i).any p=(p l[i]||(l.drop (i+1)).any p):=by
 rw[List.drop_eq_getElem_cons h,List.any_cons]
theorem qrT(c:qf)(hc:c.ok)(t:Term):qg 189 [uH c,qW t] (.bool (qay c t)):=by
 refine qg.of c189 fun H hH=>⟨Nat.le_of_ble_eq_true rfl,?_⟩
 by_cases h3:t.kind=3
 case neg=>
  simp(disch:=omega)[b189,h3]
  exact qh hH (by simp[qay,h3])
 simp(disch:=omega)[b189,h3]
 obtain⟨A,hA⟩:∃A,c.body.any (fun x=>decide (x.kind=1)&&x.atom.args.any fun u=>eqT u t)=A:=⟨_,rfl⟩
 have hB:qay c t=A:=by rw[<-hA];simp[qay,h3]
 rw[hB]
 have hHe:qa.Ok ⟨(H.next+1,.cells [.int t.kind,.int t.n,.str t.s])::(H.next,.cells [.str c.head.pred,qk c.head.args,zG c.body])::H.objs,H.next+2⟩:=⟨Nat.lt_succ_self _,Nat.lt_succ_self _,hH⟩
 rw[<-h3]
 refine qy (σ:=NN) (fun q=>(.nd .bot (.nd .bot (.nd (.ptr (H.next+1) 0) .nil .nil) (.nd (.int q.i) .nil .nil)) (.nd (.ptr H.next 0) .nil .nil))) (fun q=>⟨(H.next+1,.cells [.int t.kind,.int t.n,.str t.s])::(H.next,.cells [.str c.head.pred,qk c.head.args,zG c.body])::H.objs,q.n⟩) (fun q=>c.body.length - q.i)
  (fun q=>H.next+2<=q.n/\q.i<=c.body.length/\(c.body.drop q.i).any (fun x=>decide (x.kind=1)&&x.atom.args.any fun u=>eqT u t)=A) ⟨0,H.next+2⟩ ⟨by dsimp only;omega,Nat.zero_le _,hA⟩ (by simp[FT.Le,Wk]) ⟨HWk.refl _,fun h=>h⟩ ?_
 rintro⟨i,n⟩ ⟨hn,hi,he⟩ hok
 simp only at hn hi he
 have hcl:=hc.2.1
 by_cases hlt:i<c.body.length
 case neg=>
  obtain rfl:i=c.body.length:=by omega
  rw[List.drop_eq_nil_of_le (Nat.le_refl _),List.any_nil]at he
  simp(disch:=omega)
  exact qh hH (by simp[<-he])
 rw[qhF _ hlt]at he
 by_cases hk:c.body[i].kind=1
 case neg=>
  have he2:decide (c.body[i].kind=1)=false:=by simp[hk]
  rw[he2,Bool.false_and,Bool.false_or]at he
  simp(disch:=omega)[hlt,hk,qi (show i<2^62 by omega)]
  exact⟨⟨i+1,n⟩,by dsimp only;omega,⟨by dsimp only;omega,by dsimp only;omega,he⟩,by simp[FT.Le,Wk],HWk.refl _,fun h=>h⟩
 have he2:decide (c.body[i].kind=1)=true:=by simp[hk]
 rw[he2,Bool.true_and]at he
 simp(disch:=omega)[hlt,hk]
 obtain⟨Q,hQ⟩:∃Q,c.body[i].atom.args.any (fun u=>eqT u t)=Q:=⟨_,rfl⟩
 rw[hQ]at he
 have hal:=(hc.2.2 _ (ub hlt)).2.1
 refine qy (σ:=NN) (fun q=>(.nd .bot (.nd .bot (.nd (.ptr (H.next+1) 0) .nil .nil) (.nd (.int i) .nil .nil)) (.nd (.ptr H.next 0) .nil (.nd (.int q.i) .nil .nil)))) (fun q=>⟨(H.next+1,.cells [.int t.kind,.int t.n,.str t.s])::(H.next,.cells [.str c.head.pred,qk c.head.args,zG c.body])::H.objs,q.n⟩) (fun q=>c.body[i].atom.args.length - q.i)
  (fun q=>H.next+2<=q.n/\q.i<=c.body[i].atom.args.length/\(c.body[i].atom.args.drop q.i).any (fun u=>eqT u t)=Q) ⟨0,n⟩ ⟨by dsimp only;omega,Nat.zero_le _,hQ⟩ (by simp[FT.Le,Wk]) ⟨HWk.refl _,fun h=>h⟩ ?_
 rintro⟨j,n2⟩ ⟨hn2,hj,he3⟩ hok2
 simp only at hn2 hj he3
 by_cases hlt2:j<c.body[i].atom.args.length
 case neg=>
  obtain rfl:j=c.body[i].atom.args.length:=by omega
  rw[List.drop_eq_nil_of_le (Nat.le_refl _),List.any_nil]at he3
  rw[<-he3,Bool.false_or]at he
  simp(disch:=omega)[hlt,qi (show i<2^62 by omega)]
  exact⟨⟨i+1,n2⟩,by dsimp only;omega,⟨by dsimp only;omega,by dsimp only;omega,he⟩,by simp[FT.Le,Wk],HWk.refl _,fun h=>h⟩
 rw[qhF _ hlt2]at he3
 have e1:(decide (c.body[i].atom.args[j].kind=t.kind)&&(decide (c.body[i].atom.args[j].n=t.n)&&eqBA c.body[i].atom.args[j].s t.s))=eqT c.body[i].atom.args[j] t:=rfl
 simp(disch:=omega)[hlt,hlt2]
 rw[e1]
 cases hq:eqT c.body[i].atom.args[j] t
 ·rw[hq,Bool.false_or]at he3
  simp(disch:=omega)[qi (show j<2^62 by omega)]
  exact⟨⟨j+1,n2⟩,by dsimp only;omega,⟨by dsimp only;omega,by dsimp only;omega,he3⟩,by simp[FT.Le,Wk],HWk.refl _,fun h=>h⟩
 ·rw[hq,Bool.true_or]at he3
  rw[<-he3,Bool.true_or]at he
  simp(disch:=omega)
  exact qh hH (by simp[<-he])
def qaN(x:Lit):List Term:=(if x.kind=2 then x.atom.args else [])++[x.a,x.b]
def qdP(c:qf):List Term:=c.head.args++c.body.flatMap qaN
def qdQ(c:qf):Bool:=(qdP c).all (qay c)
theorem qgd(G:List Term):(G.map qW).all (fun e=>e.cells.length==3)=true:=by simp[LV.cells]
structure NNT where
 i:Nat
 n:Nat
 ts:List Term
theorem qai{a:Atom}(h:qM a=true):a.args.length<=3/\a.args.all qF=true:=by
 unfold qM at h
 simp only[Bool.and_eq_true,decide_eq_true_eq]at h
 exact h.2
theorem wT{c:qf}(h:yy c=true):qM c.head=true/\c.body.length<=5/\∀x∈c.body,zD x=true:=by
 unfold yy at h
 simp only[Bool.and_eq_true,decide_eq_true_eq,List.all_eq_true]at h
 exact⟨h.1,h.2.1,h.2.2⟩
theorem qgS{x:Lit}(h:zD x=true):x.atom.args.length<=3:=by
 unfold zD at h
 split at h
 ·simp only[Bool.and_eq_true]at h;exact(qai h.1).1
 ·split at h
  ·simp only[Bool.and_eq_true,decide_eq_true_eq]at h;omega
  ·cases h
theorem qvj{x:Lit}(h:zD x=true):(qaN x).length<=5:=by
 have:=qgS h
 unfold qaN
 split<;>simp<;>omega
theorem qoH:∀{b:List Lit},(∀x∈b,zD x=true)->(b.flatMap qaN).length<=5*b.length
 |[],_=>by simp
 |x::b,h=>by
  have h1:=qvj (h x List.mem_cons_self)
  have h2:=qoH fun y hy=>h y (List.mem_cons_of_mem _ hy)
  rw[List.flatMap_cons,List.length_append,List.length_cons]
  omega
theorem qto{c:qf}(h:yy c=true):(qdP c).length<=28:=by
 obtain⟨h1,h2,h3⟩:=wT h
 have h4:=(qai h1).1
 have h5:=qoH h3
 unfold qdP
 rw[List.length_append]
 omega
theorem qrD(c:qf)(hc:c.ok)(hf:yy c=true):qg 149 [uH c] (.bool (qdQ c)):=by
 refine qg.of c149 fun H hH=>⟨Nat.le_of_ble_eq_true rfl,?_⟩
 obtain⟨hp1,hp2,hp3⟩:=wT hf
 have hha:=(qai hp1).1
 simp(disch:=omega)[b149]
 refine qU ?_
 have hcan0:c.head.args.length<=2^30:=by omega
 simp(disch:=omega)[apL,vd,qgd,hcan0]
 obtain⟨L,hL⟩:∃L,qdP c=L:=⟨_,rfl⟩
 have hLl:=qto hf
 rw[hL]at hLl
 have hR:qdQ c=L.all (qay c):=by rw[<-hL];rfl
 rw[hR]
 refine qy (σ:=NNT) (fun q=>(.nd .bot (.nd (.ptr H.next 0) (.nd (.sl (q.ts.map qW) (.tok (H.next+1))) .nil .nil) .nil) (.nd (.bool false) (.nd (.int q.i) .nil .nil) .nil)))
  (fun q=>⟨(H.next+1,.tok q.ts.length 3)::(H.next,.cells [.str c.head.pred,qk c.head.args,zG c.body])::H.objs,q.n⟩) (fun q=>c.body.length - q.i)
  (fun q=>H.next+2<=q.n/\q.i<=c.body.length/\q.ts++(c.body.drop q.i).flatMap qaN=L) ⟨0,H.next+2,c.head.args⟩ ⟨Nat.le_refl _,Nat.zero_le _,by rw[<-hL];rfl⟩ (by simp[FT.Le,Wk]) ⟨HWk.refl _,fun h=>h⟩ ?_
 rintro⟨i,n,ts⟩ ⟨hn,hi,he⟩ hok
 dsimp only at hn hi he
 have htl:ts.length<=28:=by
  have:=congrArg List.length he
  rw[List.length_append]at this
  omega
 have hHe:∀m:Nat,qa.Ok ⟨(H.next+1,.tok m 3)::(H.next,.cells [.str c.head.pred,qk c.head.args,zG c.body])::H.objs,H.next+2⟩:=fun _=>⟨Nat.lt_succ_self _,Nat.lt_succ_self _,hH⟩
 by_cases hlt:i<c.body.length
 case neg=>
  obtain rfl:i=c.body.length:=by omega
  rw[List.drop_eq_nil_of_le (Nat.le_refl _),List.flatMap_nil,List.append_nil]at he
  subst he
  simp(disch:=omega)
  obtain⟨A,hA⟩:∃A,ts.all (qay c)=A:=⟨_,rfl⟩
  rw[hA]
  refine qy (σ:=NN) (fun q=>(.nd .bot (.nd (.ptr H.next 0) (.nd (.sl (ts.map qW) (.tok (H.next+1))) .nil .nil) (.nd (.int q.i) .nil .nil)) (.nd (.bool false) .nil .nil)))
   (fun q=>⟨(H.next+1,.tok ts.length 3)::(H.next,.cells [.str c.head.pred,qk c.head.args,zG c.body])::H.objs,q.n⟩) (fun q=>ts.length - q.i)
   (fun q=>H.next+2<=q.n/\q.i<=ts.length/\(ts.drop q.i).all (qay c)=A) ⟨0,n⟩ ⟨by dsimp only;omega,Nat.zero_le _,hA⟩ (by simp[FT.Le,Wk]) ⟨HWk.refl _,fun h=>h⟩ ?_
  rintro⟨j,n2⟩ ⟨hn2,hj,he2⟩ hok2
  simp only at hn2 hj he2
  by_cases hlt2:j<ts.length
  case neg=>
   obtain rfl:j=ts.length:=by omega
   rw[List.drop_eq_nil_of_le (Nat.le_refl _),List.all_nil]at he2
   simp(disch:=omega)
   exact qh hH (by simp[<-he2])
  rw[qaC (qay c) hlt2]at he2
  simp(disch:=omega)[hlt2]
  refine(qrT c hc ts[j]).go fun n3 hn3=>?_
  cases hb:qay c ts[j]
  ·rw[hb,Bool.false_and]at he2
   simp(disch:=omega)
   exact qh hH (by simp[<-he2])
  ·rw[hb,Bool.true_and]at he2
   simp(disch:=omega)[qi (show j<2^62 by omega)]
   exact⟨⟨j+1,n3⟩,by dsimp only;omega,⟨by dsimp only;omega,by dsimp only;omega,he2⟩,by simp[FT.Le,Wk],HWk.refl _,fun h=>h⟩
 rw[List.drop_eq_getElem_cons hlt,List.flatMap_cons,<-List.append_assoc]at he
 have hla:=qgS (hp3 _ (ub hlt))
 by_cases hk2:c.body[i].kind=2
 ·have e2:qaN c.body[i]=c.body[i].atom.args++[c.body[i].a,c.body[i].b]:=by simp[qaN,hk2]
  rw[e2]at he
  simp(disch:=omega)[hlt,hk2]
  refine qU ?_
  have hcan:ts.length+c.body[i].atom.args.length<=2^30:=by omega
  simp(disch:=omega)[apL,vd,qgd,hcan]
  refine qU ?_
  have hcan2:ts.length+(c.body[i].atom.args.length+2)<=2^30:=by omega
  have hcan3:ts.length+c.body[i].atom.args.length+2<=2^30:=by omega
  simp(disch:=omega)[apL,vd,qgd,hcan2,hcan3,qi (show i<2^62 by omega),Nat.add_assoc]
  refine⟨⟨i+1,n,ts++(c.body[i].atom.args++[c.body[i].a,c.body[i].b])⟩,by dsimp only;omega,⟨by dsimp only;omega,by dsimp only;omega,he⟩,by simp[FT.Le,Wk],?_⟩
  simp only[List.length_append,List.length_cons,List.length_nil]
  simp[Nat.add_assoc,HWk.refl]
 ·have e2:qaN c.body[i]=[c.body[i].a,c.body[i].b]:=by simp[qaN,hk2]
  rw[e2]at he
  simp(disch:=omega)[hlt,hk2]
  refine qU ?_
  have hcan:ts.length+2<=2^30:=by omega
  simp(disch:=omega)[apL,vd,qgd,hcan,qi (show i<2^62 by omega)]
  refine⟨⟨i+1,n,ts++[c.body[i].a,c.body[i].b]⟩,by dsimp only;omega,⟨by dsimp only;omega,by dsimp only;omega,he⟩,by simp[FT.Le,Wk],?_⟩
  simp only[List.length_append,List.length_cons,List.length_nil]
  simp[HWk.refl]
def qbI:List qf->Nat->Int×Int
 |[],_=>(0,0)
 |c::r,i=>if yy c=false then (7,(i:Int)) else if qdQ c=false then (80,(i:Int)) else qbI r (i+1)
def qcD(l:List qf):Int×Int:=if 40<l.length then (2,0) else qbI l 0
theorem qdN(l:List qf)(hc:l.length<=40->∀c∈l,qf.ok3 c):qg 87 [qt l] (.tup [.int (qcD l).1,.int (qcD l).2]):=by
 refine qg.of c87 fun H hH=>⟨Nat.le_of_ble_eq_true rfl,?_⟩
 by_cases h1:(40:Int)<(l.length:Int)
 ·simp(disch:=omega)[b87,h1]
  exact qh hH (by simp[qcD,show 40<l.length by omega])
 have hc:=hc (by omega)
 simp(disch:=omega)[b87,h1]
 obtain⟨R,hR⟩:∃R,qbI l 0=R:=⟨_,rfl⟩
 have hB:qcD l=R:=by rw[<-hR];unfold qcD;rw[if_neg (by omega)]
 rw[hB]
 refine qy (σ:=NN) (fun q=>(.nd (qt l) (.nd .bot (.nd (.int 0) .nil .nil) .nil) (.nd (.int 0) (.nd (.int q.i) .nil .nil) .nil))) (fun q=>⟨H.objs,q.n⟩) (fun q=>l.length - q.i)
  (fun q=>H.next<=q.n/\q.i<=l.length/\qbI (l.drop q.i) q.i=R) ⟨0,H.next⟩ ⟨Nat.le_refl _,Nat.zero_le _,hR⟩ (by simp[FT.Le,Wk]) ⟨HWk.refl _,fun h=>h⟩ ?_
 rintro⟨i,n⟩ ⟨hn,hi,he⟩ hok
 simp only at hn hi he
 by_cases hlt:i<l.length
 ·rw[List.drop_eq_getElem_cons hlt]at he
  simp(disch:=omega)[hlt]
  refine(qrO l[i] (hc _ (ub hlt)).1).go fun n1 h1'=>?_
  cases hf:yy l[i]
  ·simp only[qbI,hf,if_true]at he
   simp(disch:=omega)
   exact qh hH (by simp[<-he])
  simp(disch:=omega)[hlt]
  refine(qrD l[i] (hc _ (ub hlt)).2 hf).go fun n2 h2'=>?_
  cases hs:qdQ l[i]
  ·simp[qbI,hf,hs]at he
   simp(disch:=omega)
   exact qh hH (by simp[<-he])
  simp[qbI,hf,hs]at he
  simp(disch:=omega)[qi (show i<2^62 by omega)]
  exact⟨⟨i+1,n2⟩,by dsimp only;omega,⟨by dsimp only;omega,by dsimp only;omega,he⟩,by simp[FT.Le,Wk],uf hH⟩
 ·obtain rfl:i=l.length:=by omega
  rw[List.drop_eq_nil_of_le (Nat.le_refl _)]at he
  simp only[qbI]at he
  simp(disch:=omega)
  exact qh hH (by simp[<-he])
end Go.Abs.Tz
namespace Go.Abs
open Go
theorem Inv.grown{G:qb}{w w':World}{H:qa}(hI:Inv G w H)(hg:w.grownBy w' none):Ext G w G w'/\Inv G w' H:=by
 have hb:∀k,k<w.heap.size->w'.heap[k]? = w.heap[k]?:=fun k hk=>hg.block k hk (by simp)
 have hlt:∀{k:Nat}{o:Obj},w.heap[k]? = some o->k<w.heap.size:=fun h=>(Array.getElem?_eq_some_iff.1 h).1
 have hx:Ext G w G w':=by
  refine⟨hg.os,hg.tape,hg.output,hg.size,rfl,fun k hk=>hb k (hI.hB k hk),Nat.le_refl _,fun _ _=>rfl,fun _ _=>rfl,fun b x hc=>⟨hc,fun v hv=>?_⟩,fun t _ m b c h=>⟨m,b,c,h,Nat.le_refl _,fun _=>⟨rfl,rfl⟩⟩,rfl⟩
  have:b<w.heap.size:=by
   rcases Nat.lt_or_ge b w.heap.size with h|h
   ·exact h
   ·rw[hI.free b x h]at hc;cases hc
  rw[qaw (hb b this)];exact hv
 refine⟨hx,Inv.step (W:=fun _ _=>False) (V:=fun _=>False) (fun _=>False) hI hx ⟨fun k vs el fz h=>⟨vs,by rw[hb k (hlt h)];exact h,rfl,fun _ _=>rfl⟩,fun k ob h _ _=>by rw[hb k (hlt h)];exact h⟩
  hI.n (fun b x h=>hI.free b x (Nat.le_trans hg.size h)) (fun b x h=>hI.old b x h) (fun _ _ _ h=>h) (fun _ _ _ _ _ h=>h) (fun _ _ _ h=>h) (fun _ _ _ _=>⟨fun h=>h,fun h=>h⟩) (fun _ _ _=>rfl) ?_ (fun _ _ h=>h.elim)⟩
 intro m es' hm he'
 obtain⟨_,hob⟩:=hI.objs m _ he'
 obtain⟨ents,clock,h1,_⟩:=hob
 refine⟨es',he',Nat.le_refl _,fun _ ents' clock' h'=>⟨ents,clock,h1,?_⟩⟩
 rw[hb _ (hlt h1),h1]at h'
 cases h'
 exact⟨rfl,fun _=>rfl⟩
theorem qxw{P:Program}{E:Env}{f:FuncId}{args:List LV}{H:qa}{v:LV}{S:Res->Prop}(he:qcZ P f)(hS:S (.ret v H))
  (h:∀(G:qb)(w:World)(us:Array Value),Inv G w H->uR G w args us->Calls P f us w fun e w'=>∃u,e=.returned u/\VR G w' v u/\w.grownBy w' none):qZ P E f args H S:=by
 refine⟨he,fun G w us hI _ ha=>(h G w us hI ha).mono fun e w' hw=>?_⟩
 obtain⟨u,rfl,hv,hg⟩:=hw
 obtain⟨hx,hI'⟩:=hI.grown hg
 exact⟨v,H,G,hS,hv,hI',hx⟩
theorem qbw.of_calls{P:Program}{E:Env}{F:Fns}(hF:∀f args H S,qZ P E f args H S->F.prim f args H S){f:FuncId}{args:List LV}{v:LV}(he:qcZ P f)
  (h:∀(G:qb)(w:World)(us:Array Value),uR G w args us->Calls P f us w fun e w'=>∃u,e=.returned u/\VR G w' v u/\w.grownBy w' none):qbw E F f args v:=by
 intro H kv kp hk hH
 exact .prim (hF _ _ _ _ (qxw (v:=v) he (.inl ⟨v,H,rfl,hH,hk H.next (Nat.le_refl _)⟩) fun G w us _ ha=>h G w us ha))
theorem qbw.of_callsE{P:Program}{E:Env}{F:Fns}(hF:∀f args H S,qZ P E f args H S->F.prim f args H S){f:FuncId}{args:List LV}{v:LV}(he:qcZ P f)
  (h:∀(G:qb)(w:World)(us:Array Value),yX E G w->uR G w args us->Calls P f us w fun e w'=>∃u,e=.returned u/\VR G w' v u/\w.grownBy w' none):qbw E F f args v:=by
 intro H kv kp hk hH
 refine .prim (hF _ _ _ _ ⟨he,fun G w us hI hE ha=>(h G w us hE ha).mono fun e w' hw=>?_⟩)
 obtain⟨u,rfl,hv,hg⟩:=hw
 obtain⟨hx,hI'⟩:=hI.grown hg
 exact⟨v,H,G,.inl ⟨v,H,rfl,hH,hk H.next (Nat.le_refl _)⟩,hv,hI',hx⟩
theorem qfw(w:World):w.grownBy w none:=⟨rfl,rfl,rfl,Nat.le_refl _,fun _ _ _=>rfl⟩
end Go.Abs
namespace Go.Abs
open Go
inductive Bel (n:Nat):LV->Prop
 |sc (v:Value):Bel n (.sc v)
 |bot:Bel n .bot
 |agg {cs:List LV}:(∀(i:Nat)(c:LV),cs[i]? = some c->Bel n c)->Bel n (.agg cs)
 |tup {cs:List LV}:(∀(i:Nat)(c:LV),cs[i]? = some c->Bel n c)->Bel n (.tup cs)
 |sl {es:List LV} {own:Own}:(∀(i:Nat)(e:LV)(j:Nat)(c:LV),es[i]? = some e->e.cells[j]? = some c->Bel n c)->(∀t,own=.tok t->t<n)->Bel n (.sl es own)
 |asl {o off len:Nat}:o<n->Bel n (.asl o off len)
 |ptr {o off:Nat}:o<n->Bel n (.ptr o off)
 |cptr {cs:List LV} {off:Nat}:(∀(j:Nat)(c:LV),cs[j]? = some c->Bel n c)->Bel n (.cptr cs off)
 |map {o:Nat}:o<n->Bel n (.map o)
 |fn {f:Fn} {a c:List LV}:qdu n f->(∀(i:Nat)(x:LV),a[i]? = some x->Bel n x)->(∀(i:Nat)(x:LV),c[i]? = some x->Bel n x)->Bel n (.fn f a c)
 |iface {t:TypeId} {x:LV}:Bel n x->Bel n (.iface t x)
theorem Bel.mono{n m:Nat}{x:LV}(h:Bel n x)(hm:n<=m):Bel m x:=by
 induction h with
 |sc v=>exact .sc v
 |bot=>exact .bot
 |agg _ ih=>exact .agg ih
 |tup _ ih=>exact .tup ih
 |sl _ ho ih=>exact .sl ih (fun t ht=>Nat.lt_of_lt_of_le (ho t ht) hm)
 |asl h=>exact .asl (Nat.lt_of_lt_of_le h hm)
 |ptr h=>exact .ptr (Nat.lt_of_lt_of_le h hm)
 |cptr _ ih=>exact .cptr ih
 |map h=>exact .map (Nat.lt_of_lt_of_le h hm)
 |fn hf _ _ ih1 ih2=>exact .fn (qoD hf hm) ih1 ih2
 |iface _ ih=>exact .iface ih
def qb.low(G:qb)(n:Nat):qb:=⟨G.B,n,G.loc,G.asz,G.tk,G.own,G.rc⟩
theorem vm.bel{G:qb}{own:Own}{base:Option Addr}{l c:Nat}(h:vm G own base l c):∀t,own=.tok t->t<G.n:=by
 rintro t rfl;exact h.1
theorem vm.low{G:qb}{n:Nat}{own:Own}{base:Option Addr}{l c:Nat}(h:vm G own base l c)(hb:∀t,own=.tok t->t<n):vm (G.low n) own base l c:=by
 cases own with
 |no=>exact trivial
 |full=>exact h
 |tok t=>exact⟨hb t rfl,h.2⟩
theorem VR.bel{G:qb}{w:World}{x:LV}{v:Value}(h:VR G w x v):Bel G.n x:=by
 induction h with
 |sc v=>exact .sc v
 |bot v=>exact .bot
 |agg _ _ _ ih=>exact .agg ih
 |tup _ _ ih=>exact .tup ih
 |sl _ _ _ _ ho ih=>exact .sl ih ho.bel
 |sln ho=>exact .sl (fun i e j c h=>by simp at h) ho.bel
 |sle a=>exact .sl (fun i e j c h=>by simp at h) (fun t h=>by cases h)
 |asl ho _ _=>exact .asl ho
 |ptr ho=>exact .ptr ho
 |cptr _ _ ih=>exact .cptr ih
 |map ho=>exact .map ho
 |fn hf _ _ _ _ ih1 ih2=>exact .fn hf ih1 ih2
 |iface _ ih=>exact .iface ih
theorem VR.low{G:qb}{w:World}{n:Nat}{x:LV}{v:Value}(h:VR G w x v):Bel n x->VR (G.low n) w x v:=by
 induction h with
 |sc v=>exact fun _=>.sc v
 |bot v=>exact fun _=>.bot v
 |agg hs _ h1 ih=>intro hb;cases hb with|agg hb=>exact .agg hs (fun i c hc=>ih i c hc (hb i c hc)) h1
 |tup hs _ ih=>intro hb;cases hb with|tup hb=>exact .tup hs (fun i c hc=>ih i c hc (hb i c hc))
 |sl hc hz hx _ ho ih=>intro hb;cases hb with|sl hb ho'=>exact .sl hc hz hx (fun i e j c h1 h2=>ih i e j c h1 h2 (hb i e j c h1 h2)) (ho.low ho')
 |sln ho=>intro hb;cases hb with|sl _ ho'=>exact .sln (ho.low ho')
 |sle a=>exact fun _=>.sle a
 |asl ho hl hc=>intro hb;cases hb with|asl hb=>exact .asl (G:=qb.low _ n) hb hl hc
 |ptr ho=>intro hb;cases hb with|ptr hb=>exact .ptr (G:=qb.low _ n) hb
 |cptr hx _ ih=>intro hb;cases hb with|cptr hb=>exact .cptr hx (fun j c h=>ih j c h (hb j c h))
 |map ho=>intro hb;cases hb with|map hb=>exact .map (G:=qb.low _ n) hb
 |fn hf h1 h2 _ _ ih1 ih2=>intro hb;cases hb with|fn hbf hb1 hb2=>exact .fn (G:=qb.low _ n) hbf h1 h2 (fun i x h=>ih1 i x h (hb1 i x h)) (fun i x h=>ih2 i x h (hb2 i x h))
 |iface _ ih=>intro hb;cases hb with|iface hb=>exact .iface (ih hb)
theorem yW.low{G G':qb}{w w':World}{H H':qa}{o:Nat}{ob:qc}(h0:yW G w H o ob)(h:yW G' w' H' o ob)(hobj:H'.objs=H.objs):yW (G'.low G.n) w' H o ob:=by
 have mapc:∀es:List (LV×LV),qaF G w o es->∀es',es'.Perm es->qaF G' w' o es'->qaF (G'.low G.n) w' o es':=by
  rintro es ⟨ents0,clock0,_,_,_,hsz0,k0,_⟩ es' hp ⟨ents,clock,h1,h2,h3,h4,h5,h6⟩
  refine⟨ents,clock,h1,h2,h3,h4,fun i kv e hi he=>?_,h6⟩
  obtain⟨v1,v2⟩:=h5 i kv e hi he
  obtain⟨j,hj⟩:=List.mem_iff_getElem?.1 (hp.mem_iff.1 (List.mem_iff_getElem?.2 ⟨i,hi⟩))
  have hjl:j<ents0.size:=by rw[hsz0];exact(List.getElem?_eq_some_iff.1 hj).1
  obtain⟨b1,b2⟩:=k0 j kv ents0[j] hj (Array.getElem?_eq_getElem hjl)
  exact⟨v1.low b1.bel,v2.low b2.bel⟩
 cases ob with
 |cells cs=>
  obtain⟨vs0,el0,fz0,_,_,_,_,_,k0⟩:=h0
  obtain⟨vs,el,fz,h1,h2,h3,h4,h5,h6⟩:=h
  exact⟨vs,el,fz,h1,h2,h3,h4,h5,fun i c hc=>⟨(h6 i c hc).1.low (k0 i c hc).1.bel,(h6 i c hc).2⟩⟩
 |arr sz cs=>
  obtain⟨vs0,el0,fz0,_,_,_,_,_,_,k0⟩:=h0
  obtain⟨vs,el,fz,h1,h2,h3,h3',h4,h5,h6⟩:=h
  exact⟨vs,el,fz,h1,h2,h3,h3',h4,h5,fun i c hc=>⟨(h6 i c hc).1.low (k0 i c hc).1.bel,(h6 i c hc).2⟩⟩
 |map es=>exact mapc es h0 es (List.Perm.refl _) h
 |um es=>
  obtain⟨es0,hp0,h0⟩:=h0
  obtain⟨es1,hp1,h1⟩:=h
  exact⟨es1,hp1,mapc es0 h0 es1 (hp1.trans hp0.symm) h1⟩
 |iter m left cur n=>
  obtain⟨_,_,k3⟩:=h0
  obtain⟨h1,h2,h3⟩:=h
  refine⟨h1,h2,?_⟩
  split at h3
  ·rename_i hm
   rw[if_pos hm];exact h3
  ·rename_i hm
   rw[if_neg hm]at k3 ⊢
   obtain⟨_,_,_,km,_⟩:=k3
   rw[hobj]at h3
   obtain⟨seen,stepped,q1,_,q3⟩:=h3
   exact⟨seen,stepped,q1,km,q3⟩
 |tok n sz=>exact h
 |bld tb te l=>exact h
 |dfr=>exact h
 |rcd busy fo ps k=>
  obtain⟨fn0,tmps0,df0,g1,g2,g3,g4,g5⟩:=h0
  obtain⟨fn,tmps,df,h1,h2,h3,h4,h5⟩:=h
  exact⟨fn,tmps,df,h1,h2,h3,h4,fun i x hi=>(h5 i x hi).low ((g5 i x hi).bel)⟩
theorem qZ.low{P:Program}{E:Env}{f:FuncId}{args:List LV}{H:qa}{v:LV}{S:Res->Prop}(h:qZ P E f args H fun r=>∃n,r=.ret v ⟨H.objs,n⟩)(hv:Bel 0 v)(hS:S (.ret v H)):qZ P E f args H S:=by
 refine⟨h.1,fun G w us hI hE ha=>(h.2 G w us hI hE ha).mono fun e w' hp=>?_⟩
 cases e with
 |outgrown=>exact hp.elim
 |panicked ch=>
  obtain⟨_,_,_,_,⟨n,hn⟩,_⟩:=hp
  cases hn
 |returned u=>
  obtain⟨v',H',G',⟨n,hn⟩,hV,hI',hx⟩:=hp
  cases hn
  refine⟨v,H,G'.low G.n,hS,hV.low (hv.mono (Nat.zero_le _)),⟨hI.n,hI'.hB,hI'.free,hI'.old,fun o x ho=>?_⟩,?_⟩
  ·obtain⟨h1,h2⟩:=hI.objs o x ho
   exact⟨h1,yW.low h2 (hI'.objs o x ho).2 rfl⟩
  ·exact⟨hx.os,hx.tape,hx.output,hx.size,hx.hB,hx.block,Nat.le_refl _,hx.loc,hx.asz,hx.cl,hx.tk,hx.rc⟩
def OBel(n:Nat):qc->Prop
 |.cells cs=>∀(i:Nat)(c:LV),cs[i]? = some c->Bel n c
 |.arr _ cs=>∀(i:Nat)(c:LV),cs[i]? = some c->Bel n c
 |.map es=>∀(i:Nat)(kv:LV×LV),es[i]? = some kv->Bel n kv.1/\Bel n kv.2
 |.um es=>∀(i:Nat)(kv:LV×LV),es[i]? = some kv->Bel n kv.1/\Bel n kv.2
 |.iter m _ _ _=>m<n
 |.tok _ _=>True
 |.bld _ _ _=>True
 |.rcd _ fo _ _=>∀(i:Nat)(x:LV),fo[i]? = some x->Bel n x
 |.dfr=>True
theorem yW.low2{G:qb}{w:World}{H H':qa}{n o:Nat}{ob:qc}(h:yW G w H o ob)(hb:OBel n ob)(hobj:H'.objs=H.objs):yW (G.low n) w H' o ob:=by
 have mapc:∀es:List (LV×LV),(∀(i:Nat)(kv:LV×LV),es[i]? = some kv->Bel n kv.1/\Bel n kv.2)->qaF G w o es->qaF (G.low n) w o es:=by
  rintro es hbs ⟨ents,clock,h1,h2,h3,h4,h5,h6⟩
  exact⟨ents,clock,h1,h2,h3,h4,fun i kv e hi he=>⟨(h5 i kv e hi he).1.low (hbs i kv hi).1,(h5 i kv e hi he).2.low (hbs i kv hi).2⟩,h6⟩
 cases ob with
 |cells cs=>
  obtain⟨vs,el,fz,h1,h2,h3,h4,h5,h6⟩:=h
  exact⟨vs,el,fz,h1,h2,h3,h4,h5,fun i c hc=>⟨(h6 i c hc).1.low (hb i c hc),(h6 i c hc).2⟩⟩
 |arr sz cs=>
  obtain⟨vs,el,fz,h1,h2,h3,h3',h4,h5,h6⟩:=h
  exact⟨vs,el,fz,h1,h2,h3,h3',h4,h5,fun i c hc=>⟨(h6 i c hc).1.low (hb i c hc),(h6 i c hc).2⟩⟩
 |map es=>exact mapc es hb h
 |um es=>
  obtain⟨es1,hp1,h1⟩:=h
  refine⟨es1,hp1,mapc es1 (fun i kv hi=>?_) h1⟩
  obtain⟨j,hj⟩:=List.mem_iff_getElem?.1 (hp1.mem_iff.1 (List.mem_iff_getElem?.2 ⟨i,hi⟩))
  exact hb j kv hj
 |iter m left cur k=>
  obtain⟨h1,h2,h3⟩:=h
  refine⟨h1,h2,?_⟩
  split at h3
  ·rename_i hm
   rw[if_pos hm];exact h3
  ·rename_i hm
   rw[if_neg hm,hobj]
   obtain⟨seen,stepped,q1,_,q3⟩:=h3
   exact⟨seen,stepped,q1,hb,q3⟩
 |tok n sz=>exact h
 |bld tb te l=>exact h
 |dfr=>exact h
 |rcd busy fo ps k=>
  obtain⟨fn,tmps,df,h1,h2,h3,h4,h5⟩:=h
  exact⟨fn,tmps,df,h1,h2,h3,h4,fun i x hi=>(h5 i x hi).low (hb i x hi)⟩
theorem qZ.low2{P:Program}{E:Env}{f:FuncId}{args:List LV}{H:qa}{v:LV}{ob:List (Nat×qc)}{n0:Nat}{S:Res->Prop}(h:qZ P E f args H fun r=>∃n,r=.ret v ⟨ob,n⟩)
  (hn:H.next<=n0) (hv:Bel n0 v) (ho:∀o x,look o ob=some x->look o H.objs=some x\/(o<n0/\OBel n0 x)) (hS:S (.ret v ⟨ob,n0⟩)):qZ P E f args H S:=by
 refine⟨h.1,fun G w us hI hE ha=>(h.2 G w us hI hE ha).mono fun e w' hp=>?_⟩
 cases e with
 |outgrown=>exact hp.elim
 |panicked ch=>
  obtain⟨_,_,_,_,⟨n,hn⟩,_⟩:=hp
  cases hn
 |returned u=>
  obtain⟨v',H',G',⟨n,hn'⟩,hV,hI',hx⟩:=hp
  cases hn'
  have hGn:G.n<=n0:=Nat.le_trans hI.n hn
  refine⟨v,⟨ob,n0⟩,G'.low n0,hS,hV.low hv,⟨Nat.le_refl _,hI'.hB,hI'.free,hI'.old,fun o x hl=>?_⟩,?_⟩
  ·have h2:=(hI'.objs o x hl).2
   rcases ho o x hl with h0|⟨h0,hb⟩
   ·obtain⟨h1,h3⟩:=hI.objs o x h0
    refine⟨Nat.lt_of_lt_of_le h1 hGn,h2.low2 ?_ rfl⟩
    cases x with
    |cells cs=>obtain⟨vs0,el0,fz0,_,_,_,_,_,k0⟩:=h3;exact fun i c hc=>(k0 i c hc).1.bel.mono hGn
    |arr sz cs=>obtain⟨vs0,el0,fz0,_,_,_,_,_,_,k0⟩:=h3;exact fun i c hc=>(k0 i c hc).1.bel.mono hGn
    |map es=>
     obtain⟨ents,clock,_,_,_,hsz,k0,_⟩:=h3
     intro i kv hi
     have hl:i<ents.size:=by rw[hsz];exact(List.getElem?_eq_some_iff.1 hi).1
     obtain⟨b1,b2⟩:=k0 i kv ents[i] hi (Array.getElem?_eq_getElem hl)
     exact⟨b1.bel.mono hGn,b2.bel.mono hGn⟩
    |um es=>
     obtain⟨es0,hp0,ents,clock,_,_,_,hsz,k0,_⟩:=h3
     intro i kv hi
     obtain⟨j,hj⟩:=List.mem_iff_getElem?.1 (hp0.symm.mem_iff.1 (List.mem_iff_getElem?.2 ⟨i,hi⟩))
     have hl:j<ents.size:=by rw[hsz];exact(List.getElem?_eq_some_iff.1 hj).1
     obtain⟨b1,b2⟩:=k0 j kv ents[j] hj (Array.getElem?_eq_getElem hl)
     exact⟨b1.bel.mono hGn,b2.bel.mono hGn⟩
    |iter m left cur k=>
     obtain⟨_,_,k3⟩:=h3
     split at k3
     ·rename_i hm
      show m<n0
      rw[hm];omega
     ·obtain⟨_,_,_,km,_⟩:=k3
      exact Nat.lt_of_lt_of_le km hGn
    |tok n sz=>exact trivial
    |bld tb te l=>exact trivial
    |dfr=>exact trivial
    |rcd busy fo ps k=>obtain⟨_,_,_,_,_,_,_,k0⟩:=h3;exact fun i x hi=>(k0 i x hi).bel.mono hGn
   ·exact⟨h0,h2.low2 hb rfl⟩
  ·exact⟨hx.os,hx.tape,hx.output,hx.size,hx.hB,hx.block,hGn,hx.loc,hx.asz,hx.cl,hx.tk,hx.rc⟩
def qhI(E:Env)(F:Fns)(f:FuncId)(args:List LV)(v:LV):Prop:=∀(H:qa)(kv kp:HP),kv v H->cP E F f args H kv kp
theorem qhI.of{P:Program}{E:Env}{F:Fns}(hmix:P.follows .mixedOrders=true)(hF:qeC P E F)(hprim:∀f args H S,qZ P E f args H S->F.prim f args H S){f:FuncId}{args:List LV}{v:LV}
  (h:qbw E F f args v) (hv:Bel 0 v):qhI E F f args v:=by
 intro H kv kp hk hH
 have h1:Out E F (.call f args H) fun r=>∃n,r=.ret v ⟨H.objs,n⟩:=by
  refine .mono (h H (fun u H'=>u=v/\∃n,H'=⟨H.objs,n⟩) (fun _ _=>False) (fun n _=>⟨rfl,n,rfl⟩) hH) fun r hr=>?_
  rcases hr with⟨u,H',rfl,_,rfl,n,rfl⟩|⟨u,H',rfl,_,hf⟩
  ·exact⟨n,rfl⟩
  ·exact hf.elim
 have h2:qZ P E f args H fun r=>∃n,r=.ret v ⟨H.objs,n⟩:=qbD hmix hF h1
 exact .prim (hprim _ _ _ _ (h2.low hv (.inl ⟨v,H,rfl,hH,hk⟩)))
theorem qZ.inv{P:Program}{E:Env}{f:FuncId}{args:List LV}{H:qa}{S T:Res->Prop}(h:qZ P E f args H T)
  (hr:∀v H' G' w',T (.ret v H')->Inv G' w' H'->∃H'',Inv G' w' H''/\S (.ret v H'')) (hp:∀v H',T (.pan v H')->S (.pan v H')):qZ P E f args H S:=by
 refine⟨h.1,fun G w us hI hE ha=>(h.2 G w us hI hE ha).mono fun e w' hq=>?_⟩
 cases e with
 |outgrown=>exact hq.elim
 |panicked ch=>
  obtain⟨v,u,H',G',hT,h1,h2,h3,h4⟩:=hq
  exact⟨v,u,H',G',hp _ _ hT,h1,h2,h3,h4⟩
 |returned u=>
  obtain⟨v,H',G',hT,hV,hI',hx⟩:=hq
  obtain⟨H'',h1,h2⟩:=hr v H' G' w' hT hI'
  exact⟨v,H'',G',h2,hV,h1,hx⟩
theorem qxz{E:Env}{F:Fns}{b:BFn}{f:FuncId}{args:List LV}{H:qa}{kv kp:HP}{o:Nat}{es:List (LV×LV)}(hf:F.fn f b)(nodrw:∀l,b.body≠.drw l)(hl:look o H.objs=some (.um es))
  (hno:∀i m l k n,look i H.objs=some (.iter m l k n)->m≠o)
  (h:H.Ok->∀es',es'.Perm es->fnP E F b args (H.put o (.map es')) (fun v H'=>∃H'',HWk H' H''/\(H'.Ok->H''.Ok)/\kv v H'') kp):cP E F f args H kv kp:=by
 intro hH
 have hn:args.length<=b.n:=(h hH es (List.Perm.refl _)).1
 have hb:Out E F (.code b.body (zz args) [] H) (XSP (qeo E b (fun v H'=>∃H'',HWk H' H''/\(H'.Ok->H''.Ok)/\kv v H'') kp)):=by
  refine .ofUm nodrw hl hno fun es' hp=>?_
  obtain⟨_,h⟩:=h hH es' hp
  obtain⟨t,h1,h2⟩:=qfO h
  have ht:t.get=zz args:=by
   funext j
   rw[h2 j]
   simp only[zz]
   by_cases hj:j<args.length
   ·rw[if_pos (by omega)];simp
   ·rw[if_neg (by omega)]
    have:args[j]? = none:=List.getElem?_eq_none (by omega)
    simp[List.getD_eq_getElem?_getD,this,FT.get_nil]
  have:=qbg b.body t (H.put o (.map es')) _ (qn.put hH) h1
  rwa [ht]at this
 refine .enter hf hn hb (fun fr df H' hT=>?_) (fun v fr df H' hT=>?_) (fun n fr df H' hT=>?_)
 ·have:∃(t':FT),fr=t'.get/\df=[]/\H'.Ok/\vp E b.res t' H' fun v=>∃H'',HWk H' H''/\(H'.Ok->H''.Ok)/\kv v H'':=by
   rcases hT with⟨e,t',H'',he,hok,hk⟩|⟨e,t',H'',he,hok,hk⟩<;>cases he
   ·exact⟨t',rfl,rfl,hok,hk⟩
   ·exact⟨t',rfl,rfl,hok,hk⟩
  obtain⟨t',rfl,rfl,hok,v,hv,H1,h3,h4,h5⟩:=this
  exact⟨rfl,v,v,H1,hv,.inl rfl,h3,.inl ⟨v,H1,rfl,h4 hok,h5⟩⟩
 ·obtain⟨e,t',H'',he,hok,hk⟩:=hT
  cases he
  exact⟨rfl,v,H',.inl rfl,⟨Nat.le_refl _,fun _ _ h=>h⟩,.inr ⟨v,H',rfl,hok,hk⟩⟩
 ·obtain⟨e,t',H'',he,hok,hk⟩:=hT
  cases he
  cases hk
end Go.Abs
namespace Go.Abs
open Go
theorem Inv.grownCl{G:qb}{w w':World}{H:qa}(hI:Inv G w H)(hg:w.grownBy w' none){g:Nat}(h1:w.heap.size<=g)(h2:g<w'.heap.size):
  ∃G',Ext G w G' w'/\Inv G' w' H/\∀x,G'.Cl g x:=by
 have hb:∀k,k<w.heap.size->w'.heap[k]? = w.heap[k]?:=fun k hk=>hg.block k hk (by simp)
 have hlt:∀{k:Nat}{o:Obj},w.heap[k]? = some o->k<w.heap.size:=fun h=>(Array.getElem?_eq_some_iff.1 h).1
 let G':qb:=⟨G.B,G.n,G.loc,G.asz,G.tk,fun b x=>if b=g then .cl else G.own b x,G.rc⟩
 have hne:∀{b x:Nat}{l:Lab},G.own b x=l->l≠.free->b≠g:=by
  intro b x l h hl e
  subst e
  rw[hI.free b x h1]at h
  exact hl h.symm
 have hx:Ext G w G' w':=by
  refine⟨hg.os,hg.tape,hg.output,hg.size,rfl,fun k hk=>hb k (hI.hB k hk),Nat.le_refl _,fun _ _=>rfl,fun _ _=>rfl,fun b x hc=>⟨?_,fun v hv=>?_⟩,fun t _ m b c h=>⟨m,b,c,h,Nat.le_refl _,fun _=>⟨rfl,rfl⟩⟩,rfl⟩
  ·show (if b=g then Lab.cl else G.own b x)=.cl
   rw[if_neg (hne hc (by simp))];exact hc
  ·have:b<w.heap.size:=by
    rcases Nat.lt_or_ge b w.heap.size with h|h
    ·exact h
    ·rw[hI.free b x h]at hc;cases hc
   rw[qaw (hb b this)];exact hv
 refine⟨G',hx,Inv.step (W:=fun _ _=>False) (V:=fun _=>False) (fun _=>False) hI hx ⟨fun k vs el fz h=>⟨vs,by rw[hb k (hlt h)];exact h,rfl,fun _ _=>rfl⟩,fun k ob h _ _=>by rw[hb k (hlt h)];exact h⟩
  hI.n (fun b x h=>?_) (fun b x h=>?_) (fun _ _ _ h=>h) (fun _ _ _ _ _ h=>h) (fun _ _ _ h=>h) (fun i k x _=>⟨fun h=>?_,fun h=>?_⟩) (fun _ _ _=>rfl) ?_ (fun _ _ h=>h.elim),fun x=>.inr (by show (if g=g then Lab.cl else G.own g x)=.cl;rw[if_pos rfl])⟩
 ·show (if b=g then Lab.cl else G.own b x)=.free
  rw[if_neg (by omega)];exact hI.free b x (Nat.le_trans hg.size h)
 ·show (if b=g then Lab.cl else G.own b x)=.free
  rw[if_neg (fun e=>by subst e;have:=hI.hB b h;omega)];exact hI.old b x h
 ·show (if k=g then Lab.cl else G.own k x)=_
  rw[if_neg (hne h (by simp))];exact h
 ·show (if k=g then Lab.cl else G.own k x)=_
  rw[if_neg (hne h (by simp))];exact h
 ·intro m es' hm he'
  obtain⟨_,hob⟩:=hI.objs m _ he'
  obtain⟨ents,clock,h1,_⟩:=hob
  refine⟨es',he',Nat.le_refl _,fun _ ents' clock' h'=>⟨ents,clock,h1,?_⟩⟩
  rw[hb _ (hlt h1),h1]at h'
  cases h'
  exact⟨rfl,fun _=>rfl⟩
theorem qpW{P:Program}{E:Env}{f:FuncId}{args:List LV}{H:qa}{zs:List Int}{S:Res->Prop}(he:qcZ P f)(hS:S (.ret (.sl (zs.map fun z=>.int z) .no) H))
  (h:∀(G:qb)(w:World)(us:Array Value),Inv G w H->uR G w args us->Calls P f us w fun e w'=>∃v,e=.returned v/\w.grownBy w' none /\
   ((v=.slice none 0 0/\zs=[])\/∃g cap,v=.slice (some (at_ g 0)) zs.length cap/\w.heap.size<=g/\g<w'.heap.size/\zs.length<=cap/\∀i z,zs[i]? = some z->w'.cell? (at_ g i)=some (.int .i64 z))):qZ P E f args H S:=by
 refine⟨he,fun G w us hI _ ha=>(h G w us hI ha).mono fun e w' hw=>?_⟩
 obtain⟨v,rfl,hg,hc⟩:=hw
 rcases hc with⟨rfl,rfl⟩|⟨g,cap,rfl,h1,h2,h3,h4⟩
 ·obtain⟨hx,hI'⟩:=hI.grown hg
  exact⟨_,H,G,hS,.sln trivial,hI',hx⟩
 ·obtain⟨G',hx,hI',hcl⟩:=hI.grownCl hg h1 h2
  have hl:(zs.map fun z=>LV.int z).length=zs.length:=List.length_map _
  have hget:∀(i:Nat)(e:LV),(zs.map fun z=>LV.int z)[i]? = some e->∃z,zs[i]? = some z/\e=.int z:=by
   intro i e h
   rw[List.getElem?_map]at h
   obtain⟨z,hz,rfl⟩:=Option.map_eq_some_iff.1 h
   exact⟨z,hz,rfl⟩
  refine⟨_,H,G',hS,?_,hI',hx⟩
  rw[<-hl]
  refine .sl (sz:=1) (xs:=fun i _=>.int .i64 (zs.getD i 0)) (by rw[hl];exact h3) (fun i e h=>?_) (fun i e j c h hj=>?_) (fun i e j c h hj=>?_) trivial
  ·obtain⟨z,_,rfl⟩:=hget i e h;rfl
  ·obtain⟨z,hz,rfl⟩:=hget i e h
   match j,hj with
   |0,_=>
    refine⟨hcl _,?_,rfl⟩
    rw[List.getD_eq_getElem?_getD,hz]
    simpa using h4 i z hz
   |j+1,hj=>simp[LV.cells]at hj
  ·obtain⟨z,hz,rfl⟩:=hget i e h
   match j,hj with
   |0,hj=>
    simp[LV.cells]at hj;subst hj
    rw[List.getD_eq_getElem?_getD,hz]
    exact .sc _
   |j+1,hj=>simp[LV.cells]at hj
end Go.Abs
namespace Go.Abs.Tz
open Go Go.Abs
section
variable{α:Type}(lt:α->α->Bool)
theorem qna{le:α->α->Prop}:∀{l m:List α},l.Perm m->l.Pairwise le->m.Pairwise le->(∀a∈l,∀b∈l,le a b->le b a->a=b)->l=m
 |[],m,hp,_,_,_=>hp.symm.eq_nil.symm
 |a::l,m,hp,hl,hm,ha=>by
  cases m with
  |nil=>exact absurd hp.eq_nil (by simp)
  |cons b m=>
   have hab:a=b:=by
    rcases List.mem_cons.1 (hp.mem_iff.1 (List.mem_cons_self)) with h|h
    ·exact h
    ·rcases List.mem_cons.1 (hp.mem_iff.2 (List.mem_cons_self (a:=b) (l:=m))) with h'|h'
     ·exact h'.symm
     ·exact ha a (List.mem_cons_self) b (List.mem_cons_of_mem _ h') ((List.pairwise_cons.1 hl).1 b h') ((List.pairwise_cons.1 hm).1 a h)
   subst hab
   rw[qna (List.perm_cons a |>.1 hp) (List.pairwise_cons.1 hl).2 (List.pairwise_cons.1 hm).2 fun x hx y hy=>ha x (List.mem_cons_of_mem _ hx) y (List.mem_cons_of_mem _ hy)]
end
end Go.Abs.Tz
namespace Go.Abs.Tz
open Go Go.Abs
section
variable{α:Type}{enc:α->List LV}{s:Nat}
theorem qel(he:∀x,(enc x).length=s):∀A:List α,(A.flatMap enc).length=A.length*s
 |[]=>by simp
 |a::A=>by rw[List.flatMap_cons,List.length_append,qel he A,he,List.length_cons,Nat.add_mul];omega
theorem qjF(he:∀x,(enc x).length=s):∀(A:List α)(j:Nat),(A.flatMap enc).drop (j*s)=(A.drop j).flatMap enc
 |A,0=>by simp
 |[],j+1=>by simp
 |a::A,j+1=>by
  rw[List.flatMap_cons,List.drop_succ_cons,<-qjF he A j]
  rw[show (j+1)*s=(enc a).length+j*s by rw[he,Nat.add_mul];omega,<-List.drop_drop,List.drop_left]
theorem qoF(he:∀x,(enc x).length=s):∀(A:List α)(j:Nat),(A.flatMap enc).take (j*s)=(A.take j).flatMap enc
 |A,0=>by simp
 |[],j+1=>by simp
 |a::A,j+1=>by
  rw[List.flatMap_cons,List.take_succ_cons,List.flatMap_cons,<-qoF he A j]
  rw[show (j+1)*s=(enc a).length+j*s by rw[he,Nat.add_mul];omega,List.take_length_add_append]
theorem qoG(he:∀x,(enc x).length=s){A:List α}{j:Nat}(hj:j<A.length):((A.flatMap enc).drop (j*s)).take s=enc A[j]:=by
 rw[qjF he,List.drop_eq_getElem_cons hj,List.flatMap_cons]
 have:s=(enc A[j]).length:=(he _).symm
 conv=>lhs;rw[this]
 rw[List.take_left]
theorem qwk(he:∀x,(enc x).length=s){A:List α}{j:Nat}(hj:j<A.length)(x:α):(A.flatMap enc).take (j*s)++enc x++(A.flatMap enc).drop (j*s+s)=(A.set j x).flatMap enc:=by
 rw[show j*s+s=(j+1)*s by rw[Nat.add_mul];omega,qjF he,qoF he,List.set_eq_take_append_cons_drop,if_pos hj,List.flatMap_append,List.flatMap_cons,List.append_assoc]
end
end Go.Abs.Tz
namespace Go.Abs.Tz
open Go Go.Abs Go.Proofs
set_option maxRecDepth 20000
set_option linter.unusedSimpArgs false
attribute [local simp ↓] yb ya jv ju gI ut zg zB jr up yP yQ yc ye yf yd jA jD jG jB jH jI jE jF jC jy jw jz jx yN yL yO yM g7 gZ g8 g6 yk yh yj uu zx jL zh z7 gL yS yT yo yq yp ym yn yz jO jT jW jS jU jV gy gx j5 j7 jb uZ jm jp u9 jh jl jk jj ji jf uV uW uX uY jn jd je uT jo jq ja jc jg uU gb j6 gu gC j8 gj gt gq gp gk gh j0 gw gf gg jX gA gD j9 gd gi jY gG gz jZ gF ge ga gc j3 gv jP jR jQ yu yx yt yv yw qp uL
attribute [local simp] faL fdL iaL ixL qL zb qV eqK eqL qR zo uO yr yK yA yC yE yG yI yJ yB yF yD yH zC LV.cells LV.whole qp uC uw jM stL zF zR uq qa.alloc gJ gH gK gY gW gV gU gT gS gQ gO gN gM qe ux
def uj(E:qq):List ByteArray:=E.map (·.1)
theorem wQ{a b:ByteArray}:eqBA a b=true↔a=b:=by
 constructor
 ·intro h
  unfold eqBA at h
  rw[ByteArray.toList_eq,ByteArray.toList_eq]at h
  have h1:=eq_of_beq h
  obtain⟨⟨x⟩⟩:=a
  obtain⟨⟨y⟩⟩:=b
  simp at h1
  rw[h1]
 ·rintro rfl;exact qbp _
theorem qfC{k:ByteArray}{v:Term}:∀{E:qq},(uj E).Nodup->(qS k E=some v↔(k,v)∈E)
 |[],_=>by simp[qS]
 |(j,u)::r,hn=>by
  simp only[uj,List.map_cons,List.nodup_cons]at hn
  have ih:=qfC (k:=k) (v:=v) (E:=r) hn.2
  simp only[qS]
  by_cases h:eqBA k j=true
  ·have e:=wQ.1 h;subst e
   rw[if_pos h]
   constructor
   ·intro h';cases h';exact .head _
   ·intro h'
    rcases List.mem_cons.1 h' with h'|h'
    ·cases h';rfl
    ·exact absurd (List.mem_map.2 ⟨_,h',rfl⟩) hn.1
  ·rw[if_neg h,ih]
   constructor
   ·exact fun h'=>.tail _ h'
   ·intro h'
    rcases List.mem_cons.1 h' with h'|h'
    ·cases h';exact absurd (qbp _) h
    ·exact h'
theorem qoV{k:ByteArray}{E F:qq}(hn:(uj E).Nodup)(hp:E.Perm F):qS k E=qS k F:=by
 have hf:(uj F).Nodup:=(hp.map _).nodup_iff.1 hn
 apply Option.ext
 intro v
 rw[qfC hn,qfC hf]
 exact hp.mem_iff
theorem qfB{k:ByteArray}:∀{E:qq},qS k E=none->k∉uj E
 |[],_=>by simp[uj]
 |(j,u)::r,h=>by
  simp only[qS]at h
  split at h
  ·cases h
  ·rename_i hj
   have:=qfB h
   simp only[uj,List.map_cons,List.mem_cons,not_or]
   exact⟨fun e=>hj (by subst e;exact qbp _),this⟩
theorem qip{k:ByteArray}{v:Term}:∀{E:qq},k∉uj E->qbd k v E=E++[(k,v)]
 |[],_=>rfl
 |(j,u)::r,h=>by
  simp only[uj,List.map_cons,List.mem_cons,not_or]at h
  simp only[qbd]
  rw[if_neg (fun e=>h.1 (wQ.1 e)),qip h.2]
  rfl
theorem qme{k:ByteArray}{v:Term}:∀{E:qq},qS k E=some v->qbd k v E=E
 |[],h=>by cases h
 |(j,u)::r,h=>by
  simp only[qS]at h
  split at h
  ·rename_i hj
   cases h
   simp only[qbd,hj,if_true]
  ·rename_i hj
   simp only[qbd,hj,if_false,qme h,Bool.false_eq_true]
theorem qhl{x y:Term}(h:eqT x y=true):x=y:=by
 simp only[eqT,Bool.and_eq_true,decide_eq_true_eq]at h
 obtain⟨h1,h2,h3⟩:=h
 cases x;cases y
 simp only at h1 h2 h3
 rw[h1,h2,wQ.1 h3]
def zA:qq->List Term->List Term->Option qq
 |E,[],_=>some E
 |_,_::_,[]=>none
 |E,p::ps,q::qs=>
  if p.kind=3 then
   match qS p.s E with
   |some old=>if eqT old q then zA E ps qs else none
   |none=>zA (E++[(p.s,q)]) ps qs
  else if eqT p q then zA E ps qs else none
theorem qhz:∀(ps qs:List Term)(E F:qq),(uj E).Nodup->E.Perm F->(zA E ps qs=none↔zA F ps qs=none)/\∀R,zA E ps qs=some R->(uj R).Nodup/\∃R',zA F ps qs=some R'/\R.Perm R'
 |[],qs,E,F,hn,hp=>by
  simp only[zA]
  exact⟨by simp,fun R h=>by cases h;exact⟨hn,F,rfl,hp⟩⟩
 |p::ps,[],E,F,hn,hp=>by
  simp only[zA]
  exact⟨by simp,fun R h=>by cases h⟩
 |p::ps,q::qs,E,F,hn,hp=>by
  simp only[zA,qoV (k:=p.s) hn hp]
  by_cases hk:p.kind=3
  ·simp only[if_pos hk]
   cases hf:qS p.s F with
   |none=>
    simp only
    have hne:p.s∉uj E:=qfB (by rw[qoV hn hp,hf])
    refine qhz ps qs _ _ ?_ (hp.append_right _)
    simp only[uj,List.map_append,List.map_cons,List.map_nil]
    exact List.nodup_append.2 ⟨hn,by simp,fun a ha b hb e=>by simp at hb;subst hb;subst e;exact hne ha⟩
   |some old=>
    simp only
    by_cases hq:eqT old q=true
    ·simp only[if_pos hq]
     exact qhz ps qs E F hn hp
    ·simp only[if_neg hq]
     exact⟨by simp,fun R h=>by cases h⟩
  ·simp only[if_neg hk]
   by_cases hq:eqT p q=true
   ·simp only[if_pos hq]
    exact qhz ps qs E F hn hp
   ·simp only[if_neg hq]
    exact⟨by simp,fun R h=>by cases h⟩
theorem qds:Tryz.prog.follows .mixedOrders=true:=by kernel_rfl
theorem qcl:qeC Tryz.prog E0 F0:=⟨fun f b h=>by
 simp only[F0,qj]at h
 obtain⟨fn,h1,h2⟩:=Option.bind_eq_some_iff.1 h
 split at h2
 ·cases h2
 ·rename_i hn
  exact⟨fn,h1,h2,by simpa using hn⟩,fun _ _ _ _ h=>h,fun _ _ _ _ h=>h⟩
theorem qg.x{f:FuncId}{args:List LV}{v:LV}(h:qg f args v)(hv:Bel 0 v){l:List (Nat×qc)}{m:Nat}{kv kp:HP}(hk:kv v ⟨l,m⟩):cP E0 F0 f args ⟨l,m⟩ kv kp:=
 qhI.of qds qcl (fun _ _ _ _ h=>h) h hv ⟨l,m⟩ kv kp hk
theorem qfM(a:Atom):Bel 0 (.agg [.str a.pred,.int a.args.length]):=.agg fun i c h=>by
 match i with
 |0=>simp at h;subst h;exact .sc _
 |1=>simp at h;subst h;exact .sc _
 |i+2=>simp at h
theorem qtW{α β:Type}(f:α->β){l m:List β}(h:l.Perm m):∀K:List α,m=K.map f->∃K':List α,K'.Perm K/\l=K'.map f:=by
 induction h with
 |nil=>intro K hK;exact⟨K,.refl _,hK⟩
 |cons x _ ih=>
  intro K hK
  cases K with
  |nil=>simp at hK
  |cons k K=>
   simp only[List.map_cons,List.cons.injEq]at hK
   obtain⟨K',h1,h2⟩:=ih K hK.2
   exact⟨k::K',h1.cons k,by rw[List.map_cons,<-h2,hK.1]⟩
 |swap x y l=>
  intro K hK
  match K,hK with
  |[],hK=>simp at hK
  |[_],hK=>simp at hK
  |a::b::K,hK=>
   simp only[List.map_cons,List.cons.injEq]at hK
   exact⟨b::a::K,.swap _ _ _,by simp[hK.1,hK.2.1,hK.2.2]⟩
 |trans _ _ ih1 ih2=>
  intro K hK
  obtain⟨K1,h1,h2⟩:=ih2 K hK
  obtain⟨K2,h3,h4⟩:=ih1 K1 h2
  exact⟨K2,h3.trans h1,h4⟩
def z1(K:qq)(p a:Atom):Option qq:=if eqBA p.pred a.pred&&decide (p.args.length=a.args.length) then zA K p.args a.args else none
theorem qmP{α:Type}(l:List α):(List.range l.length).filterMap (fun k=>l[k]?)=l:=by
 apply List.ext_getElem?
 intro i
 have:∀n,n<=l.length->(List.range n).filterMap (fun k=>l[k]?)=l.take n:=by
  intro n
  induction n with
  |zero=>intro _;rfl
  |succ n ih=>
   intro hn
   rw[List.range_succ,List.filterMap_append,ih (by omega),List.take_add_one]
   have:l[n]? = some l[n]:=List.getElem?_eq_getElem (by omega)
   simp[this]
 rw[this _ (Nat.le_refl _),List.take_length]
theorem qiN{α:Type}:∀(l:List α)(j:Nat)(k:α),l[j]? = some k->l.Perm (k::l.eraseIdx j)
 |[],_,_,h=>by simp at h
 |a::r,0,k,h=>by simp at h;subst h;exact .refl _
 |a::r,j+1,k,h=>by
  simp only[List.getElem?_cons_succ]at h
  exact((qiN r j k h).cons a).trans (.swap _ _ _)
theorem qve{base:List (Nat×qc)}{N n:Nat}{x y z:qc}(hB:qa.Ok ⟨base,N⟩)(hn:N+3<=n):ql ⟨(N+2,x)::base,N+3⟩ ⟨(N+2,x)::(N+1,y)::(N,z)::base,n⟩:=
 ⟨hn,fun i o h=>by
  simp only[look]at h ⊢
  split at h
  ·rename_i hi;rw[if_pos hi];exact h
  ·rename_i hi
   have:=hB.look h
   simp only at this
   rw[if_neg hi,if_neg (by omega),if_neg (by omega)]
   exact h⟩
structure NNIV where
 left:List Nat
 cur:Option Nat
 v:qq
 n:Nat
theorem qsM(p a:Atom)(hp:p.ok)(ha:a.ok)(H:qa)(o:Nat)(K:qq)(hl:look o H.objs=some (.um (qJ K)))(hno:∀i m l k n,look i H.objs=some (.iter m l k n)->m≠o)(hKn:(uj K).Nodup):
  cP E0 F0 159 [qd p,qd a,.map o] H (fun u H'=>∃K':qq,K'.Perm K/\((z1 K p a=none/\u=.sc (.map none)/\∃n,H'=⟨qx o (.map (qJ K')) H.objs,n⟩) \/
   (∃R R',z1 K p a=some R/\List.Perm R' R/\u=.map (H.next+2)/\∃n,H'=⟨(H.next+2,.map (qJ R'))::qx o (.map (qJ K')) H.objs,n⟩))) (fun _ _=>False):=by
 refine qxz c159 (fun l h=>by cases h) hl hno fun hH es' hperm=>⟨Nat.le_of_ble_eq_true rfl,?_⟩
 obtain⟨K',hK',rfl⟩:=qtW _ hperm K rfl
 have hn':(uj K').Nodup:=(hK'.map _).nodup_iff.2 hKn
 have hlp:=hp.2.1
 have hla:=ha.2.1
 have hon:o<H.next:=hH.look hl
 obtain⟨base,hbase⟩:∃base,qx o (.map (qJ K')) H.objs=base:=⟨_,rfl⟩
 have hlb:look o base=some (.map (qJ K')):=by rw[<-hbase];exact vI hl
 obtain⟨N,hN⟩:∃N,H.next=N:=⟨_,rfl⟩
 have hB:qa.Ok ⟨base,N⟩:=by rw[<-hbase,<-hN];exact qn.put hH
 have hput:H.put o (.map (qJ K'))=⟨base,N⟩:=by rw[<-hbase,<-hN];rfl
 rw[hput]
 rw[hN]at hon ⊢
 simp(disch:=omega)[b159]
 refine(qcx p).x (qfM p) ?_
 simp(disch:=omega)
 refine(qcx a).x (qfM a) ?_
 cases h1:eqBA p.pred a.pred
 ·simp(disch:=omega)[h1]
  exact⟨⟨base,N+2⟩,(uf hB).1,(uf hB).2,K',hK',by simp[z1,h1],N+2,by rw[hbase]⟩
 by_cases h2:p.args.length=a.args.length
 case neg=>
  have h2i:¬(p.args.length:Int)=(a.args.length:Int):=by omega
  simp(disch:=omega)[h1,h2,h2i]
  exact⟨⟨base,N+2⟩,(uf hB).1,(uf hB).2,K',hK',by simp[z1,h1,h2],N+2,by rw[hbase]⟩
 have h2i:(p.args.length:Int)=(a.args.length:Int):=by omega
 have hA0:z1 K p a=zA K p.args a.args:=by simp[z1,h1,h2]
 have hrg:∀(l:List (Nat×qc))(m:Nat),look o l=some (.map (qJ K'))->rgL ⟨l,m⟩ (.map o)=some (.ptr m 0,⟨(m,.iter o (List.range K'.length) none K'.length)::l,m+1⟩):=fun l m h=>by
  simp[rgL,h,qa.alloc]
 simp(disch:=omega)[h1,h2i]
 rw[hrg _ _ (by simp(disch:=omega)[qe,hlb])]
 simp(disch:=omega)
 refine qy (σ:=NNIV) (fun q=>(.nd .bot (.nd .bot (.nd (.ptr N 0) (.nd (.map (N+2)) .nil .nil) .nil) (.nd .bot .nil (.nd .bot (.nd (.ptr (N+3) 0) .nil .nil) .nil))) (.nd .bot (.nd (.ptr (N+1) 0) .nil .nil) .nil)))
  (fun q=>⟨(N+3,.iter o q.left q.cur K'.length)::(N+2,.map (qJ q.v))::(N+1,.cells [.str a.pred,qk a.args])::(N,.cells [.str p.pred,qk p.args])::base,q.n⟩) (fun q=>q.left.length)
  (fun q=>N+4<=q.n/\(q.v++q.left.filterMap (fun k=>K'[k]?)).Perm K') ⟨List.range K'.length,none,[],N+4⟩ ⟨by dsimp only;omega,by dsimp only;rw[qmP];exact .refl _⟩ (by simp[FT.Le,Wk]) ⟨HWk.refl _,fun h=>h⟩ ?_
 rintro⟨left,cur,V,n⟩ ⟨hn,hV⟩ hok
 dsimp only at hn hV
 have hVn:(uj (V++left.filterMap (fun k=>K'[k]?))).Nodup:=(hV.map _).nodup_iff.2 hn'
 simp(disch:=omega)
 by_cases hl0:left=[]
 case neg=>
  refine⟨N+3,o,left,cur,K'.length,rfl,by simp[qp],.inr ⟨hl0,qJ K',by simp(disch:=omega)[qe,hlb],by simp,fun j k e hj hk=>?_⟩⟩
  obtain⟨v,hv,rfl⟩:∃v,K'[k]? = some v/\e=(.str v.1,qW v.2):=by
   simp only[qJ,List.getElem?_map]at hk
   obtain⟨v,h1,h2⟩:=Option.map_eq_some_iff.1 hk
   exact⟨v,h1,h2.symm⟩
  have hjl:j<left.length:=(List.getElem?_eq_some_iff.1 hj).1
  have hje:left[j]=k:=(List.getElem?_eq_some_iff.1 hj).2
  have hpe:left.Perm (k::left.eraseIdx j):=qiN left j k hj
  have hfe:(left.filterMap (fun k=>K'[k]?)).Perm (v::(left.eraseIdx j).filterMap (fun k=>K'[k]?)):=by
   have:=hpe.filterMap (fun k=>K'[k]?)
   rwa [List.filterMap_cons_some hv]at this
  have hnew:v.1∉uj V:=by
   have h3:=((List.Perm.append_left V hfe).map Prod.fst).nodup_iff.1 hVn
   rw[List.map_append,List.map_cons]at h3
   intro hc
   exact(List.nodup_append.1 h3).2.2 _ hc _ (List.mem_cons_self) rfl
  simp(disch:=omega)[enL,hlb,hv]
  rw[qns (E:=V) (by simp(disch:=omega)[qe])]
  simp(disch:=omega)[qip hnew]
  have hx:qa.Ok ⟨(N+3,.iter o (left.eraseIdx j) (some k) K'.length)::(N+2,.map (qJ V++[(.str v.1,qW v.2)]))::(N+1,.cells [.str a.pred,qk a.args])::(N,.cells [.str p.pred,qk p.args])::base,N+4⟩:=⟨Nat.lt_succ_self _,Nat.lt_succ_self _,Nat.lt_succ_self _,Nat.lt_succ_self _,hB⟩
  refine⟨⟨left.eraseIdx j,some k,V++[v],n+1⟩,by dsimp only;rw[List.length_eraseIdx_of_lt hjl];omega,⟨by dsimp only;omega,?_⟩,by simp[FT.Le,Wk],?_⟩
  ·dsimp only
   rw[List.append_assoc]
   exact(List.Perm.append_left V hfe).symm.trans hV
  ·dsimp only
   rw[show qJ (V++[v])=qJ V++[(.str v.1,qW v.2)] from List.map_append]
   exact uf hx
 refine⟨N+3,o,left,cur,K'.length,rfl,by simp[qp],.inl ⟨hl0,.inr ⟨qJ K',by simp(disch:=omega)[qe,hlb],by simp⟩,?_⟩⟩
 subst hl0
 simp only[List.filterMap_nil,List.append_nil]at hV hVn
 have hVK:V.Perm K:=hV.trans hK'
 obtain⟨hp1,hp2⟩:=qhz p.args a.args V K hVn hVK
 obtain⟨A,hA⟩:∃A,zA V p.args a.args=A:=⟨_,rfl⟩
 rw[hA]at hp1 hp2
 simp(disch:=omega)
 have hHe:∀e:qq,qa.Ok ⟨(N+2,.map (qJ e))::(N+1,.cells [.str a.pred,qk a.args])::(N,.cells [.str p.pred,qk p.args])::base,N+3⟩:=fun _=>⟨Nat.lt_succ_self _,Nat.lt_succ_self _,Nat.lt_succ_self _,hB⟩
 refine qy (σ:=NNE) (fun q=>(.nd .bot (.nd .bot (.nd (.ptr N 0) (.nd (.map (N+2)) (.nd .bot (.nd (qk p.args) .nil .nil) .nil) .nil) .nil) (.nd .bot (.nd .bot (.nd .bot (.nd (.int q.i) .nil .nil) .nil) .nil) .nil)) (.nd .bot (.nd (.ptr (N+1) 0) (.nd .bot (.nd .bot (.nd (.int p.args.length) .nil .nil) .nil) .nil) .nil) .nil)))
  (fun q=>⟨(N+2,.map (qJ q.e))::(N+1,.cells [.str a.pred,qk a.args])::(N,.cells [.str p.pred,qk p.args])::base,q.n⟩) (fun q=>p.args.length - q.i)
  (fun q=>N+3<=q.n/\q.i<=p.args.length/\zA q.e (p.args.drop q.i) (a.args.drop q.i)=A) ⟨0,n,V⟩ ⟨by dsimp only;omega,Nat.zero_le _,hA⟩ (by simp[FT.Le,Wk])
  (zK (hHe V) (by first|exact ql.refl' _|(repeat (first|exact ql.refl (by first|omega|(dsimp only;omega))|refine ql.cons' (hHe V) (by first|omega|(dsimp only;omega)) (by first|omega|(dsimp only;omega)) ?_)))) ?_
 rintro⟨i,n,e⟩ ⟨hn,hi,he⟩ hok
 simp only at hn hi he
 by_cases hlt:i<p.args.length
 case neg=>
  rw[List.drop_eq_nil_of_le (by omega)]at he
  simp only[zA]at he
  obtain⟨R,hR1,hR2⟩:=(hp2 e he.symm).2
  have hc:qa.Ok ⟨(N+2,.map (qJ e))::base,N+3⟩:=⟨Nat.lt_succ_self _,qn.mono hB (show N<=N+2 by omega)⟩
  have hbk:=zK hc (qve (y:=.cells [.str a.pred,qk a.args]) (z:=.cells [.str p.pred,qk p.args]) hB hn)
  simp(disch:=omega)[hlt]
  exact⟨_,hbk.1,hbk.2,K',hK',R,by rw[hA0,hR1],e,hR2,n,by rw[hbase]⟩
 have hly:i<a.args.length:=by omega
 rw[List.drop_eq_getElem_cons hlt,List.drop_eq_getElem_cons hly]at he
 have hnone:none=A->z1 K p a=none:=fun h=>by rw[hA0];exact hp1.1 h.symm
 by_cases hk3:p.args[i].kind=3
 case neg=>
  by_cases hq:eqT p.args[i] a.args[i]=true
  case neg=>
   have hq':eqT p.args[i] a.args[i]=false:=by simpa using hq
   simp only[eqT]at hq'
   simp only[zA,if_neg hk3,if_neg hq]at he
   simp(disch:=omega)[hlt,hly,hk3,hq']
   have hx:ql ⟨base,N⟩ ⟨(n,.cells (zR p.args[i]))::(N+2,.map (qJ e))::(N+1,.cells [.str a.pred,qk a.args])::(N,.cells [.str p.pred,qk p.args])::base,n+1⟩:=(by first|exact ql.refl' _|(repeat (first|exact ql.refl (by first|omega|(dsimp only;omega))|refine ql.cons' hB (by first|omega|(dsimp only;omega)) (by first|omega|(dsimp only;omega)) ?_)))
   exact⟨⟨base,n+1⟩,(zK hB hx).1,(zK hB hx).2,K',hK',hnone he,n+1,by rw[hbase]⟩
  ·have hq':=hq
   simp only[eqT]at hq'
   simp only[zA,if_neg hk3,if_pos hq]at he
   simp(disch:=omega)[hlt,hly,hk3,hq',qi (show i<2^62 by omega)]
   exact⟨⟨i+1,n+1,e⟩,by dsimp only;omega,⟨by dsimp only;omega,by dsimp only;omega,he⟩,by simp[FT.Le,Wk],zK (hHe e) (by first|exact ql.refl' _|(repeat (first|exact ql.refl (by first|omega|(dsimp only;omega))|refine ql.cons' (hHe e) (by first|omega|(dsimp only;omega)) (by first|omega|(dsimp only;omega)) ?_)))⟩
 simp(disch:=omega)[hlt,hly,hk3]
 rw[qvh (E:=e) (by simp(disch:=omega)[qe])]
 have hmu:∀(l:List (Nat×qc))(m:Nat),look (N+2) l=some (.map (qJ e))->muL ⟨l,m⟩ (.pl 1) (.map (N+2)) (.str p.args[i].s) (qW a.args[i])=some (qa.put ⟨l,m⟩ (N+2) (.map (qJ (qbd p.args[i].s a.args[i] e)))):=fun l m h=>qns h _ _
 cases hf:qS p.args[i].s e with
 |none=>
  simp only[zA,if_pos hk3,hf]at he
  have hsb:=qip (v:=a.args[i]) (qfB hf)
  simp(disch:=omega)[hlt,hly,hk3]
  rw[hmu _ _ (by simp(disch:=omega)[qe]),hsb]
  simp(disch:=omega)[hlt,hly,hk3,qi (show i<2^62 by omega)]
  have hx:qa.Ok ⟨(N+2,.map (qJ e++[(.str p.args[i].s,qW a.args[i])]))::(N+1,.cells [.str a.pred,qk a.args])::(N,.cells [.str p.pred,qk p.args])::base,N+3⟩:=⟨Nat.lt_succ_self _,Nat.lt_succ_self _,Nat.lt_succ_self _,hB⟩
  refine⟨⟨i+1,n+2,e++[(p.args[i].s,a.args[i])]⟩,by dsimp only;omega,⟨by dsimp only;omega,by dsimp only;omega,he⟩,by simp[FT.Le,Wk],?_⟩
  dsimp only
  rw[show qJ (e++[(p.args[i].s,a.args[i])])=qJ e++[(.str p.args[i].s,qW a.args[i])] from List.map_append]
  exact uf hx
 |some old=>
  by_cases hq:eqT old a.args[i]=true
  case neg=>
   have hq':eqT old a.args[i]=false:=by simpa using hq
   simp only[eqT]at hq'
   simp only[zA,if_pos hk3,hf,if_neg hq]at he
   simp(disch:=omega)[hlt,hly,hk3,hq']
   have hx:∀x y,ql ⟨base,N⟩ ⟨(n+1,x)::(n,y)::(N+2,.map (qJ e))::(N+1,.cells [.str a.pred,qk a.args])::(N,.cells [.str p.pred,qk p.args])::base,n+1+1⟩:=fun x y=>(by first|exact ql.refl' _|(repeat (first|exact ql.refl (by first|omega|(dsimp only;omega))|refine ql.cons' hB (by first|omega|(dsimp only;omega)) (by first|omega|(dsimp only;omega)) ?_)))
   exact⟨⟨base,n+1+1⟩,(zK hB (hx _ _)).1,(zK hB (hx _ _)).2,K',hK',hnone he,n+1+1,by rw[hbase]⟩
  ·have hq':=hq
   simp only[eqT]at hq'
   simp only[zA,if_pos hk3,hf,if_pos hq]at he
   have hold:qbd p.args[i].s a.args[i] e=e:=qme (by rw[hf,qhl hq])
   simp(disch:=omega)[hlt,hly,hk3,hq']
   rw[hmu _ _ (by simp(disch:=omega)[qe]),hold]
   simp(disch:=omega)[hlt,hly,hk3,qi (show i<2^62 by omega)]
   exact⟨⟨i+1,n+2,e⟩,by dsimp only;omega,⟨by dsimp only;omega,by dsimp only;omega,he⟩,by simp[FT.Le,Wk],zK (hHe e) (by first|exact ql.refl' _|(repeat (first|exact ql.refl (by first|omega|(dsimp only;omega))|refine ql.cons' (hHe e) (by first|omega|(dsimp only;omega)) (by first|omega|(dsimp only;omega)) ?_)))⟩
structure qE where
 pred:ByteArray
 args:Int
 level:Int
abbrev zH(x:qE):List LV:=[.str x.pred,.int x.args,.int x.level]
abbrev qD(x:qE):LV:=.agg (zH x)
theorem qdf(x:qE):(zH x).length=3:=rfl
abbrev qX(A:List qE):qc:=.arr 3 (A.flatMap zH)
structure NNA where
 i:Nat
 a:List qE
theorem qqI{j k:Nat}(hk:j=k+1)(h:k<2^62):IntKind.wrap .i64 ((j:Int) - 1)=(k:Int):=by
 rw[ui (by omega) (by omega)];omega
end Go.Abs.Tz
namespace Go.Abs.Tz
open Go Go.Abs Go.Proofs
theorem qkh:∀x:List UInt8,Op.bytesLess x x=false
 |[]=>rfl
 |a::x=>by
  have:¬a<a:=by rw[UInt8.lt_iff_toNat_lt];omega
  simp[Op.bytesLess,qkh x,this]
theorem qkf:∀x y:List UInt8,Op.bytesLess x y=false->Op.bytesLess y x=false->x=y
 |[],[],_,_=>rfl
 |[],_::_,h,_=>by simp[Op.bytesLess]at h
 |_::_,[],_,h=>by simp[Op.bytesLess]at h
 |a::x,b::y,h,k=>by
  simp only[Op.bytesLess,Bool.or_eq_false_iff,decide_eq_false_iff_not,Bool.and_eq_false_iff,beq_eq_false_iff_ne]at h k
  have e:a=b:=by
   apply UInt8.toNat_inj.1
   have h1:=h.1
   have k1:=k.1
   rw[UInt8.lt_iff_toNat_lt]at h1 k1
   omega
  subst e
  have h2:Op.bytesLess x y=false:=by rcases h.2 with h|h;exact absurd rfl h;exact h
  have k2:Op.bytesLess y x=false:=by rcases k.2 with h|h;exact absurd rfl h;exact h
  rw[qkf x y h2 k2]
theorem qkg:∀x y z:List UInt8,Op.bytesLess x y=true->Op.bytesLess y z=true->Op.bytesLess x z=true
 |_,[],_,h,_=>by simp[Op.bytesLess]at h
 |_,_::_,[],_,k=>by simp[Op.bytesLess]at k
 |[],_::_,_::_,_,_=>rfl
 |a::x,b::y,c::z,h,k=>by
  simp only[Op.bytesLess,Bool.or_eq_true,decide_eq_true_iff,Bool.and_eq_true,beq_iff_eq]at h k ⊢
  rcases h with h|⟨rfl,h⟩
  ·rcases k with k|⟨rfl,k⟩
   ·left;rw[UInt8.lt_iff_toNat_lt]at h k ⊢;omega
   ·exact .inl h
  ·rcases k with k|⟨rfl,k⟩
   ·exact .inl k
   ·exact .inr ⟨rfl,qkg x y z h k⟩
def vK(x y:qE):Prop:=lessB x.pred y.pred=true\/(x.pred=y.pred/\x.args<y.args)
theorem qjl(a b:ByteArray):lessB a b=Op.bytesLess a.toList b.toList:=rfl
theorem toList_inj{a b:ByteArray}(h:a.toList=b.toList):a=b:=by
 rw[ByteArray.toList_eq,ByteArray.toList_eq]at h
 obtain⟨⟨x⟩⟩:=a
 obtain⟨⟨y⟩⟩:=b
 simp at h
 rw[h]
theorem qvu{x y:qE}(h:¬vK x y)(k:¬vK y x):x.pred=y.pred/\x.args=y.args:=by
 have e:x.pred=y.pred:=by
  refine toList_inj (qkf _ _ ?_ ?_)
  ·simpa [vK,qjl] using fun e=>h (.inl e)
  ·simpa [vK,qjl] using fun e=>k (.inl e)
 refine⟨e,?_⟩
 have h1:¬x.args<y.args:=fun h'=>h (.inr ⟨e,h'⟩)
 have h2:¬y.args<x.args:=fun h'=>k (.inr ⟨e.symm,h'⟩)
 omega
theorem qvt{x y z:qE}(h:vK x y)(k:vK y z):vK x z:=by
 rcases h with h|⟨h1,h2⟩
 ·rcases k with k|⟨k1,_⟩
  ·exact .inl (qkg _ _ _ h k)
  ·exact .inl (k1▸h)
 ·rcases k with k|⟨k1,k2⟩
  ·exact .inl (h1▸k)
  ·exact .inr ⟨h1.trans k1,by omega⟩
end Go.Abs.Tz
namespace Go.Abs.Tz
open Go Go.Abs Go.Proofs
theorem qwD{a b:Term}(h:a=b):eqT a b=true:=by
 subst h
 simp[eqT,wQ]
theorem qhb{v:ByteArray}{S:List ByteArray}:wq v S=true↔v∈S:=by
 unfold wq
 rw[List.any_eq_true]
 exact⟨fun⟨x,h1,h2⟩=>by rw[wQ.1 h2];exact h1,fun h=>⟨v,h,wQ.2 rfl⟩⟩
theorem quV{v k:ByteArray}{S:List ByteArray}:v∈qbt k S↔v∈S\/v=k:=by
 unfold qbt
 split
 ·rename_i h
  have:=qhb.1 h
  exact⟨.inl,fun h=>h.elim id fun e=>e▸this⟩
 ·rw[List.mem_append,List.mem_singleton]
def qcp(ts:List Term)(v:ByteArray):Prop:=∃t∈ts,t.kind=3/\t.s=v
theorem qec{v:ByteArray}:∀{ts:List Term}{S:List ByteArray},v∈vz ts S↔v∈S\/qcp ts v
 |[],S=>by simp[vz,qcp]
 |t::ts,S=>by
  have ih:=qec (v:=v) (ts:=ts) (S:=qfP t S)
  simp only[vz]
  rw[ih]
  unfold qfP qcp
  by_cases hk:t.kind=3
  ·rw[if_pos hk,quV]
   constructor
   ·rintro((h|h)|⟨u,h1,h2⟩)
    ·exact .inl h
    ·exact .inr ⟨t,List.mem_cons_self,hk,h.symm⟩
    ·exact .inr ⟨u,List.mem_cons_of_mem _ h1,h2⟩
   ·rintro(h|⟨u,h1,h2,h3⟩)
    ·exact .inl (.inl h)
    ·rcases List.mem_cons.1 h1 with rfl|h1
     ·exact .inl (.inr h3.symm)
     ·exact .inr ⟨u,h1,h2,h3⟩
  ·rw[if_neg hk]
   constructor
   ·rintro(h|⟨u,h1,h2⟩)
    ·exact .inl h
    ·exact .inr ⟨u,List.mem_cons_of_mem _ h1,h2⟩
   ·rintro(h|⟨u,h1,h2,h3⟩)
    ·exact .inl h
    ·rcases List.mem_cons.1 h1 with rfl|h1
     ·exact absurd h2 hk
     ·exact .inr ⟨u,h1,h2,h3⟩
theorem qgR{v:ByteArray}:∀{b:List Lit}{q:List ByteArray×List ByteArray},v∈(wL b q).1↔v∈q.1\/∃x∈b,x.kind=1/\qcp x.atom.args v
 |[],q=>by simp[wL]
 |x::b,q=>by
  have ih:=qgR (v:=v) (b:=b) (q:=qbK x q)
  simp only[wL]
  rw[ih]
  have e:v∈(qbK x q).1↔v∈q.1\/(x.kind=1/\qcp x.atom.args v):=by
   unfold qbK
   by_cases h1:x.kind=1
   ·rw[if_pos h1];dsimp only;rw[qec]
    exact⟨fun h=>h.imp id fun h=>⟨h1,h⟩,fun h=>h.imp id fun h=>h.2⟩
   ·rw[if_neg h1]
    have:∀a b:List ByteArray×List ByteArray,(if x.kind=2 then (q.1,a.1) else (q.1,b.1)).1=q.1:=fun _ _=>by split<;>rfl
    split<;>exact⟨.inl,fun h=>h.elim id fun h=>absurd h.1 h1⟩
  rw[e]
  constructor
  ·rintro((h|h)|⟨y,h1,h2⟩)
   ·exact .inl h
   ·exact .inr ⟨x,List.mem_cons_self,h⟩
   ·exact .inr ⟨y,List.mem_cons_of_mem _ h1,h2⟩
  ·rintro(h|⟨y,h1,h2⟩)
   ·exact .inl (.inl h)
   ·rcases List.mem_cons.1 h1 with rfl|h1
    ·exact .inl (.inr h2)
    ·exact .inr ⟨y,h1,h2⟩
theorem qfo{v:ByteArray}:∀{b:List Lit}{q:List ByteArray×List ByteArray},v∈(wL b q).2↔v∈q.2\/∃x∈b,¬x.kind=1/\qcp (if x.kind=2 then x.atom.args else [x.a,x.b]) v
 |[],q=>by simp[wL]
 |x::b,q=>by
  have ih:=qfo (v:=v) (b:=b) (q:=qbK x q)
  simp only[wL]
  rw[ih]
  have e:v∈(qbK x q).2↔v∈q.2\/(¬x.kind=1/\qcp (if x.kind=2 then x.atom.args else [x.a,x.b]) v):=by
   unfold qbK
   by_cases h1:x.kind=1
   ·rw[if_pos h1]
    exact⟨.inl,fun h=>h.elim id fun h=>absurd h1 h.1⟩
   ·rw[if_neg h1]
    by_cases h2:x.kind=2
    ·rw[if_pos h2,if_pos h2];dsimp only;rw[qec]
     exact⟨fun h=>h.imp id fun h=>⟨h1,h⟩,fun h=>h.imp id fun h=>h.2⟩
    ·rw[if_neg h2,if_neg h2];dsimp only;rw[qec]
     exact⟨fun h=>h.imp id fun h=>⟨h1,h⟩,fun h=>h.imp id fun h=>h.2⟩
  rw[e]
  constructor
  ·rintro((h|h)|⟨y,h1,h2⟩)
   ·exact .inl h
   ·exact .inr ⟨x,List.mem_cons_self,h⟩
   ·exact .inr ⟨y,List.mem_cons_of_mem _ h1,h2⟩
  ·rintro(h|⟨y,h1,h2⟩)
   ·exact .inl (.inl h)
   ·rcases List.mem_cons.1 h1 with rfl|h1
    ·exact .inl (.inr h2)
    ·exact .inr ⟨y,h1,h2⟩
theorem qkI{t:Term}(h:qF t=true)(hk:t.kind=3):t.n=0:=by
 unfold qF at h
 rw[if_neg (by omega),if_neg (by omega),if_pos hk]at h
 simp only[Bool.and_eq_true,decide_eq_true_eq]at h
 exact h.1
theorem qkB{t:Term}(h:qbz t=true):t.kind=0:=by
 unfold qbz at h
 simp only[Bool.and_eq_true,decide_eq_true_eq]at h
 exact h.1
theorem qjg{x:Lit}(h:zD x=true):((x.kind=1\/x.kind=2)->x.atom.args.all qF=true/\x.a.kind=0/\x.b.kind=0)/\(¬(x.kind=1\/x.kind=2)->qF x.a=true/\qF x.b=true):=by
 unfold zD at h
 refine⟨fun hk=>?_,fun hk=>?_⟩
 ·rw[if_pos hk]at h
  simp only[Bool.and_eq_true]at h
  exact⟨(qai h.1).2,qkB h.2.1,qkB h.2.2⟩
 ·rw[if_neg hk]at h
  split at h
  ·simp only[Bool.and_eq_true]at h;exact⟨h.1,h.2.1⟩
  ·cases h
theorem qtn{c:qf}(h:yy c=true):qdQ c=qbe c:=by
 obtain⟨h1,h2,h3⟩:=wT h
 have hb:∀(t:Term),t.kind=3->qF t=true->(qay c t=true↔∃x∈c.body,x.kind=1/\qcp x.atom.args t.s):=by
  intro t hk ht
  unfold qay
  rw[if_pos hk,List.any_eq_true]
  constructor
  ·rintro⟨x,hx,hy⟩
   simp only[Bool.and_eq_true,decide_eq_true_eq,List.any_eq_true]at hy
   obtain⟨hy1,u,hu,he⟩:=hy
   rw[qhl he]at hu
   exact⟨x,hx,hy1,t,hu,hk,rfl⟩
  ·rintro⟨x,hx,hy,u,hu,hu3,hus⟩
   refine⟨x,hx,?_⟩
   simp only[Bool.and_eq_true,decide_eq_true_eq,List.any_eq_true]
   refine⟨hy,u,hu,qwD ?_⟩
   have hua:=List.all_eq_true.1 ((qjg (h3 x hx)).1 (.inl hy)).1 u hu
   obtain⟨k,n,s⟩:=u
   obtain⟨k',n',s'⟩:=t
   have e1:=qkI hua hu3
   have e2:=qkI ht hk
   simp only at hk hu3 hus e1 e2
   subst hk;subst hu3;subst hus;subst e1;subst e2
   rfl
 have hterms:∀t∈qdP c,t.kind=3->qF t=true:=by
  intro t ht hk
  rcases List.mem_append.1 ht with ht|ht
  ·exact List.all_eq_true.1 (qai h1).2 t ht
  ·obtain⟨x,hx,ht⟩:=List.mem_flatMap.1 ht
   obtain⟨g1,g2⟩:=qjg (h3 x hx)
   unfold qaN at ht
   by_cases h12:x.kind=1\/x.kind=2
   ·obtain⟨g3,g4,g5⟩:=g1 h12
    rcases List.mem_append.1 ht with ht|ht
    ·split at ht
     ·exact List.all_eq_true.1 g3 t ht
     ·cases ht
    ·simp only[List.mem_cons,List.not_mem_nil,or_false]at ht
     rcases ht with rfl|rfl<;>omega
   ·obtain⟨g3,g4⟩:=g2 h12
    rw[if_neg fun e=>h12 (.inr e)]at ht
    simp only[List.nil_append,List.mem_cons,List.not_mem_nil,or_false]at ht
    rcases ht with rfl|rfl
    ·exact g3
    ·exact g4
 have hask:∀v,v∈(wL c.body ([],vz c.head.args [])).2↔qcp (qdP c) v:=by
  intro v
  rw[qfo]
  dsimp only
  rw[qec]
  constructor
  ·rintro((h|⟨t,ht,hv⟩)|⟨x,hx,hk,t,ht,hv⟩)
   ·cases h
   ·exact⟨t,List.mem_append_left _ ht,hv⟩
   ·refine⟨t,List.mem_append_right _ (List.mem_flatMap.2 ⟨x,hx,?_⟩),hv⟩
    unfold qaN
    by_cases h2:x.kind=2
    ·rw[if_pos h2]at ht ⊢;exact List.mem_append_left _ ht
    ·rw[if_neg h2]at ht;exact List.mem_append_right _ ht
  ·rintro⟨t,ht,hv⟩
   rcases List.mem_append.1 ht with ht|ht
   ·exact .inl (.inr ⟨t,ht,hv⟩)
   ·obtain⟨x,hx,ht⟩:=List.mem_flatMap.1 ht
    obtain⟨g1,g2⟩:=qjg (h3 x hx)
    unfold qaN at ht
    by_cases h12:x.kind=1\/x.kind=2
    ·obtain⟨g3,g4,g5⟩:=g1 h12
     rcases List.mem_append.1 ht with ht|ht
     ·split at ht
      ·rename_i h2
       exact .inr ⟨x,hx,by omega,t,by rw[if_pos h2];exact ht,hv⟩
      ·cases ht
     ·simp only[List.mem_cons,List.not_mem_nil,or_false]at ht
      rcases ht with rfl|rfl<;>omega
    ·rw[if_neg fun e=>h12 (.inr e),List.nil_append]at ht
     exact .inr ⟨x,hx,fun e=>h12 (.inl e),t,by rw[if_neg fun e=>h12 (.inr e)];exact ht,hv⟩
 rw[Bool.eq_iff_iff]
 unfold qdQ qbe
 rw[List.all_eq_true,List.all_eq_true]
 constructor
 ·intro hs v hv
  obtain⟨t,ht,hk,rfl⟩:=(hask v).1 hv
  rw[qhb,qgR]
  exact .inr ((hb t hk (hterms t ht hk)).1 (hs t ht))
 ·intro hs t ht
  by_cases hk:t.kind=3
  ·rw[hb t hk (hterms t ht hk)]
   have:=hs t.s ((hask t.s).2 ⟨t,ht,hk,rfl⟩)
   rw[qhb,qgR]at this
   exact this.resolve_left (by simp)
  ·unfold qay;rw[if_neg hk]
theorem qjW(l:List qf):qcD l=qA l:=by
 have go:∀(l:List qf)(i:Nat),qbI l i=wa l i:=by
  intro l
  induction l with
  |nil=>intro i;rfl
  |cons c l ih=>
   intro i
   simp only[qbI,wa,ih]
   by_cases hf:yy c=false
   ·rw[if_pos hf,if_pos hf]
   ·rw[if_neg hf,if_neg hf,qtn (by simpa using hf)]
 unfold qcD qA
 rw[go]
end Go.Abs.Tz
namespace Go.Abs.Tz
section
variable{K:Type}[DecidableEq K]
abbrev wI(K:Type):=K×K×Nat
def qaJ(f:K->Nat)(e:wI K):K->Nat:=fun k=>if k=e.1 then max (f k) (f e.2.1+e.2.2) else f k
def vt(E:List (wI K))(f:K->Nat):K->Nat:=E.foldl qaJ f
def yV(E:List (wI K))(g:K->Nat):Prop:=∀e∈E,g e.2.1+e.2.2<=g e.1
theorem qkT(f:K->Nat)(e:wI K)(k:K):f k<=qaJ f e k:=by
 unfold qaJ;split<;>omega
theorem qnc:∀(E:List (wI K))(f:K->Nat)(k:K),f k<=vt E f k
 |[],_,_=>Nat.le_refl _
 |e::E,f,k=>Nat.le_trans (qkT f e k) (qnc E (qaJ f e) k)
theorem qdm:∀{E:List (wI K)}{f g:K->Nat},yV E g->(∀k,f k<=g k)->∀k,vt E f k<=g k
 |[],_,_,_,h,k=>h k
 |e::E,f,g,hs,h,k=>by
  refine qdm (E:=E) (fun e' he=>hs e' (List.mem_cons_of_mem _ he)) (fun k=>?_) k
  have h1:=hs e List.mem_cons_self
  have h2:=h e.2.1
  have h3:=h k
  unfold qaJ
  split
  ·rename_i hk;subst hk;omega
  ·exact h3
theorem qiR:∀{E:List (wI K)}{f:K->Nat}{e:wI K},e∈E->f e.2.1+e.2.2<=vt E f e.1
 |a::E,f,e,h=>by
  rcases List.mem_cons.1 h with rfl|h
  ·refine Nat.le_trans ?_ (qnc E (qaJ f e) e.1)
   unfold qaJ;rw[if_pos rfl];omega
  ·have:=qiR (f:=qaJ f a) h
   have h2:=qkT f a e.2.1
   show _<=vt E (qaJ f a) e.1
   omega
theorem qti{E:List (wI K)}{f:K->Nat}(h:∀e∈E,vt E f e.1=f e.1):yV E f:=fun e he=>by rw[<-h e he];exact qiR he
def vn(V:List K)(f:K->Nat):Nat:=(V.map f).sum
omit [DecidableEq K] in
theorem qlN{V:List K}{f g:K->Nat}(h:∀k∈V,f k<=g k):vn V f<=vn V g:=by
 induction V with
 |nil=>exact Nat.le_refl _
 |cons a V ih=>
  have h1:=h a List.mem_cons_self
  have h2:=ih fun k hk=>h k (List.mem_cons_of_mem _ hk)
  simp only[vn,List.map_cons,List.sum_cons]at h2 ⊢
  omega
omit [DecidableEq K] in
theorem qgj{V:List K}{f g:K->Nat}(h:∀k∈V,f k<=g k){v:K}(hv:v∈V)(hlt:f v<g v):vn V f<vn V g:=by
 induction V with
 |nil=>cases hv
 |cons a V ih=>
  have h1:=h a List.mem_cons_self
  have h2:=qlN (V:=V) fun k hk=>h k (List.mem_cons_of_mem _ hk)
  simp only[vn,List.map_cons,List.sum_cons]at h2 ⊢
  rcases List.mem_cons.1 hv with rfl|hv
  ·omega
  ·have h3:=ih (fun k hk=>h k (List.mem_cons_of_mem _ hk)) hv
   simp only[vn]at h3
   omega
omit [DecidableEq K] in
theorem qjm{E:List (wI K)}(V:List K){g:K->Nat}(hg:yV E g):∃F,yV E F/\∀g',yV E g'->vn V F<=vn V g':=by
 obtain⟨n,hn⟩:∃n,vn V g=n:=⟨_,rfl⟩
 induction n using Nat.strongRecOn generalizing g with
 |_ n ih=>
  by_cases h:∃g',yV E g'/\vn V g'<n
  ·obtain⟨g',h1,h2⟩:=h
   exact ih _ h2 h1 rfl
  ·refine⟨g,hg,fun g' h1=>?_⟩
   rcases Nat.lt_or_ge (vn V g') n with h2|h2
   ·exact absurd ⟨g',h1,h2⟩ h
   ·omega
theorem qtX{E:List (wI K)}{V:List K}{F f:K->Nat}(hF:yV E F)(hmin:∀g',yV E g'->vn V F<=vn V g')(hV:∀e∈E,e.1∈V/\e.2.1∈V)(hf:∀k,f k<=F k)
  {v:K} (hv:v∈V) (hne:f v≠F v):∃u∈V,f u≠F u/\vt E f u=F u:=by
 have hall:∃e∈E,f e.1≠F e.1/\f e.2.1=F e.2.1/\F e.2.1+e.2.2=F e.1:=by
  apply Classical.byContradiction
  intro hno
  have hs:yV E fun k=>if f k=F k then F k else F k - 1:=by
   intro e he
   have h1:=hF e he
   have h2:=hf e.1
   show (if f e.2.1=F e.2.1 then F e.2.1 else F e.2.1 - 1)+e.2.2<=if f e.1=F e.1 then F e.1 else F e.1 - 1
   by_cases ha:f e.1=F e.1
   ·rw[if_pos ha]
    split<;>omega
   ·rw[if_neg ha]
    by_cases hb:f e.2.1=F e.2.1
    ·rw[if_pos hb]
     have:F e.2.1+e.2.2≠F e.1:=fun hq=>hno ⟨e,he,ha,hb,hq⟩
     omega
    ·rw[if_neg hb]
     have:=hf e.2.1
     omega
  have h1:=hmin _ hs
  have h2:=qgj (V:=V) (f:=fun k=>if f k=F k then F k else F k - 1) (g:=F) (fun k _=>by split<;>omega) hv (by
   have:=hf v
   rw[if_neg hne];omega)
  omega
 obtain⟨e,he,h1,h2,h3⟩:=hall
 refine⟨e.1,(hV e he).1,h1,?_⟩
 have h4:=qiR (f:=f) he
 have h5:=qdm hF hf e.1
 omega
omit [DecidableEq K] in
theorem qwq{V:List K}{p q:K->Bool}(h:∀k∈V,q k=true->p k=true){u:K}(hu:u∈V)(hp:p u=true)(hq:q u=false):(V.filter q).length<(V.filter p).length:=by
 have hle:∀W:List K,(∀k∈W,q k=true->p k=true)->(W.filter q).length<=(W.filter p).length:=by
  intro W
  induction W with
  |nil=>intro _;exact Nat.le_refl _
  |cons a W ih=>
   intro hW
   have h1:=ih fun k hk=>hW k (List.mem_cons_of_mem _ hk)
   have h2:=hW a List.mem_cons_self
   simp only[List.filter_cons]
   cases hqa:q a<;>cases hpa:p a<;>simp_all
   omega
 induction V with
 |nil=>cases hu
 |cons a V ih=>
  have h2:=h a List.mem_cons_self
  have h3:=hle V fun k hk=>h k (List.mem_cons_of_mem _ hk)
  simp only[List.filter_cons]
  rcases List.mem_cons.1 hu with rfl|hu
  ·simp[hp,hq];omega
  ·have h1:=ih (fun k hk=>h k (List.mem_cons_of_mem _ hk)) hu
   cases hqa:q a<;>cases hpa:p a<;>simp_all
   omega
omit [DecidableEq K] in
theorem qgT{E:List (wI K)}{V:List K}{F:K->Nat}(hF:yV E F)(hmin:∀g',yV E g'->vn V F<=vn V g')(hV:∀e∈E,e.1∈V/\e.2.1∈V)(hw:∀e∈E,e.2.2<=1){v:K}(hv:v∈V):F v<V.length:=by
 have gap:∀m,(∃v∈V,F v=m+1)->∃v∈V,F v=m:=by
  rintro m ⟨v,hv,hm⟩
  apply Classical.byContradiction
  intro hno
  have hs:yV E fun k=>if m<F k then F k - 1 else F k:=by
   intro e he
   have h1:=hF e he
   have hw1:=hw e he
   have hb:F e.2.1≠m:=fun hq=>hno ⟨_,(hV e he).2,hq⟩
   show (if m<F e.2.1 then F e.2.1 - 1 else F e.2.1)+e.2.2<=if m<F e.1 then F e.1 - 1 else F e.1
   split<;>split<;>omega
  have h1:=hmin _ hs
  have h2:=qgj (V:=V) (f:=fun k=>if m<F k then F k - 1 else F k) (g:=F) (fun k _=>by split<;>omega) hv (by rw[if_pos (by omega)];omega)
  omega
 have down:∀j m,(∃v∈V,F v=m+j)->∃v∈V,F v=m:=by
  intro j
  induction j with
  |zero=>exact fun m h=>h
  |succ j ih=>exact fun m h=>ih m (gap (m+j) h)
 have all:∀m,m<=F v->m∈V.map F:=fun m hm=>by
  obtain⟨u,hu,he⟩:=down (F v - m) m ⟨v,hv,by omega⟩
  exact List.mem_map.2 ⟨u,hu,he⟩
 have cover:∀(n:Nat)(L:List Nat),(∀m,m<n->m∈L)->n<=L.length:=by
  intro n
  induction n with
  |zero=>exact fun _ _=>Nat.zero_le _
  |succ n ih=>
   intro L hL
   have hn:=hL n (Nat.lt_succ_self _)
   have h1:=ih (L.erase n) fun m hm=>(List.mem_erase_of_ne (by omega)).2 (hL m (by omega))
   have h2:=List.length_erase_of_mem hn
   have h3:=List.length_pos_of_mem hn
   omega
 have:=cover (F v+1) (V.map F) fun m hm=>all m (by omega)
 rw[List.length_map]at this
 omega
end
end Go.Abs.Tz
