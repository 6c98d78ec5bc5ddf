/- Part of the proof that for every row of clauses, every atom and every source the law CustomTexts returns true. Conditions: none. -/
import Derived.Tactics
import Derived.TacticsIn
import Derived.OrdersIn
import Derived.Laws.Cells
import Derived.Laws.StructEq
import Derived.Laws.IdiomCopy
import Derived.Laws.Append
import Derived.Laws.NewFold
set_option linter.unusedVariables false
set_option linter.unusedSimpArgs false
set_option linter.unusedSectionVars false
namespace Go.Abs
open Go
inductive Own where
 |no|full|tok (t:Nat)
inductive LV where
 |sc (v:Value)
 |agg (cs:List LV)
 |tup (cs:List LV)
 |sl (es:List LV) (own:Own)
 |asl (o off len:Nat)
 |ptr (o off:Nat)
 |cptr (cs:List LV) (off:Nat)
 |map (o:Nat)
 |fn (f:Fn) (first cap:List LV)
 |iface (t:TypeId) (v:LV)
 |bot
def LV.cells:LV->List LV
 |.agg cs=>cs
 |v=>[v]
def LV.whole:LV->Bool
 |.agg _=>true
 |.bot=>false
 |.tup _=>false
 |.sc v=>v.oneCell'
 |_=>true
abbrev LV.int(n:Int):LV:=.sc (.int .i64 n)
abbrev LV.bool(b:Bool):LV:=.sc (.bool b)
abbrev LV.str(s:ByteArray):LV:=.sc (.string s)
inductive LObj where
 |cells (cs:List LV)
 |arr (sz:Nat) (cs:List LV)
 |map (es:List (LV×LV))
 |um (es:List (LV×LV))
 |iter (m:Nat) (left:List Nat) (cur:Option Nat) (n:Nat)
 |tok (n sz:Nat)
 |bld (tb te:TypeId) (l:List UInt8)
 |rcd (busy:Bool) (fo:List LV) (ps:List Nat) (k:Nat)
 |dfr
 |lft (j:Option Nat)
structure LHeap where
 objs:List (Nat×LObj)
 next:Nat
def look(i:Nat):List (Nat×LObj)->Option LObj
 |[]=>none
 |(j,o)::r=>if i=j then some o else look i r
def putO(i:Nat)(o:LObj):List (Nat×LObj)->List (Nat×LObj)
 |[]=>[]
 |(j,x)::r=>if i=j then (j,o)::r else (j,x)::putO i o r
def LHeap.alloc(H:LHeap)(o:LObj):LHeap:=⟨(H.next,o)::H.objs,H.next+1⟩
def LHeap.put(H:LHeap)(i:Nat)(o:LObj):LHeap:=⟨putO i o H.objs,H.next⟩
def delO(i:Nat):List (Nat×LObj)->List (Nat×LObj)
 |[]=>[]
 |(j,x)::r=>if i=j then delO i r else (j,x)::delO i r
def LHeap.del(H:LHeap)(i:Nat):LHeap:=⟨delO i H.objs,H.next⟩
def delsO(L:List Nat):List (Nat×LObj)->List (Nat×LObj)
 |[]=>[]
 |(j,x)::r=>if L.contains j then delsO L r else (j,x)::delsO L r
def LHeap.dels(H:LHeap)(L:List Nat):LHeap:=⟨delsO L H.objs,H.next⟩
def mkEl:List LV->LV
 |[.agg cs]=>.agg [.agg cs]
 |[c]=>c
 |l=>.agg l
def chunks(sz:Nat):Nat->List LV->List LV
 |0,_=>[]
 |n+1,cs=>mkEl (cs.take sz)::chunks sz n (cs.drop sz)
def frzA(H:LHeap)(L:List Nat)(o off len:Nat):LV:=
 if L.contains o then match look o H.objs with
  |some (.arr sz cs)=>if (off+len)*sz<=cs.length then .sl (chunks sz len (cs.drop (off*sz))) .no else .bot
  |_=>.bot
 else .asl o off len
mutual
def frzV(H:LHeap)(L:List Nat):LV->LV
 |.agg cs=>.agg (frzL H L cs)
 |.tup cs=>.tup (frzL H L cs)
 |.sl es own=>.sl (frzL H L es) own
 |.cptr cs k=>.cptr (frzL H L cs) k
 |.fn f a b=>.fn f (frzL H L a) (frzL H L b)
 |.iface t v=>.iface t (frzV H L v)
 |.sc v=>.sc v
 |.asl a b c=>frzA H L a b c
 |.ptr a b=>.ptr a b
 |.map a=>.map a
 |.bot=>.bot
def frzL(H:LHeap)(L:List Nat):List LV->List LV
 |[]=>[]
 |v::r=>frzV H L v::frzL H L r
end
abbrev Fr:=Nat->LV
def upd(fr:Fr)(d:Nat)(v:LV):Fr:=fun k=>if k=d then v else fr k
inductive BO where
 |t (n:Nat)
 |c (v:LV)
 |g (n:Nat)
inductive EqK where
 |pl (k:Nat)|st (ks:List Nat)|mp|fn|ifc|sn
inductive BOp where
 |eq (neg:Bool) (k:EqK) (x y:BO)
 |mv (x:BO)
 |pk (c a b:BO)
 |bn (op:BinOp) (x y:BO)
 |nt (x:BO)
 |ld (n:Option Nat) (x:BO)
 |fa (off:Nat) (x:BO)
 |fd (off:Nat) (n:Option Nat) (x:BO)
 |ia (sz:Nat) (x i:BO)
 |ix (n:Option Nat) (x i:BO)
 |ip (sz n:Nat) (x i:BO)
 |ln (k:Nat) (x:BO)
 |sr (k sz:Nat) (x:BO) (l h:Option BO)
 |cv (k:IntKind) (x:BO)
 |cs (x:BO)
 |mi (t:TypeId) (x:BO)
 |mf (f:Fn) (first cap:List BO)
 |xt (i:Nat) (x:BO)
 |bs (sz:Nat) (ps:List BO)
 |bd (zero:List LV) (ps:List (Nat×Nat×BO))
 |nc (x:BO)
 |mn (mx:Bool) (x y:BO)
 |lk (k:EqK) (ok:Bool) (zero x i:BO)
 |ta (t:TypeId) (zero:BO) (x:BO)
 |al (zero:List LV)
 |bx (x:BO)
 |st (n:Nat) (a x:BO)
 |ap (sz:Nat) (s x:BO)
 |mk
 |nb (tb te:TypeId)
 |mu (e:EqK) (m k v:BO)
 |ms (zero:List LV) (n:BO)
 |rg (x:BO)
 |nx (x:BO)
 |en (x:BO)
 |cf (f:FuncId) (args:List BO)
 |cl (x:BO) (args:List BO)
 |pn (x:BO)
 |df (x:BO) (args:List BO)
 |rc
 |bad
structure BI where
 d:Option Nat
 g:Option (Nat×Bool)
 op:BOp
inductive BCode where
 |skip
 |ops (l:List BI)
 |drw (l:List (BI×List BI))
 |seq (a b:BCode)
 |cond (c:BO) (a b:BCode)
 |blk (id:Nat) (c:BCode)
 |loop (c:BCode)
 |rf (f:BO) (params:List Nat) (assign body:BCode)
 |exit (id:Nat)
 |ret
 |bad
inductive BRes where
 |t (k:Nat)
 |c (k:Nat) (n:Option Nat)
structure BFn where
 body:BCode
 n:Nat
 res:List BRes
structure Env where
 P:Program
 glob:Nat->LV
 rc:Nat->Code×Code:=fun _=>(.skip,.skip)
 fix:List (Nat×(Array Value->Prop)):=[]
def Env.ev(E:Env)(fr:Fr):BO->LV
 |.t n=>fr n
 |.c v=>v
 |.g n=>E.glob n
def eqB:Nat->LV->LV->Option Bool
 |0,.sc (.int k a),.sc (.int k' b)=>if k=k' then some (a==b) else none
 |1,.sc (.string a),.sc (.string b)=>some (a.toList==b.toList)
 |2,.sc (.bool a),.sc (.bool b)=>some (a==b)
 |_,_,_=>none
def eqL:List Nat->List LV->List LV->Option Bool
 |[],[],[]=>some true
 |k::ks,a::as,b::bs=>match eqB k a b,eqL ks as bs with
  |some x,some y=>some (x&&y)
  |_,_=>none
 |_,_,_=>none
def eqK:EqK->LV->LV->Option Bool
 |.pl k,x,y=>eqB k x y
 |.st ks,.agg xs,.agg ys=>eqL ks xs ys
 |.mp,.map _,.sc (.map none)=>some false
 |.mp,.sc (.map none),.map _=>some false
 |.mp,.sc (.map none),.sc (.map none)=>some true
 |.fn,.fn _ _ _,.sc .nilFunc=>some false
 |.fn,.sc .nilFunc,.fn _ _ _=>some false
 |.ifc,.iface _ _,.sc .nilIface=>some false
 |.ifc,.sc .nilIface,.iface _ _=>some false
 |.ifc,.sc .nilIface,.sc .nilIface=>some true
 |.sn,.sl (_::_) _,.sl [] .full=>some false
 |_,_,_=>none
def binL(op:BinOp)(x y:LV):Option LV:=
 match x,y with
 |.sc (.int k a),.sc (.int k' b)=>
  if k=k' then
   match op with
   |.add=>some (.sc (.int k (k.wrap (a+b))))
   |.sub=>some (.sc (.int k (k.wrap (a - b))))
   |.mul=>some (.sc (.int k (k.wrap (a*b))))
   |.quo=>if b=0 then none else some (.sc (.int k (k.wrap (a.tdiv b))))
   |.rem=>if b=0 then none else some (.sc (.int k (a.tmod b)))
   |.lss=>some (.bool (a<b))
   |.leq=>some (.bool (a<=b))
   |.gtr=>some (.bool (a > b))
   |.geq=>some (.bool (a ≥ b))
   |_=>none
  else none
 |.sc (.string a),.sc (.string b)=>
  match op with
  |.add=>if a.size+b.size<=2^40 then some (.str (a++b)) else none
  |.lss=>some (.bool (Op.bytesLess a.toList b.toList))
  |.gtr=>some (.bool !(Op.bytesLess a.toList b.toList||a.toList==b.toList))
  |.leq=>some (.bool (Op.bytesLess a.toList b.toList||a.toList==b.toList))
  |.geq=>some (.bool !(Op.bytesLess a.toList b.toList))
  |_=>none
 |_,_=>none
def partL(cs:List LV)(off:Nat):Option Nat->Option LV
 |some n=>if off+n<=cs.length then some (.agg ((cs.drop off).take n)) else none
 |none=>cs[off]?
def loadL(H:LHeap)(n:Option Nat):LV->Option LV
 |.ptr o off=>match look o H.objs with
  |some (.cells cs)=>partL cs off n
  |some (.arr _ cs)=>partL cs off n
  |_=>none
 |.cptr cs off=>partL cs off n
 |_=>none
def natOf:LV->Option Nat
 |.sc (.int _ n)=>if 0<=n then some n.toNat else none
 |_=>none
def Own.cut:Own->Own
 |.full=>.full
 |_=>.no
def sliceL(k sz:Nat)(x:LV)(l h:Nat):Option LV:=
 match k,x with
 |0,.sc (.string s)=>if l<=h/\h<=s.size then some (.str (s.extract l h)) else none
 |1,.sl es own=>if l<=h/\h<=es.length/\(es.all fun e=>e.cells.length==sz) then
   some (.sl ((es.drop l).take (h - l)) (if l=0/\h=es.length then own else if h=es.length then own.cut else .no)) else none
 |1,.asl o off len=>if l=0/\h<=len then some (.asl o off h) else none
 |3,.sl [.sc (.int .u8 n)] _=>some (.str ⟨#[UInt8.ofNat n.toNat]⟩)
 |_,_=>none
def lenL(H:LHeap):Nat->LV->Option Nat
 |1,.sl es _=>some es.length
 |3,.sl es _=>some es.length
 |1,.asl _ _ n=>some n
 |0,.sc (.string s)=>some s.size
 |2,.sc (.map none)=>some 0
 |2,.map o=>match look o H.objs with
  |some (.map es)=>some es.length
  |some (.um es)=>some es.length
  |_=>none
 |_,_=>none
def fillL:List LV->List (Nat×Nat×LV)->Option (List LV)
 |cs,[]=>some cs
 |cs,(off,n,v)::r=>
  if v.cells.length=n/\v.whole/\off+n<=cs.length then fillL (cs.take off++v.cells++cs.drop (off+n)) r else none
def findL(e:EqK)(k:LV):List (LV×LV)->Option (Option LV)
 |[]=>some none
 |(j,v)::r=>match eqK e k j with
  |some true=>some (some v)
  |some false=>findL e k r
  |none=>none
def findU(e:EqK)(k:LV):List (LV×LV)->Option (Option LV)
 |[]=>some none
 |(j,v)::r=>match eqK e k j,findU e k r with
  |some true,some none=>some (some v)
  |some false,some x=>some x
  |_,_=>none
def setL(e:EqK)(k v:LV):List (LV×LV)->Option (List (LV×LV))
 |[]=>some [(k,v)]
 |(j,u)::r=>match eqK e k j with
  |some true=>some ((j,v)::r)
  |some false=>(setL e k v r).map ((j,u)::·)
  |none=>none
def optNat(fr:Fr)(ev:Fr->BO->LV)(dflt:Nat):Option BO->Option Nat
 |none=>some dflt
 |some x=>natOf (ev fr x)
def valB(E:Env)(fr:Fr)(H:LHeap):BOp->Option LV
 |.mv x=>some (E.ev fr x)
 |.pk c a b=>match E.ev fr c with
  |.sc (.bool t)=>some (if t then E.ev fr a else E.ev fr b)
  |_=>none
 |.eq neg k x y=>(eqK k (E.ev fr x) (E.ev fr y)).map fun b=>.bool (b != neg)
 |.bn op x y=>binL op (E.ev fr x) (E.ev fr y)
 |.nt x=>match E.ev fr x with
  |.sc (.bool t)=>some (.bool !t)
  |_=>none
 |.ld n x=>loadL H n (E.ev fr x)
 |.fa off x=>match E.ev fr x with
  |.ptr o k=>some (.ptr o (k+off))
  |.cptr cs k=>some (.cptr cs (k+off))
  |_=>none
 |.fd off n x=>match E.ev fr x with
  |.agg cs=>partL cs off n
  |_=>none
 |.ia sz x i=>match E.ev fr x,natOf (E.ev fr i) with
  |.sl es _,some n=>match es[n]? with
   |some e=>if e.cells.length=sz then some (.cptr e.cells 0) else none
   |none=>none
  |.asl o off len,some n=>match look o H.objs with
   |some (.arr s _)=>if n<len/\s=sz then some (.ptr o ((off+n)*sz)) else none
   |_=>none
  |_,_=>none
 |.ix m x i=>match E.ev fr x,natOf (E.ev fr i),m with
  |.sc (.string s),some n,none=>(s.data[n]?).map fun b=>.sc (.int .u8 b.toNat)
  |.agg cs,some n,some m=>if n<m then cs[n]? else none
  |_,_,_=>none
 |.ip sz m x i=>match E.ev fr x,natOf (E.ev fr i) with
  |.ptr o k,some n=>if n<m then some (.ptr o (k+n*sz)) else none
  |.cptr cs k,some n=>if n<m then some (.cptr cs (k+n*sz)) else none
  |_,_=>none
 |.ln k x=>(lenL H k (E.ev fr x)).map fun(n:Nat)=>LV.int (n:Int)
 |.sr k sz x l h=>match lenL H k (E.ev fr x) with
  |some n=>match optNat fr E.ev 0 l,optNat fr E.ev n h with
   |some a,some b=>sliceL k sz (E.ev fr x) a b
   |_,_=>none
  |none=>none
 |.cv k x=>match E.ev fr x with
  |.sc (.int _ n)=>some (.sc (.int k (k.wrap n)))
  |_=>none
 |.cs x=>match E.ev fr x with
  |.sc (.string s)=>some (.str s)
  |_=>none
 |.mi t x=>some (.iface t (E.ev fr x))
 |.mf f a b=>some (.fn f (a.map (E.ev fr)) (b.map (E.ev fr)))
 |.xt i x=>match E.ev fr x with
  |.tup vs=>vs[i]?
  |_=>none
 |.bs sz ps=>if ps.all fun p=>(E.ev fr p).cells.length==sz&&(E.ev fr p).whole then some (.sl (ps.map (E.ev fr)) .full) else none
 |.bd zero ps=>(fillL zero (ps.map fun p=>(p.1,p.2.1,E.ev fr p.2.2))).map .agg
 |.nc x=>match E.ev fr x with
  |.ptr o k=>some (.ptr o k)
  |.cptr cs k=>some (.cptr cs k)
  |_=>none
 |.mn mx x y=>match E.ev fr x,E.ev fr y with
  |.sc (.int k a),.sc (.int k' b)=>if k=k' then some (.sc (.int k (if mx then (if b > a then b else a) else (if b<a then b else a)))) else none
  |_,_=>none
 |.lk e ok zero x i=>if (eqK e (E.ev fr i) (E.ev fr i)).isSome then match E.ev fr x with
  |.sc (.map none)=>some (if ok then .tup [E.ev fr zero,.bool false] else E.ev fr zero)
  |.map o=>match look o H.objs with
   |some (.map es)=>match findL e (E.ev fr i) es with
    |some (some v)=>some (if ok then .tup [v,.bool true] else v)
    |some none=>some (if ok then .tup [E.ev fr zero,.bool false] else E.ev fr zero)
    |none=>none
   |some (.um es)=>match findU e (E.ev fr i) es with
    |some (some v)=>some (if ok then .tup [v,.bool true] else v)
    |some none=>some (if ok then .tup [E.ev fr zero,.bool false] else E.ev fr zero)
    |none=>none
   |_=>none
  |_=>none
  else none
 |.ta t zero x=>match E.ev fr x with
  |.iface u v=>some (if u=t then .tup [v,.bool true] else .tup [E.ev fr zero,.bool false])
  |.sc .nilIface=>some (.tup [E.ev fr zero,.bool false])
  |_=>none
 |.en x=>match E.ev fr x with
  |.ptr o 0=>match look o H.objs with
   |some (.iter m _ (some i) n)=>match look m H.objs with
    |some (.map es)=>if es.length=n then (es[i]?).map fun kv=>.tup [kv.1,kv.2] else none
    |_=>none
   |_=>none
  |_=>none
 |_=>none
def canApp(H:LHeap)(sz:Nat):Own->Nat->Bool
 |.full,_=>true
 |.no,_=>false
 |.tok t,n=>match look t H.objs with|some (.tok m s)=>m==n&&s==sz&&sz != 0|_=>false
def effB(E:Env)(fr:Fr)(H:LHeap):BOp->Option (LV×LHeap)
 |.al zero=>some (.ptr H.next 0,H.alloc (.cells zero))
 |.bx x=>if (E.ev fr x).whole then some (.ptr H.next 0,H.alloc (.cells (E.ev fr x).cells)) else none
 |.st n a x=>match E.ev fr a with
  |.ptr o off=>match look o H.objs with
   |some (.cells cs)=>if (E.ev fr x).cells.length=n/\(E.ev fr x).whole/\off+n<=cs.length then
     some (.bot,H.put o (.cells (cs.take off++(E.ev fr x).cells++cs.drop (off+n)))) else none
   |some (.arr sz cs)=>if (E.ev fr x).cells.length=n/\(E.ev fr x).whole/\off+n<=cs.length then
     some (.bot,H.put o (.arr sz (cs.take off++(E.ev fr x).cells++cs.drop (off+n)))) else none
   |_=>none
  |_=>none
 |.ap sz s x=>match E.ev fr s,E.ev fr x with
  |.sl es own,.sl xs _=>
   if (es.all fun e=>e.cells.length==sz)&&(xs.all fun e=>e.cells.length==sz) then
    if es.length+xs.length<=2^30/\sz<=2^10/\canApp H sz own es.length then
     match own with
     |.tok t=>some (.sl (es++xs) own,H.put t (.tok (es.length+xs.length) sz))
     |_=>some (.sl (es++xs) (.tok H.next),H.alloc (.tok (es.length+xs.length) sz))
    else none
   else none
  |_,_=>none
 |.mk=>some (.map H.next,H.alloc (.map []))
 |.nb tb te=>some (.ptr H.next 0,H.alloc (.bld tb te []))
 |.mu e m k v=>match E.ev fr m with
  |.map o=>match look o H.objs with
   |some (.map es)=>if (eqK e (E.ev fr k) (E.ev fr k)).isNone then none else (setL e (E.ev fr k) (E.ev fr v) es).map fun es'=>(.bot,H.put o (.map es'))
   |_=>none
  |_=>none
 |.ms zero n=>(natOf (E.ev fr n)).bind fun n=>
   if n<=2^30 then some (.asl H.next 0 n,H.alloc (.arr zero.length (List.replicate n zero).flatten)) else none
 |.rg x=>match E.ev fr x with
  |.sc (.map none)=>some (.ptr H.next 0,H.alloc (.iter H.next [] none 0))
  |.map o=>match look o H.objs with
   |some (.map es)=>some (.ptr H.next 0,H.alloc (.iter o (List.range es.length) none es.length))
   |_=>none
  |_=>none
 |_=>none
def srcL(H:LHeap)(sz:Nat):LV->Option (List LV×LHeap×Nat)
 |.sl es .full=>if es.all fun e=>e.cells.length==sz then some (es.flatMap LV.cells,H,es.length) else none
 |.asl o 0 len=>match look o H.objs with
  |some (.arr s cs)=>if s=sz/\len*sz<=cs.length then some (cs.take (len*sz),H.del o,len) else none
  |_=>none
 |_=>none
def rowL(H:LHeap)(sz:Nat):LV->Option (List LV×Nat)
 |.sl xs _=>if xs.all fun e=>e.cells.length==sz then some (xs.flatMap LV.cells,xs.length) else none
 |.asl o off len=>match look o H.objs with
  |some (.arr s cs)=>if s=sz/\(off+len)*sz<=cs.length then some ((cs.drop (off*sz)).take (len*sz),len) else none
  |_=>none
 |_=>none
def effB2(E:Env)(fr:Fr)(H:LHeap):BOp->Option (LV×LHeap)
 |.ap sz s x=>match srcL H sz (E.ev fr s),rowL H sz (E.ev fr x) with
  |some (cs,H0,n),some (ms,m)=>
   if m=0 then some (E.ev fr s,H)
   else if n+m<=2^30/\sz<=2^10 then
    some (.asl H0.next 0 (n+m),H0.alloc (.arr sz (cs++ms)))
   else none
  |_,_=>none
 |_=>none
def effR(E:Env)(fr:Fr)(H:LHeap)(op:BOp)(v:LV)(H':LHeap):Prop:=effB E fr H op=some (v,H')\/effB2 E fr H op=some (v,H')
inductive LExit where
 |normal|exit (n:Nat)|ret|pan (v:LV)
structure LDef where
 f:LV
 args:List LV
inductive Job where
 |code (c:BCode) (fr:Fr) (df:List LDef) (H:LHeap)
 |call (f:FuncId) (args:List LV) (H:LHeap)
inductive Res where
 |code (e:LExit) (fr:Fr) (df:List LDef) (H:LHeap)
 |ret (v:LV) (H:LHeap)
 |pan (v:LV) (H:LHeap)
def putD(fr:Fr):Option Nat->LV->Fr
 |some d,v=>upd fr d v
 |none,_=>fr
def wantedB(fr:Fr):Option (Nat×Bool)->Option Bool
 |none=>some true
 |some (j,w)=>match fr j with
  |.sc (.bool b)=>some (b==w)
  |.tup []=>some false
  |_=>none
mutual
def LV.strip:LV->LV
 |.agg cs=>.agg (stripL cs)
 |.tup cs=>.tup (stripL cs)
 |.sl es _=>.sl (stripL es) .no
 |.cptr cs k=>.cptr (stripL cs) k
 |.fn f a b=>.fn f (stripL a) (stripL b)
 |.iface t v=>.iface t v.strip
 |.sc v=>.sc v
 |.asl a b c=>.asl a b c
 |.ptr a b=>.ptr a b
 |.map a=>.map a
 |.bot=>.bot
def stripL:List LV->List LV
 |[]=>[]
 |v::r=>v.strip::stripL r
end
def Wk(v v':LV):Prop:=v'=v\/v'=v.strip\/v'=.bot
def FWk(fr fr':Fr):Prop:=∀k,Wk (fr k) (fr' k)
def HWk(H H':LHeap):Prop:=H.next<=H'.next/\∀i o,look i H'.objs=some o->look i H.objs=some o
def resL(H:LHeap)(fr:Fr):BRes->Option LV
 |.t k=>some (fr k)
 |.c k n=>loadL H n (fr k)
def resultL(H:LHeap)(fr:Fr)(res:List BRes):Option LV:=
 match res with
 |[r]=>resL H fr r
 |rs=>(rs.mapM (resL H fr)).map .tup
def evs(E:Env)(fr:Fr)(l:List BO):List LV:=l.map (E.ev fr)
def frOf(args:List LV):Fr:=fun k=>args.getD k .bot
def calleeB(E:Env)(fr:Fr):BOp->Option (FuncId×List LV)
 |.cf f args=>some (f,evs E fr args)
 |.cl x args=>match E.ev fr x with
  |.fn (.func f) first cap=>some (f,first++evs E fr args++cap)
  |_=>none
 |_=>none
structure Fns where
 fn:FuncId->BFn->Prop
 prim:FuncId->List LV->LHeap->(Res->Prop)->Prop
 rng:Nat->Nat->BCode->BCode->Prop:=fun _ _ _ _=>False
def PendOk(E:Env)(fr:Fr)(H:LHeap)(p:List BI):Prop:=
 ∀b∈p,wantedB fr b.g=some true->∃d,b.d=some d/\valB E fr H b.op=some (fr d)
def setPs(fr:Fr):List Nat->List LV->Fr
 |p::ps,v::vs=>setPs (upd fr p v) ps vs
 |_,_=>fr
def isR(o:Nat)(b:Bool)(H:LHeap):Bool:=match look o H.objs,b with
 |some (.rcd true _ _ _),true=>true
 |some (.rcd false _ _ _),false=>true
 |_,_=>false
def busyH(o:Nat)(b:Bool)(H:LHeap):LHeap:=match look o H.objs with
 |some (.rcd _ fo ps k)=>H.put o (.rcd b fo ps k)
 |_=>H
theorem isR_spec{o:Nat}{b b':Bool}{H:LHeap}(h:isR o b H=true):∃fo ps k,look o H.objs=some (.rcd b fo ps k)/\busyH o b' H=H.put o (.rcd b' fo ps k):=by
 unfold isR at h
 split at h
 ·rename_i h1;exact⟨_,_,_,h1,by simp only[busyH,h1]⟩
 ·rename_i h1;exact⟨_,_,_,h1,by simp only[busyH,h1]⟩
 ·cases h
def leaves:LExit->Prop
 |.pan _=>False
 |_=>True
def exOf:Option Nat->LExit
 |none=>.ret
 |some id=>.exit id
def isL(o:Nat)(j:Option Nat)(H:LHeap):Bool:=match look o H.objs with
 |some (.lft i)=>i==j
 |_=>false
theorem isL_spec{o:Nat}{j:Option Nat}{H:LHeap}(h:isL o j H=true):look o H.objs=some (.lft j):=by
 unfold isL at h
 split at h
 ·rename_i i h1;rw[h1,show i=j by simpa using h]
 ·cases h
inductive Out (E:Env) (F:Fns):Job->(Res->Prop)->Prop
 |skip {fr df H S}:S (.code .normal fr df H)->Out E F (.code .skip fr df H) S
 |nil {fr df H S}:S (.code .normal fr df H)->Out E F (.code (.ops []) fr df H) S
 |pass {i l fr df H S}:wantedB fr i.g=some false->Out E F (.code (.ops l) (putD fr i.d (.tup [])) df H) S->Out E F (.code (.ops (i::l)) fr df H) S
 |val {i l fr df H S v}:wantedB fr i.g=some true->valB E fr H i.op=some v ->
   Out E F (.code (.ops l) (putD fr i.d v) df H) S->Out E F (.code (.ops (i::l)) fr df H) S
 |eff {i l fr df H S v H'}:wantedB fr i.g=some true->effR E fr H i.op v H' ->
   Out E F (.code (.ops l) (putD fr i.d v) df H') S->Out E F (.code (.ops (i::l)) fr df H) S
 |next_done {i l fr df H S x o m k n}:wantedB fr i.g=some true->i.op=.nx x->E.ev fr x=.ptr o 0->look o H.objs=some (.iter m [] k n) ->
   (m=o\/∃es,look m H.objs=some (.map es)/\es.length=n) ->
   Out E F (.code (.ops l) (putD fr i.d (.tup [.bool false])) df H) S->Out E F (.code (.ops (i::l)) fr df H) S
 |next_some {i l fr df H S x o m left k n es}:wantedB fr i.g=some true->i.op=.nx x->E.ev fr x=.ptr o 0->look o H.objs=some (.iter m left k n) ->
   left≠[]->look m H.objs=some (.map es)->es.length=n ->
   (∀j q kv,left[j]? = some q->es[q]? = some kv->Out E F (.code (.ops l) (putD fr i.d (.tup [.bool true,kv.1,kv.2])) df (H.put o (.iter m (left.eraseIdx j) (some q) n))) S) ->
   Out E F (.code (.ops (i::l)) fr df H) S
 |call {i l fr df H S T f args}:wantedB fr i.g=some true->calleeB E fr i.op=some (f,args)->Out E F (.call f args H) T ->
   (∀v H',T (.ret v H')->Out E F (.code (.ops l) (putD fr i.d v) df H') S) ->
   (∀v H',T (.pan v H')->S (.code (.pan v) fr df H')) ->
   Out E F (.code (.ops (i::l)) fr df H) S
 |yld {i l fr df H S x as o fo ps k ba bb T1 T2}:wantedB fr i.g=some true->i.op=.cl x as->E.ev fr x=.fn (.yield o) [] []->look o H.objs=some (.rcd false fo ps k) ->
   F.rng k fo.length ba bb->as.length=ps.length->(ps.all fun p=>decide (p<fo.length))=true->Out E F (.code ba (setPs (frOf fo) ps (evs E fr as)) [] H) T1 ->
   (∀e fr1 df1 H1,T1 (.code e fr1 df1 H1)->e=.normal/\isR o false H1=true) ->
   (∀fr1 df1 H1,T1 (.code .normal fr1 df1 H1)->Out E F (.code bb fr1 [] (busyH o true H1)) T2) ->
   (∀e fr2 df2 H2,T2 (.code e fr2 df2 H2)->leaves e/\isR o true H2=true) ->
   (∀fr2 df2 H2,T2 (.code .normal fr2 df2 H2)->Out E F (.code (.ops l) (putD fr i.d (.bool true)) df (busyH o false H2)) S) ->
   (∀j fr2 df2 H2,T2 (.code (exOf j) fr2 df2 H2)->Out E F (.code (.ops l) (putD fr i.d (.bool false)) df (H2.put o (.lft j))) S) ->
   Out E F (.code (.ops (i::l)) fr df H) S
 |pan {i l fr df H S x t v}:wantedB fr i.g=some true->i.op=.pn x->E.ev fr x=.iface t v->S (.code (.pan (E.ev fr x)) fr df H)->Out E F (.code (.ops (i::l)) fr df H) S
 |drw_nil {fr df H S}:S (.code .normal fr df H)->Out E F (.code (.drw []) fr df H) S
 |drw_pass {i p l fr df H S}:wantedB fr i.g=some false->Out E F (.code (.drw l) (putD fr i.d (.tup [])) df H) S->Out E F (.code (.drw ((i,p)::l)) fr df H) S
 |drw_val {i p l fr df H S v}:wantedB fr i.g=some true->valB E fr H i.op=some v ->
   Out E F (.code (.drw l) (putD fr i.d v) df H) S->Out E F (.code (.drw ((i,p)::l)) fr df H) S
 |drw_eff {i p l fr df H S v H'}:wantedB fr i.g=some true->effR E fr H i.op v H'->PendOk E fr H' p ->
   Out E F (.code (.drw l) (putD fr i.d v) df H') S->Out E F (.code (.drw ((i,p)::l)) fr df H) S
 |drw_call {i p l fr df H S T f args}:wantedB fr i.g=some true->calleeB E fr i.op=some (f,args)->Out E F (.call f args H) T ->
   (∀v H',T (.ret v H')->PendOk E fr H' p)->(∀v H',T (.ret v H')->Out E F (.code (.drw l) (putD fr i.d v) df H') S) ->
   (∀v H',T (.pan v H')->S (.code (.pan v) (fun _=>.bot) df H')) ->
   Out E F (.code (.drw ((i,p)::l)) fr df H) S
 |seq {a b fr df H S T}:Out E F (.code a fr df H) T->(∀fr df H,T (.code .normal fr df H)->Out E F (.code b fr df H) S) ->
   (∀e fr df H,T (.code e fr df H)->e≠.normal->S (.code e fr df H))->Out E F (.code (.seq a b) fr df H) S
 |cond_t {c a b fr df H S}:E.ev fr c=.bool true->Out E F (.code a fr df H) S->Out E F (.code (.cond c a b) fr df H) S
 |cond_f {c a b fr df H S}:E.ev fr c=.bool false->Out E F (.code b fr df H) S->Out E F (.code (.cond c a b) fr df H) S
 |blk {id c fr df H S T}:Out E F (.code c fr df H) T->(∀fr df H,T (.code .normal fr df H)->S (.code .normal fr df H)) ->
   (∀fr df H,T (.code (.exit id) fr df H)->S (.code .normal fr df H)) ->
   (∀e fr df H,T (.code e fr df H)->e≠.normal->e≠.exit id->S (.code e fr df H))->Out E F (.code (.blk id c) fr df H) S
 |loop {c fr df H S T}:Out E F (.code c fr df H) T->(∀fr df H,T (.code .normal fr df H)->Out E F (.code (.loop c) fr df H) S) ->
   (∀e fr df H,T (.code e fr df H)->e≠.normal->S (.code e fr df H))->Out E F (.code (.loop c) fr df H) S
 |exit {id fr df H S}:S (.code (.exit id) fr df H)->Out E F (.code (.exit id) fr df H) S
 |ret {fr df H S}:S (.code .ret fr df H)->Out E F (.code .ret fr df H) S
 |weak {c fr df H S fr' H'}:(∀l,c≠.drw l)->FWk fr fr'->HWk H H'->Out E F (.code c fr' df H') S->Out E F (.code c fr df H) S
 |weakArgs {f args H S args' H'}:args'.length=args.length->FWk (frOf args) (frOf args')->HWk H H'->Out E F (.call f args' H') S->Out E F (.call f args H) S
 |toUm {c fr df H S o es es'}:(∀l,c≠.drw l)->look o H.objs=some (.map es)->es.Perm es'->Out E F (.code c fr df (H.put o (.um es'))) S->Out E F (.code c fr df H) S
 |ofUm {c fr df H S o es}:(∀l,c≠.drw l)->look o H.objs=some (.um es)->(∀i m l k n,look i H.objs=some (.iter m l k n)->m≠o) ->
   (∀es',es'.Perm es->Out E F (.code c fr df (H.put o (.map es'))) S)->Out E F (.code c fr df H) S
 |frzC {c fr df H S} (L:List Nat):(∀l,c≠.drw l)->Out E F (.code c (fun k=>frzV H L (fr k)) df (H.dels L)) S->Out E F (.code c fr df H) S
 |mono {j S T}:Out E F j T->(∀r,T r->S r)->Out E F j S
 |prim {f args H S}:F.prim f args H S->Out E F (.call f args H) S
 |frz {f args H S T} (L:LV->LHeap->List Nat):Out E F (.call f args H) T->(∀v H',T (.ret v H')->∃H'',HWk (H'.dels (L v H')) H''/\S (.ret (frzV H' (L v H') v) H'')) ->
   (∀v H',T (.pan v H')->S (.pan v H'))->Out E F (.call f args H) S
 |enter {f args H S T b}:F.fn f b->args.length<=b.n->Out E F (.code b.body (frOf args) [] H) T ->
   (∀fr df H',T (.code .ret fr df H')\/T (.code .normal fr df H')->df=[]/\∃v v' H'',resultL H' fr b.res=some v/\Wk v v'/\HWk H' H''/\S (.ret v' H'')) ->
   (∀v fr df H',T (.code (.pan v) fr df H')->df=[]/\∃v' H'',Wk v v'/\HWk H' H''/\S (.pan v' H'')) ->
   (∀n fr df H',¬T (.code (.exit n) fr df H')) ->
   Out E F (.call f args H) S
end Go.Abs
namespace Go.Abs
open Go
def ofConst:Value->Option LV
 |.bool b=>some (.sc (.bool b))
 |.int k n=>some (.sc (.int k n))
 |.float k b=>some (.sc (.float k b))
 |.string s=>some (.sc (.string s))
 |.pointer none=>some (.sc (.pointer none))
 |.slice none 0 0=>some (.sl [] .full)
 |.map none=>some (.sc (.map none))
 |.nilFunc=>some (.sc .nilFunc)
 |.nilIface=>some (.sc .nilIface)
 |_=>none
def cO:Operand->Option BO
 |.tmp t=>some (.t t)
 |.const v=>(ofConst v).map .c
 |.func f=>some (.c (.fn (.func f) [] []))
 |.global g=>some (.g g)
def cOo:Option Operand->Option (Option BO)
 |none=>some none
 |some y=>(cO y).map some
section
variable(P:Program)
def sizeO(t:TypeId):Option Nat:=(P.info? t).map (·.size)
def aggO(t:TypeId):Option Bool:=(P.underlying t).map fun
 |.struct _|.array _ _=>true
 |_=>false
def nO(t:TypeId):Option (Option Nat):=
 match sizeO P t,aggO P t with
 |some n,some true=>some (some n)
 |some 1,some false=>some none
 |_,_=>none
def zeroO(t:TypeId):Option (List LV):=
 match P.info? t with
 |some i=>match i.zero with
  |some v=>match v.cells.toList.mapM ofConst with
   |some zs=>if zs.length=i.size then some zs else none
   |none=>none
  |none=>none
 |none=>none
def zeroV(t:TypeId):Option LV:=
 match P.info? t with
 |some i=>match i.zero with
  |some (.agg cs)=>(cs.toList.mapM ofConst).map .agg
  |some v=>ofConst v
  |none=>none
 |none=>none
def bldO(t:TypeId):Option TypeId:=
 match P.info? t with
 |some i=>match i.desc,P.underlying t with
  |.named n _,some (.struct fs)=>if n = "strings.Builder" then match fs[1]? with
   |some f=>match P.underlying f.type,zeroO P t with
    |some (.slice e),some [.sc (.pointer none),.sl [] .full]=>some e
    |_,_=>none
   |none=>none
   else none
  |_,_=>none
 |none=>none
def plainKind(t:TypeId):Option Nat:=
 match P.underlying t with
 |some (.int _)=>some 0
 |some .string=>some 1
 |some .bool=>some 2
 |_=>none
def flatFrom(i:Nat):List Field->Option (List Nat)
 |[]=>some []
 |f::r=>if f.offset=i/\f.name ≠ "_" /\ sizeO P f.type=some 1 then
   match plainKind P f.type,flatFrom (i+1) r with
   |some k,some ks=>some (k::ks)
   |_,_=>none
  else none
def flatStruct(fs:Array Field)(t:TypeId):Option (List Nat):=if P.stoodInHeld t then none else flatFrom P 0 fs.toList
def eqKind(t:TypeId):Option EqK:=
 match P.underlying t with
 |some (.int _)=>some (.pl 0)
 |some .string=>some (.pl 1)
 |some .bool=>some (.pl 2)
 |some (.map _ _)=>some .mp
 |some (.func _ _ _)=>some .fn
 |some (.interface _)=>some .ifc
 |some (.slice _)=>some .sn
 |some (.struct fs)=>if P.eqGuardType P.depth t then none else (flatStruct P fs t).map .st
 |_=>none
def keyKind(t:TypeId):Option EqK:=
 match P.underlying t with
 |some (.int _)=>some (.pl 0)
 |some .string=>some (.pl 1)
 |some .bool=>some (.pl 2)
 |some (.struct fs)=>(flatStruct P fs t).map .st
 |_=>none
def eqFits(t:TypeId)(x y:Operand):Bool:=
 match P.underlying t with
 |some (.interface _)=>(x matches .const _)||(y matches .const _)
 |some (.slice _)=>(y matches .const (.slice none 0 0))
 |_=>true
def orderedFrom(i:Nat):List (Nat×Operand)->Bool
 |[]=>true
 |(j,_)::r=>i==j&&orderedFrom (i+1) r
def placeS(fs:Array Field)(p:Nat×Operand):Option (Nat×Nat×BO):=
 match fs[p.1]? with
 |some f=>match sizeO P f.type,cO p.2 with
  |some n,some x=>some (f.offset,n,x)
  |_,_=>none
 |none=>none
def placeA(s:Nat)(p:Nat×Operand):Option (Nat×Nat×BO):=(cO p.2).map fun x=>(p.1*s,s,x)
def cOp(o:Oper):Option BOp:=
 match o.op with
 |.move x|.assign x=>(cO x).map .mv
 |.pick c a b=>do some (.pk (<- cO c) (<- cO a) (<- cO b))
 |.binOp op t x y _=>
  match op with
  |.eql=>if eqFits P t x y then do some (.eq false (<- eqKind P t) (<- cO x) (<- cO y)) else none
  |.neq=>if eqFits P t x y then do some (.eq true (<- eqKind P t) (<- cO x) (<- cO y)) else none
  |.add|.sub|.mul|.quo|.rem|.lss|.leq|.gtr|.geq=>do some (.bn op (<- cO x) (<- cO y))
  |_=>none
 |.unOp .not _ x=>(cO x).map .nt
 |.load t x=>do some (.ld (<- nO P t) (<- cO x))
 |.fieldAddr t x f=>match P.underlying t with
  |some (.struct fs)=>match fs[f]? with
   |some fd=>match sizeO P fd.type with
    |some (_+1)=>(cO x).map (.fa fd.offset)
    |_=>none
   |none=>none
  |_=>none
 |.field t x f=>match P.underlying t with
  |some (.struct fs)=>match fs[f]? with
   |some fd=>do some (.fd fd.offset (<- nO P fd.type) (<- cO x))
   |none=>none
  |_=>none
 |.indexAddr t x i=>match P.underlying t with
  |some (.slice e)=>do some (.ia (<- sizeO P e) (<- cO x) (<- cO i))
  |some (.array n e)=>do some (.ip (<- sizeO P e) n (<- cO x) (<- cO i))
  |_=>none
 |.index t x i=>match P.underlying t with
  |some .string=>do some (.ix none (<- cO x) (<- cO i))
  |some (.array n e)=>if nO P e=some none then do some (.ix (some n) (<- cO x) (<- cO i)) else none
  |_=>none
 |.slice t x l h none=>match P.underlying t with
  |some .string=>do some (.sr 0 0 (<- cO x) (<- cOo l) (<- cOo h))
  |some (.slice e)=>do some (.sr 1 (<- sizeO P e) (<- cO x) (<- cOo l) (<- cOo h))
  |_=>none
 |.convert s d x=>match P.underlying s,P.underlying d with
  |some (.int _),some (.int k)=>(cO x).map (.cv k)
  |some .string,some .string=>(cO x).map .cs
  |some (.slice e),some .string=>match P.underlying e with
   |some (.int .u8)=>(cO x).map fun b=>.sr 3 1 b none none
   |_=>none
  |_,_=>none
 |.makeSlice t l c=>match P.underlying t,l,c with
  |some (.slice e),.tmp i,.tmp j=>if i=j/\(P.info? e).any (fun i=>i.bytes<=2^12) then (zeroO P e).map fun zs=>.ms zs (.t i) else none
  |_,_,_=>none
 |.makeInterface t x=>match P.underlying t with
  |some (.interface _)=>none
  |some _=>(cO x).map (.mi t)
  |none=>none
 |.makeFunc (.func f) a b=>do some (.mf (.func f) (<- a.toList.mapM cO) (<- b.toList.mapM cO))
 |.extract x i=>(cO x).map (.xt i)
 |.buildSlice t n ps=>match P.underlying t with
  |some (.slice e)=>match sizeO P e with
   |some s=>if ps.size=n/\n*s<=2^24/\orderedFrom 0 ps.toList/\(zeroO P e).isSome/\0<s then do some (.bs s (<- ps.toList.mapM fun p=>cO p.2)) else none
   |none=>none
  |_=>none
 |.build t ps=>match P.underlying t,zeroO P t with
  |some (.struct fs),some zs=>if fs.toList.all (fun f=>(sizeO P f.type).isSome) then do some (.bd zs (<- ps.toList.mapM (placeS P fs))) else none
  |some (.array _ e),some zs=>do some (.bd zs (<- ps.toList.mapM (placeA (<- sizeO P e))))
  |_,_=>none
 |.nilCheck x=>(cO x).map .nc
 |.lookup t x i ok=>match P.underlying t with
  |some (.map k e)=>do some (.lk (<- keyKind P k) ok (.c (<- zeroV P e)) (<- cO x) (<- cO i))
  |_=>none
 |.typeAssert x _ t true=>match P.underlying t with
  |some (.interface _)=>none
  |some _=>do some (.ta t (.c (<- zeroV P t)) (<- cO x))
  |none=>none
 |.entry x=>(cO x).map .en
 |.alloc t=>match bldO P t with
  |some e=>some (.nb t e)
  |none=>(zeroO P t).map .al
 |.box _ x=>(cO x).map .bx
 |.store t a x=>do some (.st (<- sizeO P t) (<- cO a) (<- cO x))
 |.makeMap _ none=>some .mk
 |.mapUpdate t m k v|.insert t m k v=>match P.underlying t with
  |some (.map kt _)=>do some (.mu (<- keyKind P kt) (<- cO m) (<- cO k) (<- cO v))
  |_=>none
 |.range t x=>match P.underlying t with
  |some (.map _ _)=>(cO x).map .rg
  |_=>none
 |.next x false=>(cO x).map .nx
 |.panic x=>(cO x).map .pn
 |.call { callee:=.builtin b,args,argTypes }=>match b,args.toList,argTypes.toList with
  |.len,[x],[t]=>match P.underlying t with
   |some .string=>(cO x).map (.ln 0)
   |some (.slice _)=>(cO x).map (.ln 1)
   |some (.map _ _)=>(cO x).map (.ln 2)
   |_=>none
  |.append,[s,x],[t,u]=>match P.underlying t,P.underlying u with
   |some (.slice e),some (.slice _)=>if (P.info? e).any (fun i=>i.bytes<=2^12)/\(zeroO P e).isSome then do some (.ap (<- sizeO P e) (<- cO s) (<- cO x)) else none
   |_,_=>none
  |.min,[x,y],_=>do some (.mn false (<- cO x) (<- cO y))
  |.max,[x,y],_=>do some (.mn true (<- cO x) (<- cO y))
  |.recover,[],_=>some .rc
  |_,_,_=>none
 |.call { callee:=.value (.func f),args,.. }=>(args.toList.mapM cO).map (.cf f)
 |.call { callee:=.value x,args,.. }=>do some (.cl (<- cO x) (<- args.toList.mapM cO))
 |.defer { callee:=.value x,args,.. }=>do some (.df (<- cO x) (<- args.toList.mapM cO))
 |_=>none
def cI(N:Nat)(ops:Array Oper)(o:Oper):Option BI:=do
 let op:=(cOp P o).getD .bad
 let g <- match o.guard with
  |none=>some none
  |some (j,w)=>match (ops[j]?).bind (·.dst) with
   |some d=>some (some (d,w))
   |none=>none
 if o.dst.all (·<N) then some ⟨o.dst,g,op⟩ else none
def BO.uses:BO->List Nat
 |.t n=>[n]
 |_=>[]
def usesL(l:List BO):List Nat:=l.flatMap BO.uses
def BOp.uses:BOp->List Nat
 |.mv x|.nt x|.ld _ x|.fa _ x|.fd _ _ x|.ln _ x|.cv _ x|.cs x|.mi _ x|.xt _ x|.nc x|.bx x|.ms _ x|.rg x|.nx x|.en x|.pn x=>x.uses
 |.pk c a b=>c.uses++a.uses++b.uses
 |.eq _ _ x y|.bn _ x y|.ia _ x y|.ix _ x y|.ip _ _ x y|.mn _ x y|.st _ x y|.ap _ x y=>x.uses++y.uses
 |.sr _ _ x l h=>x.uses++(l.map BO.uses).getD []++(h.map BO.uses).getD []
 |.mf _ a b=>usesL a++usesL b
 |.bs _ ps=>usesL ps
 |.bd _ ps=>usesL (ps.map fun p=>p.2.2)
 |.lk _ _ z x i=>z.uses++x.uses++i.uses
 |.ta _ z x=>z.uses++x.uses
 |.al _|.mk|.nb ..|.rc|.bad=>[]
 |.mu _ a b c=>a.uses++b.uses++c.uses
 |.cf _ as=>usesL as
 |.cl x as|.df x as=>x.uses++usesL as
def BOp.pure:BOp->Bool
 |.mv _|.pk ..|.eq ..|.bn ..|.nt _|.fa ..|.fd ..|.ix ..|.ip ..|.cv ..|.cs _|.mi ..|.mf ..|.xt ..|.bs ..|.bd ..|.nc _|.mn ..|.ta ..=>true
 |.ln k _|.sr k ..=>k != 2
 |_=>false
def BOp.isVal:BOp->Bool
 |.mv _|.pk ..|.eq ..|.bn ..|.nt _|.fa ..|.fd ..|.ix ..|.ip ..|.cv ..|.cs _|.mi ..|.mf ..|.xt ..|.bs ..|.bd ..|.nc _|.mn ..|.ta ..|.ln ..|.sr ..
 |.ld ..|.ia ..|.lk ..|.en _=>true
 |_=>false
def BOp.isEff:BOp->Bool
 |.al _|.bx _|.st ..|.ap ..|.mk|.nb ..|.mu ..|.rg _|.cf ..|.cl ..=>true
 |_=>false
def BI.uses(b:BI):List Nat:=b.op.uses++(match b.g with|some (j,_)=>[j]|none=>[])
structure Seen where
 i:Nat
 m:Nat
 b:BI
def Seen.writes(s:Seen)(l:List Nat):Bool:=match s.b.d with
 |some d=>l.contains d
 |none=>false
def sameD(a b:BI):Bool:=match a.d,b.d with
 |some x,some y=>x==y
 |_,_=>false
def BI.fl(b:BI):Bool:=match b.op with
 |.al _=>b.g.isNone&&b.d.isSome
 |_=>false
def Seen.fl(e:Seen):Bool:=e.m==0&&e.b.fl
def stepOk(es:List Nat)(done:List Seen)(e:Seen):Bool:=
 (e.b.op.isVal||e.b.op.isEff)&&es.all (fun j=>done.any (·.i==j)&&e.m.testBit j) &&
 done.all (fun s=>s.i != e.i&&!sameD s.b e.b&&(!(s.writes e.b.uses||e.writes s.b.uses||(s.b.op.isEff&&!e.fl))||e.m.testBit s.i))
def maskOf(done:List Seen):List Nat->Nat
 |[]=>0
 |j::r=>(1 <<< j) ||| ((done.find? (·.i==j)).map (·.m)).getD 0 ||| maskOf done r
def pends(done:List Seen)(e:Seen):List Seen:=
 if e.b.op.isEff then done.filter fun s=>s.b.op.isVal&&!s.b.op.pure&&!e.m.testBit s.i else []
def pendOk(done:List Seen)(s:Seen):Bool:=s.b.d.isSome&&done.all fun t=>!t.writes s.b.uses||s.m.testBit t.i
def bindsOf(o:Oper):List Nat:=(o.after.toList.filter (Region.binds .any)).map (·.on)
def drawGo(N:Nat)(ops:Array Oper)(done:List Seen):List Nat->Option (List (BI×List BI))
 |[]=>if done.length=ops.size then some [] else none
 |i::r=>match ops[i]? with
  |some o=>match cI P N ops o with
   |some b=>
    let e:Seen:=⟨i,maskOf done (bindsOf o),b⟩
    if stepOk (bindsOf o) done e&&(pends done e).all (pendOk done) then
     (drawGo N ops (e::done) r).map ((b,(pends done e).map (·.b))::·)
    else none
   |none=>none
  |none=>none
def canon:Nat->List (Nat×Nat×Bool)->List Nat
 |0,l=>l.map (·.1)
 |k+1,l=>match l.find? (·.2.2) with
  |none=>l.map (·.1)
  |some e=>((l.filter fun x=>x.1 != e.1&&!x.2.1.testBit e.1).map (·.1))++e.1::canon k (l.filter fun x=>x.1 != e.1&&x.2.1.testBit e.1)
def drawMasks(N:Nat)(ops:Array Oper)(done:List Seen):List (Nat×Oper)->List (Nat×Nat×Bool)
 |[]=>[]
 |(i,o)::r=>match cI P N ops o with
  |some b=>let m:=maskOf done (bindsOf o);(i,if (⟨i,m,b⟩:Seen).fl then (1 <<< i) - 1 else m,b.op.isEff)::drawMasks N ops (⟨i,m,b⟩::done) r
  |none=>[]
def cDraw(N:Nat)(ops:Array Oper):Option (List (BI×List BI)):=
 drawGo P N ops [] (canon ops.size (drawMasks P N ops [] (ops.toList.zipIdx.map fun p=>(p.2,p.1))))
def cCode(N:Nat):Code->Option BCode
 |.skip=>some .skip
 |.region _ ops false=>(ops.toList.mapM (cI P N ops)).map .ops
 |.region _ ops true=>some (((cDraw P N ops).map .drw).getD .bad)
 |.seq a b=>do some (.seq (<- cCode N a) (<- cCode N b))
 |.cond c a b=>do some (.cond (<- cO c) (<- cCode N a) (<- cCode N b))
 |.block id c=>(cCode N c).map (.blk id)
 |.loop c=>(cCode N c).map .loop
 |.exit id=>some (.exit id)
 |.ret=>some .ret
 |.rangeFunc f ps a b=>do some (.rf (<- cO f) ps.toList (<- cCode N a) (<- cCode N b))
 |_=>some .bad
def cRes:ResultVar->Option BRes
 |.tmp t=>some (.t t)
 |.cell a t=>(nO P t).map (.c a)
def cFn(fn:Func):Option BFn:=do
 let c <- fn.body
 let b <- cCode P fn.ntmps c
 let rs <- fn.results.toList.mapM (cRes P)
 some ⟨b,fn.ntmps,rs⟩
end
end Go.Abs
namespace Go.Abs
open Go
inductive Lab where
 |free|cl|obj (o:Nat)|tok (t:Nat)
structure Ghost where
 B:Nat->Option Bool
 n:Nat
 loc:Nat->Nat
 asz:Nat->Nat×Nat
 tk:Nat->Option (Nat×Option Addr×Nat)
 own:Nat->Nat->Lab
 rc:Nat->Code×Code
def Ghost.Cl(G:Ghost)(b x:Nat):Prop:=G.B b=some true\/G.own b x=.cl
def OwnR(G:Ghost)(own:Own)(base:Option Addr)(len cap:Nat):Prop:=
 match own with
 |.no=>True
 |.full=>cap=len
 |.tok t=>t<G.n/\∃m b c,G.tk t=some (m,b,c)/\len<=m/\(len=m->b=base/\c=cap)
abbrev at_(b x:Nat):Addr:=⟨b,x,none⟩
def fnW(G:Ghost):Fn->Fn
 |.yield o=>.yield (G.loc o)
 |f=>f
def fnOk(n:Nat):Fn->Prop
 |.yield o=>o<n
 |_=>True
inductive VR (G:Ghost) (w:World):LV->Value->Prop
 |sc (v:Value):VR G w (.sc v) v
 |bot (v:Value):VR G w .bot v
 |agg {cs:List LV} {vs:Array Value}:vs.size=cs.length->(∀(i:Nat)(c:LV),cs[i]? = some c->VR G w c (vs.getD i undef))->(∀i,i<cs.length->(vs.getD i undef).oneCell'=true)->VR G w (.agg cs) (.agg vs)
 |tup {cs:List LV} {vs:Array Value}:vs.size=cs.length->(∀(i:Nat)(c:LV),cs[i]? = some c->VR G w c (vs.getD i undef))->VR G w (.tup cs) (.tuple vs)
 |sl {es:List LV} {own:Own} {b off sz cap:Nat} {xs:Nat->Nat->Value}:es.length<=cap ->
   (∀(i:Nat)(e:LV),es[i]? = some e->e.cells.length=sz) ->
   (∀(i:Nat)(e:LV)(j:Nat)(c:LV),es[i]? = some e->e.cells[j]? = some c->G.Cl b (off+i*sz+j)/\w.cell? (at_ b (off+i*sz+j))=some (xs i j)/\(xs i j).oneCell'=true) ->
   (∀(i:Nat)(e:LV)(j:Nat)(c:LV),es[i]? = some e->e.cells[j]? = some c->VR G w c (xs i j)) ->
   OwnR G own (some (at_ b off)) es.length cap->VR G w (.sl es own) (.slice (some (at_ b off)) es.length cap)
 |sln {own:Own}:OwnR G own none 0 0->VR G w (.sl [] own) (.slice none 0 0)
 |sle (a:Addr):VR G w (.sl [] .no) (.slice (some a) 0 0)
 |asl {o off len cap:Nat}:o<G.n->len<=cap->off+cap<=(G.asz o).2->VR G w (.asl o off len) (.slice (some (at_ (G.loc o) (off*(G.asz o).1))) len cap)
 |ptr {o off:Nat}:o<G.n->VR G w (.ptr o off) (.pointer (some (at_ (G.loc o) off)))
 |cptr {cs:List LV} {off b base:Nat} {xs:Nat->Value}:(∀(j:Nat)(c:LV),cs[j]? = some c->G.Cl b (base+j)/\w.cell? (at_ b (base+j))=some (xs j)/\(xs j).oneCell'=true) ->
   (∀(j:Nat)(c:LV),cs[j]? = some c->VR G w c (xs j))->VR G w (.cptr cs off) (.pointer (some (at_ b (base+off))))
 |map {o:Nat}:o<G.n->VR G w (.map o) (.map (some (G.loc o)))
 |fn {f:Fn} {a c:List LV} {us vs:Array Value}:fnOk G.n f->us.size=a.length->vs.size=c.length->(∀(i:Nat)(x:LV),a[i]? = some x->VR G w x (us.getD i undef)) ->
   (∀(i:Nat)(x:LV),c[i]? = some x->VR G w x (vs.getD i undef))->VR G w (.fn f a c) (.func (fnW G f) us vs)
 |iface {t:TypeId} {x:LV} {v:Value}:VR G w x v->VR G w (.iface t x) (.iface t v)
structure Ext(G:Ghost)(w:World)(G':Ghost)(w':World):Prop where
 os:w'.os=w.os
 tape:w'.tape=w.tape
 output:w'.output=w.output
 size:w.heap.size<=w'.heap.size
 hB:G'.B=G.B
 block:∀k,(G.B k).isSome->w'.heap[k]? = w.heap[k]?
 n:G.n<=G'.n
 loc:∀o,o<G.n->G'.loc o=G.loc o
 asz:∀o,o<G.n->G'.asz o=G.asz o
 cl:∀b x,G.own b x=.cl->G'.own b x=.cl/\∀v,w.cell? (at_ b x)=some v->w'.cell? (at_ b x)=some v
 tk:∀t,t<G.n->∀m b c,G.tk t=some (m,b,c)->∃m' b' c',G'.tk t=some (m',b',c')/\m<=m'/\(m=m'->b'=b/\c'=c)
 rc:G'.rc=G.rc
theorem Ext.refl(G:Ghost)(w:World):Ext G w G w:=
 ⟨rfl,rfl,rfl,Nat.le_refl _,rfl,fun _ _=>rfl,Nat.le_refl _,fun _ _=>rfl,fun _ _=>rfl,fun _ _ h=>⟨h,fun _ h=>h⟩,
  fun _ _ m b c h=>⟨m,b,c,h,Nat.le_refl _,fun _=>⟨rfl,rfl⟩⟩,rfl⟩
theorem Ext.trans{G G₁ G₂:Ghost}{w w₁ w₂:World}(h:Ext G w G₁ w₁)(k:Ext G₁ w₁ G₂ w₂):Ext G w G₂ w₂ where
 os:=k.os.trans h.os
 tape:=k.tape.trans h.tape
 output:=k.output.trans h.output
 size:=Nat.le_trans h.size k.size
 hB:=k.hB.trans h.hB
 rc:=k.rc.trans h.rc
 block i hi:=(k.block i (h.hB.symm▸hi)).trans (h.block i hi)
 n:=Nat.le_trans h.n k.n
 loc o ho:=(k.loc o (Nat.lt_of_lt_of_le ho h.n)).trans (h.loc o ho)
 asz o ho:=(k.asz o (Nat.lt_of_lt_of_le ho h.n)).trans (h.asz o ho)
 cl b x hb:=⟨(k.cl b x (h.cl b x hb).1).1,fun v hv=>(k.cl b x (h.cl b x hb).1).2 v ((h.cl b x hb).2 v hv)⟩
 tk t ht m b c hm:=by
  obtain⟨m₁,b₁,c₁,h1,hle,heq⟩:=h.tk t ht m b c hm
  obtain⟨m₂,b₂,c₂,h2,hle2,heq2⟩:=k.tk t (Nat.lt_of_lt_of_le ht h.n) _ _ _ h1
  refine⟨m₂,b₂,c₂,h2,Nat.le_trans hle hle2,fun e=>?_⟩
  have e1:m=m₁:=by omega
  have e2:m₁=m₂:=by omega
  obtain⟨rfl,rfl⟩:=heq e1
  exact heq2 e2
theorem cell?_of_block{w w':World}{b x:Nat}(h:w'.heap[b]? = w.heap[b]?):w'.cell? (at_ b x)=w.cell? (at_ b x):=by
 simp only[World.cell?,h]
theorem Ext.Cl{G G':Ghost}{w w':World}(h:Ext G w G' w'){b x:Nat}{v:Value}(hc:G.Cl b x)(hv:w.cell? (at_ b x)=some v):
  G'.Cl b x/\w'.cell? (at_ b x)=some v:=by
 rcases hc with hc|hc
 ·exact⟨.inl (h.hB▸hc),(cell?_of_block (h.block b (by rw[hc];rfl))).trans hv⟩
 ·exact⟨.inr (h.cl b x hc).1,(h.cl b x hc).2 v hv⟩
theorem OwnR.mono{G G':Ghost}{w w':World}(h:Ext G w G' w'){own:Own}{base:Option Addr}{len cap:Nat}(ho:OwnR G own base len cap):
  OwnR G' own base len cap:=by
 cases own with
 |no=>exact trivial
 |full=>exact ho
 |tok t=>
  obtain⟨ht,m,b,c,hm,hle,he⟩:=ho
  obtain⟨m',b',c',hm',hle',he'⟩:=h.tk t ht m b c hm
  refine⟨Nat.lt_of_lt_of_le ht h.n,m',b',c',hm',by omega,fun e=>?_⟩
  have e1:m=m':=by omega
  obtain⟨rfl,rfl⟩:=he' e1
  exact he (by omega)
theorem fnW_same{G G':Ghost}{f:Fn}(h:fnOk G.n f)(hl:∀o,o<G.n->G'.loc o=G.loc o):fnW G' f=fnW G f:=by
 cases f<;>first|rfl|(simp only[fnW];rw[hl _ h])
theorem fnOk_mono{n m:Nat}{f:Fn}(h:fnOk n f)(hm:n<=m):fnOk m f:=by
 cases f<;>first|trivial|exact Nat.lt_of_lt_of_le h hm
theorem VR.mono{G G':Ghost}{w w':World}(h:Ext G w G' w'){x:LV}{v:Value}(hv:VR G w x v):VR G' w' x v:=by
 induction hv with
 |sc v=>exact .sc v
 |bot v=>exact .bot v
 |agg hs _ h1 ih=>exact .agg hs ih h1
 |tup hs _ ih=>exact .tup hs ih
 |sl hc hz hx _ ho ih=>
  exact .sl hc hz (fun i e j c h1 h2=>⟨(h.Cl (hx i e j c h1 h2).1 (hx i e j c h1 h2).2.1).1,(h.Cl (hx i e j c h1 h2).1 (hx i e j c h1 h2).2.1).2,(hx i e j c h1 h2).2.2⟩) ih (ho.mono h)
 |sln ho=>exact .sln (ho.mono h)
 |sle a=>exact .sle a
 |asl ho hl hc=>rw[<-h.loc _ ho,<-h.asz _ ho];exact .asl (Nat.lt_of_lt_of_le ho h.n) hl (by rw[h.asz _ ho];exact hc)
 |ptr ho=>rw[<-h.loc _ ho];exact .ptr (Nat.lt_of_lt_of_le ho h.n)
 |cptr hx _ ih=>exact .cptr (fun j c h1=>⟨(h.Cl (hx j c h1).1 (hx j c h1).2.1).1,(h.Cl (hx j c h1).1 (hx j c h1).2.1).2,(hx j c h1).2.2⟩) ih
 |map ho=>rw[<-h.loc _ ho];exact .map (Nat.lt_of_lt_of_le ho h.n)
 |fn hf h1 h2 _ _ ih1 ih2=>rw[<-fnW_same hf h.loc];exact .fn (fnOk_mono hf h.n) h1 h2 ih1 ih2
 |iface _ ih=>exact .iface ih
theorem stripL_length:∀l:List LV,(stripL l).length=l.length
 |[]=>rfl
 |_::r=>by simp[stripL,stripL_length r]
theorem stripL_get:∀(l:List LV)(i:Nat),(stripL l)[i]? = (l[i]?).map LV.strip
 |[],_=>rfl
 |_::_,0=>rfl
 |_::r,i+1=>by simpa [stripL] using stripL_get r i
theorem stripL_map:∀l:List LV,stripL l=l.map LV.strip
 |[]=>rfl
 |_::r=>by simp[stripL,stripL_map r]
theorem strip_cells(x:LV):x.strip.cells=x.cells.map LV.strip:=by
 cases x<;>simp[LV.strip,LV.cells,stripL_map]
theorem VR.strip{G:Ghost}{w:World}{x:LV}{v:Value}(hv:VR G w x v):VR G w x.strip v:=by
 induction hv with
 |sc v=>exact .sc v
 |bot v=>exact .bot v
 |agg hs _ h0 ih=>
  rw[LV.strip]
  refine .agg (by rw[stripL_length];exact hs) (fun i c hc=>?_) (fun i hi=>h0 i (by rwa [stripL_length]at hi))
  rw[stripL_get]at hc
  obtain⟨c',h1,rfl⟩:=Option.map_eq_some_iff.1 hc
  exact ih i c' h1
 |tup hs _ ih=>
  rw[LV.strip]
  refine .tup (by rw[stripL_length];exact hs) fun i c hc=>?_
  rw[stripL_get]at hc
  obtain⟨c',h1,rfl⟩:=Option.map_eq_some_iff.1 hc
  exact ih i c' h1
 |@sl es own b off sz cap xs hc hz hx _ ho ih=>
  rw[LV.strip]
  have hl:(stripL es).length=es.length:=stripL_length _
  rw[<-hl]
  refine .sl (sz:=sz) (xs:=xs) (by omega) (fun i e he=>?_) (fun i e j c h1 h2=>?_) (fun i e j c h1 h2=>?_) trivial
  ·rw[stripL_get]at he
   obtain⟨e',h1,rfl⟩:=Option.map_eq_some_iff.1 he
   rw[strip_cells,List.length_map];exact hz i e' h1
  ·rw[stripL_get]at h1
   obtain⟨e',h1',rfl⟩:=Option.map_eq_some_iff.1 h1
   rw[strip_cells,List.getElem?_map]at h2
   obtain⟨c',h2',rfl⟩:=Option.map_eq_some_iff.1 h2
   exact hx i e' j c' h1' h2'
  ·rw[stripL_get]at h1
   obtain⟨e',h1',rfl⟩:=Option.map_eq_some_iff.1 h1
   rw[strip_cells,List.getElem?_map]at h2
   obtain⟨c',h2',rfl⟩:=Option.map_eq_some_iff.1 h2
   exact ih i e' j c' h1' h2'
 |sln ho=>exact .sln trivial
 |sle a=>exact .sle a
 |asl ho hl hc=>exact .asl ho hl hc
 |ptr ho=>exact .ptr ho
 |@cptr cs off b base xs hx _ ih=>
  rw[LV.strip]
  refine .cptr (xs:=xs) (fun j c h1=>?_) (fun j c h1=>?_)
  ·rw[stripL_get]at h1
   obtain⟨e',h1',rfl⟩:=Option.map_eq_some_iff.1 h1
   exact hx j e' h1'
  ·rw[stripL_get]at h1
   obtain⟨e',h1',rfl⟩:=Option.map_eq_some_iff.1 h1
   exact ih j e' h1'
 |map ho=>exact .map ho
 |fn hf h1 h2 _ _ ih1 ih2=>
  rw[LV.strip]
  refine .fn hf (by rw[stripL_length];exact h1) (by rw[stripL_length];exact h2) (fun i c hc=>?_) (fun i c hc=>?_)
  ·rw[stripL_get]at hc
   obtain⟨c',h1,rfl⟩:=Option.map_eq_some_iff.1 hc
   exact ih1 i c' h1
  ·rw[stripL_get]at hc
   obtain⟨c',h1,rfl⟩:=Option.map_eq_some_iff.1 hc
   exact ih2 i c' h1
 |iface _ ih=>exact .iface ih
theorem VR.wk{G:Ghost}{w:World}{x x':LV}{v:Value}(h:Wk x x')(hv:VR G w x v):VR G w x' v:=by
 rcases h with rfl|rfl|rfl
 ·exact hv
 ·exact hv.strip
 ·exact .bot v
section
variable{G:Ghost}{w:World}
theorem VR.sc_inv{u v:Value}(h:VR G w (.sc u) v):v=u:=by cases h;rfl
theorem VR.ptr_inv{o k:Nat}{v:Value}(h:VR G w (.ptr o k) v):o<G.n/\v=.pointer (some (at_ (G.loc o) k)):=by cases h;exact⟨by assumption,rfl⟩
theorem VR.cptr_inv{cs:List LV}{k:Nat}{v:Value}(h:VR G w (.cptr cs k) v):∃(b base:Nat)(xs:Nat->Value),v=.pointer (some (at_ b (base+k))) /\
  (∀(j:Nat)(c:LV),cs[j]? = some c->G.Cl b (base+j)/\w.cell? (at_ b (base+j))=some (xs j)/\(xs j).oneCell'=true)/\(∀(j:Nat)(c:LV),cs[j]? = some c->VR G w c (xs j)):=by
 cases h with|cptr h1 h2=>exact⟨_,_,_,rfl,h1,h2⟩
theorem VR.map_inv{o:Nat}{v:Value}(h:VR G w (.map o) v):o<G.n/\v=.map (some (G.loc o)):=by cases h;exact⟨by assumption,rfl⟩
theorem VR.asl_inv{o off len:Nat}{v:Value}(h:VR G w (.asl o off len) v):o<G.n/\∃cap,len<=cap/\off+cap<=(G.asz o).2/\v=.slice (some (at_ (G.loc o) (off*(G.asz o).1))) len cap:=by
 cases h;exact⟨by assumption,_,by assumption,by assumption,rfl⟩
theorem VR.agg_inv{cs:List LV}{v:Value}(h:VR G w (.agg cs) v):∃vs:Array Value,v=.agg vs/\vs.size=cs.length/\(∀(i:Nat)(c:LV),cs[i]? = some c->VR G w c (vs.getD i undef))/\(∀i,i<cs.length->(vs.getD i undef).oneCell'=true):=by
 cases h;exact⟨_,rfl,by assumption,by assumption,by assumption⟩
theorem VR.tup_inv{cs:List LV}{v:Value}(h:VR G w (.tup cs) v):∃vs:Array Value,v=.tuple vs/\vs.size=cs.length/\∀(i:Nat)(c:LV),cs[i]? = some c->VR G w c (vs.getD i undef):=by
 cases h;exact⟨_,rfl,by assumption,by assumption⟩
theorem VR.iface_inv{t:TypeId}{x:LV}{v:Value}(h:VR G w (.iface t x) v):∃u,v=.iface t u/\VR G w x u:=by cases h;exact⟨_,rfl,by assumption⟩
theorem VR.fn_inv{f:Fn}{a c:List LV}{v:Value}(h:VR G w (.fn f a c) v):∃us vs:Array Value,v=.func (fnW G f) us vs/\us.size=a.length/\vs.size=c.length /\
  (∀(i:Nat)(x:LV),a[i]? = some x->VR G w x (us.getD i undef))/\∀(i:Nat)(x:LV),c[i]? = some x->VR G w x (vs.getD i undef):=by
 cases h;exact⟨_,_,rfl,by assumption,by assumption,by assumption,by assumption⟩
theorem VR.sl_inv{es:List LV}{own:Own}{v:Value}(h:VR G w (.sl es own) v):∃(base:Option Addr)(cap:Nat),v=.slice base es.length cap/\es.length<=cap/\OwnR G own base es.length cap /\
  ((es=[]/\cap=0/\(base=none\/own=.no))\/∃(b off sz:Nat)(xs:Nat->Nat->Value),base=some (at_ b off) /\
   (∀(i:Nat)(e:LV),es[i]? = some e->e.cells.length=sz) /\
   (∀(i:Nat)(e:LV)(j:Nat)(c:LV),es[i]? = some e->e.cells[j]? = some c->G.Cl b (off+i*sz+j)/\w.cell? (at_ b (off+i*sz+j))=some (xs i j)/\(xs i j).oneCell'=true) /\
   (∀(i:Nat)(e:LV)(j:Nat)(c:LV),es[i]? = some e->e.cells[j]? = some c->VR G w c (xs i j))):=by
 cases h with
 |sl h1 h2 h3 h4 h5=>exact⟨_,_,rfl,h1,h5,.inr ⟨_,_,_,_,rfl,h2,h3,h4⟩⟩
 |sln h1=>exact⟨none,0,rfl,Nat.le_refl _,h1,.inl ⟨rfl,rfl,.inl rfl⟩⟩
 |sle a=>exact⟨some a,0,rfl,Nat.le_refl _,trivial,.inl ⟨rfl,rfl,.inr rfl⟩⟩
end
theorem VR.whole{G:Ghost}{w:World}{x:LV}{v:Value}(h:VR G w x v)(hx:x.whole=true):
  v.cells.size=x.cells.length/\∀(i:Nat)(c:LV),x.cells[i]? = some c->VR G w c (v.cells.getD i undef)/\(v.cells.getD i undef).oneCell'=true:=by
 have one:∀u:Value,u.oneCell'=true->VR G w x u->x.cells=[x]->u.cells.size=x.cells.length/\∀(i:Nat)(c:LV),x.cells[i]? = some c->VR G w c (u.cells.getD i undef)/\(u.cells.getD i undef).oneCell'=true:=by
  intro u hu hv hc
  have h1:u.cells=#[u]:=by cases u<;>simp_all [Value.cells,Value.oneCell']
  rw[hc,h1]
  refine⟨rfl,fun i c hi=>?_⟩
  cases i with
  |zero=>simp at hi;subst hi;exact⟨hv,hu⟩
  |succ i=>simp at hi
 cases x with
 |agg cs=>
  obtain⟨vs,rfl,hs,h1,h2⟩:=h.agg_inv
  exact⟨hs,fun i c hi=>⟨h1 i c hi,h2 i (by
   rcases Nat.lt_or_ge i cs.length with h'|h'
   ·exact h'
   ·rw[LV.cells,List.getElem?_eq_none h']at hi;cases hi)⟩⟩
 |bot=>simp[LV.whole]at hx
 |tup=>simp[LV.whole]at hx
 |sc u=>obtain rfl:=h.sc_inv;exact one _ hx h rfl
 |sl es own=>obtain⟨b,c,rfl,_⟩:=h.sl_inv;exact one _ rfl h rfl
 |asl a b c=>obtain⟨_,d,_,_,rfl⟩:=h.asl_inv;exact one _ rfl h rfl
 |ptr a b=>obtain⟨_,rfl⟩:=h.ptr_inv;exact one _ rfl h rfl
 |cptr a b=>obtain⟨_,_,_,rfl,_⟩:=h.cptr_inv;exact one _ rfl h rfl
 |map a=>obtain⟨_,rfl⟩:=h.map_inv;exact one _ rfl h rfl
 |fn f a b=>obtain⟨_,_,rfl,_⟩:=h.fn_inv;exact one _ rfl h rfl
 |iface t x=>obtain⟨_,rfl,_⟩:=h.iface_inv;exact one _ rfl h rfl
def jmpC:Option Nat->Code
 |none=>.ret
 |some id=>.exit id
abbrev MapR(G:Ghost)(w:World)(o:Nat)(es:List (LV×LV)):Prop:=∃ents clock,w.heap[G.loc o]? = some (.map ents clock)/\¬(G.B (G.loc o)).isSome/\G.own (G.loc o) 0=.obj o/\ents.size=es.length /\
   (∀(i:Nat)(kv:LV×LV)(e:MapEntry),es[i]? = some kv->ents[i]? = some e->VR G w kv.1 e.key/\VR G w kv.2 e.val) /\
   (∀(i j:Nat)(e e':MapEntry),ents[i]? = some e->ents[j]? = some e'->e.born=e'.born->i=j)/\(∀(i:Nat)(e:MapEntry),ents[i]? = some e->e.born<clock)/\clock=es.length
def BufR(G:Ghost)(w:World)(o:Nat)(te:TypeId)(l:List UInt8)(v:Value):Prop:=
 (v=.slice none 0 0/\l=[])\/∃(g cap:Nat)(cur:Array Value),v=.slice (some (at_ g 0)) l.length cap/\w.heap[g]? = some (.cells cur te)/\g≠G.loc o/\¬(G.B g).isSome/\(∀x,G.own g x=.obj o) /\
  l≠[]/\l.length<=cap/\cur.size=cap/\∀(i:Nat)(b:UInt8),l[i]? = some b->cur[i]? = some (.int .u8 b.toNat)
def ObjR(G:Ghost)(w:World)(H:LHeap)(o:Nat):LObj->Prop
 |.cells cs=>∃vs el fz,w.heap[G.loc o]? = some (.cells vs el fz)/\¬(G.B (G.loc o)).isSome/\vs.size=cs.length/\(∀x,G.own (G.loc o) x=.obj o) /\
   (∀x,w.frozen? (at_ (G.loc o) x)=false)/\∀(i:Nat)(c:LV),cs[i]? = some c->VR G w c (vs.getD i undef)/\(vs.getD i undef).oneCell'=true
 |.arr sz cs=>∃vs el fz,w.heap[G.loc o]? = some (.cells vs el fz)/\¬(G.B (G.loc o)).isSome/\cs.length<=vs.size/\((G.asz o).1=sz/\(G.asz o).2*sz<=vs.size/\cs.length<=(G.asz o).2*sz)/\(∀x,G.own (G.loc o) x=.obj o) /\
   (∀x,w.frozen? (at_ (G.loc o) x)=false)/\∀(i:Nat)(c:LV),cs[i]? = some c->VR G w c (vs.getD i undef)/\(vs.getD i undef).oneCell'=true
 |.map es=>MapR G w o es
 |.um es=>∃es0,es0.Perm es/\MapR G w o es0
 |.iter m left cur n=>¬(G.B (G.loc o)).isSome/\G.own (G.loc o) 0=.obj o /\
   if m=o then left=[]/\n=0/\cur=none/\∃si se st,w.heap[G.loc o]? = some (.mapIter none si se st) else
   ∃seen stepped,w.heap[G.loc o]? = some (.mapIter (some (G.loc m)) n seen stepped)/\m<G.n/\stepped=n/\(∀es,look m H.objs=some (.map es)->n<=es.length) /\
   ∀es,look m H.objs=some (.map es)->es.length=n->∀ents clock,w.heap[G.loc m]? = some (.map ents clock) ->
    left=(List.range ents.size).filter (fun i=>!seen.contains (ents.getD i default).born) /\
    ∀i,cur=some i->i<ents.size/\seen.back? = some (ents.getD i default).born
 |.bld tb te l=>∃p v,w.heap[G.loc o]? = some (.cells #[p,v] tb)/\¬(G.B (G.loc o)).isSome/\(∀x,G.own (G.loc o) x=.obj o)/\(p=.pointer none\/p=.pointer (some (at_ (G.loc o) 0)))/\BufR G w o te l v
 |.rcd busy fo ps k=>∃fn tmps df,w.heap[G.loc o]? = some (.loop { state:=if busy then .busy else .ready,pending:=none,fn:=fn,tmps:=tmps,params:=ps.toArray,assign:=(G.rc k).1,body:=(G.rc k).2,defers:=df }) /\
   ¬(G.B (G.loc o)).isSome/\G.own (G.loc o) 0=.obj o/\tmps.size=fo.length/\∀(i:Nat)(x:LV),fo[i]? = some x->VR G w x (tmps.getD i undef)
 |.dfr=>w.heap[G.loc o]? = some (.deferred (some []))/\¬(G.B (G.loc o)).isSome/\G.own (G.loc o) 0=.obj o
 |.lft j=>(∃L:Loop,w.heap[G.loc o]? = some (.loop L)/\L.state=.done/\L.pending=some (jmpC j))/\¬(G.B (G.loc o)).isSome/\G.own (G.loc o) 0=.obj o
 |.tok n sz=>∃base cap,G.tk o=some (n,base,cap)/\n<=cap/\(0<sz->n<cap->∃b off vs el fz,base=some (at_ b off)/\w.heap[b]? = some (.cells vs el fz)/\off+cap*sz<=vs.size /\
   ¬(G.B b).isSome/\(∀x,w.frozen? (at_ b x)=false)/\∀x,off+n*sz<=x->x<off+cap*sz->G.own b x=.tok o)
structure Inv(G:Ghost)(w:World)(H:LHeap):Prop where
 n:G.n<=H.next
 hB:∀b,(G.B b).isSome->b<w.heap.size
 free:∀b x,w.heap.size<=b->G.own b x=.free
 old:∀b x,(G.B b).isSome->G.own b x=.free
 objs:∀o x,look o H.objs=some x->o<G.n/\ObjR G w H o x
theorem Inv.hB'{G:Ghost}{w:World}{H:LHeap}(h:Inv G w H):¬(G.B w.heap.size).isSome:=fun hb=>Nat.lt_irrefl _ (h.hB _ hb)
structure FR(G:Ghost)(w:World)(N:Nat)(fr:Fr)(a:Act):Prop where
 size:a.tmps.size=N
 slot:∀k,VR G w (fr k) (a.tmps.getD k undef)
structure DR(G:Ghost)(w:World)(d:LDef)(d':Deferred):Prop where
 dummy:True
theorem FR.mono{G G':Ghost}{w w':World}{N:Nat}{fr:Fr}{a:Act}(h:Ext G w G' w')(hf:FR G w N fr a):FR G' w' N fr a:=
 ⟨hf.size,fun k=>(hf.slot k).mono h⟩
theorem FR.put{G:Ghost}{w:World}{N:Nat}{fr:Fr}{a:Act}{d:Option Nat}{x:LV}{v:Value}(hf:FR G w N fr a)(hd:d.all (·<N)=true)
  (hv:VR G w x v):FR G w N (putD fr d x) (a.put d v):=by
 cases d with
 |none=>exact hf
 |some d=>
  have hlt:d<a.tmps.size:=by rw[hf.size];simpa using hd
  refine⟨by simp[Act.put,hf.size],fun k=>?_⟩
  by_cases hk:k=d
  ·subst hk
   simp[putD,upd,Act.put,hlt,hv]
  ·have:=hf.slot k
   simp only[putD,upd,if_neg hk,Act.put]
   rw[Array.getD_eq_getD_getElem?,Array.getElem?_setIfInBounds_ne (fun e=>hk e.symm),<-Array.getD_eq_getD_getElem?]
   exact this
end Go.Abs
namespace Go.Abs
open Go
structure EnvR(E:Env)(G:Ghost)(w:World):Prop where
 glob:∀g,VR G w (E.glob g) (.pointer (some (at_ g 0)))
 rc:G.rc=E.rc
 fix:∀p∈E.fix,G.B p.1=some true/\∃vs t fz,w.heap[p.1]? = some (.cells vs t fz)/\p.2 vs
theorem EnvR.mono{E:Env}{G G':Ghost}{w w':World}(h:Ext G w G' w')(hE:EnvR E G w):EnvR E G' w':=
 ⟨fun g=>(hE.glob g).mono h,h.rc.trans hE.rc,fun p hp=>by
  obtain⟨h1,h2⟩:=hE.fix p hp
  exact⟨by rw[h.hB];exact h1,by rw[h.block _ (by rw[h1];rfl)];exact h2⟩⟩
def Yields(P:Program)(ρ:Operand->Value)(o:Oper)(w:World)(v:Value)(w':World):Prop:=
 (execOp ρ o).run P w=.ok (.value v) w'\/((execOp ρ o).run P w=.ok .skip w'/\v=undef)
abbrev fen(ro:Option Nat):Fence:={ fn:=fun _=>True,depth:=none,alive:=false,round:=ro }
theorem exec_defer{P:Program}{ρ:Operand->Value}{o:Oper}{c:Call}{w w':World}{x:Next}(hc:o.op=.defer c)(h:(execOp ρ o).run P w=.ok x w'):∃d,x=.defer d:=by
 simp only[execOp,hc,Sem.run_bind]at h
 cases hr:(resolve ρ c o.type).run P w with
 |ok d w1=>
  rw[hr]at h
  simp only[Result.andThen_ok,Sem.run_pure,Result.ok.injEq]at h
  exact⟨d,h.1.symm⟩
 |halt a b=>rw[hr]at h;cases h
theorem Yields.wpIn{P:Program}{o:Oper}{a:Act}{w w':World}{v:Value}{next:Act->World->Prop}{Q:Exit->Act->World->Prop}{ro:Option Nat}{nf:Nat}
  (h:Yields P a.eval o w v w') (hn:next (a.put o.dst v) w'):o.wpIn (fen ro) nf P a w next Q:=by
 have hd:∀c,o.op≠.defer c:=by
  intro c hc
  rcases h with h|⟨h,_⟩
  ·obtain⟨d,hd⟩:=exec_defer hc h;cases hd
  ·obtain⟨d,hd⟩:=exec_defer hc h;cases hd
 refine⟨fun _ _=>trivial,?_⟩
 rw[show (fen ro).round=ro from rfl,Oper.semAt_eq ro _ _ hd]
 rcases h with h|⟨h,rfl⟩
 ·rw[h];exact hn
 ·rw[h];exact hn
theorem ofConst_VR{G:Ghost}{w:World}{v:Value}{x:LV}(h:ofConst v=some x):VR G w x v:=by
 unfold ofConst at h
 split at h<;>simp at h<;>subst h
 ·exact .sc _
 ·exact .sc _
 ·exact .sc _
 ·exact .sc _
 ·exact .sc _
 ·exact .sln rfl
 ·exact .sc _
 ·exact .sc _
 ·exact .sc _
def EvR(E:Env)(G:Ghost)(w:World)(fr:Fr)(ρ:Operand->Value):Prop:=∀x b,cO x=some b->VR G w (E.ev fr b) (ρ x)
theorem ev_VR{E:Env}{G:Ghost}{w:World}{N:Nat}{fr:Fr}{a:Act}(hE:EnvR E G w)(hf:FR G w N fr a):EvR E G w fr a.eval:=by
 intro x b h
 unfold cO at h
 split at h
 ·simp at h;subst h;exact hf.slot _
 ·obtain⟨c,hc,rfl⟩:=Option.map_eq_some_iff.1 h
  exact ofConst_VR hc
 ·simp at h;subst h
  exact .fn (f:=.func _) trivial rfl rfl (fun i x hx=>by simp at hx) (fun i x hx=>by simp at hx)
 ·simp at h;subst h;exact hE.glob _
section
variable{P:Program}{E:Env}{G:Ghost}{w:World}{fr:Fr}{ρ:Operand->Value}{H:LHeap}{o:Oper}
def ValOk(P:Program)(G:Ghost)(w:World)(H:LHeap)(ρ:Operand->Value)(o:Oper)(x:LV):Prop:=
 ∃v w' G',Yields P ρ o w v w'/\VR G' w' x v/\Ext G w G' w'/\Inv G' w' H
theorem ValOk.here{x:LV}{v:Value}(hI:Inv G w H)(hr:(execOp ρ o).run P w=.ok (.value v) w)(hv:VR G w x v):
  ValOk P G w H ρ o x:=⟨v,w,G,.inl hr,hv,Ext.refl _ _,hI⟩
theorem lt_of_get{α:Type}{l:List α}{i:Nat}{x:α}(h:l[i]? = some x):i<l.length:=by
 rcases Nat.lt_or_ge i l.length with h'|h'
 ·exact h'
 ·rw[List.getElem?_eq_none h']at h;cases h
theorem getD_some{us:Array Value}{i:Nat}(h:i<us.size):us[i]? = some (us.getD i undef):=by
 rw[Array.getD_eq_getD_getElem?,Array.getElem?_eq_getElem h];rfl
theorem val_mv(hI:Inv G w H)(hρ:EvR E G w fr ρ){x:Operand}{b:BO}(ho:o.op=.move x\/o.op=.assign x)
  (h:cO x=some b):ValOk P G w H ρ o (E.ev fr b):=by
 refine .here hI (v:=ρ x) ?_ (hρ _ _ h)
 rcases ho with ho|ho<;>simp[execOp,ho,go_sem]
theorem val_pk(hI:Inv G w H)(hρ:EvR E G w fr ρ){c x y:Operand}{bc bx b2:BO}(ho:o.op=.pick c x y)
  (hc:cO c=some bc) (hx:cO x=some bx) (hy:cO y=some b2) {t:Bool} (ht:E.ev fr bc=.bool t):
  ValOk P G w H ρ o (if t then E.ev fr bx else E.ev fr b2):=by
 have h0:=hρ _ _ hc
 rw[ht]at h0
 refine .here hI (v:=if t then ρ x else ρ y) ?_ ?_
 ·simp[execOp,ho,h0.sc_inv,go_sem,asBool]
 ·cases t
  ·exact hρ _ _ hy
  ·exact hρ _ _ hx
theorem val_nt(hI:Inv G w H)(hρ:EvR E G w fr ρ){x:Operand}{bx:BO}{ty:TypeId}(ho:o.op=.unOp .not ty x)
  (hx:cO x=some bx) {t:Bool} (ht:E.ev fr bx=.bool t):ValOk P G w H ρ o (.bool !t):=by
 have h0:=hρ _ _ hx
 rw[ht]at h0
 refine .here hI (v:=.bool !t) ?_ (.sc _)
 simp[execOp,ho,h0.sc_inv,go_sem,Op.unary]
theorem val_mi(hI:Inv G w H)(hρ:EvR E G w fr ρ){x:Operand}{bx:BO}{ty:TypeId}(ho:o.op=.makeInterface ty x)
  (hx:cO x=some bx) {d:TypeDesc} (hd:P.underlying ty=some d) (hn:∀m,d≠.interface m):ValOk P G w H ρ o (.iface ty (E.ev fr bx)):=by
 refine .here hI (v:=.iface ty (ρ x)) ?_ (.iface (hρ _ _ hx))
 have h1:=run_underlying hd w
 simp only[execOp,ho,Instr.makeInterface,Sem.run_bind,h1,Result.andThen_ok]
 cases d<;>simp_all [go_sem]
theorem val_nc(hI:Inv G w H)(hρ:EvR E G w fr ρ){x:Operand}{bx:BO}(ho:o.op=.nilCheck x)
  (hx:cO x=some bx) (hp:(∃b k,E.ev fr bx=.ptr b k)\/(∃cs k,E.ev fr bx=.cptr cs k)):ValOk P G w H ρ o (E.ev fr bx):=by
 have h0:=hρ _ _ hx
 refine .here hI (v:=ρ x) ?_ h0
 have:∃p,ρ x=.pointer (some p):=by
  rcases hp with⟨b,k,hb⟩|⟨cs,k,hb⟩<;>rw[hb]at h0
  ·exact⟨_,h0.ptr_inv.2⟩
  ·obtain⟨b,base,xs,h1,_⟩:=h0.cptr_inv;exact⟨_,h1⟩
 obtain⟨p,hp⟩:=this
 simp[execOp,ho,hp,go_sem]
theorem val_xt(hI:Inv G w H)(hρ:EvR E G w fr ρ){x:Operand}{bx:BO}{i:Nat}(ho:o.op=.extract x i)
  (hx:cO x=some bx) {vs:List LV} (ht:E.ev fr bx=.tup vs) {v:LV} (hv:vs[i]? = some v):ValOk P G w H ρ o v:=by
 have h0:=hρ _ _ hx
 rw[ht]at h0
 obtain⟨us,hr,hs,hcs⟩:=h0.tup_inv
 refine .here hI (v:=us.getD i undef) ?_ (hcs i v hv)
 have:=getD_some (us:=us) (hs▸lt_of_get hv)
 simp only[execOp,ho,hr,Instr.extract,this]
 rfl
theorem run_info{P:Program}{t:TypeId}{i:TypeInfo}(h:P.info? t=some i)(w:World):(typeInfo t).run P w=.ok i w:=by
 simp[typeInfo,h,go_sem]
theorem run_size{P:Program}{t:TypeId}{n:Nat}(h:sizeO P t=some n)(w:World):(sizeOf t).run P w=.ok n w:=by
 unfold sizeO at h
 obtain⟨i,hi,rfl⟩:=Option.map_eq_some_iff.1 h
 simp[sizeOf,run_info hi,go_sem]
theorem run_agg{P:Program}{t:TypeId}{b:Bool}(h:aggO P t=some b)(w:World):(isAgg t).run P w=.ok b w:=by
 unfold aggO at h
 obtain⟨d,hd,rfl⟩:=Option.map_eq_some_iff.1 h
 simp only[isAgg,Sem.run_bind,run_underlying hd,Result.andThen_ok]
 cases d<;>rfl
theorem eqGuard_other{op:BinOp}(h1:op≠.eql)(h2:op≠.neq)(t:TypeId)(x y:Operand)(u v:Value)(w:World):(eqGuard op t x y u v).run P w=.ok () w:=by
 cases op<;>simp_all [eqGuard,go_sem]
theorem run_binL{op:BinOp}{X Y r:LV}{u v:Value}(h:binL op X Y=some r)(hX:VR G w X u)(hY:VR G w Y v)(t:TypeId):
  ∃z,(binOp op t u v).run P w=.ok z w/\r=.sc z:=by
 unfold binL at h
 split at h
 ·obtain rfl:=hX.sc_inv
  obtain rfl:=hY.sc_inv
  rename_i k a k' b
  split at h
  ·rename_i hk
   subst hk
   split at h<;>simp at h
   ·exact⟨_,by simp[binOp,Op.intArith,go_sem],h.symm⟩
   ·exact⟨_,by simp[binOp,Op.intArith,go_sem],h.symm⟩
   ·exact⟨_,by simp[binOp,Op.intArith,go_sem],h.symm⟩
   ·exact⟨.int k (k.wrap (a.tdiv b)),by simp[binOp,Op.intDiv,h.1,go_sem],h.2.symm⟩
   ·exact⟨.int k (a.tmod b),by simp[binOp,Op.intDiv,h.1,go_sem],h.2.symm⟩
   ·exact⟨_,by simp[binOp,Op.intCmp,go_sem],h.symm⟩
   ·exact⟨_,by simp[binOp,Op.intCmp,go_sem],h.symm⟩
   ·exact⟨_,by simp[binOp,Op.intCmp,go_sem],h.symm⟩
   ·exact⟨_,by simp[binOp,Op.intCmp,go_sem],h.symm⟩
  ·simp at h
 ·obtain rfl:=hX.sc_inv
  obtain rfl:=hY.sc_inv
  rename_i a b
  split at h<;>simp at h
  ·refine⟨_,?_,h.2.symm⟩
   have:¬((a.size+b.size:Nat):Int) > IntKind.i64.max:=by
    have:IntKind.i64.max=9223372036854775807:=rfl
    omega
   simp only[binOp,Op.stringOp,if_neg this]
   rfl
  ·exact⟨_,by simp[binOp,Op.stringOp,go_sem],h.symm⟩
  ·exact⟨_,by simp[binOp,Op.stringOp,go_sem],h.symm⟩
  ·exact⟨_,by simp[binOp,Op.stringOp,go_sem],h.symm⟩
  ·exact⟨_,by simp[binOp,Op.stringOp,go_sem],h.symm⟩
 ·simp at h
theorem val_bn(hI:Inv G w H)(hρ:EvR E G w fr ρ){op:BinOp}{t t':TypeId}{x y:Operand}{bx b2:BO}(ho:o.op=.binOp op t x y t')
  (hx:cO x=some bx) (hy:cO y=some b2) (h1:op≠.eql) (h2:op≠.neq) {r:LV} (h:binL op (E.ev fr bx) (E.ev fr b2)=some r):ValOk P G w H ρ o r:=by
 obtain⟨z,hz,rfl⟩:=run_binL (P:=P) h (hρ _ _ hx) (hρ _ _ hy) t
 refine .here hI (v:=z) ?_ (.sc _)
 simp[execOp,ho,Sem.run_bind,eqGuard_other h1 h2,hz,go_sem]
end
end Go.Abs
namespace Go.Abs
open Go
section
variable{P:Program}{E:Env}{G:Ghost}{w:World}{fr:Fr}{ρ:Operand->Value}{H:LHeap}{o:Oper}
theorem at_add(b x j:Nat):(at_ b x).add j=at_ b (x+j):=by
 unfold Addr.add;split
 ·rename_i h;subst h;rfl
 ·rfl
def RowR(G:Ghost)(w:World)(b base:Nat)(cs:List LV):Prop:=
 ∃xs:Nat->Value,∀(j:Nat)(c:LV),cs[j]? = some c->w.cell? (at_ b (base+j))=some (xs j)/\VR G w c (xs j)/\(xs j).oneCell'=true
theorem nO_some{t:TypeId}{n:Nat}(h:nO P t=some (some n)):sizeO P t=some n/\aggO P t=some true:=by
 unfold nO at h
 split at h<;>simp_all
theorem nO_none{t:TypeId}(h:nO P t=some none):sizeO P t=some 1/\aggO P t=some false:=by
 unfold nO at h
 split at h<;>simp_all
theorem run_loadRow{b base off:Nat}{cs:List LV}{t:TypeId}{n:Option Nat}{r:LV}(hn:nO P t=some n)(hR:RowR G w b base cs)(hp:partL cs off n=some r):
  ∃v,(loadVar t (at_ b (base+off))).run P w=.ok v w/\VR G w r v:=by
 obtain⟨xs,hxs⟩:=hR
 cases n with
 |none=>
  obtain⟨_,ha⟩:=nO_none hn
  have h1:=hxs off r hp
  exact⟨xs off,by simp[loadVar,Sem.run_bind,run_agg ha,h1.1],h1.2.1⟩
 |some n=>
  obtain⟨hs,ha⟩:=nO_some hn
  unfold partL at hp
  simp only[Option.ite_none_right_eq_some,Option.some.injEq]at hp
  obtain⟨hle,rfl⟩:=hp
  refine⟨.agg ((List.range n).map fun j=>xs (off+j)).toArray,?_,?_⟩
  ·have h2:=run_loadCells (P:=P) w (at_ b (base+off)) n (fun j=>xs (off+j)) (fun j hj=>by
    rw[at_add,Nat.add_assoc]
    have:off+j<cs.length:=by omega
    exact(hxs (off+j) _ (List.getElem?_eq_getElem this)).1)
   simp[loadVar,Sem.run_bind,run_agg ha,run_size hs,h2]
  ·refine .agg (by simp;omega) (fun i c hc=>?_) (fun i hi=>?_)
   ·rw[List.getElem?_take]at hc
    split at hc
    ·rename_i hi
     rw[List.getElem?_drop]at hc
     simpa [hi] using (hxs (off+i) c hc).2.1
    ·cases hc
   ·have hi':i<n:=by simp at hi;omega
    have:off+i<cs.length:=by omega
    simpa [hi'] using (hxs (off+i) _ (List.getElem?_eq_getElem this)).2.2
theorem row_of_cptr{cs:List LV}{k:Nat}{v:Value}(h:VR G w (.cptr cs k) v):∃b base,v=.pointer (some (at_ b (base+k)))/\RowR G w b base cs:=by
 obtain⟨b,base,xs,rfl,h1,h2⟩:=h.cptr_inv
 exact⟨b,base,rfl,xs,fun j c hc=>⟨(h1 j c hc).2.1,h2 j c hc,(h1 j c hc).2.2⟩⟩
theorem cell?_cells{b x:Nat}{vs:Array Value}{el:TypeId}{fz:Nat×Nat}(h:w.heap[b]? = some (.cells vs el fz)):w.cell? (at_ b x)=vs[x]?:=by
 simp[World.cell?,h]
theorem row_of_cells{o:Nat}{cs:List LV}(hI:Inv G w H)(h:look o H.objs=some (.cells cs)):o<G.n/\RowR G w (G.loc o) 0 cs:=by
 obtain⟨ho,vs,el,fz,h1,h2,h3,h4,h5,h6⟩:=hI.objs o _ h
 refine⟨ho,fun j=>vs.getD j undef,fun j c hc=>?_⟩
 have hj:=lt_of_get hc
 rw[cell?_cells h1,Nat.zero_add]
 exact⟨getD_some (by omega),h6 j c hc⟩
theorem row_of_arr{o sz:Nat}{cs:List LV}(hI:Inv G w H)(h:look o H.objs=some (.arr sz cs)):o<G.n/\RowR G w (G.loc o) 0 cs:=by
 obtain⟨ho,vs,el,fz,h1,h2,h3,h3',h4,h5,h6⟩:=hI.objs o _ h
 refine⟨ho,fun j=>vs.getD j undef,fun j c hc=>?_⟩
 have hj:=lt_of_get hc
 rw[cell?_cells h1,Nat.zero_add]
 exact⟨getD_some (by omega),h6 j c hc⟩
theorem val_ld(hI:Inv G w H)(hρ:EvR E G w fr ρ){t:TypeId}{n:Option Nat}{x:Operand}{bx:BO}(ho:o.op=.load t x)(hn:nO P t=some n)
  (hx:cO x=some bx) {r:LV} (h:loadL H n (E.ev fr bx)=some r):ValOk P G w H ρ o r:=by
 have h0:=hρ _ _ hx
 have key:∀b base off cs,ρ x=.pointer (some (at_ b (base+off)))->RowR G w b base cs->partL cs off n=some r->ValOk P G w H ρ o r:=by
  intro b base off cs hp hR hr
  obtain⟨v,hv,hV⟩:=run_loadRow hn hR hr
  refine .here hI (v:=v) ?_ hV
  simp[execOp,ho,Instr.loadAt,hp,Instr.sureAddr,hv]
 unfold loadL at h
 split at h
 ·rename_i b k hb
  rw[hb]at h0
  obtain⟨_,hp⟩:=h0.ptr_inv
  split at h
  ·rename_i cs hl
   exact key _ 0 k cs (by rw[hp,Nat.zero_add]) (row_of_cells hI hl).2 h
  ·rename_i sz cs hl
   exact key _ 0 k cs (by rw[hp,Nat.zero_add]) (row_of_arr hI hl).2 h
  ·simp at h
 ·rename_i cs k hb
  rw[hb]at h0
  obtain⟨b,base,hp,hR⟩:=row_of_cptr h0
  exact key b base k cs hp hR h
 ·simp at h
theorem run_fieldPlace{b x:Nat}{f:Field}{n:Nat}(hs:sizeO P f.type=some (n+1)):(fieldPlace (at_ b x) f).run P w=.ok (at_ b (x+f.offset)) w:=by
 simp[fieldPlace,Sem.run_bind,run_size hs,at_add]
theorem val_fa(hI:Inv G w H)(hρ:EvR E G w fr ρ){t:TypeId}{x:Operand}{bx:BO}{i n:Nat}{fs:Array Field}{f:Field}(ho:o.op=.fieldAddr t x i)
  (ht:P.underlying t=some (.struct fs)) (hf:fs[i]? = some f) (hs:sizeO P f.type=some (n+1)) (hx:cO x=some bx):
  (∀b k,E.ev fr bx=.ptr b k->ValOk P G w H ρ o (.ptr b (k+f.offset)))/\(∀cs k,E.ev fr bx=.cptr cs k->ValOk P G w H ρ o (.cptr cs (k+f.offset))):=by
 have h0:=hρ _ _ hx
 have run:∀b k,ρ x=.pointer (some (at_ b k))->(execOp ρ o).run P w=.ok (.value (.pointer (some (at_ b (k+f.offset))))) w:=by
  intro b k hp
  simp[execOp,ho,Instr.fieldAt,Sem.run_bind,run_underlying ht,hf,hp,Instr.sureAddr,run_fieldPlace hs]
 constructor
 ·intro b k hb
  rw[hb]at h0
  obtain⟨h1,hp⟩:=h0.ptr_inv
  exact .here hI (run _ _ hp) (.ptr h1)
 ·intro cs k hb
  rw[hb]at h0
  obtain⟨b,base,xs,hp,h1,h2⟩:=h0.cptr_inv
  refine .here hI (run _ _ hp) ?_
  rw[Nat.add_assoc]
  exact .cptr h1 h2
theorem run_part{vs:Array Value}{cs:List LV}{t:TypeId}{n:Option Nat}{off:Nat}{r:LV}(hn:nO P t=some n)(hs:vs.size=cs.length)
  (h1:∀(i:Nat)(c:LV),cs[i]? = some c->VR G w c (vs.getD i undef)) (h2:∀i,i<cs.length->(vs.getD i undef).oneCell'=true) (hp:partL cs off n=some r):
  ∃v,(part t vs off).run P w=.ok v w/\VR G w r v:=by
 cases n with
 |none=>
  obtain⟨_,ha⟩:=nO_none hn
  have hlt:=lt_of_get (show cs[off]? = some r from hp)
  refine⟨vs.getD off undef,?_,h1 off r hp⟩
  have hg:=getD_some (us:=vs) (i:=off) (by omega)
  simp only[part,Sem.run_bind,run_agg ha,Result.andThen_ok,Bool.false_eq_true,if_false,hg]
  rfl
 |some n=>
  obtain⟨hsz,ha⟩:=nO_some hn
  unfold partL at hp
  simp only[Option.ite_none_right_eq_some,Option.some.injEq]at hp
  obtain⟨hle,rfl⟩:=hp
  have hget:∀i,i<n->(vs.extract off (off+n)).getD i undef=vs.getD (off+i) undef:=by
   intro i hi
   rw[Array.getD_eq_getD_getElem?,Array.getD_eq_getD_getElem?,Array.getElem?_extract_of_lt (by omega),Array.getElem?_eq_getElem (by omega)]
  refine⟨.agg (vs.extract off (off+n)),by simp[part,Sem.run_bind,run_agg ha,run_size hsz],.agg (by simp;omega) (fun i c hc=>?_) (fun i hi=>?_)⟩
  ·rw[List.getElem?_take]at hc
   split at hc
   ·rename_i hi
    rw[List.getElem?_drop]at hc
    rw[hget i hi];exact h1 _ _ hc
   ·cases hc
  ·have hi':i<n:=by simp at hi;omega
   rw[hget i hi'];exact h2 _ (by omega)
theorem val_fd(hI:Inv G w H)(hρ:EvR E G w fr ρ){t:TypeId}{x:Operand}{bx:BO}{i:Nat}{n:Option Nat}{fs:Array Field}{f:Field}(ho:o.op=.field t x i)
  (ht:P.underlying t=some (.struct fs)) (hf:fs[i]? = some f) (hn:nO P f.type=some n) (hx:cO x=some bx) {cs:List LV} (hc:E.ev fr bx=.agg cs) {r:LV}
  (h:partL cs f.offset n=some r):ValOk P G w H ρ o r:=by
 have h0:=hρ _ _ hx
 rw[hc]at h0
 obtain⟨vs,hv,hs,h1,h2⟩:=h0.agg_inv
 obtain⟨v,hr,hV⟩:=run_part hn hs h1 h2 h
 refine .here hI (v:=v) ?_ hV
 simp[execOp,ho,Instr.field,Sem.run_bind,run_underlying ht,hf,hv,asAgg,hr]
theorem natOf_inv{X:LV}{n:Nat}{v:Value}(h:natOf X=some n)(hX:VR G w X v):∃k,v=.int k (n:Int):=by
 unfold natOf at h
 split at h
 ·rename_i k m
  obtain rfl:=hX.sc_inv
  split at h
  ·rename_i hm
   simp at h
   exact⟨k,by rw[<-h];simp[Int.toNat_of_nonneg hm]⟩
  ·simp at h
 ·simp at h
theorem run_asIntOf(k:IntKind)(n:Int):(asIntOf (.int k n)).run P w=.ok (k,n) w:=rfl
theorem val_ia(hI:Inv G w H)(hρ:EvR E G w fr ρ){t e:TypeId}{x i:Operand}{bx bi:BO}{sz n:Nat}(ho:o.op=.indexAddr t x i)
  (ht:P.underlying t=some (.slice e)) (hs:sizeO P e=some sz) (hx:cO x=some bx) (hi:cO i=some bi) (hn:natOf (E.ev fr bi)=some n):
  (∀es own el,E.ev fr bx=.sl es own->es[n]? = some el->el.cells.length=sz->ValOk P G w H ρ o (.cptr el.cells 0)) /\
  (∀b off len sz' cs,E.ev fr bx=.asl b off len->n<len->look b H.objs=some (.arr sz' cs)->sz'=sz->ValOk P G w H ρ o (.ptr b ((off+n)*sz))):=by
 have h0:=hρ _ _ hx
 obtain⟨k,hk⟩:=natOf_inv hn (hρ _ _ hi)
 constructor
 ·intro es own el he hel hsz
  rw[he]at h0
  obtain⟨base,cap,hv,hcap,_,hb⟩:=h0.sl_inv
  have hlt:=lt_of_get hel
  rcases hb with⟨rfl,_⟩|⟨b,off,sz',xs,rfl,h1,h2,h3⟩
  ·simp at hlt
  have hz:sz'=sz:=(h1 n el hel).symm.trans hsz
  subst hz
  refine .here hI (v:=.pointer (some (at_ b (off+n*sz')))) ?_ ?_
  ·simp[execOp,ho,Instr.indexAt,Sem.run_bind,hk,run_asIntOf,run_underlying ht,hv,run_size hs,at_add,hlt]
  ·have:=VR.cptr (G:=G) (w:=w) (cs:=el.cells) (off:=0) (b:=b) (base:=off+n*sz') (xs:=xs n) (fun j c hc=>h2 n el j c hel hc) (fun j c hc=>h3 n el j c hel hc)
   simpa using this
 ·intro b off len sz' cs he hlt hl hz
  rw[he]at h0
  obtain⟨hb,cap,hcap,_,hv⟩:=h0.asl_inv
  obtain⟨_,vs,el,fz,_,_,_,ha,_⟩:=hI.objs b _ hl
  subst hz
  refine .here hI (v:=.pointer (some (at_ (G.loc b) ((off+n)*sz')))) ?_ (.ptr hb)
  simp[execOp,ho,Instr.indexAt,Sem.run_bind,hk,run_asIntOf,run_underlying ht,hv,run_size hs,at_add,hlt,ha,Nat.add_mul]
end
end Go.Abs
namespace Go.Abs
open Go
section
variable{P:Program}{E:Env}{G:Ghost}{w:World}{fr:Fr}{ρ:Operand->Value}{H:LHeap}{o:Oper}
theorem val_ip(hI:Inv G w H)(hρ:EvR E G w fr ρ){t e:TypeId}{x i:Operand}{bx bi:BO}{sz n m:Nat}(ho:o.op=.indexAddr t x i)
  (ht:P.underlying t=some (.array m e)) (hs:sizeO P e=some sz) (hx:cO x=some bx) (hi:cO i=some bi) (hn:natOf (E.ev fr bi)=some n) (hlt:n<m):
  (∀b k,E.ev fr bx=.ptr b k->ValOk P G w H ρ o (.ptr b (k+n*sz)))/\(∀cs k,E.ev fr bx=.cptr cs k->ValOk P G w H ρ o (.cptr cs (k+n*sz))):=by
 have h0:=hρ _ _ hx
 obtain⟨k',hk⟩:=natOf_inv hn (hρ _ _ hi)
 have run:∀b k,ρ x=.pointer (some (at_ b k))->(execOp ρ o).run P w=.ok (.value (.pointer (some (at_ b (k+n*sz))))) w:=by
  intro b k hp
  simp[execOp,ho,Instr.indexAt,Sem.run_bind,hk,run_asIntOf,run_underlying ht,hp,Instr.sureAddr,run_size hs,at_add,hlt]
 constructor
 ·intro b k hb
  rw[hb]at h0
  obtain⟨h1,hp⟩:=h0.ptr_inv
  exact .here hI (run _ _ hp) (.ptr h1)
 ·intro cs k hb
  rw[hb]at h0
  obtain⟨b,base,xs,hp,h1,h2⟩:=h0.cptr_inv
  refine .here hI (run _ _ hp) ?_
  rw[Nat.add_assoc]
  exact .cptr h1 h2
theorem val_ix_str(hI:Inv G w H)(hρ:EvR E G w fr ρ){t:TypeId}{x i:Operand}{bx bi:BO}{n:Nat}(ho:o.op=.index t x i)
  (ht:P.underlying t=some .string) (hx:cO x=some bx) (hi:cO i=some bi) (hn:natOf (E.ev fr bi)=some n) {s:ByteArray} (hs:E.ev fr bx=.str s)
  {b:UInt8} (hb:s.data[n]? = some b):ValOk P G w H ρ o (.sc (.int .u8 b.toNat)):=by
 have h0:=hρ _ _ hx
 rw[hs]at h0
 have hv:=h0.sc_inv
 obtain⟨k',hk⟩:=natOf_inv hn (hρ _ _ hi)
 refine .here hI (v:=.int .u8 b.toNat) ?_ (.sc _)
 have hg:s[n]? = some b:=by
  rw[<-hb]
  obtain⟨d⟩:=s
  rfl
 simp[execOp,ho,Instr.index,Sem.run_bind,hk,run_asIntOf,run_underlying ht,hv,hg]
theorem val_ix_arr(hI:Inv G w H)(hρ:EvR E G w fr ρ){t e:TypeId}{x i:Operand}{bx bi:BO}{n m:Nat}(ho:o.op=.index t x i)
  (ht:P.underlying t=some (.array m e)) (he:nO P e=some none) (hx:cO x=some bx) (hi:cO i=some bi) (hn:natOf (E.ev fr bi)=some n) (hlt:n<m)
  {cs:List LV} (hc:E.ev fr bx=.agg cs) {r:LV} (hr:cs[n]? = some r):ValOk P G w H ρ o r:=by
 have h0:=hρ _ _ hx
 rw[hc]at h0
 obtain⟨vs,hv,hs,h1,h2⟩:=h0.agg_inv
 obtain⟨k',hk⟩:=natOf_inv hn (hρ _ _ hi)
 obtain⟨v,hrun,hV⟩:=run_part (P:=P) he hs h1 h2 hr
 refine .here hI (v:=v) ?_ hV
 simp[execOp,ho,Instr.index,Sem.run_bind,hk,run_asIntOf,run_underlying ht,hv,hlt,run_size (nO_none he).1,hrun]
theorem val_cv(hI:Inv G w H)(hρ:EvR E G w fr ρ){s d:TypeId}{x:Operand}{bx:BO}{k k':IntKind}(ho:o.op=.convert s d x)
  (hs:P.underlying s=some (.int k')) (hd:P.underlying d=some (.int k)) (hx:cO x=some bx) {j:IntKind} {n:Int} (hn:E.ev fr bx=.sc (.int j n)):
  ValOk P G w H ρ o (.sc (.int k (k.wrap n))):=by
 have h0:=hρ _ _ hx
 rw[hn]at h0
 refine .here hI (v:=.int k (k.wrap n)) ?_ (.sc _)
 simp[execOp,ho,convert,Sem.run_bind,run_underlying hs,run_underlying hd,h0.sc_inv,Conv.intToInt]
theorem val_cvs(hI:Inv G w H)(hρ:EvR E G w fr ρ){s d:TypeId}{x:Operand}{bx:BO}(ho:o.op=.convert s d x)
  (hs:P.underlying s=some .string) (hd:P.underlying d=some .string) (hx:cO x=some bx) {b:ByteArray} (hn:E.ev fr bx=.str b):
  ValOk P G w H ρ o (.str b):=by
 have h0:=hρ _ _ hx
 rw[hn]at h0
 refine .here hI (v:=.string b) ?_ (.sc _)
 simp[execOp,ho,convert,Sem.run_bind,run_underlying hs,run_underlying hd,h0.sc_inv]
theorem mapM_cO{l:List Operand}{bl:List BO}(h:l.mapM cO=some bl):bl.length=l.length/\∀(i:Nat)(b:BO),bl[i]? = some b->∃x,l[i]? = some x/\cO x=some b:=by
 induction l generalizing bl with
 |nil=>simp at h;subst h;exact⟨rfl,fun i b hb=>by simp at hb⟩
 |cons x l ih=>
  simp only[List.mapM_cons,Option.bind_eq_bind,Option.bind_eq_some_iff,Option.pure_def,Option.some.injEq]at h
  obtain⟨b,hb,bl',hl,rfl⟩:=h
  obtain⟨h1,h2⟩:=ih hl
  refine⟨by simp[h1],fun i c hc=>?_⟩
  cases i with
  |zero=>simp at hc;subst hc;exact⟨x,rfl,hb⟩
  |succ i=>simpa using h2 i c (by simpa using hc)
theorem map_VR(hρ:EvR E G w fr ρ){l:Array Operand}{bl:List BO}(h:l.toList.mapM cO=some bl):
  (l.map ρ).size=(bl.map (E.ev fr)).length/\∀(i:Nat)(c:LV),(bl.map (E.ev fr))[i]? = some c->VR G w c ((l.map ρ).getD i undef):=by
 obtain⟨h1,h2⟩:=mapM_cO h
 refine⟨by simp[h1],fun i c hc=>?_⟩
 rw[List.getElem?_map]at hc
 obtain⟨b,hb,rfl⟩:=Option.map_eq_some_iff.1 hc
 obtain⟨x,hx,hcx⟩:=h2 i b hb
 have:(l.map ρ).getD i undef=ρ x:=by
  rw[Array.getD_eq_getD_getElem?,Array.getElem?_map]
  rw[Array.getElem?_toList]at hx
  simp[hx]
 rw[this];exact hρ _ _ hcx
theorem val_mf(hI:Inv G w H)(hρ:EvR E G w fr ρ){f:FuncId}{as cs:Array Operand}{ba bc:List BO}(ho:o.op=.makeFunc (.func f) as cs)
  (ha:as.toList.mapM cO=some ba) (hc:cs.toList.mapM cO=some bc):ValOk P G w H ρ o (.fn (.func f) (ba.map (E.ev fr)) (bc.map (E.ev fr))):=by
 obtain⟨h1,h2⟩:=map_VR hρ ha
 obtain⟨h3,h4⟩:=map_VR hρ hc
 refine .here hI (v:=.func (.func f) (as.map ρ) (cs.map ρ)) ?_ (.fn (f:=.func f) trivial h1 h3 h2 h4)
 simp[execOp,ho,Instr.makeFunc]
theorem val_mn(hI:Inv G w H)(hρ:EvR E G w fr ρ){mx:Bool}{c:Call}{x y:Operand}{bx b2:BO}(ho:o.op=.call c)
  (hcal:c.callee=.builtin (if mx then .max else .min)) (hargs:c.args=#[x,y]) (hx:cO x=some bx) (hy:cO y=some b2) {k:IntKind} {a b:Int}
  (ha:E.ev fr bx=.sc (.int k a)) (hb:E.ev fr b2=.sc (.int k b)):ValOk P G w H ρ o (.sc (.int k (if mx then (if b > a then b else a) else (if b<a then b else a)))):=by
 have h1:=hρ _ _ hx
 have h2:=hρ _ _ hy
 rw[ha]at h1;rw[hb]at h2
 refine .here hI (v:=.int k (if mx then (if b > a then b else a) else (if b<a then b else a))) ?_ (.sc _)
 cases mx
 ·simp[execOp,ho,resolve,hcal,hargs,h1.sc_inv,h2.sc_inv,invoke,builtin,Builtin.min_,Builtin.min2]
 ·simp[execOp,ho,resolve,hcal,hargs,h1.sc_inv,h2.sc_inv,invoke,builtin,Builtin.max_,Builtin.max2]
def LenTy(P:Program)(t:TypeId):Nat->Prop
 |0=>P.underlying t=some .string
 |1=>∃e,P.underlying t=some (.slice e)
 |2=>∃k e,P.underlying t=some (.map k e)
 |_=>False
theorem run_getObj_map{r:Nat}{es:Array MapEntry}{c:Nat}(h:w.heap[r]? = some (.map es c)):(getObj r).run P w=.ok (.map es c) w:=by
 simp[getObj,Sem.run,h]
theorem val_ln(hI:Inv G w H)(hρ:EvR E G w fr ρ){c:Call}{x:Operand}{bx:BO}{t:TypeId}{k:Nat}(ho:o.op=.call c)
  (hcal:c.callee=.builtin .len) (hargs:c.args=#[x]) (hty:c.argTypes[0]? = some t) (ht:LenTy P t k)
  (hx:cO x=some bx) {n:Nat} (hn:lenL H k (E.ev fr bx)=some n):ValOk P G w H ρ o (.int n):=by
 have h0:=hρ _ _ hx
 have go:(Builtin.len_ c.argTypes o.type #[ρ x]).run P w=.ok (.int .i64 n) w->ValOk P G w H ρ o (.int n):=by
  intro h
  refine .here hI (v:=.int .i64 n) ?_ (.sc _)
  simp[execOp,ho,resolve,hcal,hargs,invoke,builtin,h]
 apply go
 unfold lenL at hn
 split at hn
 ·rename_i es own he
  simp at hn;subst hn
  obtain⟨e,h1⟩:=ht
  rw[he]at h0
  obtain⟨_,_,hv,_⟩:=h0.sl_inv
  simp[Builtin.len_,hty,hv,Sem.run_bind,run_underlying h1,goInt]
 ·exact ht.elim
 ·rename_i a b m he
  simp at hn;subst hn
  obtain⟨e,h1⟩:=ht
  rw[he]at h0
  obtain⟨_,_,_,_,hv⟩:=h0.asl_inv
  simp[Builtin.len_,hty,hv,Sem.run_bind,run_underlying h1,goInt]
 ·rename_i s he
  simp at hn;subst hn
  have h1:P.underlying t=some .string:=ht
  rw[he]at h0
  simp[Builtin.len_,hty,h0.sc_inv,Sem.run_bind,run_underlying h1,goInt]
 ·rename_i he
  simp at hn;subst hn
  obtain⟨k,e,h1⟩:=ht
  rw[he]at h0
  simp[Builtin.len_,hty,h0.sc_inv,Sem.run_bind,run_underlying h1,goInt]
 ·rename_i m he
  split at hn
  ·rename_i es hl
   simp at hn;subst hn
   obtain⟨k,e,h1⟩:=ht
   rw[he]at h0
   obtain⟨_,hv⟩:=h0.map_inv
   obtain⟨_,ents,clock,hh,_,_,hsz,_⟩:=hI.objs m _ hl
   simp[Builtin.len_,hty,hv,Sem.run_bind,run_underlying h1,goInt,run_getObj_map hh,hsz]
  ·rename_i es hl
   simp at hn;subst hn
   obtain⟨k,e,h1⟩:=ht
   rw[he]at h0
   obtain⟨_,hv⟩:=h0.map_inv
   obtain⟨_,es0,hp,ents,clock,hh,_,_,hsz,_⟩:=hI.objs m _ hl
   simp[Builtin.len_,hty,hv,Sem.run_bind,run_underlying h1,goInt,run_getObj_map hh,hsz,hp.length_eq]
  ·simp at hn
 ·simp at hn
theorem run_sliceBound{k:IntKind}{n y:Nat}{code:BoundsCode}(h:n<=y):(Instr.sliceBound (.int k n) y code).run P w=.ok n w:=by
 have h2:(0:Int)<=n/\(n:Int)<=y:=by omega
 simp only[Instr.sliceBound,Sem.run_bind,run_asIntOf,Result.andThen_ok,if_pos h2]
 rfl
theorem run_bounds(hρ:EvR E G w fr ρ){isS:Bool}{len cap:Nat}{l h:Option Operand}{bl bh:Option BO}{a b:Nat}
  (hl:cOo l=some bl) (hh:cOo h=some bh)
  (ha:optNat fr E.ev 0 bl=some a) (hb:optNat fr E.ev len bh=some b) (hab:a<=b) (hbl:b<=len) (hlc:len<=cap):
  (Instr.sliceBounds isS len cap (l.map ρ) (h.map ρ) none).run P w=.ok (a,b,cap) w:=by
 have e3:∀y c,cO y=some c->natOf (E.ev fr c)=some a->(Instr.sliceBound (ρ y) b .sliceB).run P w=.ok a w:=by
  intro y c hc ha
  obtain⟨k,hk⟩:=natOf_inv ha (hρ _ _ hc)
  rw[hk];exact run_sliceBound hab
 have e2:∀y c,cO y=some c->natOf (E.ev fr c)=some b->(Instr.sliceBound (ρ y) cap (if isS then .sliceAcap else .sliceAlen)).run P w=.ok b w:=by
  intro y c hc hb
  obtain⟨k,hk⟩:=natOf_inv hb (hρ _ _ hc)
  rw[hk];exact run_sliceBound (by omega)
 cases h with
 |none=>
  simp[cOo]at hh;subst hh
  simp[optNat]at hb;subst hb
  cases l with
  |none=>
   simp[cOo]at hl;subst hl
   simp[optNat]at ha;subst ha
   rfl
  |some y=>
   obtain⟨c,hc,rfl⟩:=Option.map_eq_some_iff.1 hl
   have:=e3 y c hc ha
   simp only[Instr.sliceBounds,Option.map_none,Option.map_some,Option.isSome_none,Bool.false_eq_true,if_false,Sem.run_bind,Sem.run_pure,Result.andThen_ok,this]
 |some z=>
  obtain⟨d,hd,rfl⟩:=Option.map_eq_some_iff.1 hh
  have h2:=e2 z d hd hb
  cases l with
  |none=>
   simp[cOo]at hl;subst hl
   simp[optNat]at ha;subst ha
   simp only[Instr.sliceBounds,Option.map_none,Option.map_some,Sem.run_bind,Sem.run_pure,Result.andThen_ok,h2]
  |some y=>
   obtain⟨c,hc,rfl⟩:=Option.map_eq_some_iff.1 hl
   have:=e3 y c hc ha
   simp only[Instr.sliceBounds,Option.map_some,Option.isSome_none,Bool.false_eq_true,if_false,Sem.run_bind,Sem.run_pure,Result.andThen_ok,h2,this]
theorem val_sr_str(hI:Inv G w H)(hρ:EvR E G w fr ρ){t:TypeId}{x:Operand}{l h:Option Operand}{bx:BO}{bl bh:Option BO}{a b:Nat}(ho:o.op=.slice t x l h none)
  (ht:P.underlying t=some .string) (hx:cO x=some bx)
  (hl:cOo l=some bl) (hh:cOo h=some bh)
  {s:ByteArray} (hs:E.ev fr bx=.str s) (ha:optNat fr E.ev 0 bl=some a) (hb:optNat fr E.ev s.size bh=some b) (hab:a<=b) (hbl:b<=s.size):
  ValOk P G w H ρ o (.str (s.extract a b)):=by
 have h0:=hρ _ _ hx
 rw[hs]at h0
 refine .here hI (v:=.string (s.extract a b)) ?_ (.sc _)
 have hr:=run_bounds (P:=P) hρ (isS:=false) (cap:=s.size) hl hh ha hb hab hbl (Nat.le_refl _)
 simp only[execOp,ho,Instr.sliceAt,Instr.slice,Sem.run_bind,run_underlying ht,Result.andThen_ok,h0.sc_inv,Option.map_none,Option.isSome_none,Bool.false_eq_true,if_false,Sem.run_pure,hr]
theorem OwnR.cut{own:Own}{base base':Option Addr}{len cap d:Nat}(h:OwnR G own base len cap):OwnR G own.cut base' (len - d) (cap - d):=by
 cases own with
 |no=>exact trivial
 |full=>
  have h':cap=len:=h
  show cap - d=len - d
  omega
 |tok t=>exact trivial
theorem val_sr_sl(hI:Inv G w H)(hρ:EvR E G w fr ρ){t e:TypeId}{x:Operand}{l h:Option Operand}{bx:BO}{bl bh:Option BO}{a b sz:Nat}(ho:o.op=.slice t x l h none)
  (ht:P.underlying t=some (.slice e)) (hsz:sizeO P e=some sz) (hx:cO x=some bx)
  (hl:cOo l=some bl) (hh:cOo h=some bh)
  {es:List LV} {own:Own} (hs:E.ev fr bx=.sl es own) (ha:optNat fr E.ev 0 bl=some a) (hb:optNat fr E.ev es.length bh=some b) (hab:a<=b) (hbl:b<=es.length)
  (hall:(es.all fun e=>e.cells.length==sz)=true):
  ValOk P G w H ρ o (.sl ((es.drop a).take (b - a)) (if a=0/\b=es.length then own else if b=es.length then own.cut else .no)):=by
 have h0:=hρ _ _ hx
 rw[hs]at h0
 obtain⟨base,cap,hv,hcap,hown,hb'⟩:=h0.sl_inv
 have hr:=run_bounds (P:=P) hρ (isS:=true) (cap:=cap) hl hh ha hb hab hbl hcap
 have run:(execOp ρ o).run P w=.ok (.value (.slice (if cap=a then base else base.map (·.add (a*sz))) (b - a) (cap - a))) w:=by
  simp only[execOp,ho,Instr.sliceAt,Instr.slice,Sem.run_bind,run_underlying ht,Result.andThen_ok,hv,Option.map_none,Sem.run_pure,hr,run_size hsz]
 have hlen:((es.drop a).take (b - a)).length=b - a:=by simp;omega
 refine .here hI run ?_
 rcases hb' with⟨rfl,rfl,_⟩|⟨bb,off,sz',xs,rfl,h1,h2,h3⟩
 ·have ha0:a=0:=by simp at hbl;omega
  have hb0:b=0:=by simpa using hbl
  subst ha0;subst hb0
  simp only[List.drop_nil,List.take_nil,List.length_nil,and_self,if_true,Nat.sub_self]
  rw[hv]at h0
  exact h0
 ·have hz:es=[]\/sz'=sz:=by
   cases es with
   |nil=>exact .inl rfl
   |cons e0 es=>
    right
    have:=h1 0 e0 rfl
    simp at hall
    omega
  have mk:∀off',(∀i,i<b - a->off'+i*sz'=off+(a+i)*sz')->∀own',OwnR G own' (some (at_ bb off')) (b - a) (cap - a) ->
    VR G w (.sl ((es.drop a).take (b - a)) own') (.slice (some (at_ bb off')) (b - a) (cap - a)):=by
   intro off' hoff own' hown'
   have hget:∀(i:Nat)(e:LV),((es.drop a).take (b - a))[i]? = some e->i<b - a/\es[a+i]? = some e:=by
    intro i e he
    rw[List.getElem?_take]at he
    split at he
    ·rename_i hi;rw[List.getElem?_drop]at he;exact⟨hi,he⟩
    ·cases he
   have:=VR.sl (G:=G) (w:=w) (es:=(es.drop a).take (b - a)) (own:=own') (b:=bb) (off:=off') (sz:=sz') (cap:=cap - a) (xs:=fun i=>xs (a+i))
    (by rw[hlen];omega) (fun i e he=>h1 _ _ (hget i e he).2)
    (fun i e j c he hc=>by rw[hoff i (hget i e he).1];exact h2 _ _ _ _ (hget i e he).2 hc)
    (fun i e j c he hc=>h3 _ _ _ _ (hget i e he).2 hc) (by rw[hlen];exact hown')
   rwa [hlen]at this
  have own2:∀off',(a=0->off'=off)->OwnR G (if a=0/\b=es.length then own else if b=es.length then own.cut else .no) (some (at_ bb off')) (b - a) (cap - a):=by
   intro off' hoff
   split
   ·rename_i hc
    rw[hoff hc.1,hc.1,hc.2];simpa using hown
   ·split
    ·rename_i _ hb2;rw[hb2];exact hown.cut
    ·exact trivial
  by_cases hca:cap=a
  ·rw[if_pos hca]
   refine mk off (fun i hi=>by omega) _ (own2 off (fun _=>rfl))
  ·rw[if_neg hca]
   simp only[Option.map_some,at_add]
   rcases hz with rfl|rfl
   ·have:a=0:=by simp at hbl;omega
    refine mk (off+a*sz) (fun i hi=>by simp at hbl;omega) _ (own2 _ (fun h=>by rw[h];simp))
   ·exact mk (off+a*sz') (fun i hi=>by rw[Nat.add_mul];omega) _ (own2 _ (fun h=>by rw[h];simp))
theorem val_sr_asl(hI:Inv G w H)(hρ:EvR E G w fr ρ){t e:TypeId}{x:Operand}{l h:Option Operand}{bx:BO}{bl bh:Option BO}{b sz:Nat}(ho:o.op=.slice t x l h none)
  (ht:P.underlying t=some (.slice e)) (hsz:sizeO P e=some sz) (hx:cO x=some bx)
  (hl:cOo l=some bl) (hh:cOo h=some bh)
  {q off len:Nat} (hs:E.ev fr bx=.asl q off len) (ha:optNat fr E.ev 0 bl=some 0) (hb:optNat fr E.ev len bh=some b) (hbl:b<=len):
  ValOk P G w H ρ o (.asl q off b):=by
 have h0:=hρ _ _ hx
 rw[hs]at h0
 obtain⟨hq,cap,hcap,hcz,hv⟩:=h0.asl_inv
 have hr:=run_bounds (P:=P) hρ (isS:=true) (cap:=cap) hl hh ha hb (Nat.zero_le _) hbl hcap
 refine .here hI (v:=.slice (some (at_ (G.loc q) (off*(G.asz q).1))) b cap) ?_ (.asl hq (by omega) hcz)
 simp only[execOp,ho,Instr.sliceAt,Instr.slice,Sem.run_bind,run_underlying ht,Result.andThen_ok,hv,Option.map_none,Sem.run_pure,hr,run_size hsz,Nat.zero_mul,Nat.sub_zero]
 congr 1
 split
 ·rfl
 ·simp[at_add]
end
end Go.Abs
namespace Go.Abs
open Go
section
variable{P:Program}{E:Env}{G:Ghost}{w:World}{fr:Fr}{ρ:Operand->Value}{H:LHeap}{o:Oper}
def AR(G:Ghost)(w:World)(cs:List LV)(vs:Array Value):Prop:=
 vs.size=cs.length/\∀(i:Nat)(c:LV),cs[i]? = some c->VR G w c (vs.getD i undef)/\(vs.getD i undef).oneCell'=true
theorem AR.agg{cs:List LV}{vs:Array Value}(h:AR G w cs vs):VR G w (.agg cs) (.agg vs):=
 .agg h.1 (fun i c hc=>(h.2 i c hc).1) (fun i hi=>(h.2 i _ (List.getElem?_eq_getElem hi)).2)
theorem AR.whole{x:LV}{v:Value}(hv:VR G w x v)(hx:x.whole=true):AR G w x.cells v.cells:=hv.whole hx
theorem getD_eq{vs:Array Value}{i:Nat}{v:Value}(h:vs[i]? = some v):vs.getD i undef=v:=by
 rw[Array.getD_eq_getD_getElem?,h];rfl
theorem writeAt_spec(off:Nat)(l:List Value):∀(k0:Nat)(vs:Array Value),
  ((l.zipIdx k0).foldl (fun cs (p:Value×Nat)=>cs.setIfInBounds (off+p.2) p.1) vs).size=vs.size /\
  ∀k,((l.zipIdx k0).foldl (fun cs (p:Value×Nat)=>cs.setIfInBounds (off+p.2) p.1) vs)[k]? =
   if off+k0<=k/\k<off+k0+l.length/\k<vs.size then l[k - (off+k0)]? else vs[k]?:=by
 induction l with
 |nil=>intro k0 vs;refine⟨rfl,fun k=>?_⟩;simp;omega
 |cons v l ih=>
  intro k0 vs
  simp only[List.zipIdx_cons,List.foldl_cons]
  obtain⟨h1,h2⟩:=ih (k0+1) (vs.setIfInBounds (off+k0) v)
  refine⟨by rw[h1];simp,fun k=>?_⟩
  rw[h2 k]
  simp only[Array.size_setIfInBounds,List.length_cons]
  by_cases hk:off+k0=k
  ·subst hk
   rw[if_neg (show ¬(off+(k0+1)<=off+k0/\off+k0<off+(k0+1)+l.length/\off+k0<vs.size) by omega)]
   by_cases hs:off+k0<vs.size
   ·rw[if_pos (show off+k0<=off+k0/\off+k0<off+k0+(l.length+1)/\off+k0<vs.size by omega)]
    simp[hs]
   ·rw[if_neg (show ¬(off+k0<=off+k0/\off+k0<off+k0+(l.length+1)/\off+k0<vs.size) by omega)]
    simp[hs]
  ·rw[Array.getElem?_setIfInBounds_ne hk]
   by_cases hin:off+(k0+1)<=k/\k<off+(k0+1)+l.length/\k<vs.size
   ·rw[if_pos hin,if_pos (show off+k0<=k/\k<off+k0+(l.length+1)/\k<vs.size by omega)]
    obtain⟨m,hm⟩:∃m,k - (off+k0)=m+1:=⟨k - (off+k0) - 1,by omega⟩
    rw[hm,List.getElem?_cons_succ]
    congr 1;omega
   ·rw[if_neg hin,if_neg (show ¬(off+k0<=k/\k<off+k0+(l.length+1)/\k<vs.size) by omega)]
theorem AR.write{cs xs:List LV}{vs us:Array Value}{off:Nat}(h:AR G w cs vs)(hx:AR G w xs us)(hle:off+xs.length<=cs.length):
  AR G w (cs.take off++xs++cs.drop (off+xs.length)) (us.zipIdx.foldl (fun cs (p:Value×Nat)=>cs.setIfInBounds (off+p.2) p.1) vs):=by
 have e:us.zipIdx.foldl (fun cs (p:Value×Nat)=>cs.setIfInBounds (off+p.2) p.1) vs =
   (us.toList.zipIdx 0).foldl (fun cs (p:Value×Nat)=>cs.setIfInBounds (off+p.2) p.1) vs:=by
  rw[<-Array.foldl_toList];simp
 rw[e]
 obtain⟨h1,h2⟩:=writeAt_spec off us.toList 0 vs
 have hu:us.toList.length=xs.length:=by simp[hx.1]
 have hl:(cs.take off++xs++cs.drop (off+xs.length)).length=cs.length:=by simp;omega
 refine⟨by rw[h1,hl,h.1],fun i c hc=>?_⟩
 have hi:=lt_of_get hc
 rw[hl]at hi
 rw[Array.getD_eq_getD_getElem?,h2 i]
 simp only[Nat.add_zero]
 by_cases hin:off<=i/\i<off+xs.length
 ·rw[if_pos ⟨hin.1,by omega,by rw[h.1];omega⟩]
  rw[List.append_assoc,List.getElem?_append_right (by simp;omega),List.getElem?_append_left (by simp;omega)]at hc
  have e2:i - (cs.take off).length=i - off:=by simp;omega
  rw[e2]at hc
  have:=hx.2 (i - off) c hc
  rw[Array.getD_eq_getD_getElem?]at this
  simpa using this
 ·rw[if_neg (by omega)]
  have:cs[i]? = some c:=by
   by_cases hlt:i<off
   ·rw[List.append_assoc,List.getElem?_append_left (by simp;omega),List.getElem?_take,if_pos hlt]at hc;exact hc
   ·rw[List.getElem?_append_right (by simp;omega),List.getElem?_drop]at hc
    have e3:off+xs.length+(i - (cs.take off++xs).length)=i:=by simp;omega
    rwa [e3]at hc
  have:=h.2 i c this
  rwa [Array.getD_eq_getD_getElem?]at this
def PartsR(G:Ghost)(w:World)(place:Nat->Option (Nat×Nat)):List (Nat×Nat×LV)->List (Nat×Value)->Prop
 |[],[]=>True
 |(off,n,x)::r,(i,v)::r'=>place i=some (off,n)/\VR G w x v/\PartsR G w place r r'
 |_,_=>False
theorem fill_AR{place:Nat->Option (Nat×Nat)}:∀(lp:List (Nat×Nat×LV))(ps:List (Nat×Value))(cs cs':List LV)(vs:Array Value),PartsR G w place lp ps->AR G w cs vs ->
  fillL cs lp=some cs'->∃vs',Instr.fill place vs ps=some vs'/\AR G w cs' vs'
 |[],[],cs,cs',vs,_,h,hf=>by simp[fillL]at hf;subst hf;exact⟨vs,rfl,h⟩
 |(off,n,x)::r,(i,v)::r',cs,cs',vs,hp,h,hf=>by
  obtain⟨hpl,hv,hr⟩:=hp
  simp only[fillL,Option.ite_none_right_eq_some]at hf
  obtain⟨⟨hn,hw,hle⟩,hf⟩:=hf
  have hx:=AR.whole hv hw
  subst hn
  obtain⟨vs',h1,h2⟩:=fill_AR r r' _ cs' _ hr (h.write hx hle) hf
  refine⟨vs',?_,h2⟩
  simp only[Instr.fill,hpl]
  rw[if_neg (by simp[hx.1];rw[h.1];omega)]
  exact h1
 |[],_::_,_,_,_,hp,_,_=>by simp[PartsR]at hp
 |(_,_,_)::_,[],_,_,_,hp,_,_=>by simp[PartsR]at hp
theorem ofConst_one{v:Value}{x:LV}(h:ofConst v=some x):v.oneCell'=true:=by
 unfold ofConst at h
 split at h<;>simp_all [Value.oneCell']
theorem mapM_ofConst{l:List Value}{zs:List LV}(h:l.mapM ofConst=some zs):zs.length=l.length/\∀(i:Nat)(z:LV),zs[i]? = some z->∃v,l[i]? = some v/\ofConst v=some z:=by
 induction l generalizing zs with
 |nil=>simp at h;subst h;exact⟨rfl,fun i b hb=>by simp at hb⟩
 |cons x l ih=>
  simp only[List.mapM_cons,Option.bind_eq_bind,Option.bind_eq_some_iff,Option.pure_def,Option.some.injEq]at h
  obtain⟨b,hb,bl',hl,rfl⟩:=h
  obtain⟨h1,h2⟩:=ih hl
  refine⟨by simp[h1],fun i c hc=>?_⟩
  cases i with
  |zero=>simp at hc;subst hc;exact⟨x,rfl,hb⟩
  |succ i=>simpa using h2 i c (by simpa using hc)
theorem zero_AR{t:TypeId}{zs:List LV}(h:zeroO P t=some zs):∃v,(zeroValue t).run P w=.ok v w/\AR G w zs v.cells/\sizeO P t=some zs.length/\(v.cells.toList.mapM ofConst=some zs):=by
 unfold zeroO at h
 split at h
 ·rename_i i hi
  split at h
  ·rename_i v hz
   split at h
   ·rename_i zs' hm
    split at h
    ·rename_i hlen
     simp at h;subst h
     obtain⟨h1,h2⟩:=mapM_ofConst hm
     refine⟨v,by simp[zeroValue,Sem.run_bind,run_info hi,hz],⟨by simpa using h1.symm,fun j c hc=>?_⟩,by simp[sizeO,hi,hlen],hm⟩
     obtain⟨u,hu,hc'⟩:=h2 j c hc
     rw[Array.getElem?_toList]at hu
     rw[getD_eq hu]
     exact⟨ofConst_VR hc',ofConst_one hc'⟩
    ·simp at h
   ·simp at h
  ·simp at h
 ·simp at h
theorem zeroV_VR{t:TypeId}{z:LV}(h:zeroV P t=some z):∃v,(zeroValue t).run P w=.ok v w/\VR G w z v:=by
 unfold zeroV at h
 split at h
 ·rename_i i hi
  split at h
  ·rename_i cs hz
   obtain⟨zs,hm,rfl⟩:=Option.map_eq_some_iff.1 h
   obtain⟨h1,h2⟩:=mapM_ofConst hm
   refine⟨.agg cs,by simp[zeroValue,Sem.run_bind,run_info hi,hz],?_⟩
   refine AR.agg ⟨by simpa using h1.symm,fun j c hc=>?_⟩
   obtain⟨u,hu,hc'⟩:=h2 j c hc
   rw[Array.getElem?_toList]at hu
   rw[getD_eq hu]
   exact⟨ofConst_VR hc',ofConst_one hc'⟩
  ·rename_i v hv hz
   exact⟨v,by simp[zeroValue,Sem.run_bind,run_info hi,hz],ofConst_VR h⟩
  ·simp at h
 ·simp at h
theorem orderedFrom_spec:∀(l:List (Nat×Operand))(i:Nat),orderedFrom i l=true->∀(k:Nat)(p:Nat×Operand),l[k]? = some p->p.1=i+k
 |[],_,_,k,p,h=>by simp at h
 |(j,x)::r,i,h,k,p,hp=>by
  simp only[orderedFrom,Bool.and_eq_true,beq_iff_eq]at h
  cases k with
  |zero=>simp at hp;subst hp;exact h.1.symm
  |succ k=>have:=orderedFrom_spec r (i+1) h.2 k p (by simpa using hp);omega
def flatC(l:List LV):List LV:=l.flatMap LV.cells
theorem flatC_length{l:List LV}{s:Nat}(h:∀(i:Nat) (e:LV),l[i]? = some e->e.cells.length=s):(flatC l).length=l.length*s:=by
 induction l with
 |nil=>simp[flatC]
 |cons x l ih=>
  have:=ih (fun i e he=>h (i+1) e (by simpa using he))
  simp only[flatC,List.flatMap_cons,List.length_append,List.length_cons]at *
  rw[h 0 x rfl,this,Nat.add_mul];omega
theorem flatC_get{l:List LV}{s:Nat}(h:∀(i:Nat) (e:LV),l[i]? = some e->e.cells.length=s):∀(i:Nat)(e:LV)(j:Nat)(c:LV),l[i]? = some e->e.cells[j]? = some c ->
  (flatC l)[i*s+j]? = some c:=by
 induction l with
 |nil=>intro i e j c he;simp at he
 |cons x l ih=>
  intro i e j c he hc
  have hx:=h 0 x rfl
  cases i with
  |zero=>
   simp at he;subst he
   have:=lt_of_get hc
   simp only[flatC,List.flatMap_cons]
   rw[List.getElem?_append_left (by omega),Nat.zero_mul,Nat.zero_add];exact hc
  |succ i=>
   have:=ih (fun i e he=>h (i+1) e (by simpa using he)) i e j c (by simpa using he) hc
   simp only[flatC,List.flatMap_cons]at *
   rw[List.getElem?_append_right (by rw[hx,Nat.add_mul];omega),hx]
   have e1:(i+1)*s+j - s=i*s+j:=by rw[Nat.add_mul];omega
   rw[e1];exact this
theorem fillL_flat:∀(l:List LV)(s i0:Nat)(A B:List LV),A.length=i0*s->B.length=l.length*s->(∀x,x∈l->x.cells.length=s/\x.whole=true) ->
  fillL (A++B) (l.mapIdx fun i x=>((i0+i)*s,s,x))=some (A++flatC l)
 |[],s,i0,A,B,hA,hB,_=>by
  have:B=[]:=by simpa using hB
  subst this;simp[fillL,flatC]
 |x::l,s,i0,A,B,hA,hB,hx=>by
  obtain⟨h1,h2⟩:=hx x (by simp)
  have hB':B.length=s+l.length*s:=by rw[hB,List.length_cons,Nat.add_mul];omega
  simp only[List.mapIdx_cons,fillL,Nat.add_zero]
  rw[if_pos ⟨h1,h2,by simp;omega⟩]
  have e1:(A++B).take (i0*s)=A:=by rw[<-hA];simp
  have e2:(A++B).drop (i0*s+s)=B.drop s:=by rw[<-hA,List.drop_append];simp
  rw[e1,e2]
  have:=fillL_flat l s (i0+1) (A++x.cells) (B.drop s) (by simp[hA,h1,Nat.add_mul]) (by simp;omega) (fun y hy=>hx y (by simp[hy]))
  rw[show (fun(i:Nat) (x:LV)=>((i0+(i+1))*s,s,x))=(fun(i:Nat) (x:LV)=>((i0+1+i)*s,s,x)) from by funext i x;rw[Nat.add_assoc,Nat.add_comm 1 i]]
  rw[this]
  simp[flatC]
structure Turn(w w':World)(W:Nat->Nat->Prop)(V:Nat->Prop):Prop where
 cells:∀(k:Nat)(vs:Array Value)(el:TypeId)(fz:Nat×Nat),w.heap[k]? = some (.cells vs el fz) ->
  ∃vs':Array Value,w'.heap[k]? = some (.cells vs' el fz)/\vs'.size=vs.size/\∀x,¬W k x->vs'[x]? = vs[x]?
 other:∀(k:Nat)(ob:Obj),w.heap[k]? = some ob->(∀vs el fz,ob≠.cells vs el fz)->¬V k->w'.heap[k]? = some ob
theorem Turn.frozen{w w':World}{W:Nat->Nat->Prop}{V:Nat->Prop}(h:Turn w w' W V){k:Nat}{vs:Array Value}{el:TypeId}{fz:Nat×Nat}(hk:w.heap[k]? = some (.cells vs el fz))
  {x:Nat} (hf:w.frozen? (at_ k x)=false):w'.frozen? (at_ k x)=false:=by
 obtain⟨vs',h1,_⟩:=h.cells k vs el fz hk
 simp only[World.frozen?,hk,h1]at *
 exact hf
theorem ObjR.keep{G G':Ghost}{w w':World}{H H':LHeap}{W:Nat->Nat->Prop}{V:Nat->Prop}{o:Nat}{ob:LObj}(h:ObjR G w H o ob)(hx:Ext G w G' w')(ht:Turn w w' W V)
  (ho:o<G.n) (hW:∀k x,G.own k x=.obj o->¬W k x) (hV:G.own (G.loc o) 0=.obj o->¬V (G.loc o))
  (how:∀k x,(G.own k x=.obj o->G'.own k x=.obj o)/\(G.own k x=.tok o->G'.own k x=.tok o)) (htk:G'.tk o=G.tk o)
  (hmap:∀m left cur n,ob=.iter m left cur n->m≠o->m<G.n->∀es',look m H'.objs=some (.map es')->∃es,look m H.objs=some (.map es)/\es.length<=es'.length)
  (hiter:∀m left cur n,ob=.iter m left cur n->m≠o->m<G.n->(∀es,look m H.objs=some (.map es)->n<=es.length)->∀es',look m H'.objs=some (.map es')->es'.length=n->∀ents' clock',w'.heap[G.loc m]? = some (.map ents' clock') ->
   ∃es ents clock,look m H.objs=some (.map es)/\es.length=n/\w.heap[G.loc m]? = some (.map ents clock)/\ents'.size=ents.size/\∀i,(ents'.getD i default).born=(ents.getD i default).born):
  ObjR G' w' H' o ob:=by
 have hl:=hx.loc o ho
 have ha:=hx.asz o ho
 cases ob with
 |cells cs=>
  obtain⟨vs,el,fz,h1,h2,h3,h4,h5,h6⟩:=h
  obtain⟨vs',k1,k2,k3⟩:=ht.cells _ vs el fz h1
  refine⟨vs',el,fz,by rw[hl];exact k1,by rw[hl,hx.hB];exact h2,by omega,fun x=>by rw[hl];exact(how _ _).1 (h4 x),fun x=>by rw[hl];exact ht.frozen h1 (h5 x),fun i c hc=>?_⟩
  have hi:=lt_of_get hc
  have e:vs'.getD i undef=vs.getD i undef:=by
   rw[Array.getD_eq_getD_getElem?,Array.getD_eq_getD_getElem?,k3 i (hW _ _ (h4 i))]
  rw[e]
  exact⟨(h6 i c hc).1.mono hx,(h6 i c hc).2⟩
 |arr sz cs=>
  obtain⟨vs,el,fz,h1,h2,h3,h3',h4,h5,h6⟩:=h
  obtain⟨vs',k1,k2,k3⟩:=ht.cells _ vs el fz h1
  refine⟨vs',el,fz,by rw[hl];exact k1,by rw[hl,hx.hB];exact h2,by omega,by rw[ha];exact⟨h3'.1,by rw[k2];exact h3'.2.1,h3'.2.2⟩,fun x=>by rw[hl];exact(how _ _).1 (h4 x),fun x=>by rw[hl];exact ht.frozen h1 (h5 x),fun i c hc=>?_⟩
  have hi:=lt_of_get hc
  have e:vs'.getD i undef=vs.getD i undef:=by
   rw[Array.getD_eq_getD_getElem?,Array.getD_eq_getD_getElem?,k3 i (hW _ _ (h4 i))]
  rw[e]
  exact⟨(h6 i c hc).1.mono hx,(h6 i c hc).2⟩
 |map es=>
  obtain⟨ents,clock,h1,h2,h3,h4,h5,h6,h7,h8⟩:=h
  refine⟨ents,clock,by rw[hl];exact ht.other _ _ h1 (by simp) (hV h3),by rw[hl,hx.hB];exact h2,by rw[hl];exact(how _ _).1 h3,h4,fun i kv e hi he=>⟨(h5 i kv e hi he).1.mono hx,(h5 i kv e hi he).2.mono hx⟩,h6,h7,h8⟩
 |um es=>
  obtain⟨es0,hp,ents,clock,h1,h2,h3,h4,h5,h6,h7,h8⟩:=h
  refine⟨es0,hp,ents,clock,by rw[hl];exact ht.other _ _ h1 (by simp) (hV h3),by rw[hl,hx.hB];exact h2,by rw[hl];exact(how _ _).1 h3,h4,fun i kv e hi he=>⟨(h5 i kv e hi he).1.mono hx,(h5 i kv e hi he).2.mono hx⟩,h6,h7,h8⟩
 |iter m left cur n=>
  obtain⟨h1,h2,h3⟩:=h
  refine⟨by rw[hl,hx.hB];exact h1,by rw[hl];exact(how _ _).1 h2,?_⟩
  split at h3
  ·rename_i hm
   rw[if_pos hm]
   obtain⟨k1,k2,k3,si,se,st,k4⟩:=h3
   exact⟨k1,k2,k3,si,se,st,by rw[hl];exact ht.other _ _ k4 (by simp) (hV h2)⟩
  ·rename_i hm
   rw[if_neg hm]
   obtain⟨seen,stepped,k1,k2,k3,k5,k4⟩:=h3
   refine⟨seen,stepped,by rw[hl,hx.loc m k2];exact ht.other _ _ k1 (by simp) (hV h2),Nat.lt_of_lt_of_le k2 hx.n,k3,fun es' he'=>?_,fun es' he' hn' ents' clock' hh'=>?_⟩
   ·obtain⟨es,q1,q2⟩:=hmap m left cur n rfl hm k2 es' he'
    exact Nat.le_trans (k5 es q1) q2
   rw[hx.loc m k2]at hh'
   obtain⟨es,ents,clock,q1,q2,q3,q4,q5⟩:=hiter m left cur n rfl hm k2 k5 es' he' hn' ents' clock' hh'
   obtain⟨r1,r2⟩:=k4 es q1 q2 ents clock q3
   refine⟨?_,fun i hi=>?_⟩
   ·rw[r1,q4];congr 1;funext i;rw[q5]
   ·rw[q4,q5];exact r2 i hi
 |rcd busy fo ps k=>
  obtain⟨fn,tmps,df,h1,h2,h3,h4,h5⟩:=h
  exact⟨fn,tmps,df,by rw[hl,hx.rc];exact ht.other _ _ h1 (by simp) (hV h3),by rw[hl,hx.hB];exact h2,by rw[hl];exact(how _ _).1 h3,h4,fun i x hi=>(h5 i x hi).mono hx⟩
 |dfr=>
  obtain⟨h1,h2,h3⟩:=h
  exact⟨by rw[hl];exact ht.other _ _ h1 (by simp) (hV h3),by rw[hl,hx.hB];exact h2,by rw[hl];exact(how _ _).1 h3⟩
 |lft j=>
  obtain⟨⟨L,h1,h4⟩,h2,h3⟩:=h
  exact⟨⟨L,by rw[hl];exact ht.other _ _ h1 (by simp) (hV h3),h4⟩,by rw[hl,hx.hB];exact h2,by rw[hl];exact(how _ _).1 h3⟩
 |bld tb te l=>
  obtain⟨p,v,h1,h2,h3,h4,h5⟩:=h
  have same:∀(k:Nat)(vs:Array Value)(el:TypeId),w.heap[k]? = some (.cells vs el)->(∀x,G.own k x=.obj o)->w'.heap[k]? = some (.cells vs el):=by
   intro k vs el hk hown
   obtain⟨vs',k1,k2,k3⟩:=ht.cells _ vs el _ hk
   rw[k1]
   congr 2
   apply Array.ext_getElem?
   intro x
   exact k3 x (hW k x (hown x))
  refine⟨p,v,by rw[hl];exact same _ _ _ h1 h3,by rw[hl,hx.hB];exact h2,fun x=>by rw[hl];exact(how _ _).1 (h3 x),by rw[hl];exact h4,?_⟩
  rcases h5 with h5|⟨g,cap,cur,q1,q2,q3,q4,q5,q6⟩
  ·exact .inl h5
  ·exact .inr ⟨g,cap,cur,q1,same _ _ _ q2 q5,by rw[hl];exact q3,by rw[hx.hB];exact q4,fun x=>(how _ _).1 (q5 x),q6⟩
 |tok n sz=>
  obtain⟨base,cap,h1,h2,h3⟩:=h
  refine⟨base,cap,htk.trans h1,h2,fun hz0 hlt=>?_⟩
  obtain⟨b,off,vs,el,fz,k1,k2,k3,k4,k5,k6⟩:=h3 hz0 hlt
  obtain⟨vs',q1,q2,q3⟩:=ht.cells _ vs el fz k2
  exact⟨b,off,vs',el,fz,k1,q1,by omega,by rw[hx.hB];exact k4,fun x=>ht.frozen k2 (k5 x),fun x h1 h2=>(how _ _).2 (k6 x h1 h2)⟩
theorem Inv.step{G G':Ghost}{w w':World}{H H':LHeap}{W:Nat->Nat->Prop}{V:Nat->Prop}(S:Nat->Prop)(hI:Inv G w H)(hx:Ext G w G' w')(ht:Turn w w' W V)
  (hn:G'.n<=H'.next) (hfree:∀b x,w'.heap.size<=b->G'.own b x=.free) (hold:∀b x,(G.B b).isSome->G'.own b x=.free)
  (hlook:∀i x,¬S i->look i H'.objs=some x->look i H.objs=some x)
  (hW:∀i k x,¬S i->G.own k x=.obj i->¬W k x) (hV:∀i,¬S i->G.own (G.loc i) 0=.obj i->¬V (G.loc i))
  (how:∀i k x,¬S i->(G.own k x=.obj i->G'.own k x=.obj i)/\(G.own k x=.tok i->G'.own k x=.tok i)) (htk:∀i,i<G.n->¬S i->G'.tk i=G.tk i)
  (hmap:∀m es',m<G.n->look m H'.objs=some (.map es')->∃es,look m H.objs=some (.map es)/\es.length<=es'.length /\
   (es.length=es'.length->∀ents' clock',w'.heap[G.loc m]? = some (.map ents' clock') ->
    ∃ents clock,w.heap[G.loc m]? = some (.map ents clock)/\ents'.size=ents.size/\∀i,(ents'.getD i default).born=(ents.getD i default).born))
  (hnew:∀i x,S i->look i H'.objs=some x->i<G'.n/\ObjR G' w' H' i x):Inv G' w' H':=by
 refine⟨hn,fun b hb=>Nat.lt_of_lt_of_le (hI.hB b (by rwa [hx.hB]at hb)) hx.size,hfree,fun b x hb=>hold b x (by rwa [hx.hB]at hb),fun i x hi=>?_⟩
 by_cases hs:S i
 ·exact hnew i x hs hi
 ·obtain⟨h1,h2⟩:=hI.objs i x (hlook i x hs hi)
  refine⟨Nat.lt_of_lt_of_le h1 hx.n,h2.keep hx ht h1 (fun k y=>hW i k y hs) (hV i hs) (fun k y=>how i k y hs) (htk i h1 hs) ?_ ?_⟩
  ·intro m left cur n _ _ hmn es' he'
   obtain⟨es,q1,q2,_⟩:=hmap m es' hmn he'
   exact⟨es,q1,q2⟩
  ·intro m left cur n _ _ hmn hle es' he' hn' ents' clock' hh'
   obtain⟨es,q1,q2,q3⟩:=hmap m es' hmn he'
   have:=hle es q1
   obtain⟨ents,clock,q4,q5,q6⟩:=q3 (by omega) ents' clock' hh'
   exact⟨es,ents,clock,q1,by omega,q4,q5,q6⟩
end
end Go.Abs
namespace Go.Abs
open Go
section
variable{P:Program}{E:Env}{G G':Ghost}{w w':World}{fr:Fr}{ρ:Operand->Value}{H H':LHeap}{o:Oper}
theorem heap_alloc_lt{ob:Obj}{k:Nat}(h:k<w.heap.size):(w.alloc ob).heap[k]? = w.heap[k]?:=by
 show (w.heap.push ob)[k]? = _
 rw[Array.getElem?_push,if_neg (by omega)]
theorem heap_alloc_new{ob:Obj}:(w.alloc ob).heap[w.heap.size]? = some ob:=by
 show (w.heap.push ob)[w.heap.size]? = _
 simp
theorem lt_of_heap{k:Nat}{ob:Obj}(h:w.heap[k]? = some ob):k<w.heap.size:=by
 rcases Nat.lt_or_ge k w.heap.size with h'|h'
 ·exact h'
 ·rw[Array.getElem?_eq_none h']at h;cases h
structure Grow(G:Ghost)(s:Nat)(G':Ghost):Prop where
 hB:G'.B=G.B
 n:G.n<=G'.n
 loc:∀o,o<G.n->G'.loc o=G.loc o
 asz:∀o,o<G.n->G'.asz o=G.asz o
 tk:∀t,t<G.n->G'.tk t=G.tk t
 own:∀b x,b≠s->G'.own b x=G.own b x
 rc:G'.rc=G.rc:=by rfl
theorem Inv.ext_fresh(hI:Inv G w H)(ob:Obj)(hG:Grow G w.heap.size G'):Ext G w G' (w.alloc ob) where
 os:=rfl
 tape:=rfl
 output:=rfl
 size:=by simp
 hB:=hG.hB
 rc:=hG.rc
 block k hk:=heap_alloc_lt (hI.hB k hk)
 n:=hG.n
 loc:=hG.loc
 asz:=hG.asz
 cl b x hb:=by
  have hne:b≠w.heap.size:=by
   intro e
   rw[e,hI.free _ x (Nat.le_refl _)]at hb
   cases hb
  refine⟨by rw[hG.own b x hne];exact hb,fun v hv=>?_⟩
  have hlt:b<w.heap.size:=by
   rcases Nat.lt_or_ge b w.heap.size with h|h
   ·exact h
   ·rw[hI.free _ x h]at hb;cases hb
  rw[cell?_of_block (heap_alloc_lt hlt)];exact hv
 tk t ht m b c hm:=⟨m,b,c,by rw[hG.tk t ht];exact hm,Nat.le_refl _,fun _=>⟨rfl,rfl⟩⟩
theorem turn_fresh(ob:Obj):Turn w (w.alloc ob) (fun _ _=>False) (fun _=>False) where
 cells k vs el fz h:=⟨vs,by rw[heap_alloc_lt (lt_of_heap h)];exact h,rfl,fun _ _=>rfl⟩
 other k ob' h _ _:=by rw[heap_alloc_lt (lt_of_heap h)];exact h
theorem own_lt(hI:Inv G w H){b x:Nat}{l:Lab}(h:G.own b x=l)(hl:l≠.free):b<w.heap.size:=by
 rcases Nat.lt_or_ge b w.heap.size with h'|h'
 ·exact h'
 ·exact absurd (h.symm.trans (hI.free b x h')) hl
theorem Inv.fresh(hI:Inv G w H)(ob:Obj)(hG:Grow G w.heap.size G')(hn:G'.n<=H'.next)
  (hold:∀i,i<G.n->look i H'.objs=look i H.objs)
  (hnew:∀i x,G.n<=i->look i H'.objs=some x->i<G'.n/\ObjR G' (w.alloc ob) H' i x):Inv G' (w.alloc ob) H':=by
 have hx:=hI.ext_fresh ob hG
 refine⟨hn,fun b hb=>Nat.lt_of_lt_of_le (hI.hB b (by rwa [hG.hB]at hb)) (by simp),fun b x hb=>?_,fun b x hb=>?_,fun i x hi=>?_⟩
 ·simp at hb
  rw[hG.own b x (by omega)]
  exact hI.free b x (by omega)
 ·rw[hG.hB]at hb
  have:=hI.hB b hb
  rw[hG.own b x (by omega)]
  exact hI.old b x hb
 ·by_cases hlt:i<G.n
  ·rw[hold i hlt]at hi
   obtain⟨h1,h2⟩:=hI.objs i x hi
   refine⟨Nat.lt_of_lt_of_le hlt hG.n,h2.keep hx (turn_fresh ob) hlt (fun _ _ _ h=>h) (fun _ h=>h) (fun k y=>⟨fun h=>?_,fun h=>?_⟩) (hG.tk i hlt) ?_ ?_⟩
   ·rw[hG.own k y (Nat.ne_of_lt (own_lt hI h (by simp)))];exact h
   ·rw[hG.own k y (Nat.ne_of_lt (own_lt hI h (by simp)))];exact h
   ·intro m left cur n he hm hmn es' hl'
    rw[hold m hmn]at hl'
    exact⟨es',hl',Nat.le_refl _⟩
   ·intro m left cur n he hm hmn _ es' hl' hn' ents' clock' hh'
    rw[hold m hmn]at hl'
    obtain⟨_,ents,clock,q1,_⟩:=hI.objs m _ hl'
    have q2:=heap_alloc_lt (w:=w) (ob:=ob) (lt_of_heap q1)
    rw[q2]at hh'
    exact⟨es',ents',clock',hl',hn',hh',rfl,fun _=>rfl⟩
  ·exact hnew i x (by omega) hi
def EffOk(P:Program)(G:Ghost)(w:World)(ρ:Operand->Value)(o:Oper)(x:LV)(H':LHeap):Prop:=
 ∃v w' G',Yields P ρ o w v w'/\VR G' w' x v/\Ext G w G' w'/\Inv G' w' H'
def Ghost.add(G:Ghost)(id s:Nat)(sz:Nat×Nat):Ghost where
 B:=G.B
 n:=id+1
 loc:=fun o=>if o=id then s else G.loc o
 asz:=fun o=>if o=id then sz else G.asz o
 tk:=fun t=>if t=id then none else G.tk t
 own:=fun b x=>if b=s then .obj id else G.own b x
 rc:=G.rc
theorem Ghost.add_loc(G:Ghost)(id s:Nat)(sz:Nat×Nat):(G.add id s sz).loc id=s:=by simp[Ghost.add]
theorem Ghost.add_own(G:Ghost)(id s:Nat)(sz:Nat×Nat)(x:Nat):(G.add id s sz).own s x=.obj id:=by simp[Ghost.add]
theorem Ghost.grow_add(G:Ghost){id s:Nat}{sz:Nat×Nat}(h:G.n<=id):Grow G s (G.add id s sz) where
 hB:=rfl
 n:=by simp[Ghost.add];omega
 loc o ho:=by simp[Ghost.add];omega
 asz o ho:=by simp[Ghost.add];omega
 tk t ht:=by simp only[Ghost.add];rw[if_neg (by omega)]
 own b x hb:=by simp[Ghost.add,hb]
theorem look_alloc_old{i:Nat}{ob:LObj}(h:i≠H.next):look i (H.alloc ob).objs=look i H.objs:=by
 simp[LHeap.alloc,look,h]
theorem look_alloc_new{ob:LObj}:look H.next (H.alloc ob).objs=some ob:=by simp[LHeap.alloc,look]
theorem Inv.alloc(hI:Inv G w H)(ob:Obj)(lo:LObj)(sz:Nat×Nat)
  (hobj:Ext G w (G.add H.next w.heap.size sz) (w.alloc ob)->ObjR (G.add H.next w.heap.size sz) (w.alloc ob) (H.alloc lo) H.next lo):
  Inv (G.add H.next w.heap.size sz) (w.alloc ob) (H.alloc lo)/\Ext G w (G.add H.next w.heap.size sz) (w.alloc ob):=by
 have hg:=G.grow_add (s:=w.heap.size) (sz:=sz) hI.n
 have hx:=hI.ext_fresh ob hg
 refine⟨hI.fresh ob hg (Nat.le_refl _) (fun i hi=>look_alloc_old (by have:=hI.n;omega)) (fun i x hi hl=>?_),hx⟩
 by_cases he:i=H.next
 ·subst he
  rw[look_alloc_new]at hl
  simp at hl;subst hl
  exact⟨by simp[Ghost.add],hobj hx⟩
 ·rw[look_alloc_old he]at hl
  have:=(hI.objs i x hl).1
  omega
theorem frozen_new{c:Array Value}{t:TypeId}{x:Nat}:(w.alloc (.cells c t)).frozen? (at_ w.heap.size x)=false:=by
 unfold World.frozen?
 rw[heap_alloc_new]
 simp
theorem objR_new_cells(hI:Inv G w H){cs:List LV}{vs:Array Value}{t:TypeId}(hA:AR G w cs vs)(hx:Ext G w (G.add H.next w.heap.size (0,0)) (w.alloc (.cells vs t))):
  ObjR (G.add H.next w.heap.size (0,0)) (w.alloc (.cells vs t)) (H.alloc (.cells cs)) H.next (.cells cs):=by
 refine⟨vs,t,(0,0),?_,?_,hA.1,fun x=>?_,fun x=>?_,fun i c hc=>⟨(hA.2 i c hc).1.mono hx,(hA.2 i c hc).2⟩⟩
 ·rw[Ghost.add_loc];exact heap_alloc_new
 ·rw[Ghost.add_loc];exact hI.hB'
 ·rw[Ghost.add_loc];exact Ghost.add_own _ _ _ _ _
 ·rw[Ghost.add_loc];exact frozen_new
theorem ptr_new:VR (G.add H.next w.heap.size (0,0)) w' (.ptr H.next 0) (.pointer (some (at_ w.heap.size 0))):=by
 have h:=VR.ptr (G:=G.add H.next w.heap.size (0,0)) (w:=w') (o:=H.next) (off:=0) (by simp[Ghost.add])
 simpa [Ghost.add] using h
theorem eff_al(hI:Inv G w H){t:TypeId}{zs:List LV}(ho:o.op=.alloc t)(hz:zeroO P t=some zs):EffOk P G w ρ o (.ptr H.next 0) (H.alloc (.cells zs)):=by
 obtain⟨v,hv,hA,_⟩:=zero_AR (G:=G) (w:=w) hz
 obtain⟨h1,h2⟩:=hI.alloc (.cells v.cells t) (.cells zs) (0,0) (objR_new_cells hI hA)
 refine⟨_,_,_,.inl ?_,ptr_new,h2,h1⟩
 simp[execOp,ho,Instr.alloc,Sem.run_bind,hv,newVar,newRow]
theorem ofConst_nilp{v:Value}(h:ofConst v=some (.sc (.pointer none))):v=.pointer none:=by
 unfold ofConst at h
 split at h<;>simp at h
 all_goals first|rfl|(cases h;rfl)
theorem ofConst_nils{v:Value}(h:ofConst v=some (.sl [] .full)):v=.slice none 0 0:=by
 unfold ofConst at h
 split at h<;>simp at h
 rfl
theorem eff_nb(hI:Inv G w H){t te:TypeId}(ho:o.op=.alloc t)(hz:zeroO P t=some [.sc (.pointer none),.sl [] .full]):EffOk P G w ρ o (.ptr H.next 0) (H.alloc (.bld t te [])):=by
 obtain⟨v,hv,_,_,hm⟩:=zero_AR (G:=G) (w:=w) hz
 obtain⟨m1,m2⟩:=mapM_ofConst hm
 obtain⟨a,ha,ha'⟩:=m2 0 _ rfl
 obtain⟨b,hb,hb'⟩:=m2 1 _ rfl
 have hc:v.cells=#[.pointer none,.slice none 0 0]:=by
  rw[ofConst_nilp ha']at ha
  rw[ofConst_nils hb']at hb
  have hl:v.cells.toList.length=2:=by rw[<-m1];rfl
  apply Array.toList_inj.1
  match hvl:v.cells.toList,hl with
  |[x,y],_=>
   rw[hvl]at ha hb
   simp at ha hb
   rw[ha,hb]
 obtain⟨h1,h2⟩:=hI.alloc (.cells v.cells t) (.bld t te []) (0,0) (fun hx=>⟨.pointer none,.slice none 0 0,by rw[Ghost.add_loc,heap_alloc_new,hc],by rw[Ghost.add_loc];exact hI.hB',fun x=>by rw[Ghost.add_loc];exact Ghost.add_own _ _ _ _ _,.inl rfl,.inl ⟨rfl,rfl⟩⟩)
 refine⟨_,_,_,.inl ?_,ptr_new,h2,h1⟩
 simp[execOp,ho,Instr.alloc,Sem.run_bind,hv,newVar,newRow]
theorem eff_bx(hI:Inv G w H)(hρ:EvR E G w fr ρ){t:TypeId}{x:Operand}{bx:BO}(ho:o.op=.box t x)(hx:cO x=some bx)(hw:(E.ev fr bx).whole=true):
  EffOk P G w ρ o (.ptr H.next 0) (H.alloc (.cells (E.ev fr bx).cells)):=by
 have hA:=AR.whole (hρ _ _ hx) hw
 obtain⟨h1,h2⟩:=hI.alloc (.cells (ρ x).cells t) (.cells (E.ev fr bx).cells) (0,0) (objR_new_cells hI hA)
 refine⟨_,_,_,.inl ?_,ptr_new,h2,h1⟩
 simp[execOp,ho,Instr.box,newVar,newRow]
theorem eff_mk(hI:Inv G w H){t:TypeId}(ho:o.op=.makeMap t none):EffOk P G w ρ o (.map H.next) (H.alloc (.map [])):=by
 obtain⟨h1,h2⟩:=hI.alloc (.map #[] 0) (.map []) (0,0) (fun hx=>⟨#[],0,by rw[Ghost.add_loc];exact heap_alloc_new,by rw[Ghost.add_loc];exact hI.hB',by rw[Ghost.add_loc];exact Ghost.add_own _ _ _ _ _,rfl,
  fun i kv e hi=>by simp at hi,fun i j e e' hi=>by simp at hi,fun i e hi=>by simp at hi,rfl⟩)
 refine⟨.map (some w.heap.size),_,_,.inl ?_,?_,h2,h1⟩
 ·simp[execOp,ho,Instr.makeMap]
 ·have h:=VR.map (G:=G.add H.next w.heap.size (0,0)) (w:=w.alloc (.map #[] 0)) (o:=H.next) (by simp[Ghost.add])
  simpa [Ghost.add] using h
end
end Go.Abs
namespace Go.Abs
open Go
section
variable{P:Program}{E:Env}{G G':Ghost}{w w':World}{fr:Fr}{ρ:Operand->Value}{H H':LHeap}{o:Oper}
theorem heap_setCell_same{b x:Nat}{v:Value}{cur:Array Value}{el:TypeId}{fz:Nat×Nat}(h:w.heap[b]? = some (.cells cur el fz)):
  (w.setCell (at_ b x) v).heap[b]? = some (.cells (cur.setIfInBounds x v) el fz):=by
 simp[World.setCell,Array.getElem?_modify,h]
theorem heap_setCell_other{b x k:Nat}{v:Value}(h:k≠b):(w.setCell (at_ b x) v).heap[k]? = w.heap[k]?:=by
 simp[World.setCell,Array.getElem?_modify,h.symm]
theorem setCells_spec(b:Nat):∀(vs:List Value)(off:Nat)(w:World)(cur:Array Value)(el:TypeId)(fz:Nat×Nat),w.heap[b]? = some (.cells cur el fz) ->
  (∀k,k≠b->(w.setCells b off vs).heap[k]? = w.heap[k]?)/\(w.setCells b off vs).heap.size=w.heap.size/\(w.setCells b off vs).os=w.os/\(w.setCells b off vs).tape=w.tape /\
  (w.setCells b off vs).output=w.output /\
  ∃cur':Array Value,(w.setCells b off vs).heap[b]? = some (.cells cur' el fz)/\cur'.size=cur.size /\
   ∀x,cur'[x]? = if off<=x/\x<off+vs.length/\x<cur.size then vs[x - off]? else cur[x]?
 |[],off,w,cur,el,fz,h=>⟨fun _ _=>rfl,rfl,rfl,rfl,rfl,cur,h,rfl,fun x=>by simp;omega⟩
 |v::r,off,w,cur,el,fz,h=>by
  obtain⟨h1,h2,h3,h4,h5,cur',h6,h7,h8⟩:=setCells_spec b r (off+1) (w.setCell (at_ b off) v) _ el fz (heap_setCell_same h)
  refine⟨fun k hk=>by rw[World.setCells,h1 k hk,heap_setCell_other hk],by rw[World.setCells,h2];simp,h3,h4,h5,cur',h6,by rw[h7];simp,fun x=>?_⟩
  rw[h8 x]
  simp only[Array.size_setIfInBounds,List.length_cons]
  by_cases hx:off=x
  ·subst hx
   rw[if_neg (show ¬(off+1<=off/\off<off+1+r.length/\off<cur.size) by omega)]
   by_cases hs:off<cur.size
   ·rw[if_pos (show off<=off/\off<off+(r.length+1)/\off<cur.size by omega)];simp[hs]
   ·rw[if_neg (show ¬(off<=off/\off<off+(r.length+1)/\off<cur.size) by omega)];simp[hs]
  ·rw[Array.getElem?_setIfInBounds_ne hx]
   by_cases hin:off+1<=x/\x<off+1+r.length/\x<cur.size
   ·rw[if_pos hin,if_pos (show off<=x/\x<off+(r.length+1)/\x<cur.size by omega)]
    obtain⟨m,hm⟩:∃m,x - off=m+1:=⟨x - off - 1,by omega⟩
    rw[hm,List.getElem?_cons_succ]
    congr 1;omega
   ·rw[if_neg hin,if_neg (show ¬(off<=x/\x<off+(r.length+1)/\x<cur.size) by omega)]
theorem turn_setCells{b off:Nat}{vs:List Value}{cur:Array Value}{el:TypeId}{fz:Nat×Nat}(h:w.heap[b]? = some (.cells cur el fz)):
  Turn w (w.setCells b off vs) (fun k x=>k=b/\off<=x/\x<off+vs.length) (fun _=>False) where
 cells k vs' el' fz' hk:=by
  obtain⟨h1,_,_,_,_,cur',h6,h7,h8⟩:=setCells_spec b vs off w cur el fz h
  by_cases he:k=b
  ·subst he
   rw[h]at hk
   simp at hk
   obtain⟨rfl,rfl,rfl⟩:=hk
   refine⟨cur',h6,h7,fun x hx=>?_⟩
   rw[h8 x,if_neg (fun hc=>hx ⟨rfl,hc.1,hc.2.1⟩)]
  ·exact⟨vs',by rw[h1 k he];exact hk,rfl,fun _ _=>rfl⟩
 other k ob hk hne _:=by
  obtain⟨h1,_⟩:=setCells_spec b vs off w cur el fz h
  by_cases he:k=b
  ·subst he
   rw[h]at hk
   simp at hk
   exact absurd hk.symm (hne _ _ _)
  ·rw[h1 k he];exact hk
theorem Inv.ext_setCells{b off:Nat}{vs:List Value}{cur:Array Value}{el:TypeId}{fz:Nat×Nat}(h:w.heap[b]? = some (.cells cur el fz))(hB:¬(G.B b).isSome)
  (hw:∀x,off<=x->x<off+vs.length->G.own b x≠.cl) (hG:G'.B=G.B) (hn:G.n<=G'.n) (hloc:∀o,o<G.n->G'.loc o=G.loc o) (hasz:∀o,o<G.n->G'.asz o=G.asz o)
  (hown:∀k x,G.own k x=.cl->G'.own k x=.cl)
  (htk:∀t,t<G.n->∀m b c,G.tk t=some (m,b,c)->∃m' b' c',G'.tk t=some (m',b',c')/\m<=m'/\(m=m'->b'=b/\c'=c)) (hrc:G'.rc=G.rc:=by rfl):Ext G w G' (w.setCells b off vs):=by
 obtain⟨h1,h2,h3,h4,h5,cur',h6,h7,h8⟩:=setCells_spec b vs off w cur el fz h
 refine⟨h3,h4,h5,by omega,hG,fun k hk=>h1 k (fun e=>hB (e▸hk)),hn,hloc,hasz,fun k x hk=>⟨hown k x hk,fun v hv=>?_⟩,htk,hrc⟩
 by_cases he:k=b
 ·subst he
  rw[cell?_cells h]at hv
  rw[cell?_cells h6,h8 x,if_neg (fun hc=>hw x hc.1 hc.2.1 hk)]
  exact hv
 ·rw[cell?_of_block (h1 k he)];exact hv
theorem look_put{i j:Nat}{ob ob':LObj}(h:look i H.objs=some ob):look j (H.put i ob').objs=if j=i then some ob' else look j H.objs:=by
 unfold LHeap.put
 simp only
 generalize H.objs=l at h
 induction l with
 |nil=>simp[look]at h
 |cons p l ih=>
  obtain⟨k,y⟩:=p
  simp only[look]at h
  simp only[putO]
  by_cases hk:i=k
  ·subst hk
   simp only[if_true,look]
   by_cases hj:j=i
   ·simp[hj]
   ·simp[hj]
  ·rw[if_neg hk]at h
   rw[if_neg hk]
   simp only[look,ih h]
   by_cases hj:j=i
   ·subst hj;simp[hk]
   ·simp[hj]
theorem Inv.store(hI:Inv G w H){b off:Nat}{lo lo':LObj}{vs:List Value}{cur:Array Value}{el:TypeId}{fz:Nat×Nat}(hl:look b H.objs=some lo)
  (h:w.heap[G.loc b]? = some (.cells cur el fz)) (hB:¬(G.B (G.loc b)).isSome) (hw:∀x,off<=x->x<off+vs.length->G.own (G.loc b) x=.obj b)
  (hnm3:∀es,lo'≠.map es)
  (hobj:Ext G w G (w.setCells (G.loc b) off vs)->ObjR G (w.setCells (G.loc b) off vs) (H.put b lo') b lo'):
  Ext G w G (w.setCells (G.loc b) off vs)/\Inv G (w.setCells (G.loc b) off vs) (H.put b lo'):=by
 have hx:=Inv.ext_setCells (G':=G) (off:=off) (vs:=vs) h hB (fun x h1 h2=>by rw[hw x h1 h2];simp) rfl (Nat.le_refl _) (fun _ _=>rfl) (fun _ _=>rfl) (fun _ _ h=>h)
  (fun t _ m b c hm=>⟨m,b,c,hm,Nat.le_refl _,fun _=>⟨rfl,rfl⟩⟩)
 obtain⟨h1,h2,_⟩:=setCells_spec (G.loc b) vs off w cur el fz h
 refine⟨hx,hI.n,fun b hb=>by rw[h2];exact hI.hB b hb,fun k x hk=>hI.free k x (by rw[h2]at hk;exact hk),hI.old,fun i x hi=>?_⟩
 rw[look_put hl]at hi
 by_cases he:i=b
 ·subst he
  rw[if_pos rfl]at hi
  simp at hi;subst hi
  exact⟨(hI.objs i _ hl).1,hobj hx⟩
 ·rw[if_neg he]at hi
  obtain⟨q1,q2⟩:=hI.objs i x hi
  refine⟨q1,q2.keep hx (turn_setCells h) q1 (fun k y hk hc=>?_) (fun _ h=>h) (fun _ _=>⟨fun h=>h,fun h=>h⟩) rfl ?_ ?_⟩
  ·obtain⟨rfl,h3,h4⟩:=hc
   rw[hw y h3 h4]at hk
   simp at hk
   exact he hk.symm
  ·intro m left cur' n hit hm hmn es' hl'
   rw[look_put hl]at hl'
   by_cases hmb:m=b
   ·rw[if_pos hmb]at hl'
    simp at hl'
    exact absurd hl' (hnm3 es')
   ·rw[if_neg hmb]at hl'
    exact⟨es',hl',Nat.le_refl _⟩
  ·intro m left cur' n hit hm hmn _ es' hl' hn' ents' clock' hh'
   rw[look_put hl]at hl'
   by_cases hmb:m=b
   ·rw[if_pos hmb]at hl'
    simp at hl'
    exact absurd hl' (hnm3 es')
   ·rw[if_neg hmb]at hl'
    have:G.loc m≠G.loc b:=by
     intro e
     rw[e]at hh'
     obtain⟨cur2,k1,_⟩:=(setCells_spec (G.loc b) vs off w cur el fz h).2.2.2.2.2
     rw[k1]at hh';simp at hh'
    rw[h1 _ this]at hh'
    exact⟨es',ents',clock',hl',hn',hh',rfl,fun _=>rfl⟩
theorem cells_get_write{cs xs:List LV}{off:Nat}(hle:off+xs.length<=cs.length)(i:Nat):
  (cs.take off++xs++cs.drop (off+xs.length))[i]? = if off<=i/\i<off+xs.length then xs[i - off]? else cs[i]?:=by
 by_cases hin:off<=i/\i<off+xs.length
 ·rw[if_pos hin,List.append_assoc,List.getElem?_append_right (by simp;omega),List.getElem?_append_left (by simp;omega)]
  congr 1;simp;omega
 ·rw[if_neg hin]
  by_cases hlt:i<off
  ·rw[List.append_assoc,List.getElem?_append_left (by simp;omega),List.getElem?_take,if_pos hlt]
  ·rw[List.getElem?_append_right (by simp;omega),List.getElem?_drop]
   congr 1;simp;omega
theorem eff_st(hI:Inv G w H)(hρ:EvR E G w fr ρ){t:TypeId}{n:Nat}{x y:Operand}{bx b2:BO}(ho:o.op=.store t x y)(hn:sizeO P t=some n)
  (hx:cO x=some bx) (hy:cO y=some b2) {b off:Nat} (hb:E.ev fr bx=.ptr b off) (hlen:(E.ev fr b2).cells.length=n) (hwh:(E.ev fr b2).whole=true):
  (∀cs,look b H.objs=some (.cells cs)->off+n<=cs.length->EffOk P G w ρ o .bot (H.put b (.cells (cs.take off++(E.ev fr b2).cells++cs.drop (off+n))))) /\
  (∀sz cs,look b H.objs=some (.arr sz cs)->off+n<=cs.length->EffOk P G w ρ o .bot (H.put b (.arr sz (cs.take off++(E.ev fr b2).cells++cs.drop (off+n))))):=by
 have h0:=hρ _ _ hx
 rw[hb]at h0
 obtain⟨hbn,hp⟩:=h0.ptr_inv
 have hA:=AR.whole (hρ _ _ hy) hwh
 have hsz:(ρ y).cells.toList.length=n:=by simp[hA.1,hlen]
 have hone:∀v∈(ρ y).cells.toList,v.oneCell'=true:=by
  intro v hv
  obtain⟨i,hi,he⟩:=List.getElem_of_mem hv
  have hi':i<(E.ev fr b2).cells.length:=by simp at hi;rw[<-hA.1];exact hi
  have:=(hA.2 i _ (List.getElem?_eq_getElem hi')).2
  have e:(ρ y).cells.getD i undef=v:=by
   rw[<-he,Array.getD_eq_getD_getElem?]
   simp at hi
   simp[hi]
  rwa [e]at this
 have run:∀cur el fz,w.heap[G.loc b]? = some (.cells cur el fz)->off+n<=cur.size->(∀x,w.frozen? (at_ (G.loc b) x)=false) ->
   Yields P ρ o w undef (w.setCells (G.loc b) off (ρ y).cells.toList):=by
  intro cur el fz h1 h2 h3
  right
  refine⟨?_,rfl⟩
  have hst:=run_storeCells_cells (P:=P) (G.loc b) off (ρ y).cells.toList 0 w (fun j hj=>by
   rw[show off+0+j=off+j by omega]
   have:=cell?_cells (x:=off+j) h1
   rw[show (⟨G.loc b,off+j,none⟩:Addr)=at_ (G.loc b) (off+j) from rfl,this,Array.getElem?_eq_getElem (by omega)];rfl) (fun j _=>h3 _) hone
  have hn2:(ρ y).cells.size=n:=by rw[<-hsz];simp
  simp only[execOp,ho,Instr.storeAt,hp,Instr.sureAddr,Sem.run_bind,Sem.run_pure,Result.andThen_ok,storeVar,run_size hn,hn2,ne_eq,not_true_eq_false,if_false,hst]
  rfl
 have value:∀(cs:List LV)(cur cur':Array Value),cs.length<=cur.size->(∀(i:Nat)(c:LV),cs[i]? = some c->VR G w c (cur.getD i undef)/\(cur.getD i undef).oneCell'=true)->off+n<=cs.length ->
   (∀x,cur'[x]? = if off<=x/\x<off+(ρ y).cells.toList.length/\x<cur.size then (ρ y).cells.toList[x - off]? else cur[x]?) ->
   ∀(i:Nat)(c:LV),(cs.take off++(E.ev fr b2).cells++cs.drop (off+n))[i]? = some c->VR G w c (cur'.getD i undef)/\(cur'.getD i undef).oneCell'=true:=by
  intro cs cur cur' hcs hc hle h8 i c hi
  rw[<-hlen]at hi hle
  rw[cells_get_write hle]at hi
  rw[hsz,<-hlen]at h8
  by_cases hin:off<=i/\i<off+(E.ev fr b2).cells.length
  ·rw[if_pos hin]at hi
   have h9:=h8 i
   rw[if_pos ⟨hin.1,hin.2,by omega⟩]at h9
   have:=hA.2 _ _ hi
   rw[Array.getD_eq_getD_getElem?,h9]
   rw[Array.getD_eq_getD_getElem?]at this
   simpa using this
  ·rw[if_neg hin]at hi
   have h9:=h8 i
   rw[if_neg (fun hc=>hin ⟨hc.1,hc.2.1⟩)]at h9
   have:=hc _ _ hi
   rw[Array.getD_eq_getD_getElem?,h9]
   rwa [Array.getD_eq_getD_getElem?]at this
 constructor
 ·intro cs hl hle
  obtain⟨_,vs,el,fz,h1,h2,h3,h4,h5,h6⟩:=hI.objs b _ hl
  obtain⟨_,_,_,_,_,cur',k6,k7,k8⟩:=setCells_spec (G.loc b) (ρ y).cells.toList off w vs el fz h1
  obtain⟨q1,q2⟩:=hI.store (off:=off) (vs:=(ρ y).cells.toList) (lo':=.cells (cs.take off++(E.ev fr b2).cells++cs.drop (off+n))) hl h1 h2
   (fun x hx1 hx2=>h4 x) (by simp) (fun hx=>by
    refine⟨cur',el,fz,k6,h2,by rw[k7,h3];simp;omega,fun x=>h4 x,fun x=>(turn_setCells h1).frozen h1 (h5 x),fun i c hi=>?_⟩
    have:=value cs vs cur' (by omega) h6 hle k8 i c hi
    exact⟨this.1.mono hx,this.2⟩)
  exact⟨undef,_,G,run vs el fz h1 (by omega) h5,.bot _,q1,q2⟩
 ·intro sz cs hl hle
  obtain⟨_,vs,el,fz,h1,h2,h3,h3',h4,h5,h6⟩:=hI.objs b _ hl
  have hbig:=h3'.2.2
  obtain⟨_,_,_,_,_,cur',k6,k7,k8⟩:=setCells_spec (G.loc b) (ρ y).cells.toList off w vs el fz h1
  obtain⟨q1,q2⟩:=hI.store (off:=off) (vs:=(ρ y).cells.toList) (lo':=.arr sz (cs.take off++(E.ev fr b2).cells++cs.drop (off+n))) hl h1 h2
   (fun x hx1 hx2=>h4 x) (by simp) (fun hx=>by
    refine⟨cur',el,fz,k6,h2,by rw[k7];simp;omega,⟨h3'.1,by rw[k7];exact h3'.2.1,by have:=h3'.2.2;simp;omega⟩,fun x=>h4 x,fun x=>(turn_setCells h1).frozen h1 (h5 x),fun i c hi=>?_⟩
    have:=value cs vs cur' h3 h6 hle k8 i c hi
    exact⟨this.1.mono hx,this.2⟩)
  exact⟨undef,_,G,run vs el fz h1 (by omega) h5,.bot _,q1,q2⟩
end
end Go.Abs
namespace Go.Abs
open Go
section
variable{P:Program}{E:Env}{G G':Ghost}{w w':World}{fr:Fr}{ρ:Operand->Value}{H H':LHeap}{o:Oper}
theorem all_cells{es:List LV}{sz:Nat}(h:(es.all fun e=>e.cells.length==sz)=true):∀(i:Nat)(e:LV),es[i]? = some e->e.cells.length=sz:=by
 intro i e he
 rw[List.all_eq_true]at h
 simpa using h e (List.mem_of_getElem? he)
theorem flatC_inv{es:List LV}{sz:Nat}(h:∀(i:Nat) (e:LV),es[i]? = some e->e.cells.length=sz){k:Nat}{c:LV}(hc:(flatC es)[k]? = some c):
  0<sz/\k / sz<es.length/\∃e,es[k / sz]? = some e/\e.cells[k % sz]? = some c:=by
 have hk:=lt_of_get hc
 rw[flatC_length h]at hk
 have hs:0<sz:=by
  rcases Nat.eq_zero_or_pos sz with h0|h0
  ·subst h0;simp at hk
  ·exact h0
 have hi:k / sz<es.length:=(Nat.div_lt_iff_lt_mul hs).2 hk
 have hj:k % sz<sz:=Nat.mod_lt _ hs
 have he:=List.getElem?_eq_getElem hi
 have hcl:=h _ _ he
 have hc2:(es[k / sz]).cells[k % sz]? = some ((es[k / sz]).cells[k % sz]'(by omega)):=List.getElem?_eq_getElem (by omega)
 have:=flatC_get h _ _ _ _ he hc2
 rw[Nat.mul_comm,Nat.div_add_mod]at this
 rw[this]at hc
 exact⟨hs,hi,_,he,by rw[hc2];exact hc⟩
theorem firstCells0{P:Program}{w:World}(base:Option Addr)(sz:Nat):(Builtin.firstCells sz 0 (.slice base 0 0)).run P w=.ok #[] w:=by
 cases base with
 |none=>simp[Builtin.firstCells]
 |some a=>exact run_firstCells_some w sz 0 a 0 0 [] (by simp) (fun j v h=>by simp at h)
theorem sl_row{es:List LV}{own:Own}{v:Value}{sz:Nat}(h:VR G w (.sl es own) v)(hall:(es.all fun e=>e.cells.length==sz)=true):
  ∃L:List Value,AR G w (flatC es) L.toArray/\L.length=es.length*sz/\(Builtin.firstCells sz es.length v).run P w=.ok L.toArray w:=by
 have hu:=all_cells hall
 obtain⟨base,cap,rfl,hcap,_,hb⟩:=h.sl_inv
 rcases hb with⟨rfl,rfl,_⟩|⟨b,off,sz',xs,rfl,h1,h2,h3⟩
 ·exact⟨[],⟨rfl,fun i c hc=>by simp[flatC]at hc⟩,by simp,firstCells0 base sz⟩
 ·have key:∀(k:Nat)(c:LV),(flatC es)[k]? = some c->w.cell? (at_ b (off+k))=some (xs (k / sz) (k % sz))/\VR G w c (xs (k / sz) (k % sz))/\(xs (k / sz) (k % sz)).oneCell'=true:=by
   intro k c hc
   obtain⟨hs,hi,e,he,hce⟩:=flatC_inv hu hc
   have hz:sz'=sz:=(h1 _ _ he).symm.trans (hu _ _ he)
   subst hz
   have e1:=h2 _ _ _ _ he hce
   rw[show off+k / sz'*sz'+k % sz'=off+k by rw[Nat.add_assoc,Nat.mul_comm,Nat.div_add_mod]]at e1
   exact⟨e1.2.1,h3 _ _ _ _ he hce,e1.2.2⟩
  have hlen:=flatC_length hu
  refine⟨(List.range (es.length*sz)).map fun k=>xs (k / sz) (k % sz),⟨by simp[hlen],fun i c hc=>?_⟩,by simp,?_⟩
  ·have hi:=lt_of_get hc
   rw[hlen]at hi
   have:=(key i c hc).2
   simpa [hi] using this
  ·refine run_firstCells_some _ _ _ _ _ _ _ (by simp) (fun j v hj=>?_)
   have hj':=lt_of_get hj
   simp at hj'
   rw[at_add]
   have hc:=List.getElem?_eq_getElem (l:=flatC es) (i:=j) (by rw[hlen];exact hj')
   rw[(key j _ hc).1]
   simpa [hj'] using hj
theorem nextcap_le(need cap:Nat)(h:cap<need):Builtin.nextslicecap need cap<=2*need+400:=by
 have g:∀r c,c<=2*need+400->Builtin.growBy need r c<=2*need+400:=by
  intro r
  induction r with
  |zero=>intro c hc;exact hc
  |succ r ih=>
   intro c hc
   simp only[Builtin.growBy]
   split
   ·exact hc
   ·exact ih _ (by omega)
 unfold Builtin.nextslicecap
 split
 ·omega
 ·split
  ·omega
  ·exact g 4 cap (by omega)
theorem cut_appendCap(need old:Nat)(e:TypeId)(t:Nat):need<=(Question.appendCap need old e).cut t:=by simp[Question.cut]
theorem run_append_grow{base:Option Addr}{t u elem:TypeId}{ty:TypeId}{sLen sCap n:Nat}{sz:Nat}{x:Value}{L M:List Value}{zv:Value}{ti:TypeInfo}
  (ht:P.underlying t=some (.slice elem)) (hu:∃e',P.underlying u=some (.slice e')) (hs:sizeO P elem=some sz) (hti:P.info? elem=some ti) (hby:ti.bytes<=2^12)
  (hz:∀w:World,(zeroValue elem).run P w=.ok zv w) (hx:∃b c,x=.slice b n c) (hbig:sLen+n<=2^30) (hcap:sCap<sLen+n)
  (hold:∀w',(∀k,k<w.heap.size->w'.heap[k]? = w.heap[k]?)->(Builtin.firstCells sz sLen (.slice base sLen sCap)).run P w'=.ok L.toArray w')
  (hnew:∀w',(∀k,k<w.heap.size->w'.heap[k]? = w.heap[k]?)->(Builtin.firstCells sz n x).run P w'=.ok M.toArray w'):
  ∃newCap rest,sLen+n<=newCap/\rest.size=(newCap - (sLen+n))*zv.cells.size /\
   (Builtin.append_ #[t,u] ty #[.slice base sLen sCap,x]).run P w =
    .ok (.slice (some (at_ w.heap.size 0)) (sLen+n) newCap) (w.drew.alloc (.cells (L.toArray++M.toArray++rest) elem)):=by
 obtain⟨b,c,rfl⟩:=hx
 obtain⟨e',hu⟩:=hu
 have hnc:=nextcap_le (sLen+n) sCap hcap
 have hbig2:¬Builtin.nextslicecap (sLen+n) sCap*ti.bytes > 2^48:=by
  have:Builtin.nextslicecap (sLen+n) sCap*ti.bytes<=(2*(sLen+n)+400)*2^12:=Nat.mul_le_mul hnc hby
  omega
 refine⟨(Question.appendCap (sLen+n) sCap elem).cut (w.tape w.drawn (.appendCap (sLen+n) sCap elem)),Builtin.zeroCells zv.cells ((Question.appendCap (sLen+n) sCap elem).cut (w.tape w.drawn (.appendCap (sLen+n) sCap elem)) - (sLen+n)),cut_appendCap _ _ _ _,by simp[Builtin.zeroCells],?_⟩
 have h1:=hold w.drew (fun k _=>rfl)
 have h2:=hnew w.drew (fun k _=>rfl)
 have hnot:¬(sLen+n<=sCap):=by omega
 have hi64:¬(((sLen+n:Nat):Int) > IntKind.i64.max/\(False\/ti.bytes=0)):=by
  have:IntKind.i64.max=9223372036854775807:=rfl
  omega
 have hforced:(Question.appendCap (sLen+n) sCap elem).forced=false:=rfl
 simp only[Builtin.append_,List.getElem?_toArray,List.getElem?_cons_zero,List.getElem?_cons_succ,Sem.run_bind,run_underlying ht,run_underlying hu,run_size hs,Result.andThen_ok,Sem.run_pure,Builtin.lenOf,
  Bool.false_eq_true,if_false,if_neg hnot,run_info hti,Bool.not_false,if_true]
 rw[if_neg hi64]
 simp only[Sem.run_bind,run_info hti,Result.andThen_ok]
 rw[if_neg hbig2]
 simp only[Sem.run_bind,run_choose_drew,hforced,Bool.false_eq_true,if_false,Result.andThen_ok,run_info hti,run_askRoom,h1,h2,hz,newRow,run_newObj_alloc,Sem.run_pure]
 rfl
theorem run_append_fits{t u elem:TypeId}{ty:TypeId}{sLen sCap n b off:Nat}{sz:Nat}{x:Value}{M:List Value}
  (ht:P.underlying t=some (.slice elem)) (hu:∃e',P.underlying u=some (.slice e')) (hs:sizeO P elem=some sz)
  (hx:∃b c,x=.slice b n c) (hcap:sLen+n<=sCap)
  (hnew:(Builtin.firstCells sz n x).run P w=.ok M.toArray w) (hst:(storeCells (at_ b (off+sLen*sz)) M).run P w=.ok () w'):
  (Builtin.append_ #[t,u] ty #[.slice (some (at_ b off)) sLen sCap,x]).run P w=.ok (.slice (some (at_ b off)) (sLen+n) sCap) w':=by
 obtain⟨b',c,rfl⟩:=hx
 obtain⟨e',hu⟩:=hu
 simp only[Builtin.append_,List.getElem?_toArray,List.getElem?_cons_zero,List.getElem?_cons_succ,Sem.run_bind,run_underlying ht,run_underlying hu,run_size hs,Result.andThen_ok,Sem.run_pure,Builtin.lenOf,
  Bool.false_eq_true,if_false,if_pos hcap,Bool.not_false,if_true,hnew,at_add,hst]
theorem run_append_none{t u elem:TypeId}{ty:TypeId}{sLen sCap n:Nat}{sz:Nat}{x:Value}{M:List Value}
  (ht:P.underlying t=some (.slice elem)) (hu:∃e',P.underlying u=some (.slice e')) (hs:sizeO P elem=some sz)
  (hx:∃b c,x=.slice b n c) (hcap:sLen+n<=sCap)
  (hnew:(Builtin.firstCells sz n x).run P w=.ok M.toArray w):
  (Builtin.append_ #[t,u] ty #[.slice none sLen sCap,x]).run P w=.ok (.slice none (sLen+n) sCap) w:=by
 obtain⟨b',c,rfl⟩:=hx
 obtain⟨e',hu⟩:=hu
 simp only[Builtin.append_,List.getElem?_toArray,List.getElem?_cons_zero,List.getElem?_cons_succ,Sem.run_bind,run_underlying ht,run_underlying hu,run_size hs,Result.andThen_ok,Sem.run_pure,Builtin.lenOf,
  Bool.false_eq_true,if_false,if_pos hcap,Bool.not_false,if_true,hnew]
end
end Go.Abs
namespace Go.Abs
open Go
section
variable{P:Program}{E:Env}{G G':Ghost}{w w':World}{fr:Fr}{ρ:Operand->Value}{H H':LHeap}{o:Oper}
theorem AR.append{cs ds:List LV}{us vs:List Value}(h:AR G w cs us.toArray)(k:AR G w ds vs.toArray):AR G w (cs++ds) (us++vs).toArray:=by
 have hu:us.length=cs.length:=by simpa using h.1
 have hv:vs.length=ds.length:=by simpa using k.1
 refine⟨by simp[hu,hv],fun i c hc=>?_⟩
 by_cases hi:i<cs.length
 ·rw[List.getElem?_append_left hi]at hc
  have:=h.2 i c hc
  have e:(us++vs).toArray.getD i undef=us.toArray.getD i undef:=by
   simp only[Array.getD_eq_getD_getElem?,List.getElem?_toArray]
   rw[List.getElem?_append_left (by omega)]
  rwa [e]
 ·rw[List.getElem?_append_right (by omega)]at hc
  have:=k.2 _ c hc
  have e:(us++vs).toArray.getD i undef=vs.toArray.getD (i - cs.length) undef:=by
   simp only[Array.getD_eq_getD_getElem?,List.getElem?_toArray]
   rw[List.getElem?_append_right (by omega),hu]
  rwa [e]
theorem flatC_append(a b:List LV):flatC (a++b)=flatC a++flatC b:=by simp[flatC]
def Ghost.app(G:Ghost)(t n' n:Nat)(base:Option Addr)(cap:Nat)(own:Nat->Nat->Lab):Ghost where
 B:=G.B
 n:=n'
 loc:=G.loc
 asz:=G.asz
 tk:=fun i=>if i=t then some (n,base,cap) else G.tk i
 own:=own
 rc:=G.rc
theorem sl_of_block{es:List LV}{own:Own}{b off sz cap:Nat}{cs vs:Array Value}{el:TypeId}{fz:Nat×Nat}(hu:∀(i:Nat) (e:LV),es[i]? = some e->e.cells.length=sz)(hcap:es.length<=cap)
  (hb:w.heap[b]? = some (.cells vs el fz)) (hA:AR G w (flatC es) cs) (hv:∀k,k<es.length*sz->vs[off+k]? = cs[k]?) (hcl:∀k,k<es.length*sz->G.Cl b (off+k))
  (ho:OwnR G own (some (at_ b off)) es.length cap):VR G w (.sl es own) (.slice (some (at_ b off)) es.length cap):=by
 have key:∀(i:Nat)(e:LV)(j:Nat)(c:LV),es[i]? = some e->e.cells[j]? = some c->i*sz+j<es.length*sz/\(flatC es)[i*sz+j]? = some c:=by
  intro i e j c he hc
  have h1:=lt_of_get he
  have h2:=lt_of_get hc
  rw[hu i e he]at h2
  refine⟨?_,flatC_get hu i e j c he hc⟩
  have:(i+1)*sz<=es.length*sz:=Nat.mul_le_mul_right _ h1
  rw[Nat.add_mul]at this
  omega
 refine .sl (sz:=sz) (xs:=fun i j=>cs.getD (i*sz+j) undef) hcap hu (fun i e j c he hc=>?_) (fun i e j c he hc=>?_) ho
 ·obtain⟨h1,h2⟩:=key i e j c he hc
  refine⟨by rw[Nat.add_assoc];exact hcl _ h1,?_,(hA.2 _ c h2).2⟩
  rw[Nat.add_assoc,cell?_cells hb,hv _ h1]
  exact getD_some (by rw[hA.1];exact lt_of_get h2)
 ·obtain⟨h1,h2⟩:=key i e j c he hc
  exact(hA.2 _ c h2).1
theorem ap_grow(hI:Inv G w H){es xs:List LV}{sz t n':Nat}{elem:TypeId}{newCap:Nat}{L M:List Value}{rest:Array Value}
  (hes:(es.all fun e=>e.cells.length==sz)=true) (hxs:(xs.all fun e=>e.cells.length==sz)=true)
  (hL:AR G w (flatC es) L.toArray) (hM:AR G w (flatC xs) M.toArray) (hLl:L.length=es.length*sz) (hMl:M.length=xs.length*sz) (hcap:es.length+xs.length<=newCap)
  (hrest:rest.size=(newCap - (es.length+xs.length))*sz)
  (htn:t<n') (hn:G.n<=n') (hn2:n'<=H'.next) (hl:∀i,i≠t->look i H'.objs=look i H.objs) (hlt:look t H'.objs=some (.tok (es.length+xs.length) sz))
  (htk:t<G.n->∃b c,G.tk t=some (es.length,b,c)) (hpos:es.length<es.length+xs.length):
  ∃G',VR G' (w.drew.alloc (.cells (L.toArray++M.toArray++rest) elem)) (.sl (es++xs) (.tok t)) (.slice (some (at_ w.heap.size 0)) (es.length+xs.length) newCap) /\
   Ext G w G' (w.drew.alloc (.cells (L.toArray++M.toArray++rest) elem))/\Inv G' (w.drew.alloc (.cells (L.toArray++M.toArray++rest) elem)) H':=by
 have hu:∀(i:Nat)(e:LV),(es++xs)[i]? = some e->e.cells.length=sz:=by
  have:((es++xs).all fun e=>e.cells.length==sz)=true:=by rw[List.all_append,hes,hxs];rfl
  exact all_cells this
 have hlenL:(es++xs).length=es.length+xs.length:=by simp
 let own':Nat->Nat->Lab:=fun b x=>if b=w.heap.size then (if x<(es.length+xs.length)*sz then .cl else .tok t) else G.own b x
 let G':=G.app t n' (es.length+xs.length) (some (at_ w.heap.size 0)) newCap own'
 have hsame:∀k,k<w.heap.size->(w.drew.alloc (.cells (L.toArray++M.toArray++rest) elem)).heap[k]? = w.heap[k]?:=fun k hk=>heap_alloc_lt (w:=w.drew) hk
 have hnewb:(w.drew.alloc (.cells (L.toArray++M.toArray++rest) elem)).heap[w.heap.size]? = some (.cells (L.toArray++M.toArray++rest) elem):=heap_alloc_new (w:=w.drew)
 have hne:∀{b x:Nat},G.own b x≠.free->b≠w.heap.size:=fun h e=>h (hI.free _ _ (by omega))
 have hx:Ext G w G' (w.drew.alloc (.cells (L.toArray++M.toArray++rest) elem)):=by
  refine⟨rfl,rfl,rfl,by simp,rfl,fun k hk=>hsame k (hI.hB k hk),hn,fun _ _=>rfl,fun _ _=>rfl,fun b x hb=>?_,fun i hi m b c hm=>?_,rfl⟩
  ·have hb':b≠w.heap.size:=hne (by rw[hb];simp)
   have hb2:b<w.heap.size:=own_lt hI hb (by simp)
   refine⟨by simp only[G',Ghost.app,own',if_neg hb'];exact hb,fun v hv=>by rw[cell?_of_block (hsame b hb2)];exact hv⟩
  ·by_cases hit:i=t
   ·subst hit
    obtain⟨b2,c2,h2⟩:=htk hi
    rw[h2]at hm
    simp at hm
    obtain⟨rfl,rfl,rfl⟩:=hm
    exact⟨es.length+xs.length,some (at_ w.heap.size 0),newCap,by simp only[G',Ghost.app,if_true],by omega,fun e=>by omega⟩
   ·exact⟨m,b,c,by simp only[G',Ghost.app,if_neg hit];exact hm,Nat.le_refl _,fun _=>⟨rfl,rfl⟩⟩
 have hA:AR G' (w.drew.alloc (.cells (L.toArray++M.toArray++rest) elem)) (flatC (es++xs)) (L++M).toArray:=by
  rw[flatC_append]
  have:=hL.append hM
  exact⟨this.1,fun i c hc=>⟨(this.2 i c hc).1.mono hx,(this.2 i c hc).2⟩⟩
 refine⟨G',?_,hx,?_⟩
 ·rw[<-hlenL]
  refine sl_of_block (sz:=sz) (off:=0) hu (by rw[hlenL];exact hcap) hnewb hA (fun k hk=>?_) (fun k hk=>?_) ?_
  ·rw[hlenL]at hk
   have:k<(L++M).length:=by rw[List.length_append,hLl,hMl,<-Nat.add_mul];exact hk
   rw[Nat.zero_add,Array.getElem?_append_left (by simpa using this)]
   simp
  ·right
   rw[hlenL]at hk
   simp only[G',Ghost.app,own',if_true,Nat.zero_add,if_pos hk]
  ·refine⟨htn,es.length+xs.length,some (at_ w.heap.size 0),newCap,by simp only[G',Ghost.app,if_true],by rw[hlenL];exact Nat.le_refl _,fun _=>⟨rfl,rfl⟩⟩
 ·refine Inv.step (fun i=>i=t) hI hx (W:=fun _ _=>False) (V:=fun _=>False) ⟨fun k vs el fz h=>⟨vs,by rw[hsame k (lt_of_heap h)];exact h,rfl,fun _ _=>rfl⟩,fun k ob h _ _=>by rw[hsame k (lt_of_heap h)];exact h⟩
   hn2 (fun b x hb=>?_) (fun b x hb=>?_) (fun i x hi h=>by rw[<-hl i hi];exact h) (fun _ _ _ _ _ h=>h) (fun _ _ _ h=>h) (fun i k x hi=>⟨fun h=>?_,fun h=>?_⟩) (fun i _ hi=>by simp only[G',Ghost.app,if_neg hi]) ?_ ?_
  ·simp at hb
   have:b≠w.heap.size:=by omega
   simp only[G',Ghost.app,own',if_neg this]
   exact hI.free b x (by omega)
  ·have h0:=hI.hB b hb
   have:b≠w.heap.size:=by omega
   simp only[G',Ghost.app,own',if_neg this]
   exact hI.old b x hb
  ·simp only[G',Ghost.app,own',if_neg (hne (b:=k) (x:=x) (by rw[h];simp))];exact h
  ·simp only[G',Ghost.app,own',if_neg (hne (b:=k) (x:=x) (by rw[h];simp))];exact h
  ·intro m es' hmn hm
   have hmt:m≠t:=by intro e;subst e;rw[hlt]at hm;simp at hm
   rw[hl m hmt]at hm
   obtain⟨_,ents,clock,q1,_⟩:=hI.objs m _ hm
   refine⟨es',hm,Nat.le_refl _,fun _ ents' clock' hh=>?_⟩
   rw[hsame _ (lt_of_heap q1)]at hh
   exact⟨ents',clock',hh,rfl,fun _=>rfl⟩
  ·intro i x hi h
   subst hi
   rw[hlt]at h
   simp at h;subst h
   refine⟨htn,some (at_ w.heap.size 0),newCap,by simp only[G',Ghost.app,if_true],hcap,fun _ hlt'=>?_⟩
   refine⟨w.heap.size,0,_,_,_,rfl,hnewb,?_,hI.hB',fun x=>?_,fun x h1 h2=>?_⟩
   ·have e1:(newCap - (es.length+xs.length))*sz=newCap*sz - (es.length+xs.length)*sz:=Nat.sub_mul _ _ _
    have e2:(es.length+xs.length)*sz<=newCap*sz:=Nat.mul_le_mul_right _ hcap
    have e3:(es.length+xs.length)*sz=es.length*sz+xs.length*sz:=Nat.add_mul _ _ _
    simp[hLl,hMl,hrest]
    omega
   ·unfold World.frozen?;rw[hnewb];simp
   ·simp only[G',Ghost.app,own',if_true]
    rw[if_neg (by omega)]
theorem sl_row2{es:List LV}{own:Own}{b off len cap sz:Nat}(h:VR G w (.sl es own) (.slice (some (at_ b off)) len cap))(hall:(es.all fun e=>e.cells.length==sz)=true):
  ∃L:List Value,AR G w (flatC es) L.toArray/\L.length=es.length*sz/\∀k,k<es.length*sz->G.Cl b (off+k)/\w.cell? (at_ b (off+k))=L[k]?:=by
 have hu:=all_cells hall
 have hlen:=flatC_length hu
 obtain⟨base,cap',he,hcap,_,hb⟩:=h.sl_inv
 simp only[Value.slice.injEq]at he
 obtain⟨rfl,rfl,rfl⟩:=he
 rcases hb with⟨rfl,_,_⟩|⟨b',off',sz',xs,h0,h1,h2,h3⟩
 ·exact⟨[],⟨rfl,fun i c hc=>by simp[flatC]at hc⟩,by simp,fun k hk=>by simp at hk⟩
 ·simp only[Option.some.injEq,Addr.mk.injEq,and_true]at h0
  obtain⟨rfl,rfl⟩:=h0
  have key:∀(k:Nat)(c:LV),(flatC es)[k]? = some c->G.Cl b (off+k)/\w.cell? (at_ b (off+k))=some (xs (k / sz) (k % sz))/\VR G w c (xs (k / sz) (k % sz))/\(xs (k / sz) (k % sz)).oneCell'=true:=by
   intro k c hc
   obtain⟨hs,hi,e,he,hce⟩:=flatC_inv hu hc
   have hz:sz'=sz:=(h1 _ _ he).symm.trans (hu _ _ he)
   subst hz
   have e1:=h2 _ _ _ _ he hce
   rw[show off+k / sz'*sz'+k % sz'=off+k by rw[Nat.add_assoc,Nat.mul_comm,Nat.div_add_mod]]at e1
   exact⟨e1.1,e1.2.1,h3 _ _ _ _ he hce,e1.2.2⟩
  refine⟨(List.range (es.length*sz)).map fun k=>xs (k / sz) (k % sz),⟨by simp[hlen],fun i c hc=>?_⟩,by simp,fun k hk=>?_⟩
  ·have hi:=lt_of_get hc
   rw[hlen]at hi
   have:=(key i c hc).2.2
   simpa [hi] using this
  ·have hc:=List.getElem?_eq_getElem (l:=flatC es) (i:=k) (by rw[hlen];exact hk)
   have:=key k _ hc
   exact⟨this.1,by rw[this.2.1];simp[hk]⟩
theorem ap_fits(hI:Inv G w H){es xs:List LV}{sz t b off cap:Nat}{M:List Value}
  (hes:(es.all fun e=>e.cells.length==sz)=true) (hxs:(xs.all fun e=>e.cells.length==sz)=true)
  (hE:VR G w (.sl es (.tok t)) (.slice (some (at_ b off)) es.length cap)) (hM:AR G w (flatC xs) M.toArray) (hMl:M.length=xs.length*sz) (hcap:es.length+xs.length<=cap)
  (hlk:look t H.objs=some (.tok es.length sz)) (hpos:0<xs.length) (hz0:0<sz):
  (∀j,j<M.length->(w.cell? (at_ b (off+es.length*sz+j))).isSome=true)/\(∀j,j<M.length->w.frozen? (at_ b (off+es.length*sz+j))=false) /\
  ∃G',VR G' (w.setCells b (off+es.length*sz) M) (.sl (es++xs) (.tok t)) (.slice (some (at_ b off)) (es.length+xs.length) cap) /\
   Ext G w G' (w.setCells b (off+es.length*sz) M)/\Inv G' (w.setCells b (off+es.length*sz) M) (H.put t (.tok (es.length+xs.length) sz)):=by
 have hu:∀(i:Nat)(e:LV),(es++xs)[i]? = some e->e.cells.length=sz:=by
  have:((es++xs).all fun e=>e.cells.length==sz)=true:=by rw[List.all_append,hes,hxs];rfl
  exact all_cells this
 have hlenL:(es++xs).length=es.length+xs.length:=by simp
 obtain⟨L,hL,hLl,hLc⟩:=sl_row2 hE hes
 obtain⟨htn,base0,cap0,htk,_,htail⟩:=hI.objs t _ hlk
 obtain⟨_,hcap1,hve,hcapE,hown,_⟩:=hE.sl_inv
 simp only[Value.slice.injEq]at hve
 obtain⟨rfl,_,rfl⟩:=hve
 obtain⟨_,m0,b0,c0,hm0,_,hm1⟩:=hown
 rw[htk]at hm0
 simp only[Option.some.injEq,Prod.mk.injEq]at hm0
 obtain⟨rfl,rfl,rfl⟩:=hm0
 obtain⟨rfl,rfl⟩:=hm1 rfl
 obtain⟨b2,off2,vs,el,fz,hb2,hblk,hsz,hBb,hfr,howt⟩:=htail hz0 (by omega)
 simp only[Option.some.injEq,Addr.mk.injEq,and_true]at hb2
 obtain⟨rfl,rfl⟩:=hb2
 have hne:(es.length+xs.length)*sz<=cap0*sz:=Nat.mul_le_mul_right _ hcap
 have hadd:(es.length+xs.length)*sz=es.length*sz+xs.length*sz:=Nat.add_mul _ _ _
 refine⟨fun j hj=>?_,fun j _=>hfr _,?_⟩
 ·rw[cell?_cells hblk,Array.getElem?_eq_getElem (by omega)];rfl
 let own':Nat->Nat->Lab:=fun k x=>if k=b/\off+es.length*sz<=x/\x<off+(es.length+xs.length)*sz then .cl else G.own k x
 let G':=G.app t G.n (es.length+xs.length) (some (at_ b off)) cap0 own'
 obtain⟨q1,q2,q3,q4,q5,cur',q6,q7,q8⟩:=setCells_spec b M (off+es.length*sz) w vs el fz hblk
 have hx:Ext G w G' (w.setCells b (off+es.length*sz) M):=by
  refine Inv.ext_setCells hblk hBb (fun x h1 h2=>by rw[howt x h1 (by omega)];simp) rfl (Nat.le_refl _) (fun _ _=>rfl) (fun _ _=>rfl) (fun k x h=>?_) (fun i hi m b' c' hm=>?_)
  ·simp only[G',Ghost.app,own']
   split
   ·rfl
   ·exact h
  ·by_cases hit:i=t
   ·subst hit
    rw[htk]at hm
    simp at hm
    obtain⟨rfl,rfl,rfl⟩:=hm
    exact⟨es.length+xs.length,some (at_ b off),cap0,by simp only[G',Ghost.app,if_true],by omega,fun e=>by omega⟩
   ·exact⟨m,b',c',by simp only[G',Ghost.app,if_neg hit];exact hm,Nat.le_refl _,fun _=>⟨rfl,rfl⟩⟩
 have hA:AR G' (w.setCells b (off+es.length*sz) M) (flatC (es++xs)) (L++M).toArray:=by
  rw[flatC_append]
  have:=hL.append hM
  exact⟨this.1,fun i c hc=>⟨(this.2 i c hc).1.mono hx,(this.2 i c hc).2⟩⟩
 refine⟨G',?_,hx,?_⟩
 ·rw[<-hlenL]
  refine sl_of_block (sz:=sz) hu (by rw[hlenL];exact hcap) q6 hA (fun k hk=>?_) (fun k hk=>?_) ?_
  ·rw[hlenL]at hk
   rw[q8]
   by_cases hk2:k<es.length*sz
   ·rw[if_neg (by omega)]
    have:=(hLc k hk2).2
    rw[cell?_cells hblk]at this
    rw[this]
    simp only[List.getElem?_toArray]
    rw[List.getElem?_append_left (by omega)]
   ·rw[if_pos ⟨by omega,by omega,by omega⟩]
    simp only[List.getElem?_toArray]
    rw[List.getElem?_append_right (by omega),hLl]
    congr 1;omega
  ·rw[hlenL]at hk
   by_cases hk2:k<es.length*sz
   ·rcases (hLc k hk2).1 with h|h
    ·left;exact h
    ·right
     simp only[G',Ghost.app,own']
     split
     ·rfl
     ·exact h
   ·right
    simp only[G',Ghost.app,own']
    rw[if_pos ⟨trivial,by omega,by omega⟩]
  ·refine⟨htn,es.length+xs.length,some (at_ b off),cap0,by simp only[G',Ghost.app,if_true],by rw[hlenL];exact Nat.le_refl _,fun _=>⟨rfl,rfl⟩⟩
 ·have hlp:=fun j=>look_put (j:=j) (ob':=.tok (es.length+xs.length) sz) hlk
  refine Inv.step (fun i=>i=t) hI hx (turn_setCells hblk) (by show G.n<=H.next;exact hI.n) (fun k x hk=>?_) (fun k x hk=>?_) (fun i x hi h=>by rw[hlp,if_neg hi]at h;exact h)
   (fun i k x hi hk hc=>?_) (fun _ _ _ h=>h) (fun i k x hi=>⟨fun h=>?_,fun h=>?_⟩) (fun i _ hi=>by simp only[G',Ghost.app,if_neg hi]) ?_ ?_
  ·rw[q2]at hk
   have:k≠b:=by have:=lt_of_heap hblk;omega
   simp only[G',Ghost.app,own']
   rw[if_neg (fun h=>this h.1)]
   exact hI.free k x hk
  ·simp only[G',Ghost.app,own']
   rw[if_neg (fun h=>by have:=h.1;subst this;exact hBb hk)]
   exact hI.old k x hk
  ·obtain⟨rfl,h1,h2⟩:=hc
   rw[howt x h1 (by omega)]at hk
   cases hk
  ·simp only[G',Ghost.app,own']
   rw[if_neg];exact h
   rintro⟨rfl,h1,h2⟩
   rw[howt x h1 (by omega)]at h;cases h
  ·simp only[G',Ghost.app,own']
   rw[if_neg];exact h
   rintro⟨rfl,h1,h2⟩
   rw[howt x h1 (by omega)]at h
   simp only[Lab.tok.injEq]at h
   exact hi h.symm
  ·intro m es' hmn hm
   rw[hlp]at hm
   by_cases hmt:m=t
   ·rw[if_pos hmt]at hm;cases hm
   ·rw[if_neg hmt]at hm
    obtain⟨_,ents,clock,r1,_⟩:=hI.objs m _ hm
    refine⟨es',hm,Nat.le_refl _,fun _ ents' clock' hh=>?_⟩
    have:G.loc m≠b:=by intro e;rw[e,hblk]at r1;cases r1
    rw[q1 _ this]at hh
    exact⟨ents',clock',hh,rfl,fun _=>rfl⟩
  ·intro i x hi h
   subst hi
   rw[hlp,if_pos rfl]at h
   simp at h;subst h
   refine⟨htn,some (at_ b off),cap0,by simp only[G',Ghost.app,if_true],hcap,fun _ _=>?_⟩
   refine⟨b,off,cur',el,fz,rfl,q6,by omega,hBb,fun x=>(turn_setCells hblk).frozen hblk (hfr x),fun x h1 h2=>?_⟩
   simp only[G',Ghost.app,own']
   rw[if_neg (fun h=>by have:=h.2.2;omega)]
   exact howt x (by omega) h2
end
end Go.Abs
namespace Go.Abs
open Go
section
variable{P:Program}{E:Env}{G G':Ghost}{w w':World}{fr:Fr}{ρ:Operand->Value}{H H':LHeap}{o:Oper}
theorem zero_run{t:TypeId}{zs:List LV}(h:zeroO P t=some zs):∃v,(∀w:World,(zeroValue t).run P w=.ok v w)/\v.cells.size=zs.length/\sizeO P t=some zs.length:=by
 unfold zeroO at h
 split at h
 ·rename_i i hi
  split at h
  ·rename_i v hz
   split at h
   ·rename_i zs' hm
    split at h
    ·rename_i hlen
     simp at h;subst h
     obtain⟨h1,_⟩:=mapM_ofConst hm
     exact⟨v,fun w=>by simp[zeroValue,Sem.run_bind,run_info hi,hz],by simpa using h1.symm,by simp[sizeO,hi,hlen]⟩
    ·simp at h
   ·simp at h
  ·simp at h
 ·simp at h
theorem eff_ap(hI:Inv G w H)(hρ:EvR E G w fr ρ){c:Call}{s x:Operand}{bs bx:BO}{t u e:TypeId}{sz:Nat}{ti:TypeInfo}{zs:List LV}(ho:o.op=.call c)
  (hcal:c.callee=.builtin .append) (hargs:c.args=#[s,x]) (hty:c.argTypes=#[t,u])
  (ht:P.underlying t=some (.slice e)) (hu:∃e',P.underlying u=some (.slice e')) (hsz:sizeO P e=some sz) (hti:P.info? e=some ti) (hby:ti.bytes<=2^12) (hz:zeroO P e=some zs)
  (hs:cO s=some bs) (hx:cO x=some bx) {es xs:List LV} {own ownx:Own} (hes:E.ev fr bs=.sl es own) (hxs:E.ev fr bx=.sl xs ownx)
  (h1:(es.all fun e=>e.cells.length==sz)=true) (h2:(xs.all fun e=>e.cells.length==sz)=true) (hbig:es.length+xs.length<=2^30) (hcan:canApp H sz own es.length=true):
  (∀i,own=.tok i->EffOk P G w ρ o (.sl (es++xs) own) (H.put i (.tok (es.length+xs.length) sz))) /\
  (own=.full->EffOk P G w ρ o (.sl (es++xs) (.tok H.next)) (H.alloc (.tok (es.length+xs.length) sz))):=by
 have hS:=hρ _ _ hs
 have hX:=hρ _ _ hx
 rw[hes]at hS
 rw[hxs]at hX
 obtain⟨zv,hzv,hzs,hzsz⟩:=zero_run hz
 have hzl:zs.length=sz:=by rw[hsz]at hzsz;simpa using hzsz.symm
 have yields:∀v w',(Builtin.append_ #[t,u] o.type #[ρ s,ρ x]).run P w=.ok v w'->Yields P ρ o w v w':=by
  intro v w' h
  left
  simp[execOp,ho,resolve,hcal,hargs,hty,invoke,builtin,h]
 obtain⟨base,cap,hv,hcap,hown,hb⟩:=hS.sl_inv
 obtain⟨base2,cap2,hv2,_,_,_⟩:=hX.sl_inv
 obtain⟨M,hM,hMl,hMr⟩:=sl_row (P:=P) hX h2
 obtain⟨L,hL,hLl,hLr⟩:=sl_row (P:=P) hS h1
 have grow:cap<es.length+xs.length->∀(t' n':Nat)(H':LHeap),t'<n'->G.n<=n'->n'<=H'.next->(∀i,i≠t'->look i H'.objs=look i H.objs) ->
   look t' H'.objs=some (.tok (es.length+xs.length) sz)->(t'<G.n->∃b c,G.tk t'=some (es.length,b,c))->EffOk P G w ρ o (.sl (es++xs) (.tok t')) H':=by
  intro hlt t' n' H' q1 q2 q3 q4 q5 q6
  have far:∀w':World,(∀k,k<w.heap.size->w'.heap[k]? = w.heap[k]?)->∀(l:List LV)(ow:Own)(val:Value)(K:List Value),VR G w (.sl l ow) val->(l.all fun e=>e.cells.length==sz)=true ->
    (Builtin.firstCells sz l.length val).run P w=.ok K.toArray w->(Builtin.firstCells sz l.length val).run P w'=.ok K.toArray w':=by
   intro w' hw l ow val K hV hall hr
   obtain⟨bb,cc,rfl,_,_,hbb⟩:=hV.sl_inv
   rcases hbb with⟨rfl,rfl,_⟩|⟨b3,off3,sz3,xs3,rfl,r1,r2,r3⟩
   ·have e0:=firstCells0 (P:=P) (w:=w) bb sz
    rw[show ([]:List LV).length=0 from rfl,e0]at hr
    rw[show ([]:List LV).length=0 from rfl,firstCells0]
    simp only[Result.ok.injEq]at hr ⊢
    exact⟨hr.1,trivial⟩
   ·obtain⟨K',hK,hKl,hKc⟩:=sl_row2 hV hall
    have run:∀w2:World,(∀k,k<l.length*sz->w2.cell? (at_ b3 (off3+k))=K'[k]?)->(Builtin.firstCells sz l.length (.slice (some (at_ b3 off3)) l.length cc)).run P w2=.ok K'.toArray w2:=by
     intro w2 hw2
     refine run_firstCells_some _ _ _ _ _ _ _ hKl (fun j v hj=>?_)
     rw[at_add,hw2 j (by have:=lt_of_get hj;omega)];exact hj
    have e0:=run w (fun k hk=>(hKc k hk).2)
    rw[hr]at e0
    simp only[Result.ok.injEq,and_true]at e0
    rw[e0]
    refine run w' (fun k hk=>?_)
    have hb3:b3<w.heap.size:=by
     have:=(hKc k hk).2
     rw[List.getElem?_eq_getElem (by omega)]at this
     rcases Nat.lt_or_ge b3 w.heap.size with h|h
     ·exact h
     ·simp[World.cell?,Array.getElem?_eq_none h]at this
    rw[cell?_of_block (hw b3 hb3)]
    exact(hKc k hk).2
  rw[hv]at hLr hS
  obtain⟨newCap,rest,r1,r2,r3⟩:=run_append_grow (P:=P) (w:=w) (ty:=o.type) (t:=t) (u:=u) (base:=base) (sLen:=es.length) (sCap:=cap) (n:=xs.length) (x:=ρ x) (L:=L) (M:=M) ht hu hsz hti hby hzv ⟨_,_,hv2⟩ hbig hlt
   (fun w' hw=>far w' hw es own _ L hS h1 hLr) (fun w' hw=>far w' hw xs ownx _ M hX h2 hMr)
  rw[hzs,hzl]at r2
  obtain⟨G',k1,k2,k3⟩:=ap_grow (elem:=e) hI h1 h2 hL hM hLl hMl r1 r2 q1 q2 q3 q4 q5 q6 (by omega)
  exact⟨_,_,G',yields _ _ (by rw[hv];exact r3),k1,k2,k3⟩
 have stay:es.length+xs.length<=cap->xs=[]->(Builtin.append_ #[t,u] o.type #[ρ s,ρ x]).run P w=.ok (.slice base es.length cap) w:=by
  intro hle h0
  subst h0
  have hM0:M=[]:=by simpa using hMl
  subst hM0
  rw[hv]
  rcases hb with⟨_,_,rfl|hno⟩|⟨b,off,_,_,rfl,_⟩
  ·exact run_append_none (n:=0) ht hu hsz ⟨_,_,hv2⟩ hle hMr
  ·subst hno;simp[canApp]at hcan
  ·exact run_append_fits (n:=0) ht hu hsz ⟨_,_,hv2⟩ hle hMr rfl
 constructor
 ·intro i hi
  subst hi
  have hcan'':look i H.objs=some (.tok es.length sz)/\0<sz:=by
   simp only[canApp]at hcan
   split at hcan
   ·rename_i m s' hl
    simp at hcan
    obtain⟨⟨e1,e2⟩,e3⟩:=hcan
    subst e1;subst e2
    exact⟨hl,Nat.pos_of_ne_zero e3⟩
   ·cases hcan
  obtain⟨hcan',hz0⟩:=hcan''
  obtain⟨hin,b0,c0,htk0,_⟩:=hI.objs i _ hcan'
  have hlp:=fun j=>look_put (j:=j) (ob':=.tok (es.length+xs.length) sz) hcan'
  by_cases hlt:cap<es.length+xs.length
  ·exact grow hlt i G.n _ hin (Nat.le_refl _) hI.n (fun j hj=>by rw[hlp,if_neg hj]) (by rw[hlp,if_pos rfl]) (fun _=>⟨_,_,htk0⟩)
  ·by_cases h0:xs=[]
   ·subst h0
    refine⟨_,_,G,yields _ _ (stay (by omega) rfl),?_,Ext.refl _ _,?_⟩
    ·rw[List.append_nil,<-hv];exact hS
    ·show Inv G w (H.put i (.tok es.length sz))
     refine⟨hI.n,hI.hB,hI.free,hI.old,fun j x hj=>?_⟩
     rw[look_put hcan']at hj
     by_cases hji:j=i
     ·subst hji
      rw[if_pos rfl]at hj
      simp at hj;subst hj
      exact⟨hin,(hI.objs j _ hcan').2⟩
     ·rw[if_neg hji]at hj
      obtain⟨q1,q2⟩:=hI.objs j x hj
      refine⟨q1,q2.keep (Ext.refl _ _) ⟨fun k vs el fz h=>⟨vs,h,rfl,fun _ _=>rfl⟩,fun _ _ h _ _=>h⟩ q1 (W:=fun _ _=>False) (V:=fun _=>False) (fun _ _ _ h=>h) (fun _ h=>h) (fun _ _=>⟨fun h=>h,fun h=>h⟩) rfl ?_ ?_⟩
      ·intro m _ _ _ _ _ _ es' he'
       rw[look_put hcan']at he'
       by_cases hmi:m=i
       ·rw[if_pos hmi]at he';cases he'
       ·rw[if_neg hmi]at he';exact⟨es',he',Nat.le_refl _⟩
      ·intro m _ _ _ _ _ _ _ es' he' hn' ents' clock' hh'
       rw[look_put hcan']at he'
       by_cases hmi:m=i
       ·rw[if_pos hmi]at he';cases he'
       ·rw[if_neg hmi]at he';exact⟨es',ents',clock',he',hn',hh',rfl,fun _=>rfl⟩
   ·have hpos:0<xs.length:=List.length_pos_iff.2 h0
    rcases hb with⟨rfl,rfl,_⟩|⟨b,off,_,_,rfl,_⟩
    ·simp at hlt;exact absurd hlt h0
    ·rw[hv]at hS
     obtain⟨r1,r2,G',r3,r4,r5⟩:=ap_fits hI h1 h2 hS hM hMl (by omega) hcan' hpos hz0
     have hst:=run_storeCells_cells (P:=P) b (off+es.length*sz) M 0 w (by simpa using r1) (by simpa using r2) (fun v hv=>by
      obtain⟨k,hk,he⟩:=List.getElem_of_mem hv
      have hflat:=flatC_length (all_cells h2)
      have hk2:k<(flatC xs).length:=by omega
      have:=(hM.2 k _ (List.getElem?_eq_getElem hk2)).2
      simpa [<-he,hk] using this)
     refine⟨_,_,G',yields _ _ ?_,r3,r4,r5⟩
     rw[hv]
     exact run_append_fits ht hu hsz ⟨_,_,hv2⟩ (by omega) hMr hst
 ·intro hf
  subst hf
  have hce:cap=es.length:=hown
  by_cases hlt:cap<es.length+xs.length
  ·exact grow hlt H.next (H.next+1) _ (by omega) (by have:=hI.n;omega) (Nat.le_refl _) (fun j hj=>look_alloc_old hj) look_alloc_new (fun h=>by have:=hI.n;omega)
  ·have h0:xs=[]:=by
    cases xs with
    |nil=>rfl
    |cons a b=>simp at hlt;omega
   subst h0
   let G':=G.app H.next (H.next+1) es.length base cap G.own
   have hnn:=hI.n
   have hx:Ext G w G' w:=⟨rfl,rfl,rfl,Nat.le_refl _,rfl,fun _ _=>rfl,by simp[G',Ghost.app];omega,fun _ _=>rfl,fun _ _=>rfl,fun _ _ h=>⟨h,fun _ h=>h⟩,
    fun i hi m b c hm=>⟨m,b,c,by simp only[G',Ghost.app];rw[if_neg (by omega)];exact hm,Nat.le_refl _,fun _=>⟨rfl,rfl⟩⟩,rfl⟩
   refine⟨_,_,G',yields _ _ (stay (by omega) rfl),?_,hx,?_⟩
   ·rw[List.append_nil]
    have hS':=hS.mono hx
    rw[hv]at hS'
    have own2:OwnR G' (.tok H.next) base es.length cap:=⟨by simp[G',Ghost.app],es.length,base,cap,by simp[G',Ghost.app],Nat.le_refl _,fun _=>⟨rfl,rfl⟩⟩
    cases hS' with
    |sl a1 a2 a3 a4 a5=>exact .sl a1 a2 a3 a4 own2
    |sln a1=>exact .sln own2
   ·refine Inv.step (fun i=>i=H.next) hI hx (W:=fun _ _=>False) (V:=fun _=>False) ⟨fun k vs el fz h=>⟨vs,h,rfl,fun _ _=>rfl⟩,fun _ _ h _ _=>h⟩ (Nat.le_refl _) hI.free hI.old
     (fun i x hi h=>by rw[look_alloc_old hi]at h;exact h) (fun _ _ _ _ _ h=>h) (fun _ _ _ h=>h) (fun _ _ _ _=>⟨fun h=>h,fun h=>h⟩) (fun i hi _=>by simp only[G',Ghost.app];rw[if_neg (by omega)]) ?_ ?_
    ·intro m es' hmn hm
     rw[look_alloc_old (by omega)]at hm
     exact⟨es',hm,Nat.le_refl _,fun _ ents' clock' hh=>⟨ents',clock',hh,rfl,fun _=>rfl⟩⟩
    ·intro i x hi h
     subst hi
     rw[look_alloc_new]at h
     simp at h;subst h
     exact⟨by simp[G',Ghost.app],base,cap,by simp[G',Ghost.app],by omega,fun h=>by omega⟩
end
end Go.Abs
