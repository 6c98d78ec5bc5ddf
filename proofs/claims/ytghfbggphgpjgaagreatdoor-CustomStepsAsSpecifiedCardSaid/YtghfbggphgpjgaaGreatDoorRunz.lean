/- Part of the proof that the law CustomStepsAsSpecified returns true for every input. Conditions: none. -/
import Derived.Test.YtghfbggphgpjgaaGreatDoorRunParse
import Derived.Test.YtghfbggphgpjgaaGreatDoorRunPrint
import Derived.Test.YtghfbggphgpjgaaGreatDoorRunGiven
import Derived.Test.YtghfbggphgpjgaaGreatDoorRunLost
import Derived.Test.YtghfbggphgpjgaaGreatDoorRunBound
import Derived.Test.YtghfbggphgpjgaaGreatDoorRunNear
import Derived.Test.YtghfbggphgpjgaaGreatDoorRunRel
import Derived.Test.YtghfbggphgpjgaaGreatDoorRunStr
import Derived.Test.YtghfbggphgpjgaaGreatDoorRunOpen
import Derived.Test.YtghfbggphgpjgaaGreatDoorRunCyc
import Derived.Test.YtghfbggphgpjgaaGreatDoorPartT
import Derived.KernelRfl
namespace Go.Abs.Tz
open Go Go.Abs Go.Proofs
noncomputable def tabS:List (FuncId×List LV×LV):=[(20,qsd,qmu),(22,qsc,qmt),(24,qsh,qmy),(23,qsg,qmx),(23,qsi,qmz),(23,qsf,qmw),(26,aRel,vRel),(27,aStr,vStr),(20,qse,qmv),(20,aCyc,vCyc)]
def allS:List (FuncId×List LV×LV)->Prop
 |[]=>True
 |(f,a,v)::r=>qlS f a v/\allS r
theorem qsY:allS tabS:=⟨qcf qve (by kernel_rfl) (by kernel_rfl),qcf qvd (by kernel_rfl) (by kernel_rfl),qcf qvf (by kernel_rfl) (by kernel_rfl),qcf rLost (by kernel_rfl) (by kernel_rfl),qcf qvg (by kernel_rfl) (by kernel_rfl),qcf rNear (by kernel_rfl) (by kernel_rfl),qcf rRel (by kernel_rfl) (by kernel_rfl),qcf rStr (by kernel_rfl) (by kernel_rfl),qcf rOpen (by kernel_rfl) (by kernel_rfl),qcf rCyc (by kernel_rfl) (by kernel_rfl),trivial⟩
def qgt(f:FuncId)(args:List LV):List (FuncId×List LV×LV)->Option LV
 |[]=>none
 |(g,a,v)::r=>match Nat.beq g f with
  |true=>match eqLVs a args with
   |true=>some v
   |false=>qgt f args r
  |false=>qgt f args r
theorem qlh{f:FuncId}{args:List LV}{v:LV}:∀{l:List (FuncId×List LV×LV)},allS l->qgt f args l=some v->qlS f args v
 |[],_,h=>by cases h
 |(g,a,u)::r,hl,h=>by
  unfold qgt at h
  split at h
  ·rename_i h1
   split at h
   ·rename_i h2
    cases h
    rw[<-Nat.eq_of_beq_eq_true h1,<-eqLVs_spec h2]
    exact hl.1
   ·exact qlh hl.2 h
  ·exact qlh hl.2 h
noncomputable def qbZ(f:FuncId):vH:=fun args H kv _=>match H with
 |⟨[],m⟩=>ud (qgt f (stripL args) tabS) fun v=>kv v ⟨[],m⟩
 |_=>false
theorem qfQ{f:FuncId}{args:List LV}{H:qa}{kv kp:HK}(hH:H.Ok)(h:qbZ f args H kv kp=true):Out E0 F0 (.call f args H) (CS kv kp):=by
 unfold qbZ at h
 split at h
 ·rename_i m
  obtain⟨v,h1,h2⟩:=uS h
  have hT:=qlh qsY h1
  refine .weakArgs (args':=stripL args) (by rw[qbS]) (fun k=>?_) ⟨Nat.le_refl _,fun _ _ h=>h⟩ (.prim (hT m _ (.inl ⟨v,_,rfl,trivial,h2⟩)))
  simp only[zz,List.getD_eq_getElem?_getD,qaA]
  cases args[k]? with
  |none=>exact .inl rfl
  |some v=>exact .inr (.inl rfl)
 ·cases h
noncomputable def qor(f:FuncId):Option vH:=match f with
 |22=>some (qbZ 22)
 |23=>some (qbZ 23)
 |24=>some (qbZ 24)
 |26=>some (qbZ 26)
 |20=>some fun args H kv kp=>or (qbZ 20 args H kv kp) (qdY C6 1000000 20 args H kv kp)
 |27=>some fun args H kv kp=>or (qbZ 27 args H kv kp) (qdY C6 1000000 27 args H kv kp)
 |f=>qkg f
noncomputable def C7:Cfg:=⟨E0,qcb qcR,qor,C3.rng⟩
theorem qoq{f:FuncId}{args:List LV}{H:qa}{kv kp:HK}(hH:H.Ok)(h:or (qbZ f args H kv kp) (qdY C6 1000000 f args H kv kp)=true):Out E0 F0 (.call f args H) (CS kv kp):=by
 cases hp:qbZ f args H kv kp with
 |true=>exact qfQ hH hp
 |false=>
  rw[hp]at h
  exact qlz qlV hH h
theorem C7_ok:wP C7 F0:=⟨qbO.tab,fun f p h args H kv kp hH hp=>by
 simp only[C7,qor]at h
 split at h
 ·cases h;exact qfQ hH hp
 ·cases h;exact qfQ hH hp
 ·cases h;exact qfQ hH hp
 ·cases h;exact qfQ hH hp
 ·cases h;exact qoq hH hp
 ·cases h;exact qoq hH hp
 ·exact qlV.prim _ _ h _ _ _ _ hH hp,qbO.rng⟩
theorem rSan:qdY C7 1000000 9 [] ⟨[],1⟩ (fun v _=>asBool v fun b=>b) (fun _ _=>false)=true:=by kernel_rfl
theorem qtl:qh 9 [] (.bool true):=quJ C7_ok rfl rSan
end Go.Abs.Tz
