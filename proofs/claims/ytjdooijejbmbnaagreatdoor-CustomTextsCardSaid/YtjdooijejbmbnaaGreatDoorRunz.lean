/- Part of the proof that for every row of clauses, every atom and every source the law CustomTexts returns true. Conditions: none. -/
import Derived.Test.YtjdooijejbmbnaaGreatDoorRunParse
import Derived.Test.YtjdooijejbmbnaaGreatDoorRunPrint
import Derived.Test.YtjdooijejbmbnaaGreatDoorRunGiven
import Derived.Test.YtjdooijejbmbnaaGreatDoorRunLost
import Derived.Test.YtjdooijejbmbnaaGreatDoorRunBound
import Derived.Test.YtjdooijejbmbnaaGreatDoorRunNear
import Derived.Test.YtjdooijejbmbnaaGreatDoorRunRel
import Derived.Test.YtjdooijejbmbnaaGreatDoorRunStr
import Derived.Test.YtjdooijejbmbnaaGreatDoorRunOpen
import Derived.Test.YtjdooijejbmbnaaGreatDoorRunCyc
import Derived.Test.YtjdooijejbmbnaaGreatDoorPartT
import Derived.KernelRfl
set_option linter.unusedVariables false
set_option linter.unusedSimpArgs false
set_option linter.unusedSectionVars false
namespace Go.Abs.Tz
open Go Go.Abs Go.Proofs
noncomputable def tabS:List (FuncId×List LV×LV):=[(6,aParse,vParse),(14,aPrint,vPrint),(18,aGiven,vGiven),(17,aLost,vLost),(17,aBound,vBound),(17,aNear,vNear),(20,aRel,vRel),(21,aStr,vStr),(6,aOpen,vOpen),(6,aCyc,vCyc)]
def allS:List (FuncId×List LV×LV)->Prop
 |[]=>True
 |(f,a,v)::r=>HomeT f a v/\allS r
theorem tabS_ok:allS tabS:=⟨home_of rParse (by kernel_rfl) (by kernel_rfl),home_of rPrint (by kernel_rfl) (by kernel_rfl),home_of rGiven (by kernel_rfl) (by kernel_rfl),home_of rLost (by kernel_rfl) (by kernel_rfl),home_of rBound (by kernel_rfl) (by kernel_rfl),home_of rNear (by kernel_rfl) (by kernel_rfl),home_of rRel (by kernel_rfl) (by kernel_rfl),home_of rStr (by kernel_rfl) (by kernel_rfl),home_of rOpen (by kernel_rfl) (by kernel_rfl),home_of rCyc (by kernel_rfl) (by kernel_rfl),trivial⟩
def findS(f:FuncId)(args:List LV):List (FuncId×List LV×LV)->Option LV
 |[]=>none
 |(g,a,v)::r=>match Nat.beq g f with
  |true=>match eqLVs a args with
   |true=>some v
   |false=>findS f args r
  |false=>findS f args r
theorem findS_ok{f:FuncId}{args:List LV}{v:LV}:∀{l:List (FuncId×List LV×LV)},allS l->findS f args l=some v->HomeT f args v
 |[],_,h=>by cases h
 |(g,a,u)::r,hl,h=>by
  unfold findS at h
  split at h
  ·rename_i h1
   split at h
   ·rename_i h2
    cases h
    rw[<-Nat.eq_of_beq_eq_true h1,<-eqLVs_spec h2]
    exact hl.1
   ·exact findS_ok hl.2 h
  ·exact findS_ok hl.2 h
noncomputable def primS(f:FuncId):PrimF:=fun args H kv _=>match H with
 |⟨[],m⟩=>isOk (findS f (stripL args) tabS) fun v=>kv v ⟨[],m⟩
 |_=>false
theorem primS_ok{f:FuncId}{args:List LV}{H:LHeap}{kv kp:HK}(hH:H.Ok)(h:primS f args H kv kp=true):Out E0 F0 (.call f args H) (CS kv kp):=by
 unfold primS at h
 split at h
 ·rename_i m
  obtain⟨v,h1,h2⟩:=isOk_spec h
  have hT:=findS_ok tabS_ok h1
  refine .weakArgs (args':=stripL args) (by rw[stripL_length]) (fun k=>?_) ⟨Nat.le_refl _,fun _ _ h=>h⟩ (.prim (hT m _ (.inl ⟨v,_,rfl,trivial,h2⟩)))
  simp only[frOf,List.getD_eq_getElem?_getD,stripL_get]
  cases args[k]? with
  |none=>exact .inl rfl
  |some v=>exact .inr (.inl rfl)
 ·cases h
noncomputable def prim6(f:FuncId):Option PrimF:=match f with
 |14=>some (primS 14)
 |17=>some (primS 17)
 |18=>some (primS 18)
 |20=>some (primS 20)
 |6=>some fun args H kv kp=>or (primS 6 args H kv kp) (callE C6 1000000 6 args H kv kp)
 |21=>some fun args H kv kp=>or (primS 21 args H kv kp) (callE C6 1000000 21 args H kv kp)
 |f=>prim5 f
noncomputable def C7:Cfg:=⟨E0,lookT tabL,prim6,C3.rng⟩
theorem primOr{f:FuncId}{args:List LV}{H:LHeap}{kv kp:HK}(hH:H.Ok)(h:or (primS f args H kv kp) (callE C6 1000000 f args H kv kp)=true):Out E0 F0 (.call f args H) (CS kv kp):=by
 cases hp:primS f args H kv kp with
 |true=>exact primS_ok hH hp
 |false=>
  rw[hp]at h
  exact callE_ok C6_ok hH h
theorem C7_ok:CfgOk C7 F0:=⟨C3_ok.tab,fun f p h args H kv kp hH hp=>by
 simp only[C7,prim6]at h
 split at h
 ·cases h;exact primS_ok hH hp
 ·cases h;exact primS_ok hH hp
 ·cases h;exact primS_ok hH hp
 ·cases h;exact primS_ok hH hp
 ·cases h;exact primOr hH hp
 ·cases h;exact primOr hH hp
 ·exact C6_ok.prim _ _ h _ _ _ _ hH hp,C3_ok.rng⟩
theorem rSan:callE C7 1000000 5 [] ⟨[],1⟩ (fun v _=>asBool v fun b=>b) (fun _ _=>false)=true:=by kernel_rfl
theorem t_sanity:PureT 5 [] (.bool true):=sanity_of C7_ok rfl rSan
end Go.Abs.Tz
