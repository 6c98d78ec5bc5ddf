/- Part of the proof that the law CustomStepsProve returns true for every input. Conditions: none. -/
import Derived.Test.YtdifmcjgoamanaaGreatDoorPartY
import Derived.Test.YtdifmcjgoamanaaGreatDoorPartV
namespace Go.Abs.Tz
open Go Go.Abs Go.Proofs
structure SameL(l k:List Clause):Prop where
 to:∀c∈l,∃d∈k,SameC c d
 of:∀d∈k,∃c∈l,SameC c d
def SameD(o p:Option (List Stp)):Prop:=match o,p with
 |none,none=>True
 |some F,some G=>F.length<=300/\G.length<=300/\NamesF F/\NamesF G/\(∀a∈atomsF F,atomG a)/\∀a,a∈atomsF F↔a∈atomsF G
 |_,_=>False
section
variable{l k:List Clause}{m q:List (PK×Int)}
end
theorem base_same{base bs:List Atom}(hb:∀a∈base,atomG a)(hs:∀a,a∈bs↔a∈base)(h1:base.length<=300)(h2:bs.length<=300):SameD (some (baseD base)) (some (baseD bs)):=by
 have key:∀{b:List Atom},(∀a∈b,atomG a)->b.length<=300->(baseD b).length<=300/\NamesF (baseD b)/\∀a,a∈atomsF (baseD b)↔a∈b:=fun{b} hb hl=>by
  have hS:∀s∈b.map (fun a=>(⟨a,-1,[]⟩:Stp)),atomOk s.atom=true:=fun s hs=>by
   obtain⟨a,ha,rfl⟩:=List.mem_map.1 hs
   exact(hb a ha).1
  obtain⟨a1,a2⟩:=addFs_has (b.map fun a=>(⟨a,-1,[]⟩:Stp)) [] (fun s hs=>by cases hs) hS .nil
  have hl1:=(addFs_len (b.map fun a=>(⟨a,-1,[]⟩:Stp)) []).2
  refine⟨?_,a1,fun a=>?_⟩
  ·rw[List.length_map,List.length_nil]at hl1
   unfold baseD
   omega
  ·rw[show atomsF (baseD b)=atomsF ((b.map fun a=>(⟨a,-1,[]⟩:Stp)).foldl addF []) from rfl,a2 a]
   simp[atomsF,Function.comp_def]
 obtain⟨p1,p2,p3⟩:=key hb h1
 obtain⟨q1,q2,q3⟩:=key (fun a ha=>hb a ((hs a).1 ha)) h2
 exact⟨p1,q1,p2,q2,fun a ha=>hb a ((p3 a).1 ha),fun a=>by rw[p3,q3,hs]⟩
end Go.Abs.Tz
namespace Go.Abs.Tz
open Go Go.Abs Go.Proofs
theorem bindKA_ofA{K R:Bind}{p a:Atom}(h:bindKA K p a=some R):ofA a=ofA p:=by
 unfold bindKA at h
 split at h
 ·rename_i hc
  simp only[Bool.and_eq_true,decide_eq_true_eq]at hc
  unfold ofA
  rw[<-eqBA_iff.1 hc.1,hc.2]
 ·cases h
theorem Chain.mono2{S T:Atom->Prop}:∀{ps:List Atom}{K R:Bind},(∀p∈ps,∀a,S a->ofA a=ofA p->T a)->Chain S ps K R->Chain T ps K R
 |[],_,_,_,hc=>hc
 |p::ps,_,_,h,⟨a,K',h1,h2,h3⟩=>⟨a,K',h p List.mem_cons_self a h1 (bindKA_ofA h2),h2,Chain.mono2 (fun q hq=>h q (List.mem_cons_of_mem _ hq)) h3⟩
structure RelC(l k:List Clause)(Q:PK->Prop):Prop where
 sub:∀c∈k,c∈l
 all:∀c∈l,Q (ofA c.head)->c∈k
 inQ:∀c∈k,Q (ofA c.head)
 body:∀c∈k,∀x∈c.body,x.kind=1\/x.kind=2->Q (ofA x.atom)
section
variable{l k:List Clause}{Q:PK->Prop}{m q:List (PK×Int)}
structure RelD(Q:PK->Prop)(F G:List Stp):Prop where
 lf:F.length<=300
 lg:G.length<=300
 nf:NamesF F
 ng:NamesF G
 good:∀a∈atomsF F,atomG a
 sub:∀a∈atomsF G,a∈atomsF F
 eq:∀a∈atomsF F,Q (ofA a)->a∈atomsF G
end
end Go.Abs.Tz
namespace Go.Abs.Tz
open Go Go.Abs Go.Proofs
structure StepsOk(l:List Clause)(base:List Atom)(F:List Stp):Prop where
 good:∀a∈atomsF F,atomG a
 names:NamesF F
 len:F.length<=300
 der:∀(i:Nat)(s:Stp),F[i]? = some s->s.atom∈base\/∃c∈l,∃R,Chain (fun a=>∃(j:Nat)(t:Stp),j<i/\F[j]? = some t/\t.atom=a) (posL c.body) [] R/\RestP (·∈atomsF F) R c.body/\s.atom=fillA R c.head
 base:∀a∈base,a∈atomsF F
 closed:∀c∈l,∀h,HeadOf (·∈atomsF F) c h->h∈atomsF F
section
variable{l:List Clause}{m:List (PK×Int)}{base:List Atom}{F:List Stp}
structure StIn(m:List (PK×Int))(base:List Atom)(F:List Stp)(w:Int)(G:List Stp):Prop where
 names:NamesF G
 len:G.length<=300
 sub:∀a∈atomsF G,a∈atomsF F
 low:∀a∈atomsF F,pVal m (ofA a)<w->a∈atomsF G
 base:∀a∈base,a∈atomsF G
theorem level_steps(hm:LevOk l m)(hg:∀c∈l,CGood c)(hF:StepsOk l base F)(v:Int){G:List Stp}(hs:StIn m base F v G):∃G',levelD m v l 302 G=some G'/\StIn m base F (v+1) G':=by
 obtain⟨c1,c2⟩:=level_spec (v:=v) (S0:=(·∈atomsF G)) hm hg 302 (F:=G) (by have:=hs.len;omega) (.base fun a ha=>hF.good a (hs.sub a ha)) hs.names hs.len
 have hT:LowS m v (·∈atomsF G) (·∈atomsF F):=⟨hs.sub,hs.low,hF.good⟩
 have hTc:ClosedS l m v (·∈atomsF F):=fun c hc _=>hF.closed c hc
 cases hG:levelD m v l 302 G with
 |none=>
  rw[hG]at c1
  obtain⟨L,l1,l2,l3⟩:=c1
  have:=nodup_le l1 (b:=atomsF F) fun x hx=>l3.least _ hT hTc x hx
  rw[List.length_map]at this
  have:=hF.len
  omega
 |some G'=>
  rw[hG]at c1
  obtain⟨n1,n2,n3⟩:=c1
  have hcl:=c2 G' hG
  have hsub:∀a∈atomsF G',a∈atomsF F:=n1.least _ hT hTc
  refine⟨G',rfl,n2,n3,hsub,?_,fun a ha=>n1.lo.sup a (hs.base a ha)⟩
  have key:∀(n i:Nat)(s:Stp),i<n->F[i]? = some s->pVal m (ofA s.atom)<v+1->s.atom∈atomsF G':=by
   intro n
   induction n with
   |zero=>intro i s h;omega
   |succ n ih=>
    intro i s hi hfi hv
    by_cases hlt:pVal m (ofA s.atom)<v
    ·exact n1.lo.sup _ (hs.low _ (List.mem_map.2 ⟨s,List.mem_iff_getElem?.2 ⟨i,hfi⟩,rfl⟩) hlt)
    rcases hF.der i s hfi with h|⟨c,hc,R,h1,h2,h3⟩
    ·exact n1.lo.sup _ (hs.base _ h)
    ·have hh:ofA s.atom=ofA c.head:=by rw[h3,ofA_fill]
     have hv2:pVal m (ofA c.head)=v:=by rw[<-hh];omega
     refine hcl c hc hv2 _ ⟨R,Chain.mono2 (fun p hp a ⟨j,t,hj,hjt,hta⟩ hoa=>?_) h1,fun x hx=>⟨fun hk hf=>(h2 x hx).1 hk (hsub _ hf),(h2 x hx).2⟩,h3⟩
     obtain⟨x,hx,hxk,rfl⟩:=posL_mem hp
     have hle:=(hm.lits hc hx).1 hxk
     have:=ih j t (by omega) hjt (by rw[hta,hoa];omega)
     rw[hta]at this
     exact this
  intro a ha hv
  obtain⟨s,hs2,rfl⟩:=List.mem_map.1 ha
  obtain⟨i,hi⟩:=List.mem_iff_getElem?.1 hs2
  exact key (i+1) i s (Nat.lt_succ_self _) hi hv
theorem levels_steps(hm:LevOk l m)(hg:∀c∈l,CGood c)(hF:StepsOk l base F):∀(i w:Nat){G:List Stp},StIn m base F w G->∃G',levelsD m l i w G=some G'/\StIn m base F (w+i:Nat) G'
 |0,w,G,hs=>⟨G,rfl,by simpa using hs⟩
 |i+1,w,G,hs=>by
  obtain⟨G1,g1,g2⟩:=level_steps hm hg hF w hs
  obtain⟨G2,k1,k2⟩:=levels_steps hm hg hF i (w+1) (G:=G1) (by
   have e:((w+1:Nat):Int)=(w:Int)+1:=by omega
   rw[e];exact g2)
  refine⟨G2,?_,?_⟩
  ·unfold levelsD
   rw[g1]
   exact k1
  ·have e:w+(i+1)=w+1+i:=by omega
   rw[e];exact k2
end
theorem steps_model{l:List Clause}{base:List Atom}(hc:(checkB l).1=0)(hb:∀a∈base,atomG a)(hbl:base.length<=100){m:List (PK×Int)}(hm:LevOk l m){F:List Stp}(hF:StepsOk l base F):
  modelE l (some m) base=0/\(modelF l (some m) base).length=F.length/\∀a,a∈atomsF (modelF l (some m) base)↔a∈atomsF F:=by
 have hg:=check_good hc
 obtain⟨b1,b2,b3,b4,b5,b6⟩:=base_same hb (bs:=base) (fun a=>.rfl) (by omega) (by omega)
 have hbase:∀a,a∈atomsF (baseD base)↔a∈base:=by
  have hS:∀s∈base.map (fun a=>(⟨a,-1,[]⟩:Stp)),atomOk s.atom=true:=fun s hs=>by
   obtain⟨a,ha,rfl⟩:=List.mem_map.1 hs
   exact(hb a ha).1
  obtain⟨a1,a2⟩:=addFs_has (base.map fun a=>(⟨a,-1,[]⟩:Stp)) [] (fun s hs=>by cases hs) hS .nil
  intro a
  rw[show atomsF (baseD base)=atomsF ((base.map fun a=>(⟨a,-1,[]⟩:Stp)).foldl addF []) from rfl,a2 a]
  simp[atomsF,Function.comp_def]
 have hmx:=hm.max
 obtain⟨M,k1,k2⟩:=levels_steps hm hg hF ((maxI 0 (m.map (·.2))).toNat+1) 0 (G:=baseD base) ⟨b3,b1,fun a ha=>hF.base a ((hbase a).1 ha),fun a _ hv=>by
  have:=hm.nn (ofA a)
  omega,fun a ha=>(hbase a).2 ha⟩
 have hd:derivedD m l base=some M:=k1
 have eM:modelF l (some m) base=M:=by unfold modelF;simp[hd]
 have hall:∀a∈atomsF F,a∈atomsF M:=fun a ha=>by
  obtain⟨s,hs,rfl⟩:=List.mem_map.1 ha
  obtain⟨i,hi⟩:=List.mem_iff_getElem?.1 hs
  rcases hF.der i s hi with h|⟨c,hcl,R,_,_,h3⟩
  ·exact k2.base _ h
  ·refine k2.low _ ha ?_
   have:=hmx.2.2 _ (hm.has c hcl (ofA c.head) (by simp[predC]))
   rw[h3,ofA_fill]
   omega
 refine⟨?_,?_,fun a=>by rw[eM];exact⟨k2.sub a,hall a⟩⟩
 ·have hbe:basedE l (some m) base=0:=by
   unfold basedE
   rw[if_neg (by omega),if_neg (by simp),if_neg (by omega),List.all_eq_true.2 fun a ha=>baseOk_iff.2 (hb a ha)]
   rfl
  unfold modelE
  rw[hbe]
  simp[hd]
 ·rw[eM]
  have h1:=nodup_le k2.names.nodup k2.sub
  have h2:=nodup_le hF.names.nodup hall
  rw[List.length_map,List.length_map]at h1 h2
  omega
end Go.Abs.Tz
namespace Go.Abs.Tz
open Go Go.Abs Go.Proofs
section
variable{l:List Clause}{m:List (PK×Int)}{base:List Atom}{v:Int}
end
end Go.Abs.Tz
namespace Go.Abs.Tz
open Go Go.Abs Go.Proofs
def chainB(F:List Stp)(i:Nat):List Lit->Bind->List Int->Option Bind
 |[],K,js=>if js=[] then some K else none
 |x::r,K,js=>if x.kind=1 then match js with
   |[]=>none
   |j::js=>if 0<=j/\j<i then match F[j.toNat]? with
     |none=>none
     |some t=>match bindKA K x.atom t.atom with
      |none=>none
      |some R=>chainB F i r R js
    else none
  else chainB F i r K js
def endB(F:List Stp)(c:Clause)(s:Stp):Option Bind->Bool
 |none=>false
 |some R=>decide (cmpA (fillA R c.head) s.atom=0)&&restOk F R c.body
def derB(l:List Clause)(F:List Stp)(i:Nat)(s:Stp):Bool:=if 0<=s.cl/\s.cl<l.length then match l[s.cl.toNat]? with
  |none=>false
  |some c=>endB F c s (chainB F i c.body [] s.frm)
 else false
def dersB(l:List Clause)(base:List Atom)(F:List Stp):Nat->List Stp->Bool
 |_,[]=>true
 |i,s::r=>((decide (s.cl=-1)&&(decide (s.frm=[])&&hasF (atomX s.atom) (baseD base)))||derB l F i s)&&dersB l base F (i+1) r
def formB:List Stp->List Stp->Bool
 |_,[]=>true
 |D,s::r=>baseOk s.atom&&(!hasF (atomX s.atom) D&&formB (D++[s]) r)
def closB(F:List Stp)(c:Clause)(b:Bool):Bool:=foldI (fun b a _=>b&&hasF (atomX a) F) c (insts F c (posL c.body) [] []) b
def stepsB(l:List Clause)(base:List Atom)(F:List Stp):Bool:=
 formB [] F&&(dersB l base F 0 F&&((baseD base).all (fun s=>hasF (atomX s.atom) F)&&l.foldl (fun b c=>closB F c b) true))
theorem chainB_chain{F:List Stp}{i:Nat}:∀{b:List Lit}{K:Bind}{js:List Int}{R:Bind},chainB F i b K js=some R->Chain (fun a=>∃(j:Nat)(t:Stp),j<i/\F[j]? = some t/\t.atom=a) (posL b) K R
 |[],K,js,R,h=>by
  unfold chainB at h
  split at h
  ·cases h;rfl
  ·cases h
 |x::r,K,js,R,h=>by
  unfold chainB at h
  rw[posL_cons]
  by_cases hk:x.kind=1
  ·rw[if_pos hk]at h ⊢
   cases js with
   |nil=>cases h
   |cons j js=>
    simp only at h
    split at h
    case isFalse=>cases h
    case isTrue hj=>
     cases ht:F[j.toNat]? with
     |none=>rw[ht]at h;cases h
     |some t=>
      rw[ht]at h
      simp only at h
      cases hb:bindKA K x.atom t.atom with
      |none=>rw[hb]at h;cases h
      |some Q=>
       rw[hb]at h
       exact⟨t.atom,Q,⟨j.toNat,t,by omega,ht,rfl⟩,hb,chainB_chain h⟩
  ·rw[if_neg hk]at h ⊢
   exact chainB_chain h
theorem setF_eq(F:List Stp):SetF F=fun a=>a∈atomsF F:=funext fun a=>propext ⟨fun⟨s,hs,e⟩=>List.mem_map.2 ⟨s,hs,e⟩,fun h=>by
 obtain⟨s,hs,e⟩:=List.mem_map.1 h
 exact⟨s,hs,e⟩⟩
theorem derB_law{l:List Clause}(hg:∀c∈l,CGood c){F:List Stp}(hF:∀s∈F,atomG s.atom){i:Nat}{s:Stp}(h:derB l F i s=true):
  ∃c∈l,∃R,Chain (fun a=>∃(j:Nat)(t:Stp),j<i/\F[j]? = some t/\t.atom=a) (posL c.body) [] R/\RestP (·∈atomsF F) R c.body/\s.atom=fillA R c.head:=by
 unfold derB at h
 split at h
 case isFalse=>cases h
 cases hc:l[s.cl.toNat]? with
 |none=>rw[hc]at h;cases h
 |some c=>
  rw[hc]at h
  simp only at h
  cases hR:chainB F i c.body [] s.frm with
  |none=>rw[hR]at h;exact absurd h (by simp[endB])
  |some R=>
   rw[hR]at h
   unfold endB at h
   simp only[Bool.and_eq_true,decide_eq_true_iff]at h
   have hcl:c∈l:=List.mem_iff_getElem?.2 ⟨_,hc⟩
   have hch:=chainB_chain hR
   have hS:∀a,(∃(j:Nat)(t:Stp),j<i/\F[j]? = some t/\t.atom=a)->atomG a:=fun a ⟨j,t,_,h2,h3⟩=>h3▸hF t (List.mem_iff_getElem?.2 ⟨_,h2⟩)
   obtain⟨g1,_,g3,_⟩:=chain_good hS .nil hch
   obtain⟨k1,k2⟩:=(hg c hcl).leaf g1 g3
   refine⟨c,hcl,R,hch,?_,(cmpA_L.zero.1 h.1).symm⟩
   have:=(restOk_iff (fun s hs=>(hF s hs).1) fun x hx hk=>(k1 x hx hk).1).1 h.2
   rw[setF_eq]at this
   exact this
theorem formB_law:∀{D F:List Stp},formB D F=true->(∀s∈F,atomG s.atom)/\(NamesF D->NamesF (D++F))
 |D,[],_=>⟨fun s hs=>(by cases hs),fun h=>by simpa using h⟩
 |D,s::r,h=>by
  unfold formB at h
  simp only[Bool.and_eq_true,Bool.not_eq_true']at h
  obtain⟨h1,h2,h3⟩:=h
  obtain⟨g1,g2⟩:=formB_law h3
  refine⟨fun q hq=>?_,fun hD=>?_⟩
  ·rcases List.mem_cons.1 hq with rfl|hq
   ·exact baseOk_iff.1 h1
   ·exact g1 q hq
  ·have:=g2 (by
    unfold NamesF at hD ⊢
    rw[List.map_append,List.nodup_append]
    refine⟨hD,by simp,fun a ha b hb=>?_⟩
    simp only[List.map_cons,List.map_nil,List.mem_singleton]at hb
    subst hb
    rintro rfl
    obtain⟨q,hq,e⟩:=List.mem_map.1 ha
    have:hasF (atomX s.atom) D=true:=hasF_iff.2 ⟨q,hq,e⟩
    rw[h2]at this
    cases this)
   rwa [List.append_assoc]at this
theorem dersB_law{l:List Clause}{base:List Atom}{F:List Stp}:∀{r:List Stp}{i:Nat},dersB l base F i r=true->∀(k:Nat)(s:Stp),r[k]? = some s->(s.cl=-1/\s.frm=[]/\hasF (atomX s.atom) (baseD base)=true)\/derB l F (i+k) s=true
 |[],_,_,k,s,hs=>by simp at hs
 |q::r,i,h,k,s,hs=>by
  unfold dersB at h
  simp only[Bool.and_eq_true,Bool.or_eq_true,decide_eq_true_iff]at h
  obtain⟨h1,h2⟩:=h
  cases k with
  |zero=>
   simp only[List.getElem?_cons_zero,Option.some.injEq]at hs
   subst hs
   exact h1
  |succ k=>
   have:=dersB_law h2 k s (by simpa using hs)
   rwa [show i+1+k=i+(k+1) by omega]at this
theorem closB_and{F:List Stp}{c:Clause}:∀(L:List (Bind×List Int))(b:Bool),foldI (fun b a _=>b&&hasF (atomX a) F) c L b=true↔b=true/\∀x∈L,hasF (atomX (fillA x.1 c.head)) F=true
 |[],b=>by simp[foldI]
 |x::L,b=>by
  have ih:=closB_and (F:=F) (c:=c) L (b&&hasF (atomX (fillA x.1 c.head)) F)
  rw[show foldI (fun b a _=>b&&hasF (atomX a) F) c (x::L) b=foldI (fun b a _=>b&&hasF (atomX a) F) c L (b&&hasF (atomX (fillA x.1 c.head)) F) from rfl,ih,Bool.and_eq_true,List.forall_mem_cons,and_assoc]
theorem clos_all{F:List Stp}:∀(l:List Clause)(b:Bool),l.foldl (fun b c=>closB F c b) b=true↔b=true/\∀c∈l,∀x∈insts F c (posL c.body) [] [],hasF (atomX (fillA x.1 c.head)) F=true
 |[],b=>by simp
 |c::l,b=>by
  rw[List.foldl_cons,clos_all l,show closB F c b=foldI (fun b a _=>b&&hasF (atomX a) F) c (insts F c (posL c.body) [] []) b from rfl,closB_and,List.forall_mem_cons,and_assoc]
theorem stepsOk_of{l:List Clause}(hg:∀c∈l,CGood c){base:List Atom}(hb:∀a∈base,atomG a){F:List Stp}(hl:F.length<=300)(h:stepsB l base F=true):StepsOk l base F:=by
 unfold stepsB at h
 simp only[Bool.and_eq_true,List.all_eq_true]at h
 obtain⟨h1,h2,h3,h4⟩:=h
 obtain⟨g1,g2⟩:=formB_law h1
 have hok:∀s∈F,atomOk s.atom=true:=fun s hs=>(g1 s hs).1
 have hgood:∀a∈atomsF F,atomG a:=fun a ha=>by
  obtain⟨s,hs,rfl⟩:=List.mem_map.1 ha
  exact g1 s hs
 obtain⟨a1,a2⟩:=addFs_has (base.map fun a=>(⟨a,-1,[]⟩:Stp)) [] (fun s hs=>by cases hs) (fun s hs=>by
  obtain⟨a,ha,rfl⟩:=List.mem_map.1 hs
  exact(hb a ha).1) .nil
 have hbase:∀a,a∈atomsF (baseD base)↔a∈base:=by
  intro a
  rw[show atomsF (baseD base)=atomsF ((base.map fun a=>(⟨a,-1,[]⟩:Stp)).foldl addF []) from rfl,a2 a]
  simp[atomsF,Function.comp_def]
 have hbok:∀s∈baseD base,atomOk s.atom=true:=fun s hs=>(hb _ ((hbase _).1 (List.mem_map.2 ⟨s,hs,rfl⟩))).1
 refine⟨hgood,g2 .nil,hl,fun i s hs=>?_,fun a ha=>?_,fun c hc h hh=>?_⟩
 ·have hsF:s∈F:=List.mem_iff_getElem?.2 ⟨i,hs⟩
  rcases dersB_law h2 i s hs with⟨_,_,k⟩|k
  ·left
   rw[hasF_set hbok (hok s hsF),setF_eq]at k
   exact(hbase _).1 k
  ·right
   rw[Nat.zero_add]at k
   exact derB_law hg g1 k
 ·obtain⟨s,hs,rfl⟩:=List.mem_map.1 ((hbase a).2 ha)
  have:=h3 s hs
  rw[hasF_set hok (hbok s hs),setF_eq]at this
  exact this
 ·obtain⟨R,r1,r2,r3⟩:=hh
  obtain⟨k1,_,k3,_⟩:=chain_good hgood .nil r1
  obtain⟨l1,l2⟩:=(hg c hc).leaf k1 k3
  rw[<-setF_eq]at r1 r2
  obtain⟨js,hjs⟩:=of_chain r1
  have hr:=(restOk_iff hok fun x hx hk=>(l1 x hx hk).1).2 r2
  have hm:(R,([]:List Int)++js)∈insts F c (posL c.body) [] []:=mem_insts.2 ⟨js,hjs,hr,rfl⟩
  have:=((clos_all l true).1 h4).2 c hc _ hm
  rw[hasF_set hok l2.1,setF_eq]at this
  rw[r3]
  exact this
end Go.Abs.Tz
namespace Go.Abs.Tz
open Go Go.Abs Go.Proofs
set_option maxRecDepth 20000
set_option linter.unusedSimpArgs false
attribute [local simp ↓] getP_nil getP_node setP_nil setP_node oneP_eq vP_map vP_some vP_none vP_bind eP_some bP_true bP_false gP_yes gP_tf gP_ft gP_tup runP_skip runP_ops runP_drw runP_seq runP_cond runP_blk runP_loop runP_exit runP_ret seqK_n seqK_r seqK_e seqK_p blkK_n blkK_r blkK_e blkK_p loopK_n loopK_r loopK_e loopK_p finK_n finK_r finK_p resP_one resP_two resP_three resP_nil resP_c nxP_nil argsP_nil argsP_cons evP_t evP_c evP_g evsP_nil evsP_cons clP_fn pnP_i opsP_nil opsP_d opsP_x opsP_gt opsP_gf opP_cf opP_cl opP_pn opP_nx valP_mv valP_pk valP_eq valP_bn valP_nt valP_ld valP_fa valP_fd valP_ia valP_ix valP_ln valP_srn valP_srl valP_srh valP_srb valP_cv valP_mi valP_mf valP_xt valP_bs valP_bd valP_nc valP_mn valP_lk valP_ta opP_mv opP_pk opP_eq opP_bn opP_nt opP_ld opP_fa opP_fd opP_ia opP_ix opP_ln opP_sr opP_cv opP_mi opP_mf opP_xt opP_bs opP_bd opP_nc opP_mn opP_lk opP_ta opP_al opP_bx opP_st opP_ap opP_mk opP_nb opP_mu opP_rg opP_en pendP_nil pendP_d pendP_g drwP_nil drwP_d drwP_x drwP_gt drwP_gf look_self natOf_nat
attribute [local simp] faL fdL iaL ixL loadL partL lenL eqK eqL natOf eqB_s eqB_i eqB_b bn_add bn_sub bn_lss bn_leq bn_gtr bn_geq bn_adds bn_lsss bn_gtrs bn_leqs bn_geqs sliceL LV.cells LV.whole look_self put_self putO_self put_eq stL fillL termC dopP LHeap.alloc oneI oneS oneB nth0 nth1 nth2 nth3 nth4 nth5 nth6 nth7 nth8 nth9 look_ne putO_ne
def KnownAt(ob:List (Nat×LObj))(ko:Nat)(K:Bind):Prop:=look ko ob=some (.um (encE K))\/(K=[]/\look ko ob=some (.map []))
theorem cP_known{f:FuncId}{args:List LV}{ob:List (Nat×LObj)}{n ko:Nat}{K:Bind}{kv kp:HP}(hk:KnownAt ob ko K)
  (h:∀ob2,look ko ob2=some (.um (encE K))->(∀i,i≠ko->look i ob2=look i ob)->(NoIt ob->NoIt ob2)->cP E0 F0 f args ⟨ob2,n⟩ kv kp):cP E0 F0 f args ⟨ob,n⟩ kv kp:=by
 rcases hk with hk|⟨rfl,hk⟩
 ·exact h ob hk (fun _ _=>rfl) id
 ·refine cP_um (o:=ko) (es:=[]) hk ?_
  exact h (putO ko (.um []) ob) (look_putO hk) (fun i hi=>look_putO_ne hi) fun hni=>hni.put _ rfl
structure DvAt(n:Nat)(ob:List (Nat×LObj))(s:Stp)(c:Clause)(tc fo am:Nat)(F:List Stp)(own:Own)(ob1:List (Nat×LObj)):Prop where
 ls:look n ob1=some (.cells (stepC s))
 lc:look tc ob1=some (.cells (clauseC c))
 ft:FactsAt ob1 fo am F own
 ni:NoIt ob1
 old:∀i,i<n->look i ob1=look i ob
section
variable{n:Nat}{ob:List (Nat×LObj)}{s:Stp}{c:Clause}{tc fo am:Nat}{F:List Stp}{own:Own}{ob1 ob2:List (Nat×LObj)}
theorem DvAt.keep(h:DvAt n ob s c tc fo am F own ob1)(hlow:∀i,(i=fo\/i=am\/own=.tok i)->i<n){ko:Nat}(hko:n<ko/\tc≠ko)(hni:NoIt ob2)(hs:∀i,i≠ko->look i ob2=look i ob1):DvAt n ob s c tc fo am F own ob2:=
 ⟨by rw[hs _ (by omega)];exact h.ls,by rw[hs _ hko.2];exact h.lc,h.ft.keep fun i hi=>hs i (by have:=hlow i hi;omega),hni,fun i hi=>by rw[hs i (by omega)];exact h.old i hi⟩
theorem DvAt.cons(h:DvAt n ob s c tc fo am F own ob1)(hlow:∀i,(i=fo\/i=am\/own=.tok i)->i<n){m:Nat}{x:LObj}(hm:n<m/\tc<m)(hx:isIt x=false):DvAt n ob s c tc fo am F own ((m,x)::ob1):=
 h.keep hlow (ko:=m) ⟨hm.1,by omega⟩ (h.ni.cons _ hx) fun i hi=>look_ne hi _ _
end
structure NNDv where
 j:Nat
 k:Nat
 n:Nat
 ko:Nat
 K:Bind
 ob:List (Nat×LObj)
theorem t_derives(l:List Clause)(hl:l.length<=2^20)(hg:∀c∈l,CGood c)(F:List Stp)(hF:F.length<=2^20)(hFg:∀s∈F,atomG s.atom)(hfr:∀s∈F,s.frm.length<=2^20)(fo am:Nat)(own:Own)(i:Nat)(hi:i<F.length)
  (ob:List (Nat×LObj)) (n:Nat) (hA:FactsAt ob fo am F own) (hni:NoIt ob) {kv kp:HP} (hk:∀n',n<=n'->kv (.bool (derB l F i F[i])) ⟨ob,n'⟩):
  cP E0 F0 39 [.ptr fo 0,clausesL l,.int i] ⟨ob,n⟩ kv kp:=by
 refine cP_of_fn c39 fun hH=>⟨Nat.le_of_ble_eq_true rfl,?_⟩
 have hlow:=hA.low hH
 have fin:∀(m:Nat)(ob1:List (Nat×LObj))(v:LV),(∀i,i<n->look i ob1=look i ob)->n<=m->kv v ⟨ob,m⟩->∃H'',HWk ⟨ob1,m⟩ H''/\(LHeap.Ok ⟨ob1,m⟩->H''.Ok)/\kv v H'':=fun m ob1 v ho hm hv=>⟨⟨ob,m⟩,hwk_old hH ho (Nat.le_refl _),fun _=>Desc.mono hH hm,hv⟩
 obtain⟨⟨a,cl,frm⟩,hs⟩:∃s,F[i]=s:=⟨_,rfl⟩
 have hsF:(⟨a,cl,frm⟩:Stp)∈F:=hs▸List.getElem_mem hi
 have hsg:atomG a:=hFg _ hsF
 have hsf:frm.length<=2^20:=hfr _ hsF
 obtain⟨V,hV⟩:∃V,derB l F i ⟨a,cl,frm⟩=V:=⟨_,rfl⟩
 rw[hs,hV]at hk
 unfold derB at hV
 simp only at hV
 have hw0:IntKind.wrap .i64 ((l.length:Int) - 1)=(l.length:Int) - 1:=wrap_id (by omega) (by omega)
 have hw1:IntKind.wrap .i64 ((i:Int) - 1)=(i:Int) - 1:=wrap_id (by omega) (by omega)
 have hs0:∀x:LObj,look fo ((n,x)::ob)=look fo ob:=fun x=>look_ne (by have:=hlow fo (.inl rfl);omega) _ _
 simp(disch:=omega)[b39,hA.pair,hi,hs,hw0]
 refine(t_within cl 0 _).go fun n1 hn1=>?_
 have e1:(decide ((0:Int)<=cl)&&decide (cl<=(l.length:Int) - 1))=decide (0<=cl/\cl<(l.length:Int)):=by
  rw[Bool.decide_and]
  congr 1
  exact decide_eq_decide.2 (by omega)
 rw[e1]
 by_cases hcl:0<=cl/\cl<(l.length:Int)
 case neg=>
  rw[if_neg hcl]at hV
  rw[decide_eq_false hcl]
  simp(disch:=omega)
  rw[<-hV]at hk
  exact fin _ _ _ (fun i hi=>look_ne (by omega) _ _) (by omega) (hk n1 (by omega))
 rw[if_pos hcl]at hV
 rw[decide_eq_true hcl]
 obtain⟨q,rfl⟩:∃q:Nat,cl=(q:Int):=⟨cl.toNat,by omega⟩
 have hql:q<l.length:=by omega
 rw[show ((q:Int)).toNat=q from rfl,List.getElem?_eq_getElem hql]at hV
 simp only at hV
 obtain⟨c,hc⟩:∃c,l[q]=c:=⟨_,rfl⟩
 have hcm:c∈l:=hc▸List.getElem_mem hql
 rw[hc]at hV
 have hcg:=hg c hcm
 obtain⟨cp1,cp2,cp3⟩:=clause_parts hcg.ok
 simp(disch:=omega)[hql,hc]
 have hD0:DvAt n ob ⟨a,q,frm⟩ c n1 fo am F own ((n1+1,.map [])::(n1,.cells (clauseC c))::(n,.cells (stepC ⟨a,q,frm⟩))::ob):=by
  refine⟨by rw[look_ne (by omega),look_ne (by omega)];exact look_self _ _ _,by rw[look_ne (by omega)];exact look_self _ _ _,hA.keep fun i hi=>?_,((hni.cons _ rfl).cons _ rfl).cons _ rfl,fun i hi=>?_⟩
  ·have:=hlow i hi
   rw[look_ne (by omega),look_ne (by omega),look_ne (by omega)]
  ·rw[look_ne (by omega),look_ne (by omega),look_ne (by omega)]
 refine lP_enter (σ:=NNDv) (fun w=>(.nd (.ptr fo 0) (.nd (clausesL l) (.nd .bot (.nd (.ptr n 0) .nil (.nd .bot (.nd (.int c.body.length) .nil .nil) .nil)) .nil) (.nd .bot (.nd (.map w.ko) .nil .nil) .nil)) (.nd (.int i) (.nd .bot (.nd (.ptr n1 0) .nil (.nd .bot (.nd (.int w.j) .nil .nil) .nil)) .nil) (.nd .bot (.nd (.int w.k) .nil .nil) (.nd .bot (.nd .bot (.nd (bodyL c.body) .nil .nil) .nil) .nil))))) (fun w=>⟨w.ob,w.n⟩) (fun w=>c.body.length - w.j)
  (fun w=>DvAt n ob ⟨a,q,frm⟩ c n1 fo am F own w.ob/\KnownAt w.ob w.ko w.K/\n1<w.ko/\w.ko<w.n/\w.j<=c.body.length/\w.k<=w.j/\w.k<=frm.length/\GoodB w.K/\(∀p∈posL (c.body.take w.j),BoundIn w.K p.args)/\endB F c ⟨a,q,frm⟩ (chainB F i (c.body.drop w.j) w.K (frm.drop w.k))=V)
  ⟨0,0,n1+1+1,n1+1,[],(n1+1,.map [])::(n1,.cells (clauseC c))::(n,.cells (stepC ⟨a,q,frm⟩))::ob⟩ ⟨hD0,.inr ⟨rfl,look_self _ _ _⟩,Nat.lt_succ_self _,Nat.lt_succ_self _,Nat.zero_le _,Nat.le_refl _,Nat.zero_le _,.nil,fun p hp=>by simp[posL]at hp,hV⟩ (by simp[FT.Le,Wk]) ⟨HWk.refl _,fun h=>h⟩ ?_
 rintro⟨j,k,m,ko,K,ob1⟩ ⟨hD,hkn,hko1,hko2,hj,hkj,hkl,hK,hbd,hend⟩ hok
 dsimp only at hD hkn hko1 hko2 hj hkj hkl hK hbd hend hok
 by_cases hlt:j<c.body.length
 case neg=>
  obtain rfl:j=c.body.length:=by omega
  rw[List.take_length]at hbd
  rw[List.drop_length]at hend
  unfold chainB at hend
  obtain⟨g1,g2⟩:=hcg.leaf hK hbd
  have hh:c.head.args.length<=2^20:=by have:=(atom_args cp1).1;omega
  by_cases hke:k=frm.length
  case neg=>
   rw[if_neg (by intro h;have:=congrArg List.length h;simp at this;omega)]at hend
   have hV0:V=false:=hend.symm
   have hke2:¬(k:Int)=(frm.length:Int):=by omega
   simp(disch:=omega)[hD.ls,hke,hke2]
   exact fin _ _ _ hD.old (by omega) (hV0▸hk m (by omega))
  subst hke
  rw[if_pos (by simp)]at hend
  unfold endB at hend
  simp(disch:=omega)[hD.ls,hD.lc]
  refine cP_known hkn fun ob2 hk2 hs2 hni2=>?_
  have hD2:=hD.keep hlow ⟨by omega,by omega⟩ (hni2 hD.ni) hs2
  refine t_filledM c.head hh K hK.nd ko ⟨ob2,m⟩ hk2 fun n3 hn3=>?_
  dsimp only at hn3
  simp(disch:=omega)[hD2.ls]
  refine(t_Compare (fillA K c.head) a (atomOk_ok g2.1) (atomOk_ok hsg.1)).go fun n4 hn4=>?_
  simp only at hend
  by_cases hz:cmpA (fillA K c.head) a=0
  case neg=>
   rw[decide_eq_false hz,Bool.false_and]at hend
   simp(disch:=omega)[hz]
   exact fin _ _ _ hD2.old (by omega) (hend▸hk n4 (by omega))
  rw[decide_eq_true hz,Bool.true_and]at hend
  simp(disch:=omega)[hz,hD2.lc]
  have hn4':n<n4:=by omega
  refine lP_enter (σ:=NNRs) (fun q=>(.nd (.ptr fo 0) (.nd .bot .nil (.nd .bot (.nd (.map ko) .nil .nil) (.nd .bot (.nd .bot (.nd .bot .nil (.nd (.int c.body.length) .nil .nil)) .nil) .nil))) (.nd .bot (.nd .bot .nil (.nd .bot (.nd .bot (.nd .bot .nil (.nd (bodyL c.body) .nil .nil)) .nil) .nil)) (.nd .bot .nil (.nd .bot (.nd .bot (.nd .bot .nil (.nd (.int q.i) .nil .nil)) .nil) .nil))))) (fun q=>⟨ob2,q.n⟩) (fun q=>c.body.length - q.i)
   (fun q=>n4<=q.n/\q.i<=c.body.length/\restOk F K (c.body.drop q.i)=V) ⟨0,n4⟩ ⟨Nat.le_refl _,Nat.zero_le _,by simpa using hend⟩ (by simp[FT.Le,Wk]) ⟨HWk.refl _,fun h=>h⟩ ?_
  rintro⟨j,m⟩ ⟨hm,hj,he⟩ hok1
  dsimp only at hm hj he hok1
  by_cases hlt:j<c.body.length
  case neg=>
   rw[List.drop_eq_nil_of_le (by omega)]at he
   have hV1:V=true:=he.symm
   obtain rfl:j=c.body.length:=by omega
   simp(disch:=omega)[hlt]
   exact fin _ _ _ hD2.old (by omega) (hV1▸hk m (by omega))
  rw[List.drop_eq_getElem_cons hlt]at he
  simp only[restOk]at he
  have b3:fo<m:=hok1.look hD2.ft.pair
  have b4:am<m:=hok1.look hD2.ft.map
  have b5:ko<m:=hok1.look hk2
  have hback:∀(m2:Nat)(x:LObj),m+1<=m2->HWk ⟨(m,x)::ob2,m2⟩ ⟨ob2,m2⟩/\(LHeap.Ok ⟨(m,x)::ob2,m2⟩->LHeap.Ok ⟨ob2,m2⟩):=fun m2 x h2=>back (H:=⟨ob2,m⟩) hok1 (HExt.cons hok1 (Nat.le_refl _) (HExt.refl (Nat.le_refl _)) (by dsimp only;omega))
  have hobx:∀(x:LObj)(i:Nat),i<n->look i ((m,x)::ob2)=look i ob:=fun x i hi=>by rw[look_ne (by omega)];exact hD2.old i hi
  have hmem:c.body[j]∈c.body:=List.getElem_mem hlt
  have hargs:c.body[j].atom.args.length<=2^20:=by have:=lit_args (cp3 _ hmem);omega
  by_cases k1:c.body[j].kind=1
  ·rw[if_pos k1]at he
   simp(disch:=omega)[hlt,k1,wrap_nat (show j<2^62 by omega)]
   obtain⟨g1,g2⟩:=hback (m+1) (.cells (litC c.body[j])) (Nat.le_refl _)
   exact⟨⟨j+1,m+1⟩,by dsimp only;omega,⟨by dsimp only;omega,by dsimp only;omega,he⟩,by simp[FT.Le,Wk],by simpa [litC,k1] using g1,by simpa [litC,k1] using g2⟩
  rw[if_neg k1]at he
  by_cases k2:c.body[j].kind=2
  ·rw[if_pos k2]at he
   simp(disch:=omega)[hlt,k1,k2,hD2.ft.pair]
   refine t_filledM c.body[j].atom hargs K hK.nd ko _ (by dsimp only;rw[look_ne (by omega)];exact hk2) fun m2 hm2=>?_
   dsimp only at hm2
   simp(disch:=omega)[hD2.ft.pair]
   refine(t_show _ (g1 _ hmem k2).1).go fun m3 hm3=>?_
   simp(disch:=omega)[hD2.ft.pair]
   rw[lkM (by rw[look_ne (by omega)];exact hD2.ft.map)]
   have hh:hasF (atomX (fillA K c.body[j].atom)) F=(lookM (atomX (fillA K c.body[j].atom)) (idxF F 0)).isSome:=rfl
   cases hl:lookM (atomX (fillA K c.body[j].atom)) (idxF F 0) with
   |some v=>
    rw[hh,hl]at he
    have hV0:V=false:=he.symm
    simp(disch:=omega)
    exact fin _ _ _ (hobx _) (by omega) (hV0▸hk m3 (by omega))
   |none=>
    rw[hh,hl]at he
    simp(disch:=omega)[wrap_nat (show j<2^62 by omega)]
    obtain⟨g1,g2⟩:=hback m3 (.cells (litC c.body[j])) (by omega)
    exact⟨⟨j+1,m3⟩,by dsimp only;omega,⟨by dsimp only;omega,by dsimp only;omega,by simpa using he⟩,by simp[FT.Le,Wk],by simpa [litC,k2] using g1,by simpa [litC,k2] using g2⟩
  rw[if_neg k2]at he
  simp(disch:=omega)[hlt,k1,k2]
  refine t_comparesM c.body[j] K hK.nd ko _ (by dsimp only;rw[look_ne (by omega)];exact hk2) fun m2 hm2=>?_
  dsimp only at hm2
  cases hcm:cmpLit K c.body[j]
  ·rw[hcm]at he
   have hV0:V=false:=he.symm
   simp(disch:=omega)
   exact fin _ _ _ (hobx _) (by omega) (hV0▸hk m2 (by omega))
  ·rw[hcm]at he
   simp(disch:=omega)[wrap_nat (show j<2^62 by omega)]
   obtain⟨g1,g2⟩:=hback m2 (.cells (litC c.body[j])) hm2
   exact⟨⟨j+1,m2⟩,by dsimp only;omega,⟨by dsimp only;omega,by dsimp only;omega,by simpa using he⟩,by simp[FT.Le,Wk],g1,g2⟩
 rw[List.drop_eq_getElem_cons hlt]at hend
 unfold chainB at hend
 have hpt:=posL_take hlt
 have hmem:c.body[j]∈c.body:=List.getElem_mem hlt
 have hnx:IntKind.wrap .i64 ((j:Int)+1)=((j+1:Nat):Int):=wrap_nat (show j<2^62 by omega)
 by_cases k1:c.body[j].kind=1
 case neg=>
  rw[if_neg k1]at hend hpt
  simp(disch:=omega)[hlt,k1,hnx]
  exact⟨⟨j+1,k,m+1,ko,K,ob1⟩,by dsimp only;omega,⟨hD,hkn,hko1,by dsimp only;omega,by dsimp only;omega,by dsimp only;omega,hkl,hK,by dsimp only;rw[hpt,List.append_nil];exact hbd,hend⟩,by simp[FT.Le,Wk],hwk_skip hok (Nat.le_refl _),fun _=>hok.mono (by dsimp only;omega)⟩
 rw[if_pos k1]at hend hpt
 have hnk:IntKind.wrap .i64 ((k:Int)+1)=((k+1:Nat):Int):=wrap_nat (show k<2^62 by omega)
 by_cases hkf:k<frm.length
 case neg=>
  rw[List.drop_eq_nil_of_le (by omega)]at hend
  have hV0:V=false:=hend.symm
  have hkf2:frm.length<=k:=by omega
  simp(disch:=omega)[hlt,k1,hD.ls,hkf,hkf2]
  exact fin _ _ _ (fun i hi=>by rw[look_ne (by omega)];exact hD.old i hi) (by omega) (hV0▸hk (m+1) (by omega))
 rw[List.drop_eq_getElem_cons hkf]at hend
 simp only at hend
 obtain⟨f,hf⟩:∃f,frm[k]=f:=⟨_,rfl⟩
 rw[hf]at hend
 have hkf2:¬frm.length<=k:=by omega
 simp(disch:=omega)[hlt,k1,hD.ls,hkf,hkf2,hf,hw1]
 refine(t_within f 0 _).go fun n2 hn2=>?_
 have e2:(decide ((0:Int)<=f)&&decide (f<=(i:Int) - 1))=decide (0<=f/\f<(i:Int)):=by
  rw[Bool.decide_and]
  congr 1
  exact decide_eq_decide.2 (by omega)
 rw[e2]
 have hob:∀(x:LObj)(i:Nat),i<n->look i ((m,x)::ob1)=look i ob:=fun x i hi=>by rw[look_ne (by omega)];exact hD.old i hi
 by_cases hfi:0<=f/\f<(i:Int)
 case neg=>
  rw[if_neg hfi]at hend
  have hV0:V=false:=hend.symm
  rw[decide_eq_false hfi]
  simp(disch:=omega)
  exact fin _ _ _ (hob _) (by omega) (hV0▸hk n2 (by omega))
 rw[if_pos hfi]at hend
 rw[decide_eq_true hfi]
 obtain⟨p,rfl⟩:∃p:Nat,f=(p:Int):=⟨f.toNat,by omega⟩
 have hpF:p<F.length:=by omega
 rw[show ((p:Int)).toNat=p from rfl,List.getElem?_eq_getElem hpF]at hend
 simp only at hend
 have b3:fo<m:=by have:=hlow fo (.inl rfl);omega
 obtain⟨X,hX⟩:∃X,LObj.cells [LV.int 1,.str c.body[j].atom.pred,argsL c.body[j].atom.args,.int c.body[j].a.kind,.int c.body[j].a.n,.str c.body[j].a.s,.int c.body[j].b.kind,.int c.body[j].b.n,.str c.body[j].b.s]=X:=⟨_,rfl⟩
 simp(disch:=omega)[hD.ls,hkf,hf,hD.ft.pair,hpF]
 rw[hX]
 have hXi:isIt X=false:=by rw[<-hX];rfl
 have hDx:=hD.cons hlow (m:=m) (x:=X) ⟨by omega,by omega⟩ hXi
 have hKx:KnownAt ((m,X)::ob1) ko K:=by
  unfold KnownAt
  rw[look_ne (by omega)]
  exact hkn
 refine cP_known hKx fun ob2 hk2 hs2 hni2=>?_
 have hD2:=hDx.keep hlow ⟨by omega,by omega⟩ (hni2 hDx.ni) hs2
 have hpk:atomOk c.body[j].atom=true:=litOk_atom (cp3 _ hmem) (.inl k1)
 have hpg:=hFg _ (List.getElem_mem hpF)
 refine t_bindM c.body[j].atom F[p].atom (atomOk_ok hpk) (atomOk_ok hpg.1) ⟨ob2,n2⟩ ko K hk2 (fun i m l k n hl=>absurd hl (hD2.ni _ _ _ _ _)) hK.nd (fun hbn=>?_) (fun R hbr=>?_)
 ·rw[hbn]at hend
  have hV0:V=false:=hend.symm
  simp(disch:=omega)
  exact fin _ _ _ hD2.old (by omega) (hV0▸hk n2 (by omega))
 ·rw[hbr]at hend
  obtain⟨s1,s2,s3,s4⟩:=bindKA_spec hK hpg hbr
  simp(disch:=omega)[hnk,hnx]
  exact⟨⟨j+1,k+1,n2+3,n2+2,R,(n2+2,.um (encE R))::ob2⟩,by dsimp only;omega,⟨hD2.cons hlow ⟨by omega,by omega⟩ rfl,.inl (look_self _ _ _),by dsimp only;omega,Nat.lt_succ_self _,by dsimp only;omega,by dsimp only;omega,by dsimp only;omega,s1,fun p hp=>by
   dsimp only at hp
   rw[hpt]at hp
   rcases List.mem_append.1 hp with h|h
   ·exact(hbd p h).ext s2
   ·rw[List.mem_singleton]at h
    subst h
    exact s3,hend⟩,by simp[FT.Le,Wk],HWk.refl _,fun h=>h⟩
theorem t_seen(a:Atom)(ha:atomOk a=true)(frm:List Int)(fv cc go gm:Nat)(F:List Stp)(own:Own)(b:Bool)(ob:List (Nat×LObj))(n:Nat)(hF:FactsAt ob go gm F own)(l1:look fv ob=some (.cells [.ptr go 0]))(l2:look cc ob=some (.cells [.bool b])){kv kp:HP}
  (hk:∀n',n<=n'->kv (.tup []) ⟨putO cc (.cells [.bool (b&&hasF (atomX a) F)]) ob,n'⟩):
  cP E0 F0 41 [atomL a,.sl (frm.map LV.int) .no,.ptr fv 0,.ptr cc 0] ⟨ob,n⟩ kv kp:=by
 refine cP_of_fn c41 fun hH=>⟨Nat.le_of_ble_eq_true rfl,?_⟩
 have b1:fv<n:=hH.look l1
 have b2:cc<n:=hH.look l2
 have b4:go<n:=hH.look hF.pair
 have b5:gm<n:=hH.look hF.map
 simp(disch:=omega)[b41,l1,hF.pair]
 refine(t_show a ha).go fun n2 hn2=>?_
 simp(disch:=omega)[l1,hF.pair]
 rw[lkM (by rw[look_ne (by omega)];exact hF.map)]
 have hh:hasF (atomX a) F=(lookM (atomX a) (idxF F 0)).isSome:=rfl
 have fin:∀(v:LObj)(x:LObj),kv (.tup []) ⟨putO cc x ob,n2⟩->∃H'',HWk ⟨(n,v)::putO cc x ob,n2⟩ H''/\(LHeap.Ok ⟨(n,v)::putO cc x ob,n2⟩->H''.Ok)/\kv (.tup []) H'':=fun v x hx=>by
  have hd:Desc (putO cc x ob) n:=Desc.put hH
  exact⟨_,hwk_skip hd (Nat.le_refl _),fun _=>hd.mono (Nat.le_trans (Nat.le_succ _) hn2),hx⟩
 cases hl:lookM (atomX a) (idxF F 0) with
 |some t=>
  have e:hasF (atomX a) F=true:=by rw[hh,hl];rfl
  rw[e,Bool.and_true]at hk
  cases b
  ·simp(disch:=omega)[resP_nil,l1,l2,hF.pair]
   exact fin _ _ (hk n2 (by omega))
  ·simp(disch:=omega)[resP_nil,l1,l2,hF.pair]
   exact fin _ _ (hk n2 (by omega))
 |none=>
  have e:hasF (atomX a) F=false:=by rw[hh,hl];rfl
  rw[e,Bool.and_false]at hk
  cases b
  ·simp(disch:=omega)[resP_nil,l1,l2,hF.pair]
   exact fin _ _ (hk n2 (by omega))
  ·simp(disch:=omega)[resP_nil,l1,l2,hF.pair]
   exact fin _ _ (hk n2 (by omega))
def doerC(F:List Stp)(fv cc go gm:Nat)(own:Own)(ob0:List (Nat×LObj))(h0:FactsAt ob0 go gm F own):Doer Bool where
 fn:=41
 cap:=[.ptr fv 0,.ptr cc 0]
 Stat:=(fv,.cells [.ptr go 0])::statF F go gm own
 At ob b S:=look cc ob=some (.cells [.bool b])/\∀i,S i↔i=cc
 step b a _:=b&&hasF (atomX a) F
 lim _:=True
 lim_step _ _ _ h:=h
 at_look ob b S i h hi:=by
  obtain⟨h1,h2⟩:=h
  obtain rfl:=(h2 i).1 hi
  exact⟨_,h1,rfl⟩
 at_keep ob ob' b S h hk:=⟨by rw[hk cc ((h.2 cc).2 rfl)];exact h.1,h.2⟩
 ok ob n b S a frm kv kp _ ha hat hst hsep hni hk:=by
  obtain⟨h1,h2⟩:=hat
  unfold StatOk at hst
  simp only[List.forall_mem_cons]at hst
  refine t_seen a ha frm fv cc go gm F own b ob n (of_statF h0 hst.2) hst.1 h1 fun n' hn'=>?_
  exact hk _ n' S hn' ⟨look_putO h1,h2⟩ (fun i hi=>.inl hi) (hni.put _ rfl) fun i hi hiS=>look_putO_ne fun e=>hiS ((h2 i).2 e)
structure CsAt(N:Nat)(ob2:List (Nat×LObj))(G:List Stp)(own:Own)(ob:List (Nat×LObj)):Prop where
 fa:FactsAt ob (N+1) N G own
 cell:look (N+1+1) ob=some (.cells [.ptr (N+1) 0])
 lo:∀t,own=.tok t->N+1+1+1<=t
 ni:NoIt ob
 old:∀i,i<N->look i ob=look i ob2
theorem CsAt.cons{N:Nat}{ob2:List (Nat×LObj)}{G:List Stp}{own:Own}{ob:List (Nat×LObj)}(h:CsAt N ob2 G own ob){m:Nat}(hok:LHeap.Ok ⟨ob,m⟩)(hm:N+1+1+1<=m){x:LObj}(hx:isIt x=false):CsAt N ob2 G own ((m,x)::ob):=
 ⟨h.fa.keep fun i hi=>look_ne (by have:=h.fa.low hok i hi;omega) _ _,by rw[look_ne (by omega)];exact h.cell,h.lo,h.ni.cons _ hx,fun i hi=>by rw[look_ne (by omega)];exact h.old i hi⟩
structure NNCs where
 i:Nat
 n:Nat
 own:Own
 ob:List (Nat×LObj)
structure NNCt where
 i:Nat
 n:Nat
 b:Bool
 ob:List (Nat×LObj)
structure NNIt where
 left:List Nat
 cur:Option Nat
def tail3(l:List Clause)(F:List Stp):Bool:=l.foldl (fun b c=>closB F c b) true
def tail2(l:List Clause)(base:List Atom)(F:List Stp):Bool:=(baseD base).all (fun s=>hasF (atomX s.atom) F)&&tail3 l F
def tail1(l:List Clause)(base:List Atom)(F:List Stp):Bool:=dersB l base F 0 F&&tail2 l base F
theorem stepsB_eq(l:List Clause)(base:List Atom)(F:List Stp):stepsB l base F=(formB [] F&&tail1 l base F):=rfl
def stepsE(l:List Clause)(R:Option (List (PK×Int)))(base:List Atom)(F:List Stp):Int:=if basedE l R base≠0 then basedE l R base else if 300<F.length then 2 else if stepsB l base F then 0 else 8
theorem idxF_keys:∀(F:List Stp)(i:Int),(idxF F i).map (·.1)=F.map fun q=>atomX q.atom
 |[],_=>rfl
 |s::r,i=>by
  have ih:=idxF_keys r (i+1)
  unfold idxF
  simp only[List.map_cons,ih]
theorem perm_all{α:Type}{l m:List α}(h:l.Perm m)(p:α->Bool):l.all p=m.all p:=by
 rw[Bool.eq_iff_iff,List.all_eq_true,List.all_eq_true]
 exact⟨fun k x hx=>k x (h.mem_iff.2 hx),fun k x hx=>k x (h.mem_iff.1 hx)⟩
theorem statF_id{F:List Stp}{fo am:Nat}{own:Own}:∀p∈statF F fo am own,p.1=fo\/p.1=am\/own=.tok p.1:=by
 unfold statF
 simp only[List.forall_mem_cons]
 refine⟨.inl trivial,.inr (.inl trivial),?_⟩
 cases own with
 |tok t=>intro p hp;simp at hp;subst hp;exact .inr (.inr rfl)
 |no=>intro p hp;cases hp
 |full=>intro p hp;cases hp
set_option maxHeartbeats 1000000 in
theorem t_CheckSteps{l:List Clause}{fuel:Nat}{R:Option (List (PK×Int))}{base:List Atom}(hI:ModIn l fuel R base)(ownB:Own)(F:List Stp)(hFl:F.length<2^63)(hFo:F.length<=300->∀s∈F,s.atom.ok/\s.frm.length<=2^20)(ob:List (Nat×LObj))(n:Nat)(hni:NoIt ob){kv kp:HP}
  (hk:∀n',n<=n'->kv (.int (stepsE l R base F)) ⟨ob,n'⟩):cP E0 F0 18 [clausesL l,.sl (base.map atomL) ownB,.sl (F.map stepL) .no] ⟨ob,n⟩ kv kp:=by
 refine cP_of_fn c18 fun hH=>⟨Nat.le_of_ble_eq_true rfl,?_⟩
 simp(disch:=omega)[b18]
 refine t_based l hI.hl fuel R hI.hR base ownB hI.hb hI.hok ob n hni (fun e he0 hwhy n2 hn2=>?_) (fun hc m hRm h100 hall om fo am ob2 n2 own2 hn2 h2=>?_)
 ·have heE:e=basedE l R base:=by
   unfold basedE
   rcases hwhy with⟨h1,h2⟩|⟨h1,h2,h3⟩|⟨h1,h2,h3,h4⟩|⟨h1,h2,h3,h4,h5⟩
   ·rw[if_pos h1];exact h2
   ·rw[if_neg (by omega),if_pos h2];exact h3
   ·rw[if_neg (by omega),if_neg h2,if_pos h3];exact h4
   ·rw[if_neg (by omega),if_neg h2,if_neg (by omega),if_neg (by simp[h4])];exact h5
  subst heE
  unfold stepsE at hk
  rw[if_pos he0]at hk
  simp(disch:=omega)[he0]
  exact keep (hk n2 hn2)
 have hbz:basedE l R base=0:=by
  unfold basedE
  rw[if_neg (by omega),if_neg (by rw[hRm];simp),if_neg (by omega),if_pos hall]
 unfold stepsE at hk
 rw[if_neg (by omega)]at hk
 have hcg:=check_good hc
 have hll:=(check_ok hc).1
 have fin:∀(m:Nat)(ob1:List (Nat×LObj))(v:LV),(∀i,i<n2->look i ob1=look i ob2)->n2<=m->kv v ⟨ob,m⟩->∃H'',HWk ⟨ob1,m⟩ H''/\(LHeap.Ok ⟨ob1,m⟩->H''.Ok)/\kv v H'':=fun m ob1 v ho hm hv=>⟨⟨ob,m⟩,hwk_old hH (fun i hi=>by rw[ho i (by omega)];exact h2.old i hi) (Nat.le_refl _),fun _=>Desc.mono hH (by dsimp only;omega),hv⟩
 by_cases h300:300<F.length
 ·rw[if_pos h300]at hk
  have h300':(300:Int)<(F.length:Int):=by omega
  simp(disch:=omega)[h300']
  exact fin _ _ _ (fun _ _=>rfl) (by omega) (hk n2 (by omega))
 rw[if_neg h300]at hk
 have h300':¬(300:Int)<(F.length:Int):=by omega
 have hFo:=hFo (by omega)
 obtain⟨V,hV⟩:∃V,stepsB l base F=V:=⟨_,rfl⟩
 rw[hV]at hk
 rw[stepsB_eq]at hV
 simp(disch:=omega)[h300']
 refine lP_okH fun hokL=>?_
 have hok2:LHeap.Ok ⟨ob2,n2⟩:=hokL.2.2.2
 have hglow:=h2.facts.low hok2
 have b8:fo<n2:=hglow fo (.inl rfl)
 have b9:am<n2:=hglow am (.inr (.inl rfl))
 have hgiv:∀{G:List Stp}{own:Own}{ob1:List (Nat×LObj)},CsAt n2 ob2 G own ob1->FactsAt ob1 fo am (baseD base) own2:=fun h=>h2.facts.keep fun i hi=>h.old i (hglow i hi)
 refine lP_enter (σ:=NNCs) (fun q=>(.nd (clausesL l) (.nd .bot .nil (.nd .bot (.nd .bot .nil (.nd .bot (.nd (.int F.length) .nil .nil) .nil)) .nil)) (.nd (.sl (F.map stepL) .no) (.nd .bot (.nd (.ptr fo 0) .nil (.nd .bot (.nd (.sl (F.map stepL) .no) .nil .nil) .nil)) .nil) (.nd .bot (.nd (.ptr (n2+1+1) 0) .nil (.nd .bot (.nd (.int q.i) .nil .nil) .nil)) .nil)))) (fun q=>⟨q.ob,q.n⟩) (fun q=>F.length - q.i)
  (fun q=>q.i<=F.length/\n2+1+1+1<=q.n/\CsAt n2 ob2 (F.take q.i) q.own q.ob/\(formB (F.take q.i) (F.drop q.i)&&tail1 l base F)=V/\(∀s∈F.take q.i,atomG s.atom))
  ⟨0,n2+1+1+1,.full,(n2+1+1,.cells [.ptr (n2+1) 0])::(n2+1,.cells [.map n2,Nl])::(n2,.map [])::ob2⟩ ⟨Nat.zero_le _,Nat.le_refl _,⟨⟨by rw[look_ne (by omega)];exact look_self _ _ _,by rw[look_ne (by omega),look_ne (by omega)];exact look_self _ _ _,by omega,.inl ⟨rfl,rfl⟩⟩,look_self _ _ _,fun t h=>(by cases h),((h2.ni.cons _ rfl).cons _ rfl).cons _ rfl,fun i hi=>by rw[look_ne (by omega),look_ne (by omega),look_ne (by omega)]⟩,hV,fun s hs=>(by simp at hs)⟩ (by simp[FT.Le,Wk]) ⟨HWk.refl _,fun h=>h⟩ ?_
 rintro⟨i,m1,own,ob1⟩ ⟨hi,hm1,hC,hf,hg⟩ hok1
 dsimp only at hi hm1 hC hf hg hok1
 by_cases hlt:i<F.length
 case pos=>
  obtain⟨G,hG⟩:∃G,F.take i=G:=⟨_,rfl⟩
  have hGl:G.length=i:=by rw[<-hG,List.length_take];omega
  have hG2:F.take (i+1)=G++[F[i]]:=by rw[<-hG,List.take_add_one,List.getElem?_eq_getElem hlt];rfl
  rw[hG]at hC hf hg
  rw[List.drop_eq_getElem_cons hlt]at hf
  unfold formB at hf
  obtain⟨hao,hfo⟩:=hFo _ (List.getElem_mem hlt)
  have hCx:=hC.cons hok1 hm1 (x:=.cells (stepC F[i])) rfl
  have hnx:IntKind.wrap .i64 ((i:Int)+1)=((i+1:Nat):Int):=wrap_nat (show i<2^62 by omega)
  simp(disch:=omega)[hlt]
  refine(t_formedAtom F[i].atom hao).go fun n3 hn3=>?_
  cases ha:atomOk F[i].atom
  ·have e:baseOk F[i].atom=false:=by simp[baseOk,ha]
   rw[e,Bool.false_and,Bool.false_and]at hf
   simp(disch:=omega)
   exact fin _ _ _ hCx.old (by omega) (by rw[<-hf]at hk;exact hk n3 (by omega))
  simp(disch:=omega)
  refine(t_ground F[i].atom hao).go fun n4 hn4=>?_
  cases hgr:F[i].atom.args.all notVar
  ·have e:baseOk F[i].atom=false:=by simp[baseOk,hgr]
   rw[e,Bool.false_and,Bool.false_and]at hf
   simp(disch:=omega)
   exact fin _ _ _ hCx.old (by omega) (by rw[<-hf]at hk;exact hk n4 (by omega))
  have e:baseOk F[i].atom=true:=by simp[baseOk,ha,hgr]
  rw[e,Bool.true_and]at hf
  simp(disch:=omega)[hC.cell,hC.fa.pair,hGl]
  refine t_add F[i] ha (n2+1) n2 G (by omega) own _ n4 hCx.fa (fun hex n5 hn5=>?_) (fun hno ob5 n5 own5 hn5 hF5 hnear hni5 hsame=>?_)
  ·have e2:hasF (atomX F[i].atom) G=true:=hasF_iff.2 hex
   rw[e2,Bool.not_true,Bool.false_and,Bool.false_and]at hf
   simp(disch:=omega)[hC.cell,hC.fa.pair,hGl]
   exact fin _ _ _ hCx.old (by omega) (by rw[<-hf]at hk;exact hk n5 (by omega))
  ·have e2:hasF (atomX F[i].atom) G=false:=by
    cases h:hasF (atomX F[i].atom) G with
    |false=>rfl
    |true=>
     obtain⟨q,hq,e⟩:=hasF_iff.1 h
     exact absurd e (hno q hq)
   rw[e2,Bool.not_false,Bool.true_and]at hf
   have hlo:=hC.lo
   have hcell5:look (n2+1+1) ob5=some (.cells [.ptr (n2+1) 0]):=by
    rw[hsame _ (by omega) (by omega) (by omega) (fun t ht=>by have:=hlo t ht;omega)]
    exact hCx.cell
   have hL2:((G++[F[i]]).length:Int)=(i:Int)+1:=by rw[List.length_append,hGl];rfl
   have hne5:¬(i:Int)+1=(i:Int):=by omega
   simp(disch:=omega)[hcell5,hF5.pair,hGl,hnx,hne5]
   refine⟨⟨i+1,n5,own5,ob5⟩,by dsimp only;omega,⟨by dsimp only;omega,by dsimp only;omega,⟨by dsimp only;rw[hG2];exact hF5,hcell5,fun t ht=>?_,hni5 hCx.ni,fun j hj=>?_⟩,by dsimp only;rw[hG2];exact hf,fun s hs=>?_⟩,by simp[FT.Le,Wk],HWk.refl _,fun h=>h⟩
   ·dsimp only at ht
    rcases hnear with h|⟨t',h,h'⟩
    ·exact hlo t (by rw[<-h];exact ht)
    ·rw[h]at ht
     cases ht
     omega
   ·rw[hsame j (by omega) (by omega) (by omega) (fun t ht=>by have:=hlo t ht;omega)]
    exact hCx.old j hj
   ·dsimp only at hs
    rw[hG2]at hs
    rcases List.mem_append.1 hs with h|h
    ·exact hg s h
    ·rw[List.mem_singleton]at h
     rw[h]
     exact baseOk_iff.1 e
 obtain rfl:i=F.length:=by omega
 rw[List.take_length]at hC hf hg
 rw[List.drop_length]at hf
 have hf:(true&&tail1 l base F)=V:=hf
 rw[Bool.true_and]at hf
 unfold tail1 at hf
 have hgv:=hgiv hC
 have hgn:fo<m1/\am<m1:=⟨by omega,by omega⟩
 simp(disch:=omega)
 refine lP_enter (σ:=NN) (fun q=>(.nd (clausesL l) (.nd .bot .nil (.nd .bot (.nd .bot .nil (.nd .bot (.nd .bot (.nd (.int F.length) .nil .nil) .nil) .nil)) .nil)) (.nd .bot (.nd .bot (.nd (.ptr fo 0) .nil (.nd .bot (.nd .bot (.nd (.sl (F.map stepL) .no) .nil .nil) .nil) .nil)) .nil) (.nd .bot (.nd (.ptr (n2+1+1) 0) .nil (.nd .bot (.nd .bot (.nd (.int q.i) .nil .nil) .nil) .nil)) .nil)))) (fun q=>⟨ob1,q.n⟩) (fun q=>F.length - q.i)
  (fun q=>q.i<=F.length/\m1<=q.n/\(dersB l base F q.i (F.drop q.i)&&tail2 l base F)=V)
  ⟨0,m1⟩ ⟨Nat.zero_le _,Nat.le_refl _,hf⟩ (by simp[FT.Le,Wk]) ⟨HWk.refl _,fun h=>h⟩ ?_
 rintro⟨i,m⟩ ⟨hi,hm,hf⟩ hok
 dsimp only at hi hm hf hok
 by_cases hlt:i<F.length
 case pos=>
  rw[List.drop_eq_getElem_cons hlt]at hf
  unfold dersB at hf
  obtain⟨hao,hfo⟩:=hFo _ (List.getElem_mem hlt)
  have hag:=hg _ (List.getElem_mem hlt)
  have hnx:IntKind.wrap .i64 ((i:Int)+1)=((i+1:Nat):Int):=wrap_nat (show i<2^62 by omega)
  have hCx:=hC.cons hok (by omega) (x:=.cells (stepC F[i])) rfl
  have hdrop:∀(k:Nat)(x:LObj),m<=k->HWk ⟨(m,x)::ob1,k⟩ ⟨ob1,k⟩/\(LHeap.Ok ⟨(m,x)::ob1,k⟩->LHeap.Ok ⟨ob1,k⟩):=fun k x hk=>⟨hwk_skip hok (Nat.le_refl _),fun _=>Desc.mono hok hk⟩
  simp(disch:=omega)[hlt,hgv.pair]
  refine(t_show F[i].atom hag.1).go fun n3 hn3=>?_
  simp(disch:=omega)[hgv.pair]
  rw[lkM (by rw[look_ne (by omega)];exact hgv.map)]
  have hh:hasF (atomX F[i].atom) (baseD base)=(lookM (atomX F[i].atom) (idxF (baseD base) 0)).isSome:=rfl
  by_cases hcl:F[i].cl=-1
  ·by_cases hfr:F[i].frm=[]
   ·cases hl:lookM (atomX F[i].atom) (idxF (baseD base) 0) with
    |some t=>
     have hf0:(decide (F[i].cl=-1)&&(decide (F[i].frm=[])&&hasF (atomX F[i].atom) (baseD base)))=true:=by simp[hcl,hfr,hh,hl]
     rw[hf0,Bool.true_or,Bool.true_and]at hf
     simp(disch:=omega)[hcl,hfr,hnx]
     exact⟨⟨i+1,n3⟩,by dsimp only;omega,⟨by dsimp only;omega,by dsimp only;omega,hf⟩,by simp[FT.Le,Wk],(hdrop n3 _ (by omega)).1,(hdrop n3 _ (by omega)).2⟩
    |none=>
     have hf0:(decide (F[i].cl=-1)&&(decide (F[i].frm=[])&&hasF (atomX F[i].atom) (baseD base)))=false:=by simp[hcl,hfr,hh,hl]
     simp(disch:=omega)[hcl,hfr,hC.cell]
     rw[hf0,Bool.false_or]at hf
     refine t_derives l (by omega) hcg F (by omega) hg (fun s hs=>(hFo s hs).2) (n2+1) n2 own i hlt _ n3 hCx.fa hCx.ni fun n5 hn5=>?_
     cases hd:derB l F i F[i]
     ·rw[hd,Bool.false_and,Bool.false_and]at hf
      simp(disch:=omega)
      exact fin _ _ _ hCx.old (by omega) (by rw[<-hf]at hk;exact hk n5 (by omega))
     ·rw[hd,Bool.true_and]at hf
      simp(disch:=omega)[hnx]
      obtain⟨d1,d2⟩:=hdrop n5 (.cells (stepC F[i])) (by omega)
      exact⟨⟨i+1,n5⟩,by dsimp only;omega,⟨by dsimp only;omega,by dsimp only;omega,hf⟩,by simp[FT.Le,Wk],d1,d2⟩
   ·have hfr2:¬F[i].frm.length=0:=fun h=>hfr (List.eq_nil_of_length_eq_zero h)
    have hf0:(decide (F[i].cl=-1)&&(decide (F[i].frm=[])&&hasF (atomX F[i].atom) (baseD base)))=false:=by simp[hfr]
    cases hl:lookM (atomX F[i].atom) (idxF (baseD base) 0) with
    |some t=>
     simp(disch:=omega)[hcl,hfr,hfr2,hC.cell]
     rw[hf0,Bool.false_or]at hf
     refine t_derives l (by omega) hcg F (by omega) hg (fun s hs=>(hFo s hs).2) (n2+1) n2 own i hlt _ n3 hCx.fa hCx.ni fun n5 hn5=>?_
     cases hd:derB l F i F[i]
     ·rw[hd,Bool.false_and,Bool.false_and]at hf
      simp(disch:=omega)
      exact fin _ _ _ hCx.old (by omega) (by rw[<-hf]at hk;exact hk n5 (by omega))
     ·rw[hd,Bool.true_and]at hf
      simp(disch:=omega)[hnx]
      obtain⟨d1,d2⟩:=hdrop n5 (.cells (stepC F[i])) (by omega)
      exact⟨⟨i+1,n5⟩,by dsimp only;omega,⟨by dsimp only;omega,by dsimp only;omega,hf⟩,by simp[FT.Le,Wk],d1,d2⟩
    |none=>
     simp(disch:=omega)[hcl,hfr,hfr2,hC.cell]
     rw[hf0,Bool.false_or]at hf
     refine t_derives l (by omega) hcg F (by omega) hg (fun s hs=>(hFo s hs).2) (n2+1) n2 own i hlt _ n3 hCx.fa hCx.ni fun n5 hn5=>?_
     cases hd:derB l F i F[i]
     ·rw[hd,Bool.false_and,Bool.false_and]at hf
      simp(disch:=omega)
      exact fin _ _ _ hCx.old (by omega) (by rw[<-hf]at hk;exact hk n5 (by omega))
     ·rw[hd,Bool.true_and]at hf
      simp(disch:=omega)[hnx]
      obtain⟨d1,d2⟩:=hdrop n5 (.cells (stepC F[i])) (by omega)
      exact⟨⟨i+1,n5⟩,by dsimp only;omega,⟨by dsimp only;omega,by dsimp only;omega,hf⟩,by simp[FT.Le,Wk],d1,d2⟩
  ·have hf0:(decide (F[i].cl=-1)&&(decide (F[i].frm=[])&&hasF (atomX F[i].atom) (baseD base)))=false:=by simp[hcl]
   cases hl:lookM (atomX F[i].atom) (idxF (baseD base) 0) with
   |some t=>
    simp(disch:=omega)[hcl,hC.cell]
    rw[hf0,Bool.false_or]at hf
    refine t_derives l (by omega) hcg F (by omega) hg (fun s hs=>(hFo s hs).2) (n2+1) n2 own i hlt _ n3 hCx.fa hCx.ni fun n5 hn5=>?_
    cases hd:derB l F i F[i]
    ·rw[hd,Bool.false_and,Bool.false_and]at hf
     simp(disch:=omega)
     exact fin _ _ _ hCx.old (by omega) (by rw[<-hf]at hk;exact hk n5 (by omega))
    ·rw[hd,Bool.true_and]at hf
     simp(disch:=omega)[hnx]
     obtain⟨d1,d2⟩:=hdrop n5 (.cells (stepC F[i])) (by omega)
     exact⟨⟨i+1,n5⟩,by dsimp only;omega,⟨by dsimp only;omega,by dsimp only;omega,hf⟩,by simp[FT.Le,Wk],d1,d2⟩
   |none=>
    simp(disch:=omega)[hcl,hC.cell]
    rw[hf0,Bool.false_or]at hf
    refine t_derives l (by omega) hcg F (by omega) hg (fun s hs=>(hFo s hs).2) (n2+1) n2 own i hlt _ n3 hCx.fa hCx.ni fun n5 hn5=>?_
    cases hd:derB l F i F[i]
    ·rw[hd,Bool.false_and,Bool.false_and]at hf
     simp(disch:=omega)
     exact fin _ _ _ hCx.old (by omega) (by rw[<-hf]at hk;exact hk n5 (by omega))
    ·rw[hd,Bool.true_and]at hf
     simp(disch:=omega)[hnx]
     obtain⟨d1,d2⟩:=hdrop n5 (.cells (stepC F[i])) (by omega)
     exact⟨⟨i+1,n5⟩,by dsimp only;omega,⟨by dsimp only;omega,by dsimp only;omega,hf⟩,by simp[FT.Le,Wk],d1,d2⟩
 obtain rfl:i=F.length:=by omega
 rw[List.drop_length]at hf
 have hf:(true&&tail2 l base F)=V:=hf
 rw[Bool.true_and]at hf
 unfold tail2 at hf
 simp(disch:=omega)[hgv.pair,hgv.map,rgL]
 obtain⟨ms,hms⟩:∃ms,idxF (baseD base) 0=ms:=⟨_,rfl⟩
 have hmap:=hgv.map
 rw[hms]at hmap ⊢
 have hT0:(((List.range ms.length).filterMap (fun k=>(ms.map (·.1))[k]?)).all (fun t=>hasF t F)&&tail3 l F)=V:=by
  have h1:=range_filterMap (ms.map (·.1))
  rw[List.length_map]at h1
  rw[h1,<-hms,idxF_keys,List.all_map]
  exact hf
 refine lP_enter (σ:=NNIt) (fun q=>(.nd (clausesL l) .nil (.nd .bot (.nd .bot (.nd .bot (.nd .bot .nil (.nd .bot .nil (.nd (.ptr m 0) .nil .nil))) .nil) .nil) (.nd .bot (.nd (.ptr (n2+1+1) 0) .nil .nil) .nil)))) (fun q=>⟨(m,.iter am q.left q.cur ms.length)::ob1,m+1⟩) (fun q=>q.left.length)
  (fun q=>((q.left.filterMap (fun k=>(ms.map (·.1))[k]?)).all (fun t=>hasF t F)&&tail3 l F)=V) ⟨List.range ms.length,none⟩ hT0 (by simp[FT.Le,Wk]) ⟨HWk.refl _,fun h=>h⟩ ?_
 rintro⟨left,cur⟩ hT hok3
 dsimp only at hT hok3
 have hn2m:n2+1+1<m:=by omega
 simp(disch:=omega)
 by_cases hl0:left=[]
 case neg=>
  refine⟨m,am,left,cur,ms.length,rfl,by simp[look_self],.inr ⟨hl0,_,by rw[look_ne (by omega)];exact hmap,by simp,fun j k e hj hk2=>?_⟩⟩
  obtain⟨v,hv,rfl⟩:∃v,ms[k]? = some v/\e=(.str v.1,.int v.2):=by
   simp only[List.getElem?_map]at hk2
   obtain⟨v,h1,h2⟩:=Option.map_eq_some_iff.1 hk2
   exact⟨v,h1,h2.symm⟩
  have hjl:j<left.length:=(List.getElem?_eq_some_iff.1 hj).1
  have hfe:(left.filterMap (fun k=>(ms.map (·.1))[k]?)).Perm (v.1::(left.eraseIdx j).filterMap (fun k=>(ms.map (·.1))[k]?)):=by
   have:=(perm_erase left j k hj).filterMap (fun k=>(ms.map (·.1))[k]?)
   rwa [List.filterMap_cons_some (by rw[List.getElem?_map,hv];rfl)]at this
  rw[perm_all hfe,List.all_cons]at hT
  have hh:hasF v.1 F=(lookM v.1 (idxF F 0)).isSome:=rfl
  have hx:∀x:LObj,look (n2+1) ((m,x)::ob1)=look (n2+1) ob1:=fun x=>look_ne (by omega) _ _
  simp(disch:=omega)[enL,hmap,hv,hC.cell,hC.fa.pair]
  rw[lkM (by rw[look_ne (by omega)];exact hC.fa.map)]
  cases hl:lookM v.1 (idxF F 0) with
  |some t=>
   rw[hh,hl]at hT
   simp(disch:=omega)
   refine⟨⟨left.eraseIdx j,some k⟩,by dsimp only;rw[List.length_eraseIdx_of_lt hjl];omega,by simpa using hT,by simp[FT.Le,Wk],HWk.refl _,fun h=>h⟩
  |none=>
   rw[hh,hl]at hT
   have hV0:V=false:=hT.symm
   simp(disch:=omega)
   exact fin _ _ _ (fun i hi=>by rw[look_ne (by omega)];exact hC.old i hi) (by omega) (by rw[hV0]at hk;exact hk (m+1) (by omega))
 refine⟨m,am,left,cur,ms.length,rfl,by simp[look_self],.inl ⟨hl0,.inr ⟨_,by rw[look_ne (by omega)];exact hmap,by simp⟩,?_⟩⟩
 subst hl0
 have hT:tail3 l F=V:=by simpa using hT
 unfold tail3 at hT
 simp(disch:=omega)
 have hN:n2+1+1+1<=m:=by omega
 have hFlow:=hC.fa.low hok
 refine lP_enter (σ:=NNCt) (fun q=>(.nd (clausesL l) (.nd .bot .nil (.nd .bot (.nd .bot (.nd .bot (.nd .bot (.nd .bot (.nd (.int l.length) .nil .nil) .nil) .nil) .nil) .nil) (.nd .bot (.nd (.ptr (m+1) 0) .nil .nil) .nil))) (.nd .bot (.nd .bot (.nd .bot (.nd .bot (.nd .bot (.nd .bot (.nd (clausesL l) .nil .nil) .nil) .nil) .nil) .nil) .nil) (.nd .bot (.nd (.ptr (n2+1+1) 0) (.nd .bot (.nd .bot (.nd .bot (.nd (.int q.i) .nil .nil) .nil) .nil) .nil) .nil) .nil)))) (fun q=>⟨q.ob,q.n⟩) (fun q=>l.length - q.i)
  (fun q=>q.i<=l.length/\m+1<q.n/\(l.drop q.i).foldl (fun b c=>closB F c b) q.b=V/\CsAt n2 ob2 F own q.ob/\look (m+1) q.ob=some (.cells [.bool q.b]))
  ⟨0,m+1+1,true,(m+1,.cells [.bool true])::ob1⟩ ⟨Nat.zero_le _,Nat.lt_succ_self _,hT,hC.cons (m:=m+1) (x:=.cells [.bool true]) (Desc.mono hok (Nat.le_succ _)) (by omega) rfl,look_self _ _ _⟩ (by simp[FT.Le,Wk]) ?_ ?_
 ·exact⟨hwk_mid hok fun _ _ h=>h,fun _=>⟨Nat.lt_succ_self _,Desc.mono hok (Nat.le_succ _)⟩⟩
 rintro⟨i,m4,b,ob4⟩ ⟨hi,hm4,hT,hC4,hc4⟩ hok4
 dsimp only at hi hm4 hT hC4 hc4 hok4
 by_cases hlt:i<l.length
 case neg=>
  obtain rfl:i=l.length:=by omega
  rw[List.drop_length]at hT
  have hT:b=V:=hT
  subst hT
  cases b
  ·simp(disch:=omega)[hc4]
   exact fin _ _ _ hC4.old (by omega) (hk m4 (by omega))
  ·simp(disch:=omega)[hc4]
   exact fin _ _ _ hC4.old (by omega) (hk m4 (by omega))
 rw[List.drop_eq_getElem_cons hlt,List.foldl_cons]at hT
 have hnx:IntKind.wrap .i64 ((i:Int)+1)=((i+1:Nat):Int):=wrap_nat (show i<2^62 by omega)
 simp(disch:=omega)[hlt,hC4.cell]
 have hclg:=hcg _ (List.getElem_mem hlt)
 have hC5:=hC4.cons hok4 (by omega) (x:=.cells (clauseC l[i])) rfl
 refine t_instances (D:=doerC F (n2+1+1) (m+1) (n2+1) n2 own ob1 hC.fa) l[i] hclg F (n2+1) n2 own ((n2+1+1,.cells [.ptr (n2+1) 0])::statF F (n2+1) n2 own) (fun p hp=>hp) (fun p hp=>?_) (fun ob h=>of_statF hC.fa fun p hp=>h p (List.mem_cons_of_mem _ hp)) hg (by omega) _ _ b (fun i=>i=m+1) trivial (fun p hp=>?_) ⟨?_,fun i=>Iff.rfl⟩ (fun p hp=>?_) hC5.ni fun ob5 m5 S5 hm5 hat5 hS5 hni5 hsame=>?_
 ·rcases List.mem_cons.1 hp with rfl|hp
  ·rfl
  ·exact statF_plain _ _ _ _ p hp
 ·rcases List.mem_cons.1 hp with rfl|hp
  ·exact hC5.cell
  ·exact statF_ok hC5.fa p hp
 ·rw[look_ne (by omega)]
  exact hc4
 ·rcases List.mem_cons.1 hp with rfl|hp
  ·dsimp only;omega
  ·have:=hFlow _ (statF_id p hp)
   omega
 ·have hkp:∀j,j<m->look j ob5=look j ((m4,.cells (clauseC l[i]))::ob4):=fun j hj=>hsame j (by omega) (by omega)
  simp(disch:=omega)[hnx]
  refine⟨⟨i+1,m5,closB F l[i] b,ob5⟩,by dsimp only;omega,⟨by dsimp only;omega,by dsimp only;omega,hT,⟨hC5.fa.keep fun j hj=>hkp j (hFlow j hj),by rw[hkp _ (by omega)];exact hC5.cell,hC5.lo,hni5,fun j hj=>by rw[hkp j (by omega)];exact hC5.old j hj⟩,hat5.1⟩,by simp[FT.Le,Wk],HWk.refl _,fun h=>h⟩
def stShort(s:Stp):Bool:=s.atom.small&&decide (s.frm.length<=10)
def shortSt(l:List Stp):Bool:=if 300<l.length then true else if l.all stShort then decide (l.length<=60) else false
theorem t_shortSteps(l:List Stp)(hl:l.length<2^63):PureT 17 [.sl (l.map stepL) .no] (.bool (shortSt l)):=by
 refine PureT.of c17 fun H hH=>⟨Nat.le_of_ble_eq_true rfl,?_⟩
 by_cases h1:(300:Int)<(l.length:Int)
 ·simp(disch:=omega)[b17,h1]
  exact doneK hH (by simp[shortSt,show 300<l.length by omega])
 have hl100:l.length<=300:=by omega
 simp(disch:=omega)[b17,h1]
 obtain⟨A,hA⟩:∃A,l.all stShort=A:=⟨_,rfl⟩
 have hB:shortSt l=if A then decide (l.length<=60) else false:=by unfold shortSt;rw[if_neg (by omega),hA]
 obtain⟨Vv,hVv⟩:∃Vv,(if A then decide (l.length<=60) else false)=Vv:=⟨_,rfl⟩
 rw[hB,hVv]
 refine lP_enter (σ:=NN) (fun q=>(.nd (.sl (l.map stepL) .no) (.nd .bot (.nd (.int q.i) .nil .nil) .nil) (.nd (.bool false) .nil .nil))) (fun q=>⟨H.objs,q.n⟩) (fun q=>l.length - q.i)
  (fun q=>H.next<=q.n/\q.i<=l.length/\(l.drop q.i).all stShort=A) ⟨0,H.next⟩ ⟨Nat.le_refl _,Nat.zero_le _,hA⟩ (by simp[FT.Le,Wk]) ⟨HWk.refl _,fun h=>h⟩ ?_
 rintro⟨i,n⟩ ⟨hn,hi,he⟩ hok
 simp only at hn hi he
 by_cases hlt:i<l.length
 case neg=>
  obtain rfl:i=l.length:=by omega
  rw[List.drop_eq_nil_of_le (Nat.le_refl _),List.all_nil]at he
  simp(disch:=omega)
  refine pureK_i hH ?_ (by first|exact HExt.refl' _|(repeat (first|exact HExt.refl (by first|omega|(dsimp only;omega))|refine HExt.cons' hH (by first|omega|(dsimp only;omega)) (by first|omega|(dsimp only;omega)) ?_)))
  rw[<-hVv,<-he]
  simp
  try omega
 rw[all_drop stShort hlt]at he
 simp(disch:=omega)[hlt]
 refine(t_short l[i].atom).go fun n3 hn3=>?_
 cases hs:l[i].atom.small
 ·have e:stShort l[i]=false:=by simp[stShort,hs]
  rw[e,Bool.false_and]at he
  simp(disch:=omega)
  exact doneK hH (by simp[<-hVv,<-he])
 by_cases h10:l[i].frm.length<=10
 ·have e:stShort l[i]=true:=by simp[stShort,hs,h10]
  have h10':¬(10:Int)<(l[i].frm.length:Int):=by omega
  rw[e,Bool.true_and]at he
  simp(disch:=omega)[hlt,h10',wrap_nat (show i<2^62 by omega)]
  exact⟨⟨i+1,n3⟩,by dsimp only;omega,⟨by dsimp only;omega,by dsimp only;omega,he⟩,by simp[FT.Le,Wk],HWk.refl _,fun h=>h⟩
 ·have e:stShort l[i]=false:=by simp[stShort,h10]
  have h10':(10:Int)<(l[i].frm.length:Int):=by omega
  rw[e,Bool.false_and]at he
  simp(disch:=omega)[hlt,h10']
  exact doneK hH (by simp[<-hVv,<-he])
set_option maxHeartbeats 1000000 in
theorem t_law8(hs:PureT 9 [] (.bool true))(l:List Clause)(base:List Atom)(F:List Stp)(hb:∀c∈l,c.body.length<2^63)(hbl:base.length<2^63)(hFl:F.length<2^63)(ob:List (Nat×LObj))(n:Nat)(hni:NoIt ob){kv kp:HP}
  (hk:∀n',n<=n'->kv (.bool true) ⟨ob,n'⟩):cP E0 F0 5 [clausesL l,.sl (base.map atomL) .no,.sl (F.map stepL) .no] ⟨ob,n⟩ kv kp:=by
 refine cP_of_fn c5 fun hH=>⟨Nat.le_of_ble_eq_true rfl,?_⟩
 simp(disch:=omega)[b5]
 refine(t_shortClauses 6 (by omega) l hb).go fun n1 hn1=>?_
 have fin1:∀(m:Nat),n<=m->∃H'',HWk ⟨ob,m⟩ H''/\(LHeap.Ok ⟨ob,m⟩->H''.Ok)/\kv (.bool true) H'':=fun m hm=>⟨⟨ob,m⟩,HWk.refl _,id,hk m hm⟩
 cases h1:shortB 6 l
 ·simp(disch:=omega)
  refine hs.go fun n2 hn2=>?_
  simp(disch:=omega)
  exact fin1 _ (by omega)
 simp(disch:=omega)
 refine(t_shortAtoms base (by omega)).go fun n2 hn2=>?_
 cases h2:shortAs base
 ·simp(disch:=omega)
  refine hs.go fun n3 hn3=>?_
  simp(disch:=omega)
  exact fin1 _ (by omega)
 simp(disch:=omega)
 refine(t_shortSteps F hFl).go fun n3 hn3=>?_
 cases h3:shortSt F
 ·simp(disch:=omega)
  refine hs.go fun n4 hn4=>?_
  simp(disch:=omega)
  exact fin1 _ (by omega)
 have hcl:l.length<=40->∀c∈l,clShort c=true:=by
  intro hl c hc
  unfold shortB at h1
  rw[if_neg (by omega)]at h1
  split at h1
  ·rename_i hall
   exact List.all_eq_true.1 hall c hc
  ·cases h1
 have hsm:SmallL l:=⟨fun hl c hc=>short_ok3 (hcl hl c hc)⟩
 have hbo:base.length<=100->∀x∈base,x.ok:=by
  intro hl x hx
  unfold shortAs at h2
  rw[if_neg (by omega)]at h2
  split at h2
  ·rename_i hall
   exact Atom.small_ok (List.all_eq_true.1 hall x hx)
  ·cases h2
 have hFo:F.length<=300->∀s∈F,s.atom.ok/\s.frm.length<=2^20:=by
  intro hl x hx
  unfold shortSt at h3
  rw[if_neg (by omega)]at h3
  split at h3
  ·rename_i hall
   have:=List.all_eq_true.1 hall x hx
   unfold stShort at this
   simp only[Bool.and_eq_true,decide_eq_true_iff]at this
   exact⟨Atom.small_ok this.1,by omega⟩
  ·cases h3
 obtain⟨fuel,R,hR,hRb,hLC⟩:=lev_ex l
 have hI:ModIn l fuel R base:=⟨hsm,hR,hRb,hbl,hbo⟩
 simp(disch:=omega)
 refine t_CheckSteps hI _ F hFl hFo _ _ hni fun n4 hn4=>?_
 by_cases hE:stepsE l R base F=0
 case neg=>
  simp(disch:=omega)[hE]
  refine hs.go fun n5 hn5=>?_
  simp(disch:=omega)
  exact fin1 _ (by omega)
 obtain⟨hbe,h300,hst⟩:basedE l R base=0/\F.length<=300/\stepsB l base F=true:=by
  unfold stepsE at hE
  by_cases h:basedE l R base≠0
  ·rw[if_pos h]at hE;exact absurd hE h
  ·rw[if_neg h]at hE
   by_cases h':300<F.length
   ·rw[if_pos h']at hE;cases hE
   ·rw[if_neg h']at hE
    cases hs:stepsB l base F with
    |true=>exact⟨by omega,by omega,rfl⟩
    |false=>rw[hs]at hE;cases hE
 obtain⟨hc,hRn,hb100,hbg⟩:=basedE_z hbe
 obtain⟨m,hRm⟩:∃m,R=some m:=by
  cases R with
  |none=>exact absurd rfl hRn
  |some m=>exact⟨m,rfl⟩
 have hSO:=stepsOk_of (check_good hc) hbg h300 hst
 obtain⟨hz,hlen,hmem⟩:=steps_model hc hbg hb100 ((hLC hc).2 m hRm).1 hSO
 rw[<-hRm]at hz hlen hmem
 simp(disch:=omega)[hE]
 refine t_Model hI _ _ _ hni (fun h _ _=>absurd hz h) (fun _ B ow n5 hB hn5=>?_)
 have hBl:B.length=F.length:=by rw[hB.1.length_eq,List.length_map];exact hlen
 simp(disch:=omega)[hBl]
 refine lP_enter (σ:=NN) (fun q=>(.nd (clausesL l) (.nd (.sl (base.map atomL) .no) .nil (.nd .bot (.nd (.int q.i) .nil .nil) .nil)) (.nd (.sl (F.map stepL) .no) .nil .nil))) (fun q=>⟨ob,q.n⟩) (fun q=>F.length - q.i)
  (fun q=>n<=q.n/\q.i<=F.length) ⟨0,n5⟩ ⟨by dsimp only;omega,Nat.zero_le _⟩ (by simp[FT.Le,Wk]) ⟨HWk.refl _,fun h=>h⟩ ?_
 rintro⟨i,k⟩ ⟨hn,hi⟩ hok
 dsimp only at hn hi hok
 by_cases hlt:i<F.length
 case neg=>
  simp(disch:=omega)[hlt]
  refine hs.go fun n6 hn6=>?_
  simp(disch:=omega)
  exact fin1 _ (by omega)
 have hsF:=List.getElem_mem hlt
 have haF:F[i].atom∈atomsF F:=List.mem_map.2 ⟨_,hsF,rfl⟩
 have hag:=hSO.good _ haF
 have hbt:baseOk F[i].atom=true:=baseOk_iff.2 hag
 have hhas:hasF (atomX F[i].atom) (modelF l R base)=true:=by
  obtain⟨q,hq,e⟩:=List.mem_map.1 ((hmem _).2 haF)
  exact hasF_iff.2 ⟨q,hq,by rw[e]⟩
 simp(disch:=omega)[hlt]
 refine t_Holds hI _ F[i].atom (hFo h300 _ hsF).1 _ _ hni (fun h=>absurd hz h) (fun _ hbf=>by rw[hbt]at hbf;cases hbf) (fun _ _ n6 hn6=>?_)
 rw[hhas]
 simp(disch:=omega)[wrap_nat (show i<2^62 by omega)]
 exact⟨⟨i+1,n6⟩,by dsimp only;omega,⟨by dsimp only;omega,by dsimp only;omega⟩,by simp[FT.Le,Wk],HWk.refl _,fun h=>h⟩
end Go.Abs.Tz
namespace Go.Abs.Tz
set_option maxRecDepth 20000
open Go Go.Abs Go.Proofs Go.ChangeShapes Go.WideShapes Go.RowKit Go.Proofs.YtdifmcjgoamanaaGreatDoor
section
variable{H:Type}{enc:TypeId×Value->H}{W:World}{hd:Bool}
theorem open_rowG{α:Type}(el:α->LV){S E:TypeId}{k:Nat}(hu:Tryz.prog.underlying S=some (.slice E))(hk:Tryz.prog.cellsOf E=k)(hk0:0<k)
  (hec:∀a,(el a).cells.length=k) (a0:α)
  (hop:∀(n:Nat)(cs:List Value)(x:DataW H×List MemPlace),DataW.trod enc Tryz.prog W 0 (fun _=>true) hd n E cs=some x->∃a:α,RowR W (el a).cells cs)
  {n:Nat} {u:Value} {x:DataW H×List MemPlace} (h:DataW.trod enc Tryz.prog W 0 (fun _=>true) hd n S [u]=some x):
  ∃l:List α,l.length<2^63/\VR (gOf W) W (.sl (l.map fun a=>el a) .no) u/\u.oneCell'=true:=by
 rcases Deep.open_slice hu h with⟨e1,_⟩|⟨a,len,cap,m,n',D,Pl,e1,_,hlc,hmax,hm,_,hel⟩
 ·simp only[List.cons.injEq,and_true]at e1
  subst e1
  exact⟨[],by simp,.sln trivial,rfl⟩
 ·simp only[List.cons.injEq,and_true]at e1
  subst e1
  simp only[if_true]at hm
  have hm:=hm.symm
  subst hm
  have hmax2:cap<2^63:=by unfold maxLen at hmax;omega
  by_cases hc0:cap=0
  ·subst hc0
   obtain rfl:len=0:=by omega
   exact⟨[],by simp,.sle a,rfl⟩
  have hspot:a.spot=none:=by
   obtain⟨cs',q1,_⟩:=hel 0 (by omega)
   rw[hk]at q1
   obtain⟨_,q2,q3⟩:=World.cells?_some q1
   have:=q3 0 hk0
   rw[List.getElem?_eq_getElem (by omega)]at this
   have:=World.cell?_spot this
   simpa [Addr.add] using this
  have ht:∀i,∃t:α,i<len->∃cs,RowR W (el t).cells cs/\∀j,j<k->W.cell? (at_ a.block (a.off+i*k+j))=cs[j]?:=by
   intro i
   by_cases hi:i<len
   ·obtain⟨cs',q1,q2⟩:=hel i (by omega)
    rw[hk]at q1
    obtain⟨_,_,q3⟩:=World.cells?_some q1
    obtain⟨t,ht⟩:=hop _ _ _ q2
    refine⟨t,fun _=>⟨cs',ht,fun j hj=>?_⟩⟩
    rw[<-q3 j hj,add_add hspot]
   ·exact⟨a0,fun h=>absurd h hi⟩
  let T:Nat->α:=fun i=>Classical.choose (ht i)
  have hT:∀i,i<len->∃cs,RowR W (el (T i)).cells cs/\∀j,j<k->W.cell? (at_ a.block (a.off+i*k+j))=cs[j]?:=fun i=>Classical.choose_spec (ht i)
  have hX:∀i j,∃v:Value,i<len->∀c,(el (T i)).cells[j]? = some c->W.cell? (at_ a.block (a.off+i*k+j))=some v/\VR (gOf W) W c v/\v.oneCell'=true:=by
   intro i j
   by_cases hi:i<len
   ·obtain⟨cs,h1,h2⟩:=hT i hi
    by_cases hj:j<k
    ·obtain⟨v,h3,h4,h5⟩:=h1.2 j _ (List.getElem?_eq_getElem (by rw[hec];exact hj))
     refine⟨v,fun _ c hc=>?_⟩
     rw[List.getElem?_eq_getElem (by rw[hec];exact hj)]at hc
     cases hc
     exact⟨by rw[h2 j hj,h3],h4,h5⟩
    ·exact⟨undef,fun _ c hc=>by rw[List.getElem?_eq_none (by rw[hec];omega)]at hc;cases hc⟩
   ·exact⟨undef,fun h=>absurd h hi⟩
  let V:Nat->Nat->Value:=fun i j=>Classical.choose (hX i j)
  have hV:∀i j,i<len->∀c,(el (T i)).cells[j]? = some c->W.cell? (at_ a.block (a.off+i*k+j))=some (V i j)/\VR (gOf W) W c (V i j)/\(V i j).oneCell'=true:=fun i j=>Classical.choose_spec (hX i j)
  have ha:a=at_ a.block a.off:=by
   obtain⟨b,o,sp⟩:=a
   simp only at hspot
   subst hspot
   rfl
  have hget:∀(i:Nat)(e:LV),(((List.range len).map T).map fun a=>el a)[i]? = some e->i<len/\e=el (T i):=by
   intro i e he
   rw[List.getElem?_map,List.getElem?_map]at he
   cases hr:(List.range len)[i]? with
   |none=>rw[hr]at he;cases he
   |some q=>
    rw[hr]at he
    obtain⟨hlt,rfl⟩:=List.getElem?_eq_some_iff.1 hr
    simp at hlt he
    exact⟨hlt,he.symm⟩
  refine⟨(List.range len).map T,by simp;omega,?_,rfl⟩
  have hlen:(((List.range len).map T).map fun a=>el a).length=len:=by simp
  have hR:=VR.sl (G:=gOf W) (w:=W) (es:=((List.range len).map T).map fun a=>el a) (own:=.no) (b:=a.block) (off:=a.off) (sz:=k) (cap:=cap) (xs:=V) (by rw[hlen];exact hlc)
   (fun i e he=>by obtain⟨_,rfl⟩:=hget i e he;exact hec _)
   (fun i e j c he hc=>by
    obtain⟨hi,rfl⟩:=hget i e he
    obtain⟨g1,_,g3⟩:=hV i j hi c hc
    exact⟨gOf_cl g1,g1,g3⟩)
   (fun i e j c he hc=>by
    obtain⟨hi,rfl⟩:=hget i e he
    exact(hV i j hi c hc).2.1) trivial
  rw[hlen,<-ha]at hR
  exact hR
theorem z51:Tryz.prog.cellsOf 51=4:=by kernel_rfl
theorem z38:Tryz.prog.cellsOf 38=1:=by kernel_rfl
theorem open_step{n:Nat}{cs:List Value}{x:DataW H×List MemPlace}(h:DataW.trod enc Tryz.prog W 0 (fun _=>true) hd n 51 cs=some x):∃s:Stp,RowR W (stepC s) cs:=by
 obtain⟨xs,m,_,rfl,hl,hlen,hf⟩:=DataW.trod_struct Tryz.underlying51 h
 rw[z51]at hl
 match xs,hlen,cs,hl with
 |[y0,y1,y2],_,[u0,u1,u2,u3],_=>
  have h0:=fld (t:=35) (off:=0) (c:=2) (hf 0 _ rfl) rfl rfl z35
  have h1:=fld (t:=3) (off:=2) (c:=1) (hf 1 _ rfl) rfl rfl z3
  have h2:=fld (t:=38) (off:=3) (c:=1) (hf 2 _ rfl) rfl rfl z38
  obtain⟨a,ha⟩:=open_atom (show DataW.trod enc Tryz.prog W 0 (fun _=>true) hd m 35 [u0,u1]=some y0 from h0)
  obtain⟨k,rfl⟩:=open_int (show DataW.trod enc Tryz.prog W 0 (fun _=>true) hd m 3 [u2]=some y1 from h1)
  obtain⟨b,hb,hv,h1c⟩:=open_rowG LV.int Tryz.underlying38 z3 (by omega) (fun _=>rfl) 0 (fun n cs x h=>by
   obtain⟨k,rfl,_⟩:=DataW.trod_int Tryz.underlying3 h
   exact⟨k,.cons (.sc _) rfl (.nil W)⟩) (show DataW.trod enc Tryz.prog W 0 (fun _=>true) hd m 38 [u3]=some y2 from h2)
  exact⟨⟨a,k,b⟩,ha.append (.cons (.sc _) rfl (.cons hv h1c (.nil W)))⟩
theorem open_steps{base:Nat}{v:Value}{d:DataW H}{p:List MemPlace}(h:DataW.Trod enc Tryz.prog W 0 (fun _=>true) hd 47 v d p)(hv:Value.okWide Tryz.prog W .any base 47 v):∃l:List Stp,l.length<2^63/\VR (gOf W) W (.sl (l.map stepL) .no) v:=by
 have h1:v.cells=#[v]:=by
  unfold Value.okWide at hv
  rw[Tryz.underlying47]at hv
  simp only at hv
  unfold Cell.okWide at hv
  rw[Tryz.underlying47]at hv
  simp only at hv
  unfold Cell.ok at hv
  rw[Tryz.underlying47]at hv
  cases v<;>first|rfl|exact hv.elim
 obtain⟨fuel,h⟩:=h
 rw[h1]at h
 obtain⟨l,hl,hV,_⟩:=open_row (fun s:Stp=>stepC s) Tryz.underlying47 z51 (by omega) (fun _=>rfl) ⟨⟨⟨#[]⟩,[]⟩,0,[]⟩ (fun n cs x h=>open_step h) (show DataW.trod enc Tryz.prog W 0 (fun _=>true) hd fuel 47 [v]=some _ from h)
 exact⟨l,hl,hV⟩
end
theorem law_run8(l:List Clause)(bs:List Atom)(F:List Stp)(hF:F.length<2^63)(hb:∀c∈l,c.body.length<2^63)(hbl:bs.length<2^63)(W:World)(hW:laidMetH Tryz.prog Rows.customGrowsRow.laid W)(us:Array Value)(h0:us.size=3)
  (h1:VR (gOf W) W (clausesL l) (us.getD 0 undef)) (h2:VR (gOf W) W (.sl (bs.map atomL) .no) (us.getD 1 undef)) (h3:VR (gOf W) W (.sl (F.map stepL) .no) (us.getD 2 undef)):
  Calls Tryz.prog 5 us W fun e W'=>e=.returned (.bool true)/\Below W.heap.size W W':=by
 have hO:cP E0 F0 5 [clausesL l,.sl (bs.map atomL) .no,.sl (F.map stepL) .no] ⟨[],1⟩ (fun v _=>v=.bool true) (fun _ _=>False):=
  t_law8 t_sanity l bs F hb hbl hF [] 1 (fun i m l k n=>by simp[look]) fun _ _=>rfl
 have hC:CallOk Tryz.prog E0 5 [clausesL l,.sl (bs.map atomL) .no,.sl (F.map stepL) .no] ⟨[],1⟩ _:=sound hmixT fnsT (hO trivial)
 refine(hC.2 (gOf W) W us (gOf_inv W 1) (gOf_env W hW) ⟨h0,fun i x hi=>?_⟩).mono fun e W' hp=>?_
 ·match i,hi with
  |0,hi=>simp at hi;subst hi;exact h1
  |1,hi=>simp at hi;subst hi;exact h2
  |2,hi=>simp at hi;subst hi;exact h3
  |i+3,hi=>simp at hi
 ·cases e with
  |outgrown=>exact hp.elim
  |panicked ch=>
   obtain⟨_,_,_,_,hT,_⟩:=hp
   rcases hT with⟨_,_,he,_⟩|⟨_,_,he,_,hf⟩
   ·cases he
   ·exact hf.elim
  |returned u=>
   obtain⟨v,H',G',hT,hV,_,hx⟩:=hp
   rcases hT with⟨v',H'',he,_,hv⟩|⟨_,_,he,_⟩
   ·cases he
    subst hv
    obtain rfl:=hV.sc_inv
    exact⟨rfl,hx.os,hx.tape,hx.output,hx.size,fun k hk=>hx.block k (by simp[gOf,hk])⟩
   ·cases he
end Go.Abs.Tz
