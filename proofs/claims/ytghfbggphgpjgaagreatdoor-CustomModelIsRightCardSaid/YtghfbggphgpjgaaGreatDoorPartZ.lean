/- Part of the proof that the law CustomModelIsRight returns true for every input. Conditions: none. -/
import Derived.Test.YtghfbggphgpjgaaGreatDoorPartW
import Derived.Test.YtghfbggphgpjgaaGreatDoorPartV
import Derived.Test.YtghfbggphgpjgaaGreatDoorPartY
namespace Go.Abs.Tz
open Go Go.Abs Go.Proofs
theorem findB_inv{k:ByteArray}{E:Bind}{j:ByteArray}{u v:Term}(h:findB k (E++[(j,u)])=some v):findB k E=some v\/(findB k E=none/\k=j/\v=u):=by
 induction E with
 |nil=>
  simp only[List.nil_append,findB]at h
  split at h
  ·rename_i he
   cases h
   exact .inr ⟨rfl,eqBA_iff.1 he,rfl⟩
  ·cases h
 |cons e r ih=>
  obtain⟨i,w⟩:=e
  simp only[List.cons_append,findB]at h ⊢
  split at h
  ·rename_i he
   rw[if_pos he];exact .inl h
  ·rename_i he
   rw[if_neg he];exact ih h
theorem eqT_refl(t:Term):eqT t t=true:=by simp[eqT,eqBA_self]
theorem bindR_full{R:Bind}:∀(ps:List Term)(K:Bind),ExtB K R->BoundIn R ps->∃K',bindR K ps (ps.map (fillT R))=some K'/\ExtB K' R
 |[],K,hK,_=>⟨K,rfl,hK⟩
 |p::ps,K,hK,hb=>by
  have hb':BoundIn R ps:=fun t ht hk=>hb t (List.mem_cons_of_mem _ ht) hk
  rw[List.map_cons]
  simp only[bindR]
  by_cases hk:p.kind=3
  ·rw[if_pos hk]
   obtain⟨v,hv⟩:=Option.isSome_iff_exists.1 (hb p List.mem_cons_self hk)
   have hf:fillT R p=v:=by unfold fillT;rw[if_pos hk,hv];rfl
   rw[hf]
   cases ho:findB p.s K with
   |some old=>
    have:=hK _ _ ho
    rw[hv]at this
    cases this
    simp only[eqT_refl,if_true]
    exact bindR_full ps K hK hb'
   |none=>
    simp only
    refine bindR_full ps _ (fun k u hu=>?_) hb'
    rcases findB_inv hu with h|⟨_,rfl,rfl⟩
    ·exact hK _ _ h
    ·exact hv
  ·rw[if_neg hk]
   have hf:fillT R p=p:=by unfold fillT;rw[if_neg hk]
   rw[hf,eqT_refl,if_pos rfl]
   exact bindR_full ps K hK hb'
theorem bindKA_full{R K:Bind}{p:Atom}(hK:ExtB K R)(hb:BoundIn R p.args):∃K',bindKA K p (fillA R p)=some K'/\ExtB K' R:=by
 obtain⟨K',h1,h2⟩:=bindR_full p.args K hK hb
 refine⟨K',?_,h2⟩
 unfold bindKA fillA
 simp only[eqBA_self,List.length_map,decide_true,Bool.and_self,if_true]
 exact h1
theorem chain_full{S:Atom->Prop}(hS:∀a,S a->atomG a){R:Bind}:∀{ps:List Atom}{K:Bind},GoodB K->ExtB K R->(∀p∈ps,BoundIn R p.args/\S (fillA R p))->∃R',Chain S ps K R'/\ExtB R' R
 |[],K,_,hK,_=>⟨K,rfl,hK⟩
 |p::ps,K,gK,hK,h=>by
  obtain⟨h1,h2⟩:=h p List.mem_cons_self
  obtain⟨K',k1,k2⟩:=bindKA_full hK h1
  obtain⟨g1,_,_,_⟩:=bindKA_spec gK (hS _ h2) k1
  obtain⟨R',r1,r2⟩:=chain_full hS g1 k2 fun q hq=>h q (List.mem_cons_of_mem _ hq)
  exact⟨R',⟨fillA R p,K',h2,k1,r1⟩,r2⟩
theorem cmpLit_ext{K R:Bind}(h:ExtB K R){x:Lit}(hb:BoundIn K [x.a,x.b]):cmpLit R x=cmpLit K x:=by
 have e1:=fillT_ext h (hb x.a List.mem_cons_self)
 have e2:=fillT_ext h (hb x.b (List.mem_cons_of_mem _ List.mem_cons_self))
 unfold cmpLit
 rw[e1,e2]
theorem RestP.ext{S:Atom->Prop}{K R:Bind}(h:ExtB K R){b:List Lit}(h2:∀x∈b,x.kind=2->BoundIn K x.atom.args)(h3:∀x∈b,x.kind≠1->x.kind≠2->BoundIn K [x.a,x.b])(hr:RestP S R b):RestP S K b:=fun x hx=>by
 obtain⟨r1,r2⟩:=hr x hx
 refine⟨fun hk=>?_,fun k1 k2=>?_⟩
 ·rw[<-fillA_ext h (h2 x hx hk)];exact r1 hk
 ·rw[<-cmpLit_ext h (h3 x hx k1 k2)];exact r2 k1 k2
theorem headOf_iff{S:Atom->Prop}(hS:∀a,S a->atomG a){c:Clause}(hc:CGood c){h:Atom}:HeadOf S c h↔∃R,GoodB R/\(∀p∈posL c.body,BoundIn R p.args/\S (fillA R p))/\RestP S R c.body/\h=fillA R c.head:=by
 constructor
 ·rintro⟨R,h1,h2,h3⟩
  obtain⟨g1,_,g3,g4⟩:=chain_good hS .nil h1
  exact⟨R,g1,fun p hp=>⟨g3 p hp,g4 p hp⟩,h2,h3⟩
 ·rintro⟨R,h1,h2,h3,rfl⟩
  obtain⟨R',r1,r2⟩:=chain_full hS (K:=[]) .nil (fun k v h=>by cases h) h2
  obtain⟨g1,_,g3,_⟩:=chain_good hS .nil r1
  obtain⟨b1,b2,b3⟩:=hc.bound g3
  exact⟨R',r1,RestP.ext r2 b2 b3 h3,fillA_ext r2 b1⟩
structure SameC(c d:Clause):Prop where
 head:d.head=c.head
 len:d.body.length=c.body.length
 body:∀x,x∈d.body↔x∈c.body
theorem SameC.symm{c d:Clause}(h:SameC c d):SameC d c:=⟨h.head.symm,h.len.symm,fun x=>(h.body x).symm⟩
theorem SameC.good{c d:Clause}(h:SameC c d)(hc:CGood c):CGood d:=by
 obtain⟨h1,h2,h3⟩:=clause_parts hc.ok
 refine⟨?_,?_⟩
 ·unfold clauseOk
  rw[h.head,h.len,h1,List.all_eq_true.2 fun x hx=>h3 x ((h.body x).1 hx)]
  simpa using h2
 ·have hs:=hc.safe
  unfold safeB at hs ⊢
  rw[List.all_eq_true]at hs ⊢
  intro v hv
  rw[h.head]at hv ⊢
  rw[hasV_iff,litsV_1]
  have h4:v∈(litsV c.body ([],addVs c.head.args [])).2:=by
   rw[litsV_2]at hv ⊢
   rcases hv with hv|⟨x,hx,k⟩
   ·exact .inl hv
   ·exact .inr ⟨x,(h.body x).1 hx,k⟩
  have h5:=hs v h4
  rw[hasV_iff,litsV_1]at h5
  rcases h5 with h5|⟨x,hx,k⟩
  ·exact .inl h5
  ·exact .inr ⟨x,(h.body x).2 hx,k⟩
theorem SameC.posL{c d:Clause}(h:SameC c d)(p:Atom):p∈posL d.body->p∈posL c.body:=fun hp=>by
 obtain⟨x,hx,hk,rfl⟩:=posL_mem hp
 exact mem_posL ((h.body x).1 hx) hk
theorem SameC.headOf{c d:Clause}(h:SameC c d)(hc:CGood c){S:Atom->Prop}(hS:∀a,S a->atomG a){a:Atom}:HeadOf S c a->HeadOf S d a:=fun hh=>by
 obtain⟨R,h1,h2,h3,h4⟩:=(headOf_iff hS hc).1 hh
 exact(headOf_iff hS (h.good hc)).2 ⟨R,h1,fun p hp=>h2 p (h.posL p hp),fun x hx=>h3 x ((h.body x).1 hx),by rw[h.head];exact h4⟩
end Go.Abs.Tz
namespace Go.Abs.Tz
open Go Go.Abs Go.Proofs
structure SameL(l k:List Clause):Prop where
 to:∀c∈l,∃d∈k,SameC c d
 of:∀d∈k,∃c∈l,SameC c d
theorem SameL.symm{l k:List Clause}(h:SameL l k):SameL k l:=
 ⟨fun d hd=>by obtain⟨c,hc,hs⟩:=h.of d hd;exact⟨c,hc,hs.symm⟩,fun c hc=>by obtain⟨d,hd,hs⟩:=h.to c hc;exact⟨d,hd,hs.symm⟩⟩
theorem SameL.edge{l k:List Clause}(h:SameL l k){e:Edge PK}(he:e∈edgesOf l):e∈edgesOf k:=by
 obtain⟨c,hc,he⟩:=List.mem_flatMap.1 he
 obtain⟨x,hx,he⟩:=List.mem_filterMap.1 he
 obtain⟨d,hd,hs⟩:=h.to c hc
 refine List.mem_flatMap.2 ⟨d,hd,List.mem_filterMap.2 ⟨x,(hs.body x).2 hx,?_⟩⟩
 rw[hs.head];exact he
theorem SameL.sol{l k:List Clause}(h:SameL l k){g:PK->Nat}(hg:SolL (edgesOf l) g):SolL (edgesOf k) g:=fun e he=>hg e (h.symm.edge he)
theorem lev_same{l k:List Clause}(h:SameL l k){R R':Option (List (PK×Int))}(hR:LevC l R)(hR':LevC k R'):(R=none/\R'=none)\/∃m q,R=some m/\R'=some q/\LevOk l m/\LevOk k q/\∀x,pVal m x=pVal q x:=by
 cases R with
 |none=>
  cases R' with
  |none=>exact .inl ⟨rfl,rfl⟩
  |some q=>exact absurd ⟨_,h.symm.sol (hR'.2 q rfl).1.sol⟩ (hR.1 rfl)
 |some m=>
  obtain⟨a1,a2⟩:=hR.2 m rfl
  cases R' with
  |none=>exact absurd ⟨_,h.sol a1.sol⟩ (hR'.1 rfl)
  |some q=>
   obtain⟨b1,b2⟩:=hR'.2 q rfl
   refine .inr ⟨m,q,rfl,rfl,a1,b1,fun x=>?_⟩
   have h1:=a2 _ (h.symm.sol b1.sol) x
   have h2:=b2 _ (h.sol a1.sol) x
   have h3:=a1.nn x
   have h4:=b1.nn x
   unfold valN at h1 h2
   omega
theorem SameL.closed{l k:List Clause}(h:SameL l k)(hg:∀c∈l,CGood c){m q:List (PK×Int)}(hq:∀x,pVal m x=pVal q x){v:Int}{T:Atom->Prop}(hT:∀a,T a->atomG a)(hc:ClosedS l m v T):ClosedS k q v T:=fun d hd hv a ha=>by
 obtain⟨c,hcl,hs⟩:=h.of d hd
 refine hc c hcl ?_ a (hs.symm.headOf (hs.good (hg c hcl)) hT ha)
 rw[hq,<-hs.head];exact hv
def SameD(o p:Option (List Stp)):Prop:=match o,p with
 |none,none=>True
 |some F,some G=>F.length<=300/\G.length<=300/\NamesF F/\NamesF G/\(∀a∈atomsF F,atomG a)/\∀a,a∈atomsF F↔a∈atomsF G
 |_,_=>False
section
variable{l k:List Clause}{m q:List (PK×Int)}
theorem level_same2(h:SameL l k)(hm:LevOk l m)(hk:LevOk k q)(hg:∀c∈l,CGood c)(hq:∀x,pVal m x=pVal q x)(v:Int){F G:List Stp}(hs:SameD (some F) (some G)):SameD (levelD m v l 302 F) (levelD q v k 302 G):=by
 obtain⟨s1,s2,s3,s4,s5,s6⟩:=hs
 have hgk:∀c∈k,CGood c:=fun d hd=>by obtain⟨c,hc,hs⟩:=h.of d hd;exact hs.good (hg c hc)
 have e0:(fun a=>a∈atomsF G)=fun a=>a∈atomsF F:=funext fun a=>propext (s6 a).symm
 obtain⟨c1,c2⟩:=level_spec (v:=v) (S0:=(·∈atomsF F)) hm hg 302 (F:=F) (by omega) (.base s5) s3 s1
 obtain⟨d1,d2⟩:=level_spec (v:=v) (S0:=(·∈atomsF F)) hk hgk 302 (F:=G) (by omega) (by
  rw[e0]
  exact .base s5) s4 s2
 have lo1:∀{T:Atom->Prop},LowS m v (·∈atomsF F) T->LowS q v (·∈atomsF F) T:=fun h=>⟨h.sup,fun a ha hv=>h.low a ha (by rw[hq];exact hv),h.good⟩
 have lo2:∀{T:Atom->Prop},LowS q v (·∈atomsF F) T->LowS m v (·∈atomsF F) T:=fun h=>⟨h.sup,fun a ha hv=>h.low a ha (by rw[<-hq];exact hv),h.good⟩
 cases h1:levelD m v l 302 F with
 |none=>
  rw[h1]at c1
  obtain⟨L,l1,l2,l3⟩:=c1
  cases h2:levelD q v k 302 G with
  |none=>trivial
  |some G'=>
   rw[h2]at d1
   obtain⟨m1,m2,m3⟩:=d1
   have hcl:=h.symm.closed hgk (fun x=>(hq x).symm) m1.lo.good (d2 G' h2)
   have:=nodup_le l1 (b:=atomsF G') fun x hx=>l3.least _ (lo2 m1.lo) hcl x hx
   rw[List.length_map]at this
   omega
 |some F'=>
  rw[h1]at c1
  obtain⟨n1,n2,n3⟩:=c1
  have hcl:=h.closed hg hq n1.lo.good (c2 F' h1)
  cases h2:levelD q v k 302 G with
  |none=>
   rw[h2]at d1
   obtain⟨L,l1,l2,l3⟩:=d1
   have:=nodup_le l1 (b:=atomsF F') fun x hx=>l3.least _ (lo1 n1.lo) hcl x hx
   rw[List.length_map]at this
   omega
  |some G'=>
   rw[h2]at d1
   obtain⟨m1,m2,m3⟩:=d1
   have hcl2:=h.symm.closed hgk (fun x=>(hq x).symm) m1.lo.good (d2 G' h2)
   exact⟨n3,m3,n2,m2,n1.lo.good,fun a=>⟨n1.least _ (lo2 m1.lo) hcl2 a,m1.least _ (lo1 n1.lo) hcl a⟩⟩
theorem levels_same2(h:SameL l k)(hm:LevOk l m)(hk:LevOk k q)(hg:∀c∈l,CGood c)(hq:∀x,pVal m x=pVal q x):∀(i j w:Nat),(∀c∈l,pVal m (ofA c.head)<(w+i:Nat))->(∀c∈k,pVal q (ofA c.head)<(w+j:Nat))->∀{F G:List Stp},SameD (some F) (some G)->SameD (levelsD m l i w F) (levelsD q k j w G)
 |0,j,w,h1,h2,F,G,hs=>by
  have hlk:∀c∈k,pVal q (ofA c.head)<(w:Int):=fun d hd=>by
   obtain⟨c,hc,hs⟩:=h.of d hd
   rw[hs.head,<-hq]
   simpa using h1 c hc
  rw[levels_id j w hlk]
  exact hs
 |i+1,0,w,h1,h2,F,G,hs=>by
  have hll:∀c∈l,pVal m (ofA c.head)<(w:Int):=fun c hc=>by
   obtain⟨d,hd,hs⟩:=h.to c hc
   rw[<-hs.head,hq]
   simpa using h2 d hd
  rw[levels_id (i+1) w hll]
  exact hs
 |i+1,j+1,w,h1,h2,F,G,hs=>by
  unfold levelsD
  have h3:=level_same2 h hm hk hg hq w hs
  cases e1:levelD m w l 302 F with
  |none=>
   cases e2:levelD q w k 302 G with
   |none=>trivial
   |some G'=>rw[e1,e2]at h3;exact h3.elim
  |some F'=>
   cases e2:levelD q w k 302 G with
   |none=>rw[e1,e2]at h3;exact h3.elim
   |some G'=>
    rw[e1,e2]at h3
    exact levels_same2 h hm hk hg hq i j (w+1) (fun c hc=>by have:=h1 c hc;omega) (fun c hc=>by have:=h2 c hc;omega) h3
end
theorem base_same{base bs:List Atom}(hb:∀a∈base,atomG a)(hs:∀a,a∈bs↔a∈base)(h1:base.length<=300)(h2:bs.length<=300):SameD (some (baseD base)) (some (baseD bs)):=by
 have key:∀{b:List Atom},(∀a∈b,atomG a)->b.length<=300->(baseD b).length<=300/\NamesF (baseD b)/\∀a,a∈atomsF (baseD b)↔a∈b:=fun{b} hb hl=>by
  have hS:∀s∈b.map (fun a=>(⟨a,-1,[]⟩:Stp)),atomOk s.atom=true:=fun s hs=>by
   obtain⟨a,ha,rfl⟩:=List.mem_map.1 hs
   exact(hb a ha).1
  obtain⟨a1,a2⟩:=addFs_has (b.map fun a=>(⟨a,-1,[]⟩:Stp)) [] (fun s hs=>by cases hs) hS .nil
  have hl1:=(addFs_len (b.map fun a=>(⟨a,-1,[]⟩:Stp)) []).2
  refine⟨?_,a1,fun a=>?_⟩
  ·rw[List.length_map,List.length_nil]at hl1
   unfold baseD
   omega
  ·rw[show atomsF (baseD b)=atomsF ((b.map fun a=>(⟨a,-1,[]⟩:Stp)).foldl addF []) from rfl,a2 a]
   simp[atomsF,Function.comp_def]
 obtain⟨p1,p2,p3⟩:=key hb h1
 obtain⟨q1,q2,q3⟩:=key (fun a ha=>hb a ((hs a).1 ha)) h2
 exact⟨p1,q1,p2,q2,fun a ha=>hb a ((p3 a).1 ha),fun a=>by rw[p3,q3,hs]⟩
end Go.Abs.Tz
namespace Go.Abs.Tz
open Go Go.Abs Go.Proofs
theorem bindKA_ofA{K R:Bind}{p a:Atom}(h:bindKA K p a=some R):ofA a=ofA p:=by
 unfold bindKA at h
 split at h
 ·rename_i hc
  simp only[Bool.and_eq_true,decide_eq_true_eq]at hc
  unfold ofA
  rw[<-eqBA_iff.1 hc.1,hc.2]
 ·cases h
theorem Chain.mono2{S T:Atom->Prop}:∀{ps:List Atom}{K R:Bind},(∀p∈ps,∀a,S a->ofA a=ofA p->T a)->Chain S ps K R->Chain T ps K R
 |[],_,_,_,hc=>hc
 |p::ps,_,_,h,⟨a,K',h1,h2,h3⟩=>⟨a,K',h p List.mem_cons_self a h1 (bindKA_ofA h2),h2,Chain.mono2 (fun q hq=>h q (List.mem_cons_of_mem _ hq)) h3⟩
structure RelC(l k:List Clause)(Q:PK->Prop):Prop where
 sub:∀c∈k,c∈l
 all:∀c∈l,Q (ofA c.head)->c∈k
 inQ:∀c∈k,Q (ofA c.head)
 body:∀c∈k,∀x∈c.body,x.kind=1\/x.kind=2->Q (ofA x.atom)
section
variable{l k:List Clause}{Q:PK->Prop}{m q:List (PK×Int)}
structure RelD(Q:PK->Prop)(F G:List Stp):Prop where
 lf:F.length<=300
 lg:G.length<=300
 nf:NamesF F
 ng:NamesF G
 good:∀a∈atomsF F,atomG a
 sub:∀a∈atomsF G,a∈atomsF F
 eq:∀a∈atomsF F,Q (ofA a)->a∈atomsF G
end
end Go.Abs.Tz
namespace Go.Abs.Tz
open Go Go.Abs Go.Proofs
structure StepsOk(l:List Clause)(base:List Atom)(F:List Stp):Prop where
 good:∀a∈atomsF F,atomG a
 names:NamesF F
 len:F.length<=300
 der:∀(i:Nat)(s:Stp),F[i]? = some s->s.atom∈base\/∃c∈l,∃R,Chain (fun a=>∃(j:Nat)(t:Stp),j<i/\F[j]? = some t/\t.atom=a) (posL c.body) [] R/\RestP (·∈atomsF F) R c.body/\s.atom=fillA R c.head
 base:∀a∈base,a∈atomsF F
 closed:∀c∈l,∀h,HeadOf (·∈atomsF F) c h->h∈atomsF F
section
variable{l:List Clause}{m:List (PK×Int)}{base:List Atom}{F:List Stp}
structure StIn(m:List (PK×Int))(base:List Atom)(F:List Stp)(w:Int)(G:List Stp):Prop where
 names:NamesF G
 len:G.length<=300
 sub:∀a∈atomsF G,a∈atomsF F
 low:∀a∈atomsF F,pVal m (ofA a)<w->a∈atomsF G
 base:∀a∈base,a∈atomsF G
theorem level_steps(hm:LevOk l m)(hg:∀c∈l,CGood c)(hF:StepsOk l base F)(v:Int){G:List Stp}(hs:StIn m base F v G):∃G',levelD m v l 302 G=some G'/\StIn m base F (v+1) G':=by
 obtain⟨c1,c2⟩:=level_spec (v:=v) (S0:=(·∈atomsF G)) hm hg 302 (F:=G) (by have:=hs.len;omega) (.base fun a ha=>hF.good a (hs.sub a ha)) hs.names hs.len
 have hT:LowS m v (·∈atomsF G) (·∈atomsF F):=⟨hs.sub,hs.low,hF.good⟩
 have hTc:ClosedS l m v (·∈atomsF F):=fun c hc _=>hF.closed c hc
 cases hG:levelD m v l 302 G with
 |none=>
  rw[hG]at c1
  obtain⟨L,l1,l2,l3⟩:=c1
  have:=nodup_le l1 (b:=atomsF F) fun x hx=>l3.least _ hT hTc x hx
  rw[List.length_map]at this
  have:=hF.len
  omega
 |some G'=>
  rw[hG]at c1
  obtain⟨n1,n2,n3⟩:=c1
  have hcl:=c2 G' hG
  have hsub:∀a∈atomsF G',a∈atomsF F:=n1.least _ hT hTc
  refine⟨G',rfl,n2,n3,hsub,?_,fun a ha=>n1.lo.sup a (hs.base a ha)⟩
  have key:∀(n i:Nat)(s:Stp),i<n->F[i]? = some s->pVal m (ofA s.atom)<v+1->s.atom∈atomsF G':=by
   intro n
   induction n with
   |zero=>intro i s h;omega
   |succ n ih=>
    intro i s hi hfi hv
    by_cases hlt:pVal m (ofA s.atom)<v
    ·exact n1.lo.sup _ (hs.low _ (List.mem_map.2 ⟨s,List.mem_iff_getElem?.2 ⟨i,hfi⟩,rfl⟩) hlt)
    rcases hF.der i s hfi with h|⟨c,hc,R,h1,h2,h3⟩
    ·exact n1.lo.sup _ (hs.base _ h)
    ·have hh:ofA s.atom=ofA c.head:=by rw[h3,ofA_fill]
     have hv2:pVal m (ofA c.head)=v:=by rw[<-hh];omega
     refine hcl c hc hv2 _ ⟨R,Chain.mono2 (fun p hp a ⟨j,t,hj,hjt,hta⟩ hoa=>?_) h1,fun x hx=>⟨fun hk hf=>(h2 x hx).1 hk (hsub _ hf),(h2 x hx).2⟩,h3⟩
     obtain⟨x,hx,hxk,rfl⟩:=posL_mem hp
     have hle:=(hm.lits hc hx).1 hxk
     have:=ih j t (by omega) hjt (by rw[hta,hoa];omega)
     rw[hta]at this
     exact this
  intro a ha hv
  obtain⟨s,hs2,rfl⟩:=List.mem_map.1 ha
  obtain⟨i,hi⟩:=List.mem_iff_getElem?.1 hs2
  exact key (i+1) i s (Nat.lt_succ_self _) hi hv
theorem levels_steps(hm:LevOk l m)(hg:∀c∈l,CGood c)(hF:StepsOk l base F):∀(i w:Nat){G:List Stp},StIn m base F w G->∃G',levelsD m l i w G=some G'/\StIn m base F (w+i:Nat) G'
 |0,w,G,hs=>⟨G,rfl,by simpa using hs⟩
 |i+1,w,G,hs=>by
  obtain⟨G1,g1,g2⟩:=level_steps hm hg hF w hs
  obtain⟨G2,k1,k2⟩:=levels_steps hm hg hF i (w+1) (G:=G1) (by
   have e:((w+1:Nat):Int)=(w:Int)+1:=by omega
   rw[e];exact g2)
  refine⟨G2,?_,?_⟩
  ·unfold levelsD
   rw[g1]
   exact k1
  ·have e:w+(i+1)=w+1+i:=by omega
   rw[e];exact k2
end
theorem steps_model{l:List Clause}{base:List Atom}(hc:(checkB l).1=0)(hb:∀a∈base,atomG a)(hbl:base.length<=100){m:List (PK×Int)}(hm:LevOk l m){F:List Stp}(hF:StepsOk l base F):
  modelE l (some m) base=0/\(modelF l (some m) base).length=F.length/\∀a,a∈atomsF (modelF l (some m) base)↔a∈atomsF F:=by
 have hg:=check_good hc
 obtain⟨b1,b2,b3,b4,b5,b6⟩:=base_same hb (bs:=base) (fun a=>.rfl) (by omega) (by omega)
 have hbase:∀a,a∈atomsF (baseD base)↔a∈base:=by
  have hS:∀s∈base.map (fun a=>(⟨a,-1,[]⟩:Stp)),atomOk s.atom=true:=fun s hs=>by
   obtain⟨a,ha,rfl⟩:=List.mem_map.1 hs
   exact(hb a ha).1
  obtain⟨a1,a2⟩:=addFs_has (base.map fun a=>(⟨a,-1,[]⟩:Stp)) [] (fun s hs=>by cases hs) hS .nil
  intro a
  rw[show atomsF (baseD base)=atomsF ((base.map fun a=>(⟨a,-1,[]⟩:Stp)).foldl addF []) from rfl,a2 a]
  simp[atomsF,Function.comp_def]
 have hmx:=hm.max
 obtain⟨M,k1,k2⟩:=levels_steps hm hg hF ((maxI 0 (m.map (·.2))).toNat+1) 0 (G:=baseD base) ⟨b3,b1,fun a ha=>hF.base a ((hbase a).1 ha),fun a _ hv=>by
  have:=hm.nn (ofA a)
  omega,fun a ha=>(hbase a).2 ha⟩
 have hd:derivedD m l base=some M:=k1
 have eM:modelF l (some m) base=M:=by unfold modelF;simp[hd]
 have hall:∀a∈atomsF F,a∈atomsF M:=fun a ha=>by
  obtain⟨s,hs,rfl⟩:=List.mem_map.1 ha
  obtain⟨i,hi⟩:=List.mem_iff_getElem?.1 hs
  rcases hF.der i s hi with h|⟨c,hcl,R,_,_,h3⟩
  ·exact k2.base _ h
  ·refine k2.low _ ha ?_
   have:=hmx.2.2 _ (hm.has c hcl (ofA c.head) (by simp[predC]))
   rw[h3,ofA_fill]
   omega
 refine⟨?_,?_,fun a=>by rw[eM];exact⟨k2.sub a,hall a⟩⟩
 ·have hbe:basedE l (some m) base=0:=by
   unfold basedE
   rw[if_neg (by omega),if_neg (by simp),if_neg (by omega),List.all_eq_true.2 fun a ha=>baseOk_iff.2 (hb a ha)]
   rfl
  unfold modelE
  rw[hbe]
  simp[hd]
 ·rw[eM]
  have h1:=nodup_le k2.names.nodup k2.sub
  have h2:=nodup_le hF.names.nodup hall
  rw[List.length_map,List.length_map]at h1 h2
  omega
end Go.Abs.Tz
namespace Go.Abs.Tz
open Go Go.Abs Go.Proofs
theorem ChainI.mono{F G:List Stp}(h:∀(j:Nat) (s:Stp),F[j]? = some s->G[j]? = some s):∀{ps:List Atom}{K:Bind}{js:List Int}{R:Bind},ChainI F ps K js R->ChainI G ps K js R
 |[],_,_,_,hc=>hc
 |_::_,_,_,_,⟨j,s,K',js',h1,h2,h3,h4⟩=>⟨j,s,K',js',h j s h1,h2,h3,ChainI.mono h h4⟩
def DerS(l:List Clause)(base:List Atom)(m:List (PK×Int))(v:Int)(F:List Stp)(i:Nat)(s:Stp):Prop:=
 (s.cl=-1/\s.frm=[]/\s.atom∈base)\/∃(k:Nat)(c:Clause)(R:Bind),s.cl=(k:Int)/\l[k]? = some c/\pVal m (ofA c.head)<=v/\ChainI (F.take i) (posL c.body) [] s.frm R/\RestP (·∈atomsF F) R c.body/\s.atom=fillA R c.head
def DerI(l:List Clause)(base:List Atom)(m:List (PK×Int))(v:Int)(F:List Stp):Prop:=∀(i:Nat)(s:Stp),F[i]? = some s->DerS l base m v F i s
theorem clauseD_der{c:Clause}(hg:CGood c){F:List Stp}(hF:∀a,a∈atomsF F->atomG a)(i:Int):∀s∈clauseD F c i,s.cl=i/\∃R,ChainI F (posL c.body) [] s.frm R/\RestP (·∈atomsF F) R c.body/\s.atom=fillA R c.head:=by
 intro s hs
 have hFs:∀s∈F,atomG s.atom:=fun s hs=>hF _ (List.mem_map.2 ⟨s,hs,rfl⟩)
 have hS:∀a,SetF F a->atomG a:=fun a ⟨s,hs,e⟩=>e▸hFs s hs
 have e:clauseD F c i=(headsI F c i).foldl (freshF F) []:=by
  unfold clauseD
  rw[foldI_fresh]
  rfl
 rw[e]at hs
 obtain⟨X,hX,hX2⟩:=fresh_pre F (headsI F c i) []
 rw[hX]at hs
 obtain⟨x,hx,rfl⟩:=List.mem_map.1 (hX2 s (by simpa using hs))
 obtain⟨js,h1,h2,h3⟩:=mem_insts.1 hx
 obtain⟨g1,_,g3,_⟩:=chain_good hS .nil (chain_of h1)
 refine⟨rfl,x.1,?_,?_,rfl⟩
 ·show ChainI F _ [] x.2 x.1
  rw[h3]
  simpa using h1
 ·rw[<-setF_mem]
  exact(restOk_iff (fun s hs=>(hFs s hs).1) fun y hy hk=>((hg.leaf g1 g3).1 y hy hk).1).1 h2
section
variable{l:List Clause}{m:List (PK×Int)}{base:List Atom}{v:Int}
theorem round_der(hm:LevOk l m)(hg:∀c∈l,CGood c):∀(r:List Clause)(i:Nat),l.drop i=r->∀{F F':List Stp},(∀a∈atomsF F,atomG a)->DerI l base m v F->roundD m v r i F=some F'->DerI l base m v F'/\∀a∈atomsF F',atomG a
 |[],_,_,F,F',h1,h2,h=>by
  cases h
  exact⟨h2,h1⟩
 |c::r,i,hd,F,F',h1,h2,h=>by
  have hi:i<l.length:=by
   rcases Nat.lt_or_ge i l.length with h|h
   ·exact h
   ·rw[List.drop_eq_nil_of_le h]at hd;cases hd
  rw[List.drop_eq_getElem_cons hi]at hd
  have hd1:l[i]=c:=by injection hd
  have hd2:l.drop (i+1)=r:=by injection hd
  have hc:c∈l:=hd1▸List.getElem_mem hi
  have hget:l[i]? = some c:=by rw[List.getElem?_eq_getElem hi,hd1]
  unfold roundD at h
  by_cases hv:pVal m (ofA c.head)=v
  ·rw[if_pos hv]at h
   obtain⟨c1,c2,c3,c4⟩:=clauseD_spec (hg c hc) (F:=F) h1 i
   have hder:=clauseD_der (hg c hc) (F:=F) h1 i
   rw[c1]at h
   obtain⟨X,hX⟩:∃X,clauseD F c i=X:=⟨_,rfl⟩
   rw[hX]at h c3 hder
   have hXv:∀s∈X,pVal m (ofA s.atom)=v/\atomG s.atom:=fun s hs=>by
    obtain⟨R,k1,k2,k3⟩:=c3 s hs
    refine⟨by rw[k3,ofA_fill];exact hv,?_⟩
    exact HeadOf.good (S:=(·∈atomsF F)) h1 (hg c hc) ⟨R,k1,k2,k3⟩
   have rest:∀(d:Clause)(R:Bind),d∈l->pVal m (ofA d.head)<=v->RestP (·∈atomsF F) R d.body->RestP (·∈atomsF (F++X)) R d.body:=fun d R hd hdv hr x hx=>by
    refine⟨fun hk hf=>?_,(hr x hx).2⟩
    obtain⟨s,hs,hse⟩:=List.mem_map.1 hf
    rcases List.mem_append.1 hs with hs|hs
    ·exact(hr x hx).1 hk (List.mem_map.2 ⟨s,hs,hse⟩)
    ·have h3:=(hXv s hs).1
     have h4:=(hm.lits hd hx).2 hk
     rw[hse,ofA_fill]at h3
     omega
   by_cases h300:300<(F++X).length
   ·rw[if_pos h300]at h;cases h
   rw[if_neg h300]at h
   refine round_der hm hg r (i+1) hd2 (fun a ha=>?_) (fun j s hj=>?_) h
   ·obtain⟨s,hs,rfl⟩:=List.mem_map.1 ha
    rcases List.mem_append.1 hs with hs|hs
    ·exact h1 _ (List.mem_map.2 ⟨s,hs,rfl⟩)
    ·exact(hXv s hs).2
   ·rcases Nat.lt_or_ge j F.length with hjl|hjl
    ·rw[List.getElem?_append_left hjl]at hj
     rcases h2 j s hj with h|⟨k,d,R,k1,k2,k3,k4,k5,k6⟩
     ·exact .inl h
     ·refine .inr ⟨k,d,R,k1,k2,k3,?_,rest d R (List.mem_iff_getElem?.2 ⟨k,k2⟩) k3 k5,k6⟩
      rw[List.take_append_of_le_length (by omega)]
      exact k4
    ·rw[List.getElem?_append_right hjl]at hj
     have hsX:s∈X:=List.mem_iff_getElem?.2 ⟨_,hj⟩
     obtain⟨d1,R,d2,d3,d4⟩:=hder s hsX
     refine .inr ⟨i,c,R,d1,hget,by omega,ChainI.mono (fun a t hat=>?_) d2,rest c R hc (by omega) d3,d4⟩
     have hal:a<F.length:=(List.getElem?_eq_some_iff.1 hat).1
     rw[List.getElem?_take,if_pos (by omega),List.getElem?_append_left hal]
     exact hat
  ·rw[if_neg hv]at h
   exact round_der hm hg r (i+1) hd2 h1 h2 h
theorem level_der(hm:LevOk l m)(hg:∀c∈l,CGood c):∀(k:Nat){F F':List Stp},(∀a∈atomsF F,atomG a)->DerI l base m v F->levelD m v l k F=some F'->DerI l base m v F'/\∀a∈atomsF F',atomG a
 |0,_,_,_,_,h=>by cases h
 |k+1,F,F',h1,h2,h=>by
  unfold levelD at h
  cases hr:roundD m v l 0 F with
  |none=>rw[hr]at h;cases h
  |some F2=>
   rw[hr]at h
   dsimp only at h
   obtain⟨g1,g2⟩:=round_der hm hg l 0 rfl h1 h2 hr
   by_cases he:F2.length=F.length
   ·rw[if_pos he]at h
    cases h
    exact⟨g1,g2⟩
   ·rw[if_neg he]at h
    exact level_der hm hg k g2 g1 h
end
theorem DerI.le{l:List Clause}{base:List Atom}{m:List (PK×Int)}{v w:Int}{F:List Stp}(h:DerI l base m v F)(hw:v<=w):DerI l base m w F:=fun i s hi=>by
 rcases h i s hi with h|⟨k,c,R,k1,k2,k3,k4⟩
 ·exact .inl h
 ·exact .inr ⟨k,c,R,k1,k2,by omega,k4⟩
theorem levels_der{l:List Clause}{base:List Atom}{m:List (PK×Int)}(hm:LevOk l m)(hg:∀c∈l,CGood c):∀(k w:Nat){F F':List Stp},(∀a∈atomsF F,atomG a)->DerI l base m w F->levelsD m l k w F=some F'->DerI l base m (w+k:Nat) F'/\∀a∈atomsF F',atomG a
 |0,w,_,_,h1,h2,h=>by
  cases h
  exact⟨h2.le (by omega),h1⟩
 |k+1,w,F,F',h1,h2,h=>by
  unfold levelsD at h
  cases hr:levelD m w l 302 F with
  |none=>rw[hr]at h;cases h
  |some F2=>
   rw[hr]at h
   obtain⟨g1,g2⟩:=level_der hm hg 302 h1 h2 hr
   obtain⟨j1,j2⟩:=levels_der hm hg k (w+1) g2 (g1.le (by omega)) h
   exact⟨j1.le (by omega),j2⟩
theorem addFs_mem:∀(S F:List Stp){q:Stp},q∈S.foldl addF F->q∈F\/q∈S
 |[],F,q,h=>.inl h
 |s::S,F,q,h=>by
  rw[List.foldl_cons]at h
  rcases addFs_mem S _ h with h|h
  ·rcases addF_mem h with h|rfl
   ·exact .inl h
   ·exact .inr List.mem_cons_self
  ·exact .inr (List.mem_cons_of_mem _ h)
theorem derived_der{l:List Clause}{base:List Atom}{m:List (PK×Int)}(hc:(checkB l).1=0)(hm:LevOk l m)(hb:∀a∈base,atomG a){F:List Stp}(h:derivedD m l base=some F):∃v,DerI l base m v F:=by
 unfold derivedD at h
 have key:∀s∈baseD base,s.cl=-1/\s.frm=[]/\s.atom∈base:=fun s hs=>by
  rcases addFs_mem _ _ hs with h|h
  ·cases h
  ·obtain⟨a,ha,rfl⟩:=List.mem_map.1 h
   exact⟨rfl,rfl,ha⟩
 obtain⟨g1,_⟩:=levels_der (base:=base) hm (check_good hc) _ 0 (F:=baseD base) (fun a ha=>by
  obtain⟨s,hs,rfl⟩:=List.mem_map.1 ha
  exact hb _ (key s hs).2.2) (fun i s hi=>.inl (key s (List.mem_iff_getElem?.2 ⟨i,hi⟩))) h
 exact⟨_,g1⟩
end Go.Abs.Tz
namespace Go.Abs.Tz
open Go Go.Abs Go.Proofs
def chainB(F:List Stp)(i:Nat):List Lit->Bind->List Int->Option Bind
 |[],K,js=>if js=[] then some K else none
 |x::r,K,js=>if x.kind=1 then match js with
   |[]=>none
   |j::js=>if 0<=j/\j<i then match F[j.toNat]? with
     |none=>none
     |some t=>match bindKA K x.atom t.atom with
      |none=>none
      |some R=>chainB F i r R js
    else none
  else chainB F i r K js
def endB(F:List Stp)(c:Clause)(s:Stp):Option Bind->Bool
 |none=>false
 |some R=>decide (cmpA (fillA R c.head) s.atom=0)&&restOk F R c.body
def derB(l:List Clause)(F:List Stp)(i:Nat)(s:Stp):Bool:=if 0<=s.cl/\s.cl<l.length then match l[s.cl.toNat]? with
  |none=>false
  |some c=>endB F c s (chainB F i c.body [] s.frm)
 else false
def dersB(l:List Clause)(base:List Atom)(F:List Stp):Nat->List Stp->Bool
 |_,[]=>true
 |i,s::r=>((decide (s.cl=-1)&&(decide (s.frm=[])&&hasF (atomX s.atom) (baseD base)))||derB l F i s)&&dersB l base F (i+1) r
def formB:List Stp->List Stp->Bool
 |_,[]=>true
 |D,s::r=>baseOk s.atom&&(!hasF (atomX s.atom) D&&formB (D++[s]) r)
def closB(F:List Stp)(c:Clause)(b:Bool):Bool:=foldI (fun b a _=>b&&hasF (atomX a) F) c (insts F c (posL c.body) [] []) b
def stepsB(l:List Clause)(base:List Atom)(F:List Stp):Bool:=
 formB [] F&&(dersB l base F 0 F&&((baseD base).all (fun s=>hasF (atomX s.atom) F)&&l.foldl (fun b c=>closB F c b) true))
theorem chainB_chain{F:List Stp}{i:Nat}:∀{b:List Lit}{K:Bind}{js:List Int}{R:Bind},chainB F i b K js=some R->Chain (fun a=>∃(j:Nat)(t:Stp),j<i/\F[j]? = some t/\t.atom=a) (posL b) K R
 |[],K,js,R,h=>by
  unfold chainB at h
  split at h
  ·cases h;rfl
  ·cases h
 |x::r,K,js,R,h=>by
  unfold chainB at h
  rw[posL_cons]
  by_cases hk:x.kind=1
  ·rw[if_pos hk]at h ⊢
   cases js with
   |nil=>cases h
   |cons j js=>
    simp only at h
    split at h
    case isFalse=>cases h
    case isTrue hj=>
     cases ht:F[j.toNat]? with
     |none=>rw[ht]at h;cases h
     |some t=>
      rw[ht]at h
      simp only at h
      cases hb:bindKA K x.atom t.atom with
      |none=>rw[hb]at h;cases h
      |some Q=>
       rw[hb]at h
       exact⟨t.atom,Q,⟨j.toNat,t,by omega,ht,rfl⟩,hb,chainB_chain h⟩
  ·rw[if_neg hk]at h ⊢
   exact chainB_chain h
theorem setF_eq(F:List Stp):SetF F=fun a=>a∈atomsF F:=funext fun a=>propext ⟨fun⟨s,hs,e⟩=>List.mem_map.2 ⟨s,hs,e⟩,fun h=>by
 obtain⟨s,hs,e⟩:=List.mem_map.1 h
 exact⟨s,hs,e⟩⟩
theorem derB_law{l:List Clause}(hg:∀c∈l,CGood c){F:List Stp}(hF:∀s∈F,atomG s.atom){i:Nat}{s:Stp}(h:derB l F i s=true):
  ∃c∈l,∃R,Chain (fun a=>∃(j:Nat)(t:Stp),j<i/\F[j]? = some t/\t.atom=a) (posL c.body) [] R/\RestP (·∈atomsF F) R c.body/\s.atom=fillA R c.head:=by
 unfold derB at h
 split at h
 case isFalse=>cases h
 cases hc:l[s.cl.toNat]? with
 |none=>rw[hc]at h;cases h
 |some c=>
  rw[hc]at h
  simp only at h
  cases hR:chainB F i c.body [] s.frm with
  |none=>rw[hR]at h;exact absurd h (by simp[endB])
  |some R=>
   rw[hR]at h
   unfold endB at h
   simp only[Bool.and_eq_true,decide_eq_true_iff]at h
   have hcl:c∈l:=List.mem_iff_getElem?.2 ⟨_,hc⟩
   have hch:=chainB_chain hR
   have hS:∀a,(∃(j:Nat)(t:Stp),j<i/\F[j]? = some t/\t.atom=a)->atomG a:=fun a ⟨j,t,_,h2,h3⟩=>h3▸hF t (List.mem_iff_getElem?.2 ⟨_,h2⟩)
   obtain⟨g1,_,g3,_⟩:=chain_good hS .nil hch
   obtain⟨k1,k2⟩:=(hg c hcl).leaf g1 g3
   refine⟨c,hcl,R,hch,?_,(cmpA_L.zero.1 h.1).symm⟩
   have:=(restOk_iff (fun s hs=>(hF s hs).1) fun x hx hk=>(k1 x hx hk).1).1 h.2
   rw[setF_eq]at this
   exact this
theorem formB_law:∀{D F:List Stp},formB D F=true->(∀s∈F,atomG s.atom)/\(NamesF D->NamesF (D++F))
 |D,[],_=>⟨fun s hs=>(by cases hs),fun h=>by simpa using h⟩
 |D,s::r,h=>by
  unfold formB at h
  simp only[Bool.and_eq_true,Bool.not_eq_true']at h
  obtain⟨h1,h2,h3⟩:=h
  obtain⟨g1,g2⟩:=formB_law h3
  refine⟨fun q hq=>?_,fun hD=>?_⟩
  ·rcases List.mem_cons.1 hq with rfl|hq
   ·exact baseOk_iff.1 h1
   ·exact g1 q hq
  ·have:=g2 (by
    unfold NamesF at hD ⊢
    rw[List.map_append,List.nodup_append]
    refine⟨hD,by simp,fun a ha b hb=>?_⟩
    simp only[List.map_cons,List.map_nil,List.mem_singleton]at hb
    subst hb
    rintro rfl
    obtain⟨q,hq,e⟩:=List.mem_map.1 ha
    have:hasF (atomX s.atom) D=true:=hasF_iff.2 ⟨q,hq,e⟩
    rw[h2]at this
    cases this)
   rwa [List.append_assoc]at this
theorem dersB_law{l:List Clause}{base:List Atom}{F:List Stp}:∀{r:List Stp}{i:Nat},dersB l base F i r=true->∀(k:Nat)(s:Stp),r[k]? = some s->(s.cl=-1/\s.frm=[]/\hasF (atomX s.atom) (baseD base)=true)\/derB l F (i+k) s=true
 |[],_,_,k,s,hs=>by simp at hs
 |q::r,i,h,k,s,hs=>by
  unfold dersB at h
  simp only[Bool.and_eq_true,Bool.or_eq_true,decide_eq_true_iff]at h
  obtain⟨h1,h2⟩:=h
  cases k with
  |zero=>
   simp only[List.getElem?_cons_zero,Option.some.injEq]at hs
   subst hs
   exact h1
  |succ k=>
   have:=dersB_law h2 k s (by simpa using hs)
   rwa [show i+1+k=i+(k+1) by omega]at this
theorem closB_and{F:List Stp}{c:Clause}:∀(L:List (Bind×List Int))(b:Bool),foldI (fun b a _=>b&&hasF (atomX a) F) c L b=true↔b=true/\∀x∈L,hasF (atomX (fillA x.1 c.head)) F=true
 |[],b=>by simp[foldI]
 |x::L,b=>by
  have ih:=closB_and (F:=F) (c:=c) L (b&&hasF (atomX (fillA x.1 c.head)) F)
  rw[show foldI (fun b a _=>b&&hasF (atomX a) F) c (x::L) b=foldI (fun b a _=>b&&hasF (atomX a) F) c L (b&&hasF (atomX (fillA x.1 c.head)) F) from rfl,ih,Bool.and_eq_true,List.forall_mem_cons,and_assoc]
theorem clos_all{F:List Stp}:∀(l:List Clause)(b:Bool),l.foldl (fun b c=>closB F c b) b=true↔b=true/\∀c∈l,∀x∈insts F c (posL c.body) [] [],hasF (atomX (fillA x.1 c.head)) F=true
 |[],b=>by simp
 |c::l,b=>by
  rw[List.foldl_cons,clos_all l,show closB F c b=foldI (fun b a _=>b&&hasF (atomX a) F) c (insts F c (posL c.body) [] []) b from rfl,closB_and,List.forall_mem_cons,and_assoc]
theorem stepsOk_of{l:List Clause}(hg:∀c∈l,CGood c){base:List Atom}(hb:∀a∈base,atomG a){F:List Stp}(hl:F.length<=300)(h:stepsB l base F=true):StepsOk l base F:=by
 unfold stepsB at h
 simp only[Bool.and_eq_true,List.all_eq_true]at h
 obtain⟨h1,h2,h3,h4⟩:=h
 obtain⟨g1,g2⟩:=formB_law h1
 have hok:∀s∈F,atomOk s.atom=true:=fun s hs=>(g1 s hs).1
 have hgood:∀a∈atomsF F,atomG a:=fun a ha=>by
  obtain⟨s,hs,rfl⟩:=List.mem_map.1 ha
  exact g1 s hs
 obtain⟨a1,a2⟩:=addFs_has (base.map fun a=>(⟨a,-1,[]⟩:Stp)) [] (fun s hs=>by cases hs) (fun s hs=>by
  obtain⟨a,ha,rfl⟩:=List.mem_map.1 hs
  exact(hb a ha).1) .nil
 have hbase:∀a,a∈atomsF (baseD base)↔a∈base:=by
  intro a
  rw[show atomsF (baseD base)=atomsF ((base.map fun a=>(⟨a,-1,[]⟩:Stp)).foldl addF []) from rfl,a2 a]
  simp[atomsF,Function.comp_def]
 have hbok:∀s∈baseD base,atomOk s.atom=true:=fun s hs=>(hb _ ((hbase _).1 (List.mem_map.2 ⟨s,hs,rfl⟩))).1
 refine⟨hgood,g2 .nil,hl,fun i s hs=>?_,fun a ha=>?_,fun c hc h hh=>?_⟩
 ·have hsF:s∈F:=List.mem_iff_getElem?.2 ⟨i,hs⟩
  rcases dersB_law h2 i s hs with⟨_,_,k⟩|k
  ·left
   rw[hasF_set hbok (hok s hsF),setF_eq]at k
   exact(hbase _).1 k
  ·right
   rw[Nat.zero_add]at k
   exact derB_law hg g1 k
 ·obtain⟨s,hs,rfl⟩:=List.mem_map.1 ((hbase a).2 ha)
  have:=h3 s hs
  rw[hasF_set hok (hbok s hs),setF_eq]at this
  exact this
 ·obtain⟨R,r1,r2,r3⟩:=hh
  obtain⟨k1,_,k3,_⟩:=chain_good hgood .nil r1
  obtain⟨l1,l2⟩:=(hg c hc).leaf k1 k3
  rw[<-setF_eq]at r1 r2
  obtain⟨js,hjs⟩:=of_chain r1
  have hr:=(restOk_iff hok fun x hx hk=>(l1 x hx hk).1).2 r2
  have hm:(R,([]:List Int)++js)∈insts F c (posL c.body) [] []:=mem_insts.2 ⟨js,hjs,hr,rfl⟩
  have:=((clos_all l true).1 h4).2 c hc _ hm
  rw[hasF_set hok l2.1,setF_eq]at this
  rw[r3]
  exact this
end Go.Abs.Tz
namespace Go.Abs.Tz
open Go Go.Abs Go.Proofs
structure GrowsIn(Z W U:List PK):Prop where
 pre:∃T,U=W++T
 nd:W.Nodup->U.Nodup
 sub:W ⊆ Z->U ⊆ Z
end Go.Abs.Tz
namespace Go.Abs.Tz
open Go Go.Abs Go.Proofs
end Go.Abs.Tz
namespace Go.Abs.Tz
open Go Go.Abs Go.Proofs
theorem SameL.self(l:List Clause):SameL l l:=⟨fun c hc=>⟨c,hc,rfl,rfl,fun _=>.rfl⟩,fun c hc=>⟨c,hc,rfl,rfl,fun _=>.rfl⟩⟩
theorem model_good{l:List Clause}{base:List Atom}{R:Option (List (PK×Int))}(hL:(checkB l).1=0->LevC l R)(hz:modelE l R base=0):(modelF l R base).length<=300/\∀a∈atomsF (modelF l R base),atomG a:=by
 have hbe:basedE l R base=0:=by
  unfold modelE at hz
  by_cases h:basedE l R base≠0
  ·rw[if_pos h]at hz;exact absurd hz h
  ·omega
 obtain⟨hc,hRn,hbl2,hbg⟩:=basedE_z hbe
 have hg:=check_good hc
 rcases lev_same (SameL.self l) (hL hc) (hL hc) with⟨h1,_⟩|⟨m,q,h1,h2,h3,h4,h5⟩
 ·exact absurd h1 hRn
 have hD:SameD (derivedD m l base) (derivedD q l base):=by
  unfold derivedD
  have n1:=h3.max
  have n2:=h4.max
  refine levels_same2 (SameL.self l) h3 h4 hg h5 _ _ 0 (fun c hc=>?_) (fun c hc=>?_) (base_same hbg (fun a=>.rfl) (by omega) (by omega))
  ·have:=n1.2.2 _ (h3.has c hc (ofA c.head) (by simp[predC]))
   omega
  ·have:=n2.2.2 _ (h4.has c hc (ofA c.head) (by simp[predC]))
   omega
 cases hd:derivedD m l base with
 |none=>
  exfalso
  unfold modelE at hz
  rw[hbe,h1]at hz
  simp[hd]at hz
 |some F=>
  cases he:derivedD q l base with
  |none=>rw[hd,he]at hD;exact hD.elim
  |some G=>
   rw[hd,he]at hD
   obtain⟨s1,_,_,_,s5,_⟩:=hD
   have eF:modelF l R base=F:=by unfold modelF;rw[h1];simp[hd]
   rw[eF]
   exact⟨s1,s5⟩
end Go.Abs.Tz
namespace Go.Abs.Tz
open Go Go.Abs Go.Proofs
section
variable{l:List Clause}{m:List (PK×Int)}
theorem levels_clos(hm:LevOk l m)(hg:∀c∈l,CGood c):∀(k w:Nat){G F:List Stp},(∀a∈atomsF G,atomG a)->NamesF G->G.length<=300->(∀v:Int,v<w->ClosedS l m v (·∈atomsF G))->levelsD m l k w G=some F ->
  NamesF F/\F.length<=300/\(∀a∈atomsF F,atomG a)/\(∀a∈atomsF G,a∈atomsF F)/\∀v:Int,v<(w+k:Nat)->ClosedS l m v (·∈atomsF F)
 |0,w,G,F,h1,h2,h3,h4,h=>by
  cases h
  exact⟨h2,h3,h1,fun a ha=>ha,by simpa using h4⟩
 |k+1,w,G,F,h1,h2,h3,h4,h=>by
  unfold levelsD at h
  obtain⟨c1,c2⟩:=level_spec (v:=(w:Int)) (S0:=(·∈atomsF G)) hm hg 302 (F:=G) (by omega) (.base h1) h2 h3
  cases hr:levelD m w l 302 G with
  |none=>rw[hr]at h;cases h
  |some G2=>
   rw[hr]at h c1
   obtain⟨n1,n2,n3⟩:=c1
   have hcl:=c2 G2 hr
   have hprev:∀v:Int,v<(w+1:Nat)->ClosedS l m v (·∈atomsF G2):=fun v hv=>by
    by_cases hvw:v<w
    ·intro c hc hcv h hh
     refine n1.lo.sup _ (h4 v hvw c hc hcv h ?_)
     obtain⟨R,r1,r2,r3⟩:=hh
     refine⟨R,Chain.mono2 (fun p hp a ha hoa=>n1.lo.low a ha ?_) r1,fun x hx=>⟨fun hk hf=>(r2 x hx).1 hk (n1.lo.sup _ hf),(r2 x hx).2⟩,r3⟩
     obtain⟨x,hx,hxk,rfl⟩:=posL_mem hp
     have:=(hm.lits hc hx).1 hxk
     rw[hoa]
     omega
    ·obtain rfl:v=(w:Int):=by omega
     exact hcl
   obtain⟨j1,j2,j3,j4,j5⟩:=levels_clos hm hg k (w+1) n1.lo.good n2 n3 hprev h
   exact⟨j1,j2,j3,fun a ha=>j4 a (n1.lo.sup a ha),fun v hv=>j5 v (by omega)⟩
end
theorem chainB_of{F:List Stp}{i:Nat}:∀{b:List Lit}{K:Bind}{js:List Int}{R:Bind},ChainI (F.take i) (posL b) K js R->chainB F i b K js=some R
 |[],K,js,R,h=>by
  obtain⟨rfl,rfl⟩:js=[]/\R=K:=h
  simp[chainB]
 |x::r,K,js,R,h=>by
  rw[posL_cons]at h
  unfold chainB
  by_cases hk:x.kind=1
  ·rw[if_pos hk]at h ⊢
   obtain⟨j,s,K',js',h1,h2,rfl,h4⟩:=h
   have hj:j<i:=by
    have:=(List.getElem?_eq_some_iff.1 h1).1
    rw[List.length_take]at this
    omega
   have hF:F[j]? = some s:=by
    rw[List.getElem?_take_of_lt hj]at h1
    exact h1
   simp only
   rw[if_pos ⟨by omega,by omega⟩,show ((j:Int)).toNat=j from rfl,hF]
   simp only[h2]
   exact chainB_of h4
  ·rw[if_neg hk]at h ⊢
   exact chainB_of h
theorem chainI_lt{F:List Stp}{i:Nat}:∀{ps:List Atom}{K:Bind}{js:List Int}{R:Bind},ChainI (F.take i) ps K js R->∀j∈js,0<=j/\j<(i:Int)
 |[],K,js,R,h,j,hj=>by
  obtain⟨rfl,_⟩:js=[]/\R=K:=h
  cases hj
 |p::ps,K,js,R,h,j,hj=>by
  obtain⟨q,s,K',js',h1,h2,rfl,h4⟩:=h
  rcases List.mem_cons.1 hj with rfl|hj
  ·have:=(List.getElem?_eq_some_iff.1 h1).1
   rw[List.length_take]at this
   omega
  ·exact chainI_lt h4 j hj
theorem chainI_len{F:List Stp}:∀{ps:List Atom}{K:Bind}{js:List Int}{R:Bind},ChainI F ps K js R->js.length=ps.length
 |[],K,js,R,h=>by
  obtain⟨rfl,_⟩:js=[]/\R=K:=h
  rfl
 |p::ps,K,js,R,h=>by
  obtain⟨q,s,K',js',h1,h2,rfl,h4⟩:=h
  rw[List.length_cons,List.length_cons,chainI_len h4]
theorem formB_of:∀{D F:List Stp},NamesF (D++F)->(∀s∈F,atomG s.atom)->formB D F=true
 |_,[],_,_=>rfl
 |D,s::r,hN,hg=>by
  unfold formB
  have h1:baseOk s.atom=true:=baseOk_iff.2 (hg s List.mem_cons_self)
  have h2:hasF (atomX s.atom) D=false:=by
   cases h:hasF (atomX s.atom) D with
   |false=>rfl
   |true=>
    obtain⟨q,hq,e⟩:=hasF_iff.1 h
    unfold NamesF at hN
    rw[List.map_append,List.nodup_append]at hN
    exact absurd e (hN.2.2 _ (List.mem_map.2 ⟨q,hq,rfl⟩) _ (List.mem_map.2 ⟨s,List.mem_cons_self,rfl⟩))
  rw[h1,h2,formB_of (D:=D++[s]) (F:=r) (by rw[List.append_assoc];exact hN) fun q hq=>hg q (List.mem_cons_of_mem _ hq)]
  rfl
theorem dersB_of{l:List Clause}{base:List Atom}{F:List Stp}:∀{r:List Stp}{i:Nat},(∀(k:Nat)(s:Stp),r[k]? = some s->(s.cl=-1/\s.frm=[]/\hasF (atomX s.atom) (baseD base)=true)\/derB l F (i+k) s=true)->dersB l base F i r=true
 |[],_,_=>rfl
 |s::r,i,h=>by
  unfold dersB
  rw[dersB_of (r:=r) (i:=i+1) fun k q hq=>by
   have:=h (k+1) q (by simpa using hq)
   rwa [show i+(k+1)=i+1+k by omega]at this]
  rcases h 0 s rfl with⟨h1,h2,h3⟩|h1
  ·simp[h1,h2,h3]
  ·rw[Nat.add_zero]at h1
   simp[h1]
theorem model_steps{l:List Clause}{base:List Atom}{R:Option (List (PK×Int))}(hL:(checkB l).1=0->LevC l R)(hz:modelE l R base=0):
  stepsB l base (modelF l R base)=true/\(modelF l R base).length<=300/\NamesF (modelF l R base)/\∀(i:Nat)(s:Stp),(modelF l R base)[i]? = some s->s.frm.length<=5/\∀j∈s.frm,0<=j/\j<(i:Int):=by
 have hbe:basedE l R base=0:=by
  unfold modelE at hz
  by_cases h:basedE l R base≠0
  ·rw[if_pos h]at hz;exact absurd hz h
  ·omega
 obtain⟨hc,hRn,hbl2,hbg⟩:=basedE_z hbe
 have hg:=check_good hc
 obtain⟨m,hRm⟩:∃m,R=some m:=by
  cases R with
  |none=>exact absurd rfl hRn
  |some m=>exact⟨m,rfl⟩
 have hm:=((hL hc).2 m hRm).1
 obtain⟨F,hd⟩:∃F,derivedD m l base=some F:=by
  cases h:derivedD m l base with
  |none=>
   exfalso
   unfold modelE at hz
   rw[hbe,hRm]at hz
   simp[h]at hz
  |some F=>exact⟨F,rfl⟩
 have eF:modelF l R base=F:=by unfold modelF;rw[hRm];simp[hd]
 rw[eF]
 have hS:∀s∈base.map (fun a=>(⟨a,-1,[]⟩:Stp)),atomOk s.atom=true:=fun s hs=>by
  obtain⟨a,ha,rfl⟩:=List.mem_map.1 hs
  exact(hbg a ha).1
 obtain⟨a1,a2⟩:=addFs_has (base.map fun a=>(⟨a,-1,[]⟩:Stp)) [] (fun s hs=>by cases hs) hS .nil
 have hl1:=(addFs_len (base.map fun a=>(⟨a,-1,[]⟩:Stp)) []).2
 have hbase:∀a,a∈atomsF (baseD base)↔a∈base:=by
  intro a
  rw[show atomsF (baseD base)=atomsF ((base.map fun a=>(⟨a,-1,[]⟩:Stp)).foldl addF []) from rfl,a2 a]
  simp[atomsF,Function.comp_def]
 have hbd:(baseD base).length<=300:=by
  rw[List.length_map,List.length_nil]at hl1
  unfold baseD
  omega
 obtain⟨v,hder⟩:=derived_der hc hm hbg hd
 obtain⟨g1,g2,g3,g4,g5⟩:=levels_clos hm hg ((maxI 0 (m.map (·.2))).toNat+1) 0 (G:=baseD base) (fun a ha=>hbg a ((hbase a).1 ha)) a1 hbd (fun v hv c _ hcv=>by
  have:=hm.nn (ofA c.head)
  omega) hd
 have hFg:∀s∈F,atomG s.atom:=fun s hs=>g3 _ (List.mem_map.2 ⟨s,hs,rfl⟩)
 have hFo:∀s∈F,atomOk s.atom=true:=fun s hs=>(hFg s hs).1
 have hin:∀{a:Atom},atomOk a=true->(hasF (atomX a) F=true↔a∈atomsF F):=fun{a} ha=>by rw[hasF_set hFo ha,setF_eq]
 have hbo:∀s∈baseD base,atomOk s.atom=true:=fun s hs=>(hbg _ ((hbase _).1 (List.mem_map.2 ⟨s,hs,rfl⟩))).1
 refine⟨?_,g2,g1,fun i s hs=>?_⟩
 ·unfold stepsB
  rw[Bool.and_eq_true,Bool.and_eq_true,Bool.and_eq_true]
  refine⟨formB_of (by simpa using g1) hFg,dersB_of fun i s hs=>?_,List.all_eq_true.2 fun s hs=>?_,(clos_all l true).2 ⟨rfl,fun c hc2 x hx=>?_⟩⟩
  ·rw[Nat.zero_add]
   have hsF:s∈F:=List.mem_iff_getElem?.2 ⟨i,hs⟩
   rcases hder i s hs with⟨h1,h2,h3⟩|⟨k,c,Q,h1,h2,_,h4,h5,h6⟩
   ·refine .inl ⟨h1,h2,?_⟩
    rw[hasF_set hbo (hFo s hsF),setF_eq]
    exact(hbase _).2 h3
   ·right
    have hkl:=(List.getElem?_eq_some_iff.1 h2).1
    have hcm:c∈l:=List.mem_iff_getElem?.2 ⟨k,h2⟩
    unfold derB
    rw[h1,if_pos ⟨by omega,by omega⟩,show ((k:Int)).toNat=k from rfl,h2]
    simp only
    rw[chainB_of h4]
    show (decide (cmpA (fillA Q c.head) s.atom=0)&&restOk F Q c.body)=true
    have hch:=chain_of h4
    obtain⟨q1,_,q3,_⟩:=chain_good (fun a ⟨t,ht,e⟩=>e▸hFg t (List.mem_of_mem_take ht)) .nil hch
    obtain⟨l1,l2⟩:=(hg c hcm).leaf q1 q3
    rw[<-setF_eq]at h5
    rw[(restOk_iff hFo fun x hx hk=>(l1 x hx hk).1).2 h5,h6]
    simp[cmpA_L.refl]
  ·rw[hin (hbo s hs)]
   exact g4 _ (List.mem_map.2 ⟨s,hs,rfl⟩)
  ·obtain⟨js,h1,h2,_⟩:=mem_insts.1 hx
   have hch:=chain_of h1
   obtain⟨q1,_,q3,_⟩:=chain_good (fun a ⟨t,ht,e⟩=>e▸hFg t ht) .nil hch
   obtain⟨l1,l2⟩:=(hg c hc2).leaf q1 q3
   rw[hin l2.1]
   have h2:=(restOk_iff hFo fun x hx hk=>(l1 x hx hk).1).1 h2
   rw[setF_eq]at hch h2
   refine g5 (pVal m (ofA c.head)) ?_ c hc2 rfl _ ⟨x.1,hch,h2,rfl⟩
   have hmx:=hm.max
   have:=hmx.2.2 _ (hm.has c hc2 (ofA c.head) (by simp[predC]))
   omega
 ·rcases hder i s hs with⟨_,h2,_⟩|⟨k,c,Q,_,h2,_,h4,_,_⟩
  ·rw[h2]
   exact⟨by simp,fun j hj=>by cases hj⟩
  ·obtain⟨_,c2,_⟩:=clause_parts (hg c (List.mem_iff_getElem?.2 ⟨k,h2⟩)).ok
   refine⟨?_,chainI_lt h4⟩
   rw[chainI_len h4]
   unfold posL
   rw[List.length_map]
   exact Nat.le_trans (List.length_filter_le _ _) c2
theorem less_steps{l:List Clause}{base:List Atom}{R:Option (List (PK×Int))}(hL:(checkB l).1=0->LevC l R)(hz:modelE l R base=0)(hne:(modelF l R base).length≠0):stepsB l base ((modelF l R base).take ((modelF l R base).length - 1))=false:=by
 cases h:stepsB l base ((modelF l R base).take ((modelF l R base).length - 1)) with
 |false=>rfl
 |true=>
  exfalso
  have hbe:basedE l R base=0:=by
   unfold modelE at hz
   by_cases h:basedE l R base≠0
   ·rw[if_pos h]at hz;exact absurd hz h
   ·omega
  obtain⟨hc,hRn,hbl2,hbg⟩:=basedE_z hbe
  obtain⟨m,hRm⟩:∃m,R=some m:=by
   cases R with
   |none=>exact absurd rfl hRn
   |some m=>exact⟨m,rfl⟩
  have hlen:=(model_good hL hz).1
  obtain⟨_,h2,_⟩:=steps_model hc hbg hbl2 ((hL hc).2 m hRm).1 (stepsOk_of (check_good hc) hbg (by rw[List.length_take];omega) h)
  rw[hRm]at h2 hne
  rw[List.length_take]at h2
  omega
end Go.Abs.Tz
namespace Go.Abs.Tz
open Go Go.Abs Go.Proofs
def addN(W:List Int)(n:Int):List Int:=if n∈W then W else W++[n]
def whyN(F:List Stp):Nat->List Int->List Int
 |0,W=>W
 |i+1,W=>whyN F i (if (i:Int)∈W then (match F[i]? with
   |some s=>s.frm.foldl addN W
   |none=>W) else W)
def backB(F:List Stp):Nat->List Stp->Bool
 |_,[]=>true
 |i,s::r=>s.frm.all (fun j=>decide (0<=j)&&decide (j<(i:Int)))&&backB F (i+1) r
def firstN(a:Atom):List Stp->Nat->Option Nat
 |[],_=>none
 |s::r,i=>if cmpA s.atom a=0 then some i else firstN a r (i+1)
def whyW(F:List Stp)(k:Nat):List Int:=whyN F (k+1) [(k:Int)]
def whyL(F:List Stp)(k:Nat):List Int:=((List.range F.length).filter fun i:Nat=>decide ((i:Int)∈whyW F k)).map fun i:Nat=>(i:Int)
theorem mem_addN{W:List Int}{n x:Int}:x∈addN W n↔x∈W\/x=n:=by
 unfold addN
 by_cases h:n∈W
 ·rw[if_pos h]
  exact⟨.inl,fun h'=>h'.elim id fun e=>e▸h⟩
 ·rw[if_neg h]
  simp
theorem mem_addNs{l:List Int}:∀{W:List Int}{x:Int},x∈l.foldl addN W↔x∈W\/x∈l:=by
 induction l with
 |nil=>simp
 |cons n l ih=>
  intro W x
  rw[List.foldl_cons,ih,mem_addN,List.mem_cons,or_assoc]
def BackF(F:List Stp):Prop:=∀(i:Nat)(s:Stp),F[i]? = some s->∀j∈s.frm,0<=j/\j<(i:Int)
theorem backB_iff{F:List Stp}:∀{r:List Stp}{i:Nat},backB F i r=true↔∀(k:Nat)(s:Stp),r[k]? = some s->∀j∈s.frm,0<=j/\j<((i+k:Nat):Int)
 |[],i=>⟨fun _ k s h=>by simp at h,fun _=>rfl⟩
 |s::r,i=>by
  unfold backB
  rw[Bool.and_eq_true,backB_iff (r:=r) (i:=i+1),List.all_eq_true]
  constructor
  ·rintro⟨h1,h2⟩ k t ht j hj
   cases k with
   |zero=>
    simp only[List.getElem?_cons_zero,Option.some.injEq]at ht
    subst ht
    have:=h1 j hj
    simpa using this
   |succ k=>
    have:=h2 k t (by simpa using ht) j hj
    omega
  ·intro h
   refine⟨fun j hj=>?_,fun k t ht j hj=>?_⟩
   ·have:=h 0 s rfl j hj
    simpa using this
   ·have:=h (k+1) t (by simpa using ht) j hj
    omega
theorem whyN_spec{F:List Stp}(hF:BackF F)(k:Nat):∀(i:Nat)(W:List Int),i<=k+1->(∀x∈W,0<=x/\x<=(k:Int))->(∀x∈W,(i:Int)<=x->∀s,F[x.toNat]? = some s->∀j∈s.frm,j∈W) ->
  (∀x∈W,x∈whyN F i W)/\(∀x∈whyN F i W,0<=x/\x<=(k:Int))/\∀x∈whyN F i W,∀s,F[x.toNat]? = some s->∀j∈s.frm,j∈whyN F i W
 |0,W,_,h1,h2=>⟨fun x hx=>hx,h1,fun x hx s hs j hj=>h2 x hx (by have:=h1 x hx;omega) s hs j hj⟩
 |i+1,W,hi,h1,h2=>by
  unfold whyN
  by_cases hw:(i:Int)∈W
  ·rw[if_pos hw]
   cases hs:F[i]? with
   |none=>
    refine whyN_spec hF k i W (by omega) h1 fun x hx hxi s hs2 j hj=>?_
    by_cases hx2:(i:Int)+1<=x
    ·exact h2 x hx (by omega) s hs2 j hj
    ·obtain rfl:x=(i:Int):=by omega
     rw[show ((i:Int)).toNat=i from rfl,hs]at hs2
     cases hs2
   |some s0=>
    have hfr:=hF i s0 hs
    simp only
    obtain⟨g1,g2,g3⟩:=whyN_spec hF k i (s0.frm.foldl addN W) (by omega) (fun x hx=>by
     rcases mem_addNs.1 hx with h|h
     ·exact h1 x h
     ·have:=hfr x h
      omega) (fun x hx hxi s hs2 j hj=>by
     rw[mem_addNs]
     rcases mem_addNs.1 hx with h|h
     ·by_cases hx2:(i:Int)+1<=x
      ·exact .inl (h2 x h (by omega) s hs2 j hj)
      ·obtain rfl:x=(i:Int):=by omega
       rw[show ((i:Int)).toNat=i from rfl,hs]at hs2
       cases hs2
       exact .inr hj
     ·have:=hfr x h
      omega)
    exact⟨fun x hx=>g1 x (mem_addNs.2 (.inl hx)),g2,g3⟩
  ·rw[if_neg hw]
   refine whyN_spec hF k i W (by omega) h1 fun x hx hxi s hs2 j hj=>?_
   by_cases hx2:(i:Int)+1<=x
   ·exact h2 x hx (by omega) s hs2 j hj
   ·obtain rfl:x=(i:Int):=by omega
    exact absurd hx hw
theorem whyW_spec{F:List Stp}(hF:BackF F)(k:Nat):(k:Int)∈whyW F k/\(∀x∈whyW F k,0<=x/\x<=(k:Int))/\∀x∈whyW F k,∀s,F[x.toNat]? = some s->∀j∈s.frm,j∈whyW F k:=by
 obtain⟨h1,h2,h3⟩:=whyN_spec hF k (k+1) [(k:Int)] (Nat.le_refl _) (fun x hx=>by
  rw[List.mem_singleton]at hx
  omega) (fun x hx hxi=>by
  rw[List.mem_singleton]at hx
  omega)
 exact⟨h1 _ (by simp),h2,h3⟩
theorem mem_whyL{F:List Stp}{k:Nat}{x:Int}:x∈whyL F k↔0<=x/\x<(F.length:Int)/\x∈whyW F k:=by
 unfold whyL
 rw[List.mem_map]
 constructor
 ·rintro⟨i,hi,rfl⟩
  rw[List.mem_filter,List.mem_range]at hi
  exact⟨by omega,by omega,of_decide_eq_true hi.2⟩
 ·rintro⟨h1,h2,h3⟩
  refine⟨x.toNat,?_,by omega⟩
  rw[List.mem_filter,List.mem_range]
  refine⟨by omega,decide_eq_true ?_⟩
  rwa [show ((x.toNat:Nat):Int)=x by omega]
theorem whyL_last{F:List Stp}(hF:BackF F){k:Nat}(hk:k<F.length):∃Y,whyL F k=Y++[(k:Int)]:=by
 obtain⟨h1,h2,_⟩:=whyW_spec hF k
 refine⟨((List.range k).filter fun i:Nat=>decide ((i:Int)∈whyW F k)).map fun i:Nat=>(i:Int),?_⟩
 unfold whyL
 obtain⟨d,hd⟩:∃d,F.length=(k+1)+d:=⟨F.length - (k+1),by omega⟩
 rw[hd,List.range_add,List.filter_append,List.range_succ,List.filter_append,List.map_append,List.map_append]
 have e1:((List.range d).map fun x=>k+1+x).filter (fun i:Nat=>decide ((i:Int)∈whyW F k))=[]:=by
  rw[List.filter_eq_nil_iff]
  intro i hi
  obtain⟨x,_,rfl⟩:=List.mem_map.1 hi
  simp only[decide_eq_true_eq]
  intro h
  have:=h2 _ h
  omega
 rw[e1]
 simp[h1]
theorem firstN_get{a:Atom}:∀{r:List Stp}{i k:Nat},firstN a r i=some k->i<=k/\∃s,r[k - i]? = some s/\s.atom=a/\∀j,j<k - i->∀s,r[j]? = some s->s.atom≠a
 |[],_,_,h=>by cases h
 |s::r,i,k,h=>by
  unfold firstN at h
  by_cases hc:cmpA s.atom a=0
  ·rw[if_pos hc]at h
   cases h
   refine⟨Nat.le_refl _,s,by simp,cmpA_L.zero.1 hc,fun j hj=>by omega⟩
  ·rw[if_neg hc]at h
   obtain⟨h1,t,h2,h3,h4⟩:=firstN_get h
   refine⟨by omega,t,?_,h3,fun j hj q hq=>?_⟩
   ·rw[show k - i=(k - (i+1))+1 by omega]
    simpa using h2
   ·cases j with
    |zero=>
     simp only[List.getElem?_cons_zero,Option.some.injEq]at hq
     subst hq
     exact fun e=>hc (cmpA_L.zero.2 e)
    |succ j=>exact h4 j (by omega) q (by simpa using hq)
theorem firstN_none{a:Atom}:∀{r:List Stp}{i:Nat},firstN a r i=none->∀s∈r,s.atom≠a
 |[],_,_,s,hs=>by cases hs
 |q::r,i,h,s,hs=>by
  unfold firstN at h
  by_cases hc:cmpA q.atom a=0
  ·rw[if_pos hc]at h;cases h
  ·rw[if_neg hc]at h
   rcases List.mem_cons.1 hs with rfl|hs
   ·exact fun e=>hc (cmpA_L.zero.2 e)
   ·exact firstN_none h s hs
theorem firstN_names{F:List Stp}(hN:NamesF F){k:Nat}(hk:k<F.length):firstN F[k].atom F 0=some k:=by
 cases h:firstN F[k].atom F 0 with
 |none=>exact absurd rfl (firstN_none h _ (List.getElem_mem hk))
 |some q=>
  obtain⟨_,s,h2,h3,h4⟩:=firstN_get h
  rw[Nat.sub_zero]at h2 h4
  congr 1
  have hnd:=hN.nodup
  obtain⟨hq,rfl⟩:=List.getElem?_eq_some_iff.1 h2
  have:=(List.getElem_inj (h₀:=by rw[List.length_map];exact hq) (h₁:=by rw[List.length_map];exact hk) hnd (i:=q) (j:=k) (xs:=atomsF F)).1 (by simpa [atomsF] using h3)
  exact this
end Go.Abs.Tz
namespace Go.Abs.Tz
open Go Go.Abs Go.Proofs
set_option maxRecDepth 20000
set_option linter.unusedSimpArgs false
attribute [local simp ↓] getP_nil getP_node setP_nil setP_node oneP_eq vP_map vP_some vP_none vP_bind eP_some bP_true bP_false gP_yes gP_tf gP_ft gP_tup runP_skip runP_ops runP_drw runP_seq runP_cond runP_blk runP_loop runP_exit runP_ret seqK_n seqK_r seqK_e seqK_p blkK_n blkK_r blkK_e blkK_p loopK_n loopK_r loopK_e loopK_p finK_n finK_r finK_p resP_one resP_two resP_three resP_nil resP_c nxP_nil argsP_nil argsP_cons evP_t evP_c evP_g evsP_nil evsP_cons clP_fn pnP_i opsP_nil opsP_d opsP_x opsP_gt opsP_gf opP_cf opP_cl opP_pn opP_nx valP_mv valP_pk valP_eq valP_bn valP_nt valP_ld valP_fa valP_fd valP_ia valP_ix valP_ln valP_srn valP_srl valP_srh valP_srb valP_cv valP_mi valP_mf valP_xt valP_bs valP_bd valP_nc valP_mn valP_lk valP_ta opP_mv opP_pk opP_eq opP_bn opP_nt opP_ld opP_fa opP_fd opP_ia opP_ix opP_ln opP_sr opP_cv opP_mi opP_mf opP_xt opP_bs opP_bd opP_nc opP_mn opP_lk opP_ta opP_al opP_bx opP_st opP_ap opP_mk opP_nb opP_mu opP_rg opP_en pendP_nil pendP_d pendP_g drwP_nil drwP_d drwP_x drwP_gt drwP_gf look_self natOf_nat
attribute [local simp] faL fdL iaL ixL loadL partL lenL eqK eqL natOf eqB_s eqB_i eqB_b bn_add bn_sub bn_lss bn_leq bn_gtr bn_geq bn_adds bn_lsss bn_gtrs bn_leqs bn_geqs sliceL LV.cells LV.whole look_self put_self putO_self put_eq stL fillL termC dopP LHeap.alloc oneI oneS oneB nth0 nth1 nth2 nth3 nth4 nth5 nth6 nth7 nth8 nth9 look_ne putO_ne
theorem t_Derive{l:List Clause}{fuel:Nat}{R:Option (List (PK×Int))}{base:List Atom}(hI:ModIn l fuel R base)(ownB:Own)(ob:List (Nat×LObj))(n:Nat)(hni:NoIt ob){kv kp:HP}
  (he:modelE l R base≠0->∀n',n<=n'->kv (.tup [Nl,.int (modelE l R base)]) ⟨ob,n'⟩)
  (hv:modelE l R base=0->∀(ow:Own) n',n<=n'->kv (.tup [.sl ((modelF l R base).map stepL) ow,.int 0]) ⟨ob,n'⟩):
  cP E0 F0 10 [clausesL l,.sl (base.map atomL) ownB] ⟨ob,n⟩ kv kp:=by
 refine cP_of_fn c10 fun hH=>⟨Nat.le_of_ble_eq_true rfl,?_⟩
 simp(disch:=omega)[b10]
 refine t_derived2 hI ownB ob n hni (fun h0 n' hn'=>?_) (fun h0 hlen hg fo am ob' n' own' hn' hF hni' hold=>?_)
 ·simp(disch:=omega)[h0,resP_two]
  exact keep (he h0 n' hn')
 ·simp(disch:=omega)[hF.pair,resP_two]
  exact⟨⟨ob,n'⟩,hwk_old hH hold (Nat.le_refl _),fun _=>Desc.mono hH (by dsimp only;omega),hv h0 own' n' (by omega)⟩
abbrev encN(W:List Int):List (LV×LV):=W.map fun n=>(.int n,.bool true)
theorem findL_N(n:Int):∀W:List Int,findL (.pl 0) (.int n) (encN W)=some (if n∈W then some (.bool true) else none)
 |[]=>by simp[findL]
 |j::r=>by
  have ih:=findL_N n r
  show (match eqK (.pl 0) (.int n) (.int j) with
   |some true=>some (some (LV.bool true))
   |some false=>findL (.pl 0) (.int n) (encN r)
   |none=>none)=_
  rw[ih]
  simp only[eqK,eqB_i]
  by_cases h:n=j
  ·simp[h]
  ·simp[h]
theorem setL_N(n:Int):∀W:List Int,setL (.pl 0) (.int n) (.bool true) (encN W)=some (encN (addN W n))
 |[]=>by simp[setL,addN]
 |j::r=>by
  have ih:=setL_N n r
  show (match eqK (.pl 0) (.int n) (.int j) with
   |some true=>some ((LV.int j,LV.bool true)::encN r)
   |some false=>(setL (.pl 0) (.int n) (.bool true) (encN r)).map ((LV.int j,LV.bool true)::·)
   |none=>none)=_
  rw[ih]
  simp only[eqK,eqB_i]
  by_cases h:n=j
  ·simp[h,addN]
  ·by_cases h2:n∈r
   ·simp[h,addN,h2]
   ·simp[h,addN,h2]
theorem lkN{H:LHeap}{o:Nat}{W:List Int}(h:look o H.objs=some (.map (encN W)))(n:Int):lkL H (.pl 0) false (.bool false) (.map o) (.int n)=some (.bool (decide (n∈W))):=by
 unfold lkL
 simp only[eqK,eqB_i,decide_true,Option.isSome_some,if_true,h,findL_N]
 by_cases hn:n∈W
 ·simp[hn]
 ·simp[hn]
theorem muN{H:LHeap}{o:Nat}{W:List Int}(h:look o H.objs=some (.map (encN W)))(n:Int):muL H (.pl 0) (.map o) (.int n) (.bool true)=some (H.put o (.map (encN (addN W n)))):=by
 unfold muL
 simp only[h,eqK,eqB_i,decide_true,Option.isNone_some,Bool.false_eq_true,if_false,setL_N,Option.map_some]
def badJ(i:Int)(j:Int):Bool:=!(decide (0<=j)&&decide (j<=i - 1))
theorem t_why1(j:Int)(m:Nat)(i:Int)(hi:0<=i/\i<=2^30)(ob:List (Nat×LObj))(n:Nat)(hl:look m ob=some (.cells [.int i])){kv kp:HP}(hk:∀n',n<=n'->kv (.bool (badJ i j)) ⟨ob,n'⟩):cP E0 F0 38 [.int j,.ptr m 0] ⟨ob,n⟩ kv kp:=by
 refine cP_of_fn c38 fun hH=>⟨Nat.le_of_ble_eq_true rfl,?_⟩
 have hw:IntKind.wrap .i64 (i - 1)=i - 1:=wrap_id (by omega) (by omega)
 simp(disch:=omega)[b38,hl,hw]
 refine(t_within j 0 _).go fun n1 hn1=>?_
 have e:badJ i j=(!decide (0<=j)||!decide (j<=i - 1)):=by unfold badJ;rw[Bool.not_and]
 rw[e]at hk
 simp(disch:=omega)
 exact keep (hk n1 hn1)
def idxJ(p:Int->Bool):List Int->Nat->Int
 |[],_=>-1
 |t::r,i=>if p t then (i:Int) else idxJ p r (i+1)
theorem idxJ_any(p:Int->Bool):∀(l:List Int)(i:Nat),decide (0<=idxJ p l i)=l.any p
 |[],i=>rfl
 |t::r,i=>by
  simp only[idxJ,List.any_cons]
  by_cases h:p t=true
  ·simp[h]
  ·simp only[h,if_false,Bool.false_eq_true]
   rw[idxJ_any p r (i+1)];simp
theorem t_idxJ(js:List Int)(hjs:js.length<=2^20)(m:Nat)(i:Int)(hi:0<=i/\i<=2^30)(ob:List (Nat×LObj))(n:Nat)(hl:look m ob=some (.cells [.int i])){kv kp:HP}(hk:∀n',n<=n'->kv (.int (idxJ (badJ i) js 0)) ⟨ob,n'⟩):
  cP E0 F0 83 [.sl (js.map LV.int) .no,.fn (.func 38) [] [.ptr m 0]] ⟨ob,n⟩ kv kp:=by
 refine cP_of_fn c83 fun hH=>⟨Nat.le_of_ble_eq_true rfl,?_⟩
 simp(disch:=omega)[b83]
 obtain⟨A,hA⟩:∃A,idxJ (badJ i) js 0=A:=⟨_,rfl⟩
 rw[hA]at hk
 refine lP_enter (σ:=NN) (fun q=>(.nd (.sl (js.map LV.int) .no) (.nd (.fn (.func 38) [] [.ptr m 0]) (.nd .bot (.nd (.int js.length) .nil .nil) .nil) .nil) (.nd .bot (.nd .bot (.nd (.int q.i) .nil .nil) .nil) (.nd (.sl (js.map LV.int) .no) .nil .nil)))) (fun q=>⟨ob,q.n⟩) (fun q=>js.length - q.i)
  (fun q=>n<=q.n/\q.i<=js.length/\idxJ (badJ i) (js.drop q.i) q.i=A) ⟨0,n⟩ ⟨Nat.le_refl _,Nat.zero_le _,hA⟩ (by simp[FT.Le,Wk]) ⟨HWk.refl _,fun h=>h⟩ ?_
 rintro⟨q,k⟩ ⟨hn,hq,he⟩ hok
 dsimp only at hn hq he hok
 by_cases hlt:q<js.length
 ·rw[List.drop_eq_getElem_cons hlt]at he
  simp(disch:=omega)[hlt]
  refine t_why1 js[q] m i hi ob k hl fun n1 h1=>?_
  cases ht:badJ i js[q]
  ·simp[idxJ,ht]at he
   simp(disch:=omega)[wrap_nat (show q<2^62 by omega)]
   exact⟨⟨q+1,n1⟩,by dsimp only;omega,⟨by dsimp only;omega,by dsimp only;omega,he⟩,by simp[FT.Le,Wk],HWk.refl _,fun h=>h⟩
  ·simp[idxJ,ht]at he
   simp(disch:=omega)
   exact keep (by rw[<-he]at hk;exact hk n1 (by omega))
 ·obtain rfl:q=js.length:=by omega
  rw[List.drop_eq_nil_of_le (Nat.le_refl _)]at he
  simp(disch:=omega)
  simp[idxJ]at he
  exact keep (by rw[<-he]at hk;exact hk k hn)
theorem t_anyJ(js:List Int)(hjs:js.length<=2^20)(m:Nat)(i:Int)(hi:0<=i/\i<=2^30)(ob:List (Nat×LObj))(n:Nat)(hl:look m ob=some (.cells [.int i])){kv kp:HP}(hk:∀n',n<=n'->kv (.bool (js.any (badJ i))) ⟨ob,n'⟩):
  cP E0 F0 37 [.sl (js.map LV.int) .no,.fn (.func 38) [] [.ptr m 0]] ⟨ob,n⟩ kv kp:=by
 refine cP_of_fn c37 fun hH=>⟨Nat.le_of_ble_eq_true rfl,?_⟩
 simp(disch:=omega)[b37]
 refine t_idxJ js hjs m i hi ob n hl fun n1 hn1=>?_
 simp(disch:=omega)
 exact keep (by rw[idxJ_any];exact hk n1 hn1)
theorem t_why2(s:Stp)(a:Atom)(hs:s.atom.ok)(ha:a.ok)(m:Nat)(ob:List (Nat×LObj))(n:Nat)(hl:look m ob=some (.cells [.str a.pred,argsL a.args])){kv kp:HP}(hk:∀n',n<=n'->kv (.bool (decide (cmpA s.atom a=0))) ⟨ob,n'⟩):cP E0 F0 41 [stepL s,.ptr m 0] ⟨ob,n⟩ kv kp:=by
 refine cP_of_fn c41 fun hH=>⟨Nat.le_of_ble_eq_true rfl,?_⟩
 have hm:m<n:=hH.look hl
 simp(disch:=omega)[b41,hl]
 refine(t_Compare s.atom a hs ha).go fun n1 hn1=>?_
 by_cases hz:cmpA s.atom a=0
 ·simp(disch:=omega)[hz]
  exact⟨⟨ob,n1⟩,hwk_skip hH (Nat.le_refl _),fun _=>Desc.mono hH (Nat.le_trans (Nat.le_succ _) hn1),by simpa [hz] using hk n1 (Nat.le_trans (Nat.le_succ _) hn1)⟩
 ·simp(disch:=omega)[hz]
  exact⟨⟨ob,n1⟩,hwk_skip hH (Nat.le_refl _),fun _=>Desc.mono hH (Nat.le_trans (Nat.le_succ _) hn1),by simpa [hz] using hk n1 (Nat.le_trans (Nat.le_succ _) hn1)⟩
def idxS(o:Option Nat):Int:=match o with
 |some k=>k
 |none=>-1
theorem t_idxS(F:List Stp)(hF:F.length<=2^20)(own:Own)(a:Atom)(hs:∀s∈F,s.atom.ok)(ha:a.ok)(m:Nat)(ob:List (Nat×LObj))(n:Nat)(hl:look m ob=some (.cells [.str a.pred,argsL a.args])){kv kp:HP}(hk:∀n',n<=n'->kv (.int (idxS (firstN a F 0))) ⟨ob,n'⟩):
  cP E0 F0 40 [.sl (F.map stepL) own,.fn (.func 41) [] [.ptr m 0]] ⟨ob,n⟩ kv kp:=by
 refine cP_of_fn c40 fun hH=>⟨Nat.le_of_ble_eq_true rfl,?_⟩
 simp(disch:=omega)[b40]
 obtain⟨A,hA⟩:∃A,firstN a F 0=A:=⟨_,rfl⟩
 rw[hA]at hk
 refine lP_enter (σ:=NN) (fun q=>(.nd (.sl (F.map stepL) own) (.nd (.fn (.func 41) [] [.ptr m 0]) (.nd .bot (.nd (.int F.length) .nil .nil) .nil) .nil) (.nd .bot (.nd .bot (.nd (.int q.i) .nil .nil) .nil) (.nd (.sl (F.map stepL) own) .nil .nil)))) (fun q=>⟨ob,q.n⟩) (fun q=>F.length - q.i)
  (fun q=>n<=q.n/\q.i<=F.length/\firstN a (F.drop q.i) q.i=A) ⟨0,n⟩ ⟨Nat.le_refl _,Nat.zero_le _,hA⟩ (by simp[FT.Le,Wk]) ⟨HWk.refl _,fun h=>h⟩ ?_
 rintro⟨q,k⟩ ⟨hn,hq,he⟩ hok
 dsimp only at hn hq he hok
 by_cases hlt:q<F.length
 ·rw[List.drop_eq_getElem_cons hlt]at he
  unfold firstN at he
  simp(disch:=omega)[hlt]
  refine t_why2 F[q] a (hs _ (List.getElem_mem hlt)) ha m ob k hl fun n1 h1=>?_
  by_cases hz:cmpA F[q].atom a=0
  ·rw[if_pos hz]at he
   simp(disch:=omega)[hz]
   exact keep (by rw[<-he]at hk;exact hk n1 (by omega))
  ·rw[if_neg hz]at he
   simp(disch:=omega)[hz,wrap_nat (show q<2^62 by omega)]
   exact⟨⟨q+1,n1⟩,by dsimp only;omega,⟨by dsimp only;omega,by dsimp only;omega,he⟩,by simp[FT.Le,Wk],HWk.refl _,fun h=>h⟩
 ·obtain rfl:q=F.length:=by omega
  rw[List.drop_eq_nil_of_le (Nat.le_refl _)]at he
  simp(disch:=omega)
  exact keep (by rw[<-he]at hk;exact hk k hn)
def whyE(F:List Stp)(a:Atom):Int:=if 300<F.length then 2 else if backB F 0 F then (match firstN a F 0 with
 |none=>5
 |some _=>0) else 8
def whyO(F:List Stp)(a:Atom):List Int:=if 300<F.length then [] else if backB F 0 F then (match firstN a F 0 with
 |none=>[]
 |some k=>whyL F k) else []
theorem any_bad(i:Nat)(js:List Int):js.any (badJ i) = !(js.all fun j=>decide (0<=j)&&decide (j<(i:Int))):=by
 rw[List.not_all_eq_any_not]
 congr 1
 funext j
 unfold badJ
 congr 2
 exact decide_eq_decide.2 (by omega)
def whyT(F:List Stp)(k i:Nat):List Int:=((List.range i).filter fun i:Nat=>decide ((i:Int)∈whyW F k)).map fun i:Nat=>(i:Int)
theorem whyT_succ(F:List Stp)(k i:Nat):whyT F k (i+1)=if (i:Int)∈whyW F k then whyT F k i++[(i:Int)] else whyT F k i:=by
 unfold whyT
 rw[List.range_succ,List.filter_append,List.map_append]
 by_cases h:(i:Int)∈whyW F k
 ·simp[h]
 ·simp[h]
theorem whyT_len(F:List Stp)(k i:Nat):(whyT F k i).length<=i:=by
 unfold whyT
 rw[List.length_map]
 exact Nat.le_trans (List.length_filter_le _ _) (Nat.le_of_eq List.length_range)
theorem firstN_lt{a:Atom}:∀{r:List Stp}{i k:Nat},firstN a r i=some k->k<i+r.length
 |[],_,_,h=>by cases h
 |s::r,i,k,h=>by
  unfold firstN at h
  by_cases hc:cmpA s.atom a=0
  ·rw[if_pos hc]at h
   cases h
   rw[List.length_cons];omega
  ·rw[if_neg hc]at h
   have:=firstN_lt h
   rw[List.length_cons];omega
structure NNW2 where
 z:Int
 r:Nat
 n:Nat
 W:List Int
structure NNW3 where
 q:Nat
 n:Nat
 W:List Int
structure NNW4 where
 i:Nat
 n:Nat
 own:Own
 ob:List (Nat×LObj)
set_option maxHeartbeats 1000000 in
theorem t_Why(F:List Stp)(hF:F.length<2^63)(own:Own)(a:Atom)(ha:a.ok)(hFo:F.length<=300->∀s∈F,s.atom.ok/\s.frm.length<=2^20)(ob:List (Nat×LObj))(n:Nat){kv kp:HP}
  (hk:∀own n',n<=n'->kv (.tup [.sl (intsL (whyO F a)) own,.int (whyE F a)]) ⟨ob,n'⟩):cP E0 F0 13 [.sl (F.map stepL) own,atomL a] ⟨ob,n⟩ kv kp:=by
 refine cP_of_fn c13 fun hH=>⟨Nat.le_of_ble_eq_true rfl,?_⟩
 simp(disch:=omega)[b13]
 obtain⟨OB,hOB⟩:∃OB,(n,LObj.cells [.str a.pred,argsL a.args])::ob=OB:=⟨_,rfl⟩
 have hla:look n OB=some (.cells [.str a.pred,argsL a.args]):=by rw[<-hOB];exact look_self _ _ _
 have hOBd:Desc OB (n+1):=by rw[<-hOB];exact⟨Nat.lt_succ_self _,hH⟩
 have fin:∀(m:Nat)(ob1:List (Nat×LObj))(v:LV),(∀i,i<n+1->look i ob1=look i OB)->n<=m->kv v ⟨ob,m⟩->∃H'',HWk ⟨ob1,m⟩ H''/\(LHeap.Ok ⟨ob1,m⟩->H''.Ok)/\kv v H'':=fun m ob1 v ho hm hv=>⟨⟨ob,m⟩,hwk_old hH (fun i hi=>by rw[ho i (by omega),<-hOB,look_ne (by omega)]) (Nat.le_refl _),fun _=>Desc.mono hH hm,hv⟩
 rw[hOB]
 unfold whyE whyO at hk
 by_cases h300:300<F.length
 ·rw[if_pos h300,if_pos h300]at hk
  have h300':(300:Int)<(F.length:Int):=by omega
  simp(disch:=omega)[h300',resP_two]
  exact fin _ _ _ (fun _ _=>rfl) (by omega) (hk .full (n+1) (by omega))
 rw[if_neg h300,if_neg h300]at hk
 have h300':¬(300:Int)<(F.length:Int):=by omega
 have hFo:=hFo (by omega)
 obtain⟨V,hV⟩:∃V,backB F 0 F=V:=⟨_,rfl⟩
 rw[hV]at hk
 simp(disch:=omega)[h300']
 refine lP_enter (σ:=NN) (fun q=>(.nd (.sl (F.map stepL) own) (.nd .bot (.nd (.ptr n 0) .nil (.nd .bot (.nd (.int F.length) .nil .nil) .nil)) .nil) (.nd .bot (.nd .bot .nil (.nd .bot (.nd (.int q.i) .nil .nil) .nil)) (.nd .bot (.nd .bot (.nd (.sl (F.map stepL) own) .nil .nil) .nil) .nil)))) (fun q=>⟨OB,q.n⟩) (fun q=>F.length - q.i)
  (fun q=>n+1<=q.n/\q.i<=F.length/\backB F q.i (F.drop q.i)=V) ⟨0,n+1⟩ ⟨Nat.le_refl _,Nat.zero_le _,hV⟩ (by simp[FT.Le,Wk]) ⟨HWk.refl _,fun h=>h⟩ ?_
 rintro⟨i,m⟩ ⟨hm,hi,he⟩ hok
 dsimp only at hm hi he hok
 by_cases hlt:i<F.length
 case pos=>
  rw[List.drop_eq_getElem_cons hlt]at he
  unfold backB at he
  have hfr:=(hFo _ (List.getElem_mem hlt)).2
  simp(disch:=omega)[hlt]
  refine t_anyJ F[i].frm hfr m (i:Int) ⟨by omega,by omega⟩ _ _ (by rw[look_ne (by omega)];exact look_self _ _ _) fun n1 hn1=>?_
  rw[any_bad]
  have hn1':m+1+1<=n1:=hn1
  obtain⟨A,hA⟩:∃A,(F[i].frm.all fun j=>decide (0<=j)&&decide (j<(i:Int)))=A:=⟨_,rfl⟩
  rw[hA]at he ⊢
  cases A
  ·rw[Bool.false_and]at he
   subst he
   simp(disch:=omega)[resP_two]
   exact fin _ _ _ (fun i hi=>by rw[look_ne (by omega),look_ne (by omega)]) (by omega) (hk .full n1 (by omega))
  ·rw[Bool.true_and]at he
   simp(disch:=omega)[wrap_nat (show i<2^62 by omega)]
   exact⟨⟨i+1,n1⟩,by dsimp only;omega,⟨by dsimp only;omega,by dsimp only;omega,he⟩,by simp[FT.Le,Wk],⟨Nat.le_refl _,fun j x hx=>by
    have:=hok.look hx
    dsimp only at this
    rw[look_ne (by omega),look_ne (by omega)]
    exact hx⟩,fun _=>Desc.mono hok (by dsimp only;omega)⟩
 obtain rfl:i=F.length:=by omega
 rw[List.drop_length]at he
 have he:true=V:=he
 subst he
 simp only[if_true]at hk
 simp(disch:=omega)
 refine t_idxS F (by omega) own a (fun s hs=>(hFo s hs).1) ha n OB m hla fun m1 hm1=>?_
 cases hf:firstN a F 0 with
 |none=>
  rw[hf]at hk
  have hneg:idxS none<0:=by decide
  simp(disch:=omega)[hneg,resP_two]
  exact fin _ _ _ (fun _ _=>rfl) (by omega) (hk .full m1 (by omega))
 |some k=>
 rw[hf]at hk
 simp only at hk
 have hkF:k<F.length:=by have:=firstN_lt hf;omega
 have hneg:¬((k:Int)<0):=by omega
 have hik:idxS (some k)=(k:Int):=rfl
 rw[hik]
 simp(disch:=omega)[hneg]
 rw[muN (W:=[]) (by simp[look])]
 have hadd:addN [] (k:Int)=[(k:Int)]:=by simp[addN]
 simp(disch:=omega)[hadd]
 refine lP_enter (σ:=NNW2) (fun q=>(.nd (.sl (F.map stepL) own) (.nd .bot .nil (.nd .bot (.nd (.map m1) .nil .nil) .nil)) (.nd .bot .nil (.nd .bot (.nd (.int q.z) .nil .nil) .nil)))) (fun q=>⟨(m1,.map (encN q.W))::OB,q.n⟩) (fun q=>q.r)
  (fun q=>q.z=(q.r:Int) - 1/\q.r<=k+1/\m1<q.n/\whyN F q.r q.W=whyW F k) ⟨(k:Int),k+1,m1+1,[(k:Int)]⟩ ⟨by dsimp only;omega,Nat.le_refl _,Nat.lt_succ_self _,rfl⟩ (by simp[FT.Le,Wk]) ⟨HWk.refl _,fun h=>h⟩ ?_
 rintro⟨z,r,n2,W⟩ ⟨hz,hr,hn2,hW⟩ hok2
 dsimp only at hz hr hn2 hW hok2
 have hlm:∀W:List Int,look m1 ((m1,LObj.map (encN W))::OB)=some (.map (encN W)):=fun W=>look_self _ _ _
 cases r with
 |succ r=>
  obtain rfl:z=(r:Int):=by omega
  have hrF:r<F.length:=by omega
  have hw2:IntKind.wrap .i64 ((r:Int) - 1)=(r:Int) - 1:=wrap_id (by omega) (by omega)
  unfold whyN at hW
  simp(disch:=omega)
  rw[lkN (hlm W)]
  by_cases hin:(r:Int)∈W
  case neg=>
   rw[if_neg hin]at hW
   rw[decide_eq_false hin]
   simp(disch:=omega)[hw2]
   exact⟨⟨(r:Int) - 1,r,n2,W⟩,by dsimp only;omega,⟨rfl,by dsimp only;omega,hn2,hW⟩,by simp[FT.Le,Wk],HWk.refl _,fun h=>h⟩
  rw[if_pos hin,List.getElem?_eq_getElem hrF]at hW
  simp only at hW
  have hfr:=(hFo _ (List.getElem_mem hrF)).2
  rw[decide_eq_true hin]
  simp(disch:=omega)[hrF]
  refine lP_enter (σ:=NNW3) (fun q=>(.nd (.sl (F.map stepL) own) (.nd .bot (.nd .bot .nil (.nd .bot (.nd .bot .nil (.nd (.int F[r].frm.length) .nil .nil)) .nil)) (.nd .bot (.nd (.map m1) .nil .nil) .nil)) (.nd .bot (.nd .bot .nil (.nd .bot (.nd .bot .nil (.nd (.int q.q) .nil .nil)) .nil)) (.nd .bot (.nd (.int r) (.nd .bot .nil (.nd (.sl (F[r].frm.map LV.int) .no) .nil .nil)) .nil) .nil)))) (fun q=>⟨(m1,.map (encN q.W))::OB,q.n⟩) (fun q=>F[r].frm.length - q.q)
   (fun q=>q.q<=F[r].frm.length/\m1<q.n/\whyN F r ((F[r].frm.drop q.q).foldl addN q.W)=whyW F k) ⟨0,n2,W⟩ ⟨Nat.zero_le _,hn2,hW⟩ (by simp[FT.Le,Wk]) ⟨HWk.refl _,fun h=>h⟩ ?_
  rintro⟨q,n3,W3⟩ ⟨hq,hn3,hW3⟩ hok3
  dsimp only at hq hn3 hW3 hok3
  by_cases hqf:q<F[r].frm.length
  ·rw[List.drop_eq_getElem_cons hqf,List.foldl_cons]at hW3
   simp(disch:=omega)[hqf]
   rw[muN (hlm W3)]
   simp(disch:=omega)[wrap_nat (show q<2^62 by omega)]
   exact⟨⟨q+1,n3,addN W3 F[r].frm[q]⟩,by dsimp only;omega,⟨by dsimp only;omega,hn3,hW3⟩,by simp[FT.Le,Wk],HWk.refl _,fun h=>h⟩
  ·obtain rfl:q=F[r].frm.length:=by omega
   rw[List.drop_length]at hW3
   simp(disch:=omega)[hw2]
   exact⟨⟨(r:Int) - 1,r,n3,W3⟩,by dsimp only;omega,⟨rfl,by dsimp only;omega,hn3,hW3⟩,by simp[FT.Le,Wk],HWk.refl _,fun h=>h⟩
 |zero=>
 have hz0:¬0<=z:=by omega
 obtain rfl:W=whyW F k:=hW
 simp(disch:=omega)[hz0]
 refine lP_enter (σ:=NNW4) (fun q=>(.nd .bot (.nd .bot (.nd .bot .nil (.nd .bot .nil (.nd .bot .nil (.nd (.sl (F.map stepL) own) .nil .nil)))) (.nd .bot (.nd (.map m1) .nil .nil) (.nd (.sl (intsL (whyT F k q.i)) q.own) .nil (.nd .bot .nil (.nd (.int q.i) .nil .nil))))) (.nd .bot (.nd .bot .nil (.nd .bot .nil (.nd .bot .nil (.nd (.int F.length) .nil .nil)))) .nil))) (fun q=>⟨q.ob,q.n⟩) (fun q=>F.length - q.i)
  (fun q=>q.i<=F.length/\RowT ⟨(m1,.map (encN (whyW F k)))::OB,n2⟩ 1 (whyT F k q.i).length q.own q.ob q.n) ⟨0,n2,.full,(m1,.map (encN (whyW F k)))::OB⟩ ⟨Nat.zero_le _,.inl ⟨rfl,rfl,Nat.le_refl _⟩⟩ (by simp[FT.Le,Wk,whyT]) ⟨HWk.refl _,fun h=>h⟩ ?_
 rintro⟨i,n3,own3,ob3⟩ ⟨hi,hr3⟩ hok3
 dsimp only at hi hr3 hok3
 have hl3:look m1 ob3=some (.map (encN (whyW F k))):=by rw[hr3.old.2 m1 hn2];exact look_self _ _ _
 have hn3:=hr3.old.1
 dsimp only at hn3
 by_cases hlt:i<F.length
 case pos=>
  have hsu:=whyT_succ F k i
  have htl:=whyT_len F k i
  simp(disch:=omega)[hlt]
  rw[lkN hl3]
  by_cases hin:(i:Int)∈whyW F k
  ·rw[if_pos hin]at hsu
   rw[decide_eq_true hin]
   simp(disch:=omega)
   refine effP_ap ?_
   obtain⟨own4,ob4,n4,e4,hr4,hn4⟩:=row_ap (sz:=1) (es:=intsL (whyT F k i)) (by omega) (ints_all _) (by rw[List.length_map];omega) (by rw[List.length_map];exact hr3) (x:=.int (i:Int)) rfl .full
   rw[List.length_map]at hr4
   simp(disch:=omega)
   rw[show apL ⟨ob3,n3⟩ 1 (.sl (List.map LV.int (whyT F k i)) own3) (.sl [.int (i:Int)] .full)=_ from e4]
   simp(disch:=omega)[wrap_nat (show i<2^62 by omega)]
   refine⟨⟨i+1,n4,own4,ob4⟩,by dsimp only;omega,⟨by dsimp only;omega,by dsimp only;rw[hsu,List.length_append];exact hr4⟩,by simp[FT.Le,Wk,hsu],HWk.refl _,fun h=>h⟩
  ·rw[if_neg hin]at hsu
   rw[decide_eq_false hin]
   simp(disch:=omega)[wrap_nat (show i<2^62 by omega)]
   exact⟨⟨i+1,n3,own3,ob3⟩,by dsimp only;omega,⟨by dsimp only;omega,by dsimp only;rw[hsu];exact hr3⟩,by simp[FT.Le,Wk,hsu],HWk.refl _,fun h=>h⟩
 obtain rfl:i=F.length:=by omega
 have e:whyT F k F.length=whyL F k:=rfl
 rw[e]at hr3 ⊢
 simp(disch:=omega)[resP_two]
 exact fin _ _ _ (fun j hj=>by rw[hr3.old.2 j (by dsimp only;omega)];exact look_ne (by omega) _ _) (by omega) (hk own3 n3 (by omega))
def KnownAt(ob:List (Nat×LObj))(ko:Nat)(K:Bind):Prop:=look ko ob=some (.um (encE K))\/(K=[]/\look ko ob=some (.map []))
theorem cP_known{f:FuncId}{args:List LV}{ob:List (Nat×LObj)}{n ko:Nat}{K:Bind}{kv kp:HP}(hk:KnownAt ob ko K)
  (h:∀ob2,look ko ob2=some (.um (encE K))->(∀i,i≠ko->look i ob2=look i ob)->(NoIt ob->NoIt ob2)->cP E0 F0 f args ⟨ob2,n⟩ kv kp):cP E0 F0 f args ⟨ob,n⟩ kv kp:=by
 rcases hk with hk|⟨rfl,hk⟩
 ·exact h ob hk (fun _ _=>rfl) id
 ·refine cP_um (o:=ko) (es:=[]) hk ?_
  exact h (putO ko (.um []) ob) (look_putO hk) (fun i hi=>look_putO_ne hi) fun hni=>hni.put _ rfl
structure DvAt(n:Nat)(ob:List (Nat×LObj))(s:Stp)(c:Clause)(tc fo am:Nat)(F:List Stp)(own:Own)(ob1:List (Nat×LObj)):Prop where
 ls:look n ob1=some (.cells (stepC s))
 lc:look tc ob1=some (.cells (clauseC c))
 ft:FactsAt ob1 fo am F own
 ni:NoIt ob1
 old:∀i,i<n->look i ob1=look i ob
section
variable{n:Nat}{ob:List (Nat×LObj)}{s:Stp}{c:Clause}{tc fo am:Nat}{F:List Stp}{own:Own}{ob1 ob2:List (Nat×LObj)}
theorem DvAt.keep(h:DvAt n ob s c tc fo am F own ob1)(hlow:∀i,(i=fo\/i=am\/own=.tok i)->i<n){ko:Nat}(hko:n<ko/\tc≠ko)(hni:NoIt ob2)(hs:∀i,i≠ko->look i ob2=look i ob1):DvAt n ob s c tc fo am F own ob2:=
 ⟨by rw[hs _ (by omega)];exact h.ls,by rw[hs _ hko.2];exact h.lc,h.ft.keep fun i hi=>hs i (by have:=hlow i hi;omega),hni,fun i hi=>by rw[hs i (by omega)];exact h.old i hi⟩
theorem DvAt.cons(h:DvAt n ob s c tc fo am F own ob1)(hlow:∀i,(i=fo\/i=am\/own=.tok i)->i<n){m:Nat}{x:LObj}(hm:n<m/\tc<m)(hx:isIt x=false):DvAt n ob s c tc fo am F own ((m,x)::ob1):=
 h.keep hlow (ko:=m) ⟨hm.1,by omega⟩ (h.ni.cons _ hx) fun i hi=>look_ne hi _ _
end
structure NNDv where
 j:Nat
 k:Nat
 n:Nat
 ko:Nat
 K:Bind
 ob:List (Nat×LObj)
theorem t_derives(l:List Clause)(hl:l.length<=2^20)(hg:∀c∈l,CGood c)(F:List Stp)(hF:F.length<=2^20)(hFg:∀s∈F,atomG s.atom)(hfr:∀s∈F,s.frm.length<=2^20)(fo am:Nat)(own:Own)(i:Nat)(hi:i<F.length)
  (ob:List (Nat×LObj)) (n:Nat) (hA:FactsAt ob fo am F own) (hni:NoIt ob) {kv kp:HP} (hk:∀n',n<=n'->kv (.bool (derB l F i F[i])) ⟨ob,n'⟩):
  cP E0 F0 48 [.ptr fo 0,clausesL l,.int i] ⟨ob,n⟩ kv kp:=by
 refine cP_of_fn c48 fun hH=>⟨Nat.le_of_ble_eq_true rfl,?_⟩
 have hlow:=hA.low hH
 have fin:∀(m:Nat)(ob1:List (Nat×LObj))(v:LV),(∀i,i<n->look i ob1=look i ob)->n<=m->kv v ⟨ob,m⟩->∃H'',HWk ⟨ob1,m⟩ H''/\(LHeap.Ok ⟨ob1,m⟩->H''.Ok)/\kv v H'':=fun m ob1 v ho hm hv=>⟨⟨ob,m⟩,hwk_old hH ho (Nat.le_refl _),fun _=>Desc.mono hH hm,hv⟩
 obtain⟨⟨a,cl,frm⟩,hs⟩:∃s,F[i]=s:=⟨_,rfl⟩
 have hsF:(⟨a,cl,frm⟩:Stp)∈F:=hs▸List.getElem_mem hi
 have hsg:atomG a:=hFg _ hsF
 have hsf:frm.length<=2^20:=hfr _ hsF
 obtain⟨V,hV⟩:∃V,derB l F i ⟨a,cl,frm⟩=V:=⟨_,rfl⟩
 rw[hs,hV]at hk
 unfold derB at hV
 simp only at hV
 have hw0:IntKind.wrap .i64 ((l.length:Int) - 1)=(l.length:Int) - 1:=wrap_id (by omega) (by omega)
 have hw1:IntKind.wrap .i64 ((i:Int) - 1)=(i:Int) - 1:=wrap_id (by omega) (by omega)
 have hs0:∀x:LObj,look fo ((n,x)::ob)=look fo ob:=fun x=>look_ne (by have:=hlow fo (.inl rfl);omega) _ _
 simp(disch:=omega)[b48,hA.pair,hi,hs,hw0]
 refine(t_within cl 0 _).go fun n1 hn1=>?_
 have e1:(decide ((0:Int)<=cl)&&decide (cl<=(l.length:Int) - 1))=decide (0<=cl/\cl<(l.length:Int)):=by
  rw[Bool.decide_and]
  congr 1
  exact decide_eq_decide.2 (by omega)
 rw[e1]
 by_cases hcl:0<=cl/\cl<(l.length:Int)
 case neg=>
  rw[if_neg hcl]at hV
  rw[decide_eq_false hcl]
  simp(disch:=omega)
  rw[<-hV]at hk
  exact fin _ _ _ (fun i hi=>look_ne (by omega) _ _) (by omega) (hk n1 (by omega))
 rw[if_pos hcl]at hV
 rw[decide_eq_true hcl]
 obtain⟨q,rfl⟩:∃q:Nat,cl=(q:Int):=⟨cl.toNat,by omega⟩
 have hql:q<l.length:=by omega
 rw[show ((q:Int)).toNat=q from rfl,List.getElem?_eq_getElem hql]at hV
 simp only at hV
 obtain⟨c,hc⟩:∃c,l[q]=c:=⟨_,rfl⟩
 have hcm:c∈l:=hc▸List.getElem_mem hql
 rw[hc]at hV
 have hcg:=hg c hcm
 obtain⟨cp1,cp2,cp3⟩:=clause_parts hcg.ok
 simp(disch:=omega)[hql,hc]
 have hD0:DvAt n ob ⟨a,q,frm⟩ c n1 fo am F own ((n1+1,.map [])::(n1,.cells (clauseC c))::(n,.cells (stepC ⟨a,q,frm⟩))::ob):=by
  refine⟨by rw[look_ne (by omega),look_ne (by omega)];exact look_self _ _ _,by rw[look_ne (by omega)];exact look_self _ _ _,hA.keep fun i hi=>?_,((hni.cons _ rfl).cons _ rfl).cons _ rfl,fun i hi=>?_⟩
  ·have:=hlow i hi
   rw[look_ne (by omega),look_ne (by omega),look_ne (by omega)]
  ·rw[look_ne (by omega),look_ne (by omega),look_ne (by omega)]
 refine lP_enter (σ:=NNDv) (fun w=>(.nd (.ptr fo 0) (.nd (clausesL l) (.nd .bot (.nd (.ptr n 0) .nil (.nd .bot (.nd (.int c.body.length) .nil .nil) .nil)) .nil) (.nd .bot (.nd (.map w.ko) .nil .nil) .nil)) (.nd (.int i) (.nd .bot (.nd (.ptr n1 0) .nil (.nd .bot (.nd (.int w.j) .nil .nil) .nil)) .nil) (.nd .bot (.nd (.int w.k) .nil .nil) (.nd .bot (.nd .bot (.nd (bodyL c.body) .nil .nil) .nil) .nil))))) (fun w=>⟨w.ob,w.n⟩) (fun w=>c.body.length - w.j)
  (fun w=>DvAt n ob ⟨a,q,frm⟩ c n1 fo am F own w.ob/\KnownAt w.ob w.ko w.K/\n1<w.ko/\w.ko<w.n/\w.j<=c.body.length/\w.k<=w.j/\w.k<=frm.length/\GoodB w.K/\(∀p∈posL (c.body.take w.j),BoundIn w.K p.args)/\endB F c ⟨a,q,frm⟩ (chainB F i (c.body.drop w.j) w.K (frm.drop w.k))=V)
  ⟨0,0,n1+1+1,n1+1,[],(n1+1,.map [])::(n1,.cells (clauseC c))::(n,.cells (stepC ⟨a,q,frm⟩))::ob⟩ ⟨hD0,.inr ⟨rfl,look_self _ _ _⟩,Nat.lt_succ_self _,Nat.lt_succ_self _,Nat.zero_le _,Nat.le_refl _,Nat.zero_le _,.nil,fun p hp=>by simp[posL]at hp,hV⟩ (by simp[FT.Le,Wk]) ⟨HWk.refl _,fun h=>h⟩ ?_
 rintro⟨j,k,m,ko,K,ob1⟩ ⟨hD,hkn,hko1,hko2,hj,hkj,hkl,hK,hbd,hend⟩ hok
 dsimp only at hD hkn hko1 hko2 hj hkj hkl hK hbd hend hok
 by_cases hlt:j<c.body.length
 case neg=>
  obtain rfl:j=c.body.length:=by omega
  rw[List.take_length]at hbd
  rw[List.drop_length]at hend
  unfold chainB at hend
  obtain⟨g1,g2⟩:=hcg.leaf hK hbd
  have hh:c.head.args.length<=2^20:=by have:=(atom_args cp1).1;omega
  by_cases hke:k=frm.length
  case neg=>
   rw[if_neg (by intro h;have:=congrArg List.length h;simp at this;omega)]at hend
   have hV0:V=false:=hend.symm
   have hke2:¬(k:Int)=(frm.length:Int):=by omega
   simp(disch:=omega)[hD.ls,hke,hke2]
   exact fin _ _ _ hD.old (by omega) (hV0▸hk m (by omega))
  subst hke
  rw[if_pos (by simp)]at hend
  unfold endB at hend
  simp(disch:=omega)[hD.ls,hD.lc]
  refine cP_known hkn fun ob2 hk2 hs2 hni2=>?_
  have hD2:=hD.keep hlow ⟨by omega,by omega⟩ (hni2 hD.ni) hs2
  refine t_filledM c.head hh K hK.nd ko ⟨ob2,m⟩ hk2 fun n3 hn3=>?_
  dsimp only at hn3
  simp(disch:=omega)[hD2.ls]
  refine(t_Compare (fillA K c.head) a (atomOk_ok g2.1) (atomOk_ok hsg.1)).go fun n4 hn4=>?_
  simp only at hend
  by_cases hz:cmpA (fillA K c.head) a=0
  case neg=>
   rw[decide_eq_false hz,Bool.false_and]at hend
   simp(disch:=omega)[hz]
   exact fin _ _ _ hD2.old (by omega) (hend▸hk n4 (by omega))
  rw[decide_eq_true hz,Bool.true_and]at hend
  simp(disch:=omega)[hz,hD2.lc]
  have hn4':n<n4:=by omega
  refine lP_enter (σ:=NNRs) (fun q=>(.nd (.ptr fo 0) (.nd .bot .nil (.nd .bot (.nd (.map ko) .nil .nil) (.nd .bot (.nd .bot (.nd .bot .nil (.nd (.int c.body.length) .nil .nil)) .nil) .nil))) (.nd .bot (.nd .bot .nil (.nd .bot (.nd .bot (.nd .bot .nil (.nd (bodyL c.body) .nil .nil)) .nil) .nil)) (.nd .bot .nil (.nd .bot (.nd .bot (.nd .bot .nil (.nd (.int q.i) .nil .nil)) .nil) .nil))))) (fun q=>⟨ob2,q.n⟩) (fun q=>c.body.length - q.i)
   (fun q=>n4<=q.n/\q.i<=c.body.length/\restOk F K (c.body.drop q.i)=V) ⟨0,n4⟩ ⟨Nat.le_refl _,Nat.zero_le _,by simpa using hend⟩ (by simp[FT.Le,Wk]) ⟨HWk.refl _,fun h=>h⟩ ?_
  rintro⟨j,m⟩ ⟨hm,hj,he⟩ hok1
  dsimp only at hm hj he hok1
  by_cases hlt:j<c.body.length
  case neg=>
   rw[List.drop_eq_nil_of_le (by omega)]at he
   have hV1:V=true:=he.symm
   obtain rfl:j=c.body.length:=by omega
   simp(disch:=omega)[hlt]
   exact fin _ _ _ hD2.old (by omega) (hV1▸hk m (by omega))
  rw[List.drop_eq_getElem_cons hlt]at he
  simp only[restOk]at he
  have b3:fo<m:=hok1.look hD2.ft.pair
  have b4:am<m:=hok1.look hD2.ft.map
  have b5:ko<m:=hok1.look hk2
  have hback:∀(m2:Nat)(x:LObj),m+1<=m2->HWk ⟨(m,x)::ob2,m2⟩ ⟨ob2,m2⟩/\(LHeap.Ok ⟨(m,x)::ob2,m2⟩->LHeap.Ok ⟨ob2,m2⟩):=fun m2 x h2=>back (H:=⟨ob2,m⟩) hok1 (HExt.cons hok1 (Nat.le_refl _) (HExt.refl (Nat.le_refl _)) (by dsimp only;omega))
  have hobx:∀(x:LObj)(i:Nat),i<n->look i ((m,x)::ob2)=look i ob:=fun x i hi=>by rw[look_ne (by omega)];exact hD2.old i hi
  have hmem:c.body[j]∈c.body:=List.getElem_mem hlt
  have hargs:c.body[j].atom.args.length<=2^20:=by have:=lit_args (cp3 _ hmem);omega
  by_cases k1:c.body[j].kind=1
  ·rw[if_pos k1]at he
   simp(disch:=omega)[hlt,k1,wrap_nat (show j<2^62 by omega)]
   obtain⟨g1,g2⟩:=hback (m+1) (.cells (litC c.body[j])) (Nat.le_refl _)
   exact⟨⟨j+1,m+1⟩,by dsimp only;omega,⟨by dsimp only;omega,by dsimp only;omega,he⟩,by simp[FT.Le,Wk],by simpa [litC,k1] using g1,by simpa [litC,k1] using g2⟩
  rw[if_neg k1]at he
  by_cases k2:c.body[j].kind=2
  ·rw[if_pos k2]at he
   simp(disch:=omega)[hlt,k1,k2,hD2.ft.pair]
   refine t_filledM c.body[j].atom hargs K hK.nd ko _ (by dsimp only;rw[look_ne (by omega)];exact hk2) fun m2 hm2=>?_
   dsimp only at hm2
   simp(disch:=omega)[hD2.ft.pair]
   refine(t_show _ (g1 _ hmem k2).1).go fun m3 hm3=>?_
   simp(disch:=omega)[hD2.ft.pair]
   rw[lkM (by rw[look_ne (by omega)];exact hD2.ft.map)]
   have hh:hasF (atomX (fillA K c.body[j].atom)) F=(lookM (atomX (fillA K c.body[j].atom)) (idxF F 0)).isSome:=rfl
   cases hl:lookM (atomX (fillA K c.body[j].atom)) (idxF F 0) with
   |some v=>
    rw[hh,hl]at he
    have hV0:V=false:=he.symm
    simp(disch:=omega)
    exact fin _ _ _ (hobx _) (by omega) (hV0▸hk m3 (by omega))
   |none=>
    rw[hh,hl]at he
    simp(disch:=omega)[wrap_nat (show j<2^62 by omega)]
    obtain⟨g1,g2⟩:=hback m3 (.cells (litC c.body[j])) (by omega)
    exact⟨⟨j+1,m3⟩,by dsimp only;omega,⟨by dsimp only;omega,by dsimp only;omega,by simpa using he⟩,by simp[FT.Le,Wk],by simpa [litC,k2] using g1,by simpa [litC,k2] using g2⟩
  rw[if_neg k2]at he
  simp(disch:=omega)[hlt,k1,k2]
  refine t_comparesM c.body[j] K hK.nd ko _ (by dsimp only;rw[look_ne (by omega)];exact hk2) fun m2 hm2=>?_
  dsimp only at hm2
  cases hcm:cmpLit K c.body[j]
  ·rw[hcm]at he
   have hV0:V=false:=he.symm
   simp(disch:=omega)
   exact fin _ _ _ (hobx _) (by omega) (hV0▸hk m2 (by omega))
  ·rw[hcm]at he
   simp(disch:=omega)[wrap_nat (show j<2^62 by omega)]
   obtain⟨g1,g2⟩:=hback m2 (.cells (litC c.body[j])) hm2
   exact⟨⟨j+1,m2⟩,by dsimp only;omega,⟨by dsimp only;omega,by dsimp only;omega,by simpa using he⟩,by simp[FT.Le,Wk],g1,g2⟩
 rw[List.drop_eq_getElem_cons hlt]at hend
 unfold chainB at hend
 have hpt:=posL_take hlt
 have hmem:c.body[j]∈c.body:=List.getElem_mem hlt
 have hnx:IntKind.wrap .i64 ((j:Int)+1)=((j+1:Nat):Int):=wrap_nat (show j<2^62 by omega)
 by_cases k1:c.body[j].kind=1
 case neg=>
  rw[if_neg k1]at hend hpt
  simp(disch:=omega)[hlt,k1,hnx]
  exact⟨⟨j+1,k,m+1,ko,K,ob1⟩,by dsimp only;omega,⟨hD,hkn,hko1,by dsimp only;omega,by dsimp only;omega,by dsimp only;omega,hkl,hK,by dsimp only;rw[hpt,List.append_nil];exact hbd,hend⟩,by simp[FT.Le,Wk],hwk_skip hok (Nat.le_refl _),fun _=>hok.mono (by dsimp only;omega)⟩
 rw[if_pos k1]at hend hpt
 have hnk:IntKind.wrap .i64 ((k:Int)+1)=((k+1:Nat):Int):=wrap_nat (show k<2^62 by omega)
 by_cases hkf:k<frm.length
 case neg=>
  rw[List.drop_eq_nil_of_le (by omega)]at hend
  have hV0:V=false:=hend.symm
  have hkf2:frm.length<=k:=by omega
  simp(disch:=omega)[hlt,k1,hD.ls,hkf,hkf2]
  exact fin _ _ _ (fun i hi=>by rw[look_ne (by omega)];exact hD.old i hi) (by omega) (hV0▸hk (m+1) (by omega))
 rw[List.drop_eq_getElem_cons hkf]at hend
 simp only at hend
 obtain⟨f,hf⟩:∃f,frm[k]=f:=⟨_,rfl⟩
 rw[hf]at hend
 have hkf2:¬frm.length<=k:=by omega
 simp(disch:=omega)[hlt,k1,hD.ls,hkf,hkf2,hf,hw1]
 refine(t_within f 0 _).go fun n2 hn2=>?_
 have e2:(decide ((0:Int)<=f)&&decide (f<=(i:Int) - 1))=decide (0<=f/\f<(i:Int)):=by
  rw[Bool.decide_and]
  congr 1
  exact decide_eq_decide.2 (by omega)
 rw[e2]
 have hob:∀(x:LObj)(i:Nat),i<n->look i ((m,x)::ob1)=look i ob:=fun x i hi=>by rw[look_ne (by omega)];exact hD.old i hi
 by_cases hfi:0<=f/\f<(i:Int)
 case neg=>
  rw[if_neg hfi]at hend
  have hV0:V=false:=hend.symm
  rw[decide_eq_false hfi]
  simp(disch:=omega)
  exact fin _ _ _ (hob _) (by omega) (hV0▸hk n2 (by omega))
 rw[if_pos hfi]at hend
 rw[decide_eq_true hfi]
 obtain⟨p,rfl⟩:∃p:Nat,f=(p:Int):=⟨f.toNat,by omega⟩
 have hpF:p<F.length:=by omega
 rw[show ((p:Int)).toNat=p from rfl,List.getElem?_eq_getElem hpF]at hend
 simp only at hend
 have b3:fo<m:=by have:=hlow fo (.inl rfl);omega
 obtain⟨X,hX⟩:∃X,LObj.cells [LV.int 1,.str c.body[j].atom.pred,argsL c.body[j].atom.args,.int c.body[j].a.kind,.int c.body[j].a.n,.str c.body[j].a.s,.int c.body[j].b.kind,.int c.body[j].b.n,.str c.body[j].b.s]=X:=⟨_,rfl⟩
 simp(disch:=omega)[hD.ls,hkf,hf,hD.ft.pair,hpF]
 rw[hX]
 have hXi:isIt X=false:=by rw[<-hX];rfl
 have hDx:=hD.cons hlow (m:=m) (x:=X) ⟨by omega,by omega⟩ hXi
 have hKx:KnownAt ((m,X)::ob1) ko K:=by
  unfold KnownAt
  rw[look_ne (by omega)]
  exact hkn
 refine cP_known hKx fun ob2 hk2 hs2 hni2=>?_
 have hD2:=hDx.keep hlow ⟨by omega,by omega⟩ (hni2 hDx.ni) hs2
 have hpk:atomOk c.body[j].atom=true:=litOk_atom (cp3 _ hmem) (.inl k1)
 have hpg:=hFg _ (List.getElem_mem hpF)
 refine t_bindM c.body[j].atom F[p].atom (atomOk_ok hpk) (atomOk_ok hpg.1) ⟨ob2,n2⟩ ko K hk2 (fun i m l k n hl=>absurd hl (hD2.ni _ _ _ _ _)) hK.nd (fun hbn=>?_) (fun R hbr=>?_)
 ·rw[hbn]at hend
  have hV0:V=false:=hend.symm
  simp(disch:=omega)
  exact fin _ _ _ hD2.old (by omega) (hV0▸hk n2 (by omega))
 ·rw[hbr]at hend
  obtain⟨s1,s2,s3,s4⟩:=bindKA_spec hK hpg hbr
  simp(disch:=omega)[hnk,hnx]
  exact⟨⟨j+1,k+1,n2+3,n2+2,R,(n2+2,.um (encE R))::ob2⟩,by dsimp only;omega,⟨hD2.cons hlow ⟨by omega,by omega⟩ rfl,.inl (look_self _ _ _),by dsimp only;omega,Nat.lt_succ_self _,by dsimp only;omega,by dsimp only;omega,by dsimp only;omega,s1,fun p hp=>by
   dsimp only at hp
   rw[hpt]at hp
   rcases List.mem_append.1 hp with h|h
   ·exact(hbd p h).ext s2
   ·rw[List.mem_singleton]at h
    subst h
    exact s3,hend⟩,by simp[FT.Le,Wk],HWk.refl _,fun h=>h⟩
theorem t_seen(a:Atom)(ha:atomOk a=true)(frm:List Int)(fv cc go gm:Nat)(F:List Stp)(own:Own)(b:Bool)(ob:List (Nat×LObj))(n:Nat)(hF:FactsAt ob go gm F own)(l1:look fv ob=some (.cells [.ptr go 0]))(l2:look cc ob=some (.cells [.bool b])){kv kp:HP}
  (hk:∀n',n<=n'->kv (.tup []) ⟨putO cc (.cells [.bool (b&&hasF (atomX a) F)]) ob,n'⟩):
  cP E0 F0 50 [atomL a,.sl (frm.map LV.int) .no,.ptr fv 0,.ptr cc 0] ⟨ob,n⟩ kv kp:=by
 refine cP_of_fn c50 fun hH=>⟨Nat.le_of_ble_eq_true rfl,?_⟩
 have b1:fv<n:=hH.look l1
 have b2:cc<n:=hH.look l2
 have b4:go<n:=hH.look hF.pair
 have b5:gm<n:=hH.look hF.map
 simp(disch:=omega)[b50,l1,hF.pair]
 refine(t_show a ha).go fun n2 hn2=>?_
 simp(disch:=omega)[l1,hF.pair]
 rw[lkM (by rw[look_ne (by omega)];exact hF.map)]
 have hh:hasF (atomX a) F=(lookM (atomX a) (idxF F 0)).isSome:=rfl
 have fin:∀(v:LObj)(x:LObj),kv (.tup []) ⟨putO cc x ob,n2⟩->∃H'',HWk ⟨(n,v)::putO cc x ob,n2⟩ H''/\(LHeap.Ok ⟨(n,v)::putO cc x ob,n2⟩->H''.Ok)/\kv (.tup []) H'':=fun v x hx=>by
  have hd:Desc (putO cc x ob) n:=Desc.put hH
  exact⟨_,hwk_skip hd (Nat.le_refl _),fun _=>hd.mono (Nat.le_trans (Nat.le_succ _) hn2),hx⟩
 cases hl:lookM (atomX a) (idxF F 0) with
 |some t=>
  have e:hasF (atomX a) F=true:=by rw[hh,hl];rfl
  rw[e,Bool.and_true]at hk
  cases b
  ·simp(disch:=omega)[resP_nil,l1,l2,hF.pair]
   exact fin _ _ (hk n2 (by omega))
  ·simp(disch:=omega)[resP_nil,l1,l2,hF.pair]
   exact fin _ _ (hk n2 (by omega))
 |none=>
  have e:hasF (atomX a) F=false:=by rw[hh,hl];rfl
  rw[e,Bool.and_false]at hk
  cases b
  ·simp(disch:=omega)[resP_nil,l1,l2,hF.pair]
   exact fin _ _ (hk n2 (by omega))
  ·simp(disch:=omega)[resP_nil,l1,l2,hF.pair]
   exact fin _ _ (hk n2 (by omega))
def doerC(F:List Stp)(fv cc go gm:Nat)(own:Own)(ob0:List (Nat×LObj))(h0:FactsAt ob0 go gm F own):Doer Bool where
 fn:=50
 cap:=[.ptr fv 0,.ptr cc 0]
 Stat:=(fv,.cells [.ptr go 0])::statF F go gm own
 At ob b S:=look cc ob=some (.cells [.bool b])/\∀i,S i↔i=cc
 step b a _:=b&&hasF (atomX a) F
 lim _:=True
 lim_step _ _ _ h:=h
 at_look ob b S i h hi:=by
  obtain⟨h1,h2⟩:=h
  obtain rfl:=(h2 i).1 hi
  exact⟨_,h1,rfl⟩
 at_keep ob ob' b S h hk:=⟨by rw[hk cc ((h.2 cc).2 rfl)];exact h.1,h.2⟩
 ok ob n b S a frm kv kp _ ha hat hst hsep hni hk:=by
  obtain⟨h1,h2⟩:=hat
  unfold StatOk at hst
  simp only[List.forall_mem_cons]at hst
  refine t_seen a ha frm fv cc go gm F own b ob n (of_statF h0 hst.2) hst.1 h1 fun n' hn'=>?_
  exact hk _ n' S hn' ⟨look_putO h1,h2⟩ (fun i hi=>.inl hi) (hni.put _ rfl) fun i hi hiS=>look_putO_ne fun e=>hiS ((h2 i).2 e)
structure CsAt(N:Nat)(ob2:List (Nat×LObj))(G:List Stp)(own:Own)(ob:List (Nat×LObj)):Prop where
 fa:FactsAt ob (N+1) N G own
 cell:look (N+1+1) ob=some (.cells [.ptr (N+1) 0])
 lo:∀t,own=.tok t->N+1+1+1<=t
 ni:NoIt ob
 old:∀i,i<N->look i ob=look i ob2
theorem CsAt.cons{N:Nat}{ob2:List (Nat×LObj)}{G:List Stp}{own:Own}{ob:List (Nat×LObj)}(h:CsAt N ob2 G own ob){m:Nat}(hok:LHeap.Ok ⟨ob,m⟩)(hm:N+1+1+1<=m){x:LObj}(hx:isIt x=false):CsAt N ob2 G own ((m,x)::ob):=
 ⟨h.fa.keep fun i hi=>look_ne (by have:=h.fa.low hok i hi;omega) _ _,by rw[look_ne (by omega)];exact h.cell,h.lo,h.ni.cons _ hx,fun i hi=>by rw[look_ne (by omega)];exact h.old i hi⟩
structure NNCs where
 i:Nat
 n:Nat
 own:Own
 ob:List (Nat×LObj)
structure NNCt where
 i:Nat
 n:Nat
 b:Bool
 ob:List (Nat×LObj)
structure NNIt where
 left:List Nat
 cur:Option Nat
def tail3(l:List Clause)(F:List Stp):Bool:=l.foldl (fun b c=>closB F c b) true
def tail2(l:List Clause)(base:List Atom)(F:List Stp):Bool:=(baseD base).all (fun s=>hasF (atomX s.atom) F)&&tail3 l F
def tail1(l:List Clause)(base:List Atom)(F:List Stp):Bool:=dersB l base F 0 F&&tail2 l base F
theorem stepsB_eq(l:List Clause)(base:List Atom)(F:List Stp):stepsB l base F=(formB [] F&&tail1 l base F):=rfl
def stepsE(l:List Clause)(R:Option (List (PK×Int)))(base:List Atom)(F:List Stp):Int:=if basedE l R base≠0 then basedE l R base else if 300<F.length then 2 else if stepsB l base F then 0 else 8
theorem idxF_keys:∀(F:List Stp)(i:Int),(idxF F i).map (·.1)=F.map fun q=>atomX q.atom
 |[],_=>rfl
 |s::r,i=>by
  have ih:=idxF_keys r (i+1)
  unfold idxF
  simp only[List.map_cons,ih]
theorem perm_all{α:Type}{l m:List α}(h:l.Perm m)(p:α->Bool):l.all p=m.all p:=by
 rw[Bool.eq_iff_iff,List.all_eq_true,List.all_eq_true]
 exact⟨fun k x hx=>k x (h.mem_iff.2 hx),fun k x hx=>k x (h.mem_iff.1 hx)⟩
theorem statF_id{F:List Stp}{fo am:Nat}{own:Own}:∀p∈statF F fo am own,p.1=fo\/p.1=am\/own=.tok p.1:=by
 unfold statF
 simp only[List.forall_mem_cons]
 refine⟨.inl trivial,.inr (.inl trivial),?_⟩
 cases own with
 |tok t=>intro p hp;simp at hp;subst hp;exact .inr (.inr rfl)
 |no=>intro p hp;cases hp
 |full=>intro p hp;cases hp
set_option maxHeartbeats 1000000 in
theorem t_CheckSteps{l:List Clause}{fuel:Nat}{R:Option (List (PK×Int))}{base:List Atom}(hI:ModIn l fuel R base)(ownB:Own)(F:List Stp)(hFl:F.length<2^63)(hFo:F.length<=300->∀s∈F,s.atom.ok/\s.frm.length<=2^20)(ob:List (Nat×LObj))(n:Nat)(hni:NoIt ob){kv kp:HP}
  (hk:∀n',n<=n'->kv (.int (stepsE l R base F)) ⟨ob,n'⟩):cP E0 F0 15 [clausesL l,.sl (base.map atomL) ownB,.sl (F.map stepL) .no] ⟨ob,n⟩ kv kp:=by
 refine cP_of_fn c15 fun hH=>⟨Nat.le_of_ble_eq_true rfl,?_⟩
 simp(disch:=omega)[b15]
 refine t_based l hI.hl fuel R hI.hR base ownB hI.hb hI.hok ob n hni (fun e he0 hwhy n2 hn2=>?_) (fun hc m hRm h100 hall om fo am ob2 n2 own2 hn2 h2=>?_)
 ·have heE:e=basedE l R base:=by
   unfold basedE
   rcases hwhy with⟨h1,h2⟩|⟨h1,h2,h3⟩|⟨h1,h2,h3,h4⟩|⟨h1,h2,h3,h4,h5⟩
   ·rw[if_pos h1];exact h2
   ·rw[if_neg (by omega),if_pos h2];exact h3
   ·rw[if_neg (by omega),if_neg h2,if_pos h3];exact h4
   ·rw[if_neg (by omega),if_neg h2,if_neg (by omega),if_neg (by simp[h4])];exact h5
  subst heE
  unfold stepsE at hk
  rw[if_pos he0]at hk
  simp(disch:=omega)[he0]
  exact keep (hk n2 hn2)
 have hbz:basedE l R base=0:=by
  unfold basedE
  rw[if_neg (by omega),if_neg (by rw[hRm];simp),if_neg (by omega),if_pos hall]
 unfold stepsE at hk
 rw[if_neg (by omega)]at hk
 have hcg:=check_good hc
 have hll:=(check_ok hc).1
 have fin:∀(m:Nat)(ob1:List (Nat×LObj))(v:LV),(∀i,i<n2->look i ob1=look i ob2)->n2<=m->kv v ⟨ob,m⟩->∃H'',HWk ⟨ob1,m⟩ H''/\(LHeap.Ok ⟨ob1,m⟩->H''.Ok)/\kv v H'':=fun m ob1 v ho hm hv=>⟨⟨ob,m⟩,hwk_old hH (fun i hi=>by rw[ho i (by omega)];exact h2.old i hi) (Nat.le_refl _),fun _=>Desc.mono hH (by dsimp only;omega),hv⟩
 by_cases h300:300<F.length
 ·rw[if_pos h300]at hk
  have h300':(300:Int)<(F.length:Int):=by omega
  simp(disch:=omega)[h300']
  exact fin _ _ _ (fun _ _=>rfl) (by omega) (hk n2 (by omega))
 rw[if_neg h300]at hk
 have h300':¬(300:Int)<(F.length:Int):=by omega
 have hFo:=hFo (by omega)
 obtain⟨V,hV⟩:∃V,stepsB l base F=V:=⟨_,rfl⟩
 rw[hV]at hk
 rw[stepsB_eq]at hV
 simp(disch:=omega)[h300']
 refine lP_okH fun hokL=>?_
 have hok2:LHeap.Ok ⟨ob2,n2⟩:=hokL.2.2.2
 have hglow:=h2.facts.low hok2
 have b8:fo<n2:=hglow fo (.inl rfl)
 have b9:am<n2:=hglow am (.inr (.inl rfl))
 have hgiv:∀{G:List Stp}{own:Own}{ob1:List (Nat×LObj)},CsAt n2 ob2 G own ob1->FactsAt ob1 fo am (baseD base) own2:=fun h=>h2.facts.keep fun i hi=>h.old i (hglow i hi)
 refine lP_enter (σ:=NNCs) (fun q=>(.nd (clausesL l) (.nd .bot .nil (.nd .bot (.nd .bot .nil (.nd .bot (.nd (.int F.length) .nil .nil) .nil)) .nil)) (.nd (.sl (F.map stepL) .no) (.nd .bot (.nd (.ptr fo 0) .nil (.nd .bot (.nd (.sl (F.map stepL) .no) .nil .nil) .nil)) .nil) (.nd .bot (.nd (.ptr (n2+1+1) 0) .nil (.nd .bot (.nd (.int q.i) .nil .nil) .nil)) .nil)))) (fun q=>⟨q.ob,q.n⟩) (fun q=>F.length - q.i)
  (fun q=>q.i<=F.length/\n2+1+1+1<=q.n/\CsAt n2 ob2 (F.take q.i) q.own q.ob/\(formB (F.take q.i) (F.drop q.i)&&tail1 l base F)=V/\(∀s∈F.take q.i,atomG s.atom))
  ⟨0,n2+1+1+1,.full,(n2+1+1,.cells [.ptr (n2+1) 0])::(n2+1,.cells [.map n2,Nl])::(n2,.map [])::ob2⟩ ⟨Nat.zero_le _,Nat.le_refl _,⟨⟨by rw[look_ne (by omega)];exact look_self _ _ _,by rw[look_ne (by omega),look_ne (by omega)];exact look_self _ _ _,by omega,.inl ⟨rfl,rfl⟩⟩,look_self _ _ _,fun t h=>(by cases h),((h2.ni.cons _ rfl).cons _ rfl).cons _ rfl,fun i hi=>by rw[look_ne (by omega),look_ne (by omega),look_ne (by omega)]⟩,hV,fun s hs=>(by simp at hs)⟩ (by simp[FT.Le,Wk]) ⟨HWk.refl _,fun h=>h⟩ ?_
 rintro⟨i,m1,own,ob1⟩ ⟨hi,hm1,hC,hf,hg⟩ hok1
 dsimp only at hi hm1 hC hf hg hok1
 by_cases hlt:i<F.length
 case pos=>
  obtain⟨G,hG⟩:∃G,F.take i=G:=⟨_,rfl⟩
  have hGl:G.length=i:=by rw[<-hG,List.length_take];omega
  have hG2:F.take (i+1)=G++[F[i]]:=by rw[<-hG,List.take_add_one,List.getElem?_eq_getElem hlt];rfl
  rw[hG]at hC hf hg
  rw[List.drop_eq_getElem_cons hlt]at hf
  unfold formB at hf
  obtain⟨hao,hfo⟩:=hFo _ (List.getElem_mem hlt)
  have hCx:=hC.cons hok1 hm1 (x:=.cells (stepC F[i])) rfl
  have hnx:IntKind.wrap .i64 ((i:Int)+1)=((i+1:Nat):Int):=wrap_nat (show i<2^62 by omega)
  simp(disch:=omega)[hlt]
  refine(t_formedAtom F[i].atom hao).go fun n3 hn3=>?_
  cases ha:atomOk F[i].atom
  ·have e:baseOk F[i].atom=false:=by simp[baseOk,ha]
   rw[e,Bool.false_and,Bool.false_and]at hf
   simp(disch:=omega)
   exact fin _ _ _ hCx.old (by omega) (by rw[<-hf]at hk;exact hk n3 (by omega))
  simp(disch:=omega)
  refine(t_ground F[i].atom hao).go fun n4 hn4=>?_
  cases hgr:F[i].atom.args.all notVar
  ·have e:baseOk F[i].atom=false:=by simp[baseOk,hgr]
   rw[e,Bool.false_and,Bool.false_and]at hf
   simp(disch:=omega)
   exact fin _ _ _ hCx.old (by omega) (by rw[<-hf]at hk;exact hk n4 (by omega))
  have e:baseOk F[i].atom=true:=by simp[baseOk,ha,hgr]
  rw[e,Bool.true_and]at hf
  simp(disch:=omega)[hC.cell,hC.fa.pair,hGl]
  refine t_add F[i] ha (n2+1) n2 G (by omega) own _ n4 hCx.fa (fun hex n5 hn5=>?_) (fun hno ob5 n5 own5 hn5 hF5 hnear hni5 hsame=>?_)
  ·have e2:hasF (atomX F[i].atom) G=true:=hasF_iff.2 hex
   rw[e2,Bool.not_true,Bool.false_and,Bool.false_and]at hf
   simp(disch:=omega)[hC.cell,hC.fa.pair,hGl]
   exact fin _ _ _ hCx.old (by omega) (by rw[<-hf]at hk;exact hk n5 (by omega))
  ·have e2:hasF (atomX F[i].atom) G=false:=by
    cases h:hasF (atomX F[i].atom) G with
    |false=>rfl
    |true=>
     obtain⟨q,hq,e⟩:=hasF_iff.1 h
     exact absurd e (hno q hq)
   rw[e2,Bool.not_false,Bool.true_and]at hf
   have hlo:=hC.lo
   have hcell5:look (n2+1+1) ob5=some (.cells [.ptr (n2+1) 0]):=by
    rw[hsame _ (by omega) (by omega) (by omega) (fun t ht=>by have:=hlo t ht;omega)]
    exact hCx.cell
   have hL2:((G++[F[i]]).length:Int)=(i:Int)+1:=by rw[List.length_append,hGl];rfl
   have hne5:¬(i:Int)+1=(i:Int):=by omega
   simp(disch:=omega)[hcell5,hF5.pair,hGl,hnx,hne5]
   refine⟨⟨i+1,n5,own5,ob5⟩,by dsimp only;omega,⟨by dsimp only;omega,by dsimp only;omega,⟨by dsimp only;rw[hG2];exact hF5,hcell5,fun t ht=>?_,hni5 hCx.ni,fun j hj=>?_⟩,by dsimp only;rw[hG2];exact hf,fun s hs=>?_⟩,by simp[FT.Le,Wk],HWk.refl _,fun h=>h⟩
   ·dsimp only at ht
    rcases hnear with h|⟨t',h,h'⟩
    ·exact hlo t (by rw[<-h];exact ht)
    ·rw[h]at ht
     cases ht
     omega
   ·rw[hsame j (by omega) (by omega) (by omega) (fun t ht=>by have:=hlo t ht;omega)]
    exact hCx.old j hj
   ·dsimp only at hs
    rw[hG2]at hs
    rcases List.mem_append.1 hs with h|h
    ·exact hg s h
    ·rw[List.mem_singleton]at h
     rw[h]
     exact baseOk_iff.1 e
 obtain rfl:i=F.length:=by omega
 rw[List.take_length]at hC hf hg
 rw[List.drop_length]at hf
 have hf:(true&&tail1 l base F)=V:=hf
 rw[Bool.true_and]at hf
 unfold tail1 at hf
 have hgv:=hgiv hC
 have hgn:fo<m1/\am<m1:=⟨by omega,by omega⟩
 simp(disch:=omega)
 refine lP_enter (σ:=NN) (fun q=>(.nd (clausesL l) (.nd .bot .nil (.nd .bot (.nd .bot .nil (.nd .bot (.nd .bot (.nd (.int F.length) .nil .nil) .nil) .nil)) .nil)) (.nd .bot (.nd .bot (.nd (.ptr fo 0) .nil (.nd .bot (.nd .bot (.nd (.sl (F.map stepL) .no) .nil .nil) .nil) .nil)) .nil) (.nd .bot (.nd (.ptr (n2+1+1) 0) .nil (.nd .bot (.nd .bot (.nd (.int q.i) .nil .nil) .nil) .nil)) .nil)))) (fun q=>⟨ob1,q.n⟩) (fun q=>F.length - q.i)
  (fun q=>q.i<=F.length/\m1<=q.n/\(dersB l base F q.i (F.drop q.i)&&tail2 l base F)=V)
  ⟨0,m1⟩ ⟨Nat.zero_le _,Nat.le_refl _,hf⟩ (by simp[FT.Le,Wk]) ⟨HWk.refl _,fun h=>h⟩ ?_
 rintro⟨i,m⟩ ⟨hi,hm,hf⟩ hok
 dsimp only at hi hm hf hok
 by_cases hlt:i<F.length
 case pos=>
  rw[List.drop_eq_getElem_cons hlt]at hf
  unfold dersB at hf
  obtain⟨hao,hfo⟩:=hFo _ (List.getElem_mem hlt)
  have hag:=hg _ (List.getElem_mem hlt)
  have hnx:IntKind.wrap .i64 ((i:Int)+1)=((i+1:Nat):Int):=wrap_nat (show i<2^62 by omega)
  have hCx:=hC.cons hok (by omega) (x:=.cells (stepC F[i])) rfl
  have hdrop:∀(k:Nat)(x:LObj),m<=k->HWk ⟨(m,x)::ob1,k⟩ ⟨ob1,k⟩/\(LHeap.Ok ⟨(m,x)::ob1,k⟩->LHeap.Ok ⟨ob1,k⟩):=fun k x hk=>⟨hwk_skip hok (Nat.le_refl _),fun _=>Desc.mono hok hk⟩
  simp(disch:=omega)[hlt,hgv.pair]
  refine(t_show F[i].atom hag.1).go fun n3 hn3=>?_
  simp(disch:=omega)[hgv.pair]
  rw[lkM (by rw[look_ne (by omega)];exact hgv.map)]
  have hh:hasF (atomX F[i].atom) (baseD base)=(lookM (atomX F[i].atom) (idxF (baseD base) 0)).isSome:=rfl
  by_cases hcl:F[i].cl=-1
  ·by_cases hfr:F[i].frm=[]
   ·cases hl:lookM (atomX F[i].atom) (idxF (baseD base) 0) with
    |some t=>
     have hf0:(decide (F[i].cl=-1)&&(decide (F[i].frm=[])&&hasF (atomX F[i].atom) (baseD base)))=true:=by simp[hcl,hfr,hh,hl]
     rw[hf0,Bool.true_or,Bool.true_and]at hf
     simp(disch:=omega)[hcl,hfr,hnx]
     exact⟨⟨i+1,n3⟩,by dsimp only;omega,⟨by dsimp only;omega,by dsimp only;omega,hf⟩,by simp[FT.Le,Wk],(hdrop n3 _ (by omega)).1,(hdrop n3 _ (by omega)).2⟩
    |none=>
     have hf0:(decide (F[i].cl=-1)&&(decide (F[i].frm=[])&&hasF (atomX F[i].atom) (baseD base)))=false:=by simp[hcl,hfr,hh,hl]
     simp(disch:=omega)[hcl,hfr,hC.cell]
     rw[hf0,Bool.false_or]at hf
     refine t_derives l (by omega) hcg F (by omega) hg (fun s hs=>(hFo s hs).2) (n2+1) n2 own i hlt _ n3 hCx.fa hCx.ni fun n5 hn5=>?_
     cases hd:derB l F i F[i]
     ·rw[hd,Bool.false_and,Bool.false_and]at hf
      simp(disch:=omega)
      exact fin _ _ _ hCx.old (by omega) (by rw[<-hf]at hk;exact hk n5 (by omega))
     ·rw[hd,Bool.true_and]at hf
      simp(disch:=omega)[hnx]
      obtain⟨d1,d2⟩:=hdrop n5 (.cells (stepC F[i])) (by omega)
      exact⟨⟨i+1,n5⟩,by dsimp only;omega,⟨by dsimp only;omega,by dsimp only;omega,hf⟩,by simp[FT.Le,Wk],d1,d2⟩
   ·have hfr2:¬F[i].frm.length=0:=fun h=>hfr (List.eq_nil_of_length_eq_zero h)
    have hf0:(decide (F[i].cl=-1)&&(decide (F[i].frm=[])&&hasF (atomX F[i].atom) (baseD base)))=false:=by simp[hfr]
    cases hl:lookM (atomX F[i].atom) (idxF (baseD base) 0) with
    |some t=>
     simp(disch:=omega)[hcl,hfr,hfr2,hC.cell]
     rw[hf0,Bool.false_or]at hf
     refine t_derives l (by omega) hcg F (by omega) hg (fun s hs=>(hFo s hs).2) (n2+1) n2 own i hlt _ n3 hCx.fa hCx.ni fun n5 hn5=>?_
     cases hd:derB l F i F[i]
     ·rw[hd,Bool.false_and,Bool.false_and]at hf
      simp(disch:=omega)
      exact fin _ _ _ hCx.old (by omega) (by rw[<-hf]at hk;exact hk n5 (by omega))
     ·rw[hd,Bool.true_and]at hf
      simp(disch:=omega)[hnx]
      obtain⟨d1,d2⟩:=hdrop n5 (.cells (stepC F[i])) (by omega)
      exact⟨⟨i+1,n5⟩,by dsimp only;omega,⟨by dsimp only;omega,by dsimp only;omega,hf⟩,by simp[FT.Le,Wk],d1,d2⟩
    |none=>
     simp(disch:=omega)[hcl,hfr,hfr2,hC.cell]
     rw[hf0,Bool.false_or]at hf
     refine t_derives l (by omega) hcg F (by omega) hg (fun s hs=>(hFo s hs).2) (n2+1) n2 own i hlt _ n3 hCx.fa hCx.ni fun n5 hn5=>?_
     cases hd:derB l F i F[i]
     ·rw[hd,Bool.false_and,Bool.false_and]at hf
      simp(disch:=omega)
      exact fin _ _ _ hCx.old (by omega) (by rw[<-hf]at hk;exact hk n5 (by omega))
     ·rw[hd,Bool.true_and]at hf
      simp(disch:=omega)[hnx]
      obtain⟨d1,d2⟩:=hdrop n5 (.cells (stepC F[i])) (by omega)
      exact⟨⟨i+1,n5⟩,by dsimp only;omega,⟨by dsimp only;omega,by dsimp only;omega,hf⟩,by simp[FT.Le,Wk],d1,d2⟩
  ·have hf0:(decide (F[i].cl=-1)&&(decide (F[i].frm=[])&&hasF (atomX F[i].atom) (baseD base)))=false:=by simp[hcl]
   cases hl:lookM (atomX F[i].atom) (idxF (baseD base) 0) with
   |some t=>
    simp(disch:=omega)[hcl,hC.cell]
    rw[hf0,Bool.false_or]at hf
    refine t_derives l (by omega) hcg F (by omega) hg (fun s hs=>(hFo s hs).2) (n2+1) n2 own i hlt _ n3 hCx.fa hCx.ni fun n5 hn5=>?_
    cases hd:derB l F i F[i]
    ·rw[hd,Bool.false_and,Bool.false_and]at hf
     simp(disch:=omega)
     exact fin _ _ _ hCx.old (by omega) (by rw[<-hf]at hk;exact hk n5 (by omega))
    ·rw[hd,Bool.true_and]at hf
     simp(disch:=omega)[hnx]
     obtain⟨d1,d2⟩:=hdrop n5 (.cells (stepC F[i])) (by omega)
     exact⟨⟨i+1,n5⟩,by dsimp only;omega,⟨by dsimp only;omega,by dsimp only;omega,hf⟩,by simp[FT.Le,Wk],d1,d2⟩
   |none=>
    simp(disch:=omega)[hcl,hC.cell]
    rw[hf0,Bool.false_or]at hf
    refine t_derives l (by omega) hcg F (by omega) hg (fun s hs=>(hFo s hs).2) (n2+1) n2 own i hlt _ n3 hCx.fa hCx.ni fun n5 hn5=>?_
    cases hd:derB l F i F[i]
    ·rw[hd,Bool.false_and,Bool.false_and]at hf
     simp(disch:=omega)
     exact fin _ _ _ hCx.old (by omega) (by rw[<-hf]at hk;exact hk n5 (by omega))
    ·rw[hd,Bool.true_and]at hf
     simp(disch:=omega)[hnx]
     obtain⟨d1,d2⟩:=hdrop n5 (.cells (stepC F[i])) (by omega)
     exact⟨⟨i+1,n5⟩,by dsimp only;omega,⟨by dsimp only;omega,by dsimp only;omega,hf⟩,by simp[FT.Le,Wk],d1,d2⟩
 obtain rfl:i=F.length:=by omega
 rw[List.drop_length]at hf
 have hf:(true&&tail2 l base F)=V:=hf
 rw[Bool.true_and]at hf
 unfold tail2 at hf
 simp(disch:=omega)[hgv.pair,hgv.map,rgL]
 obtain⟨ms,hms⟩:∃ms,idxF (baseD base) 0=ms:=⟨_,rfl⟩
 have hmap:=hgv.map
 rw[hms]at hmap ⊢
 have hT0:(((List.range ms.length).filterMap (fun k=>(ms.map (·.1))[k]?)).all (fun t=>hasF t F)&&tail3 l F)=V:=by
  have h1:=range_filterMap (ms.map (·.1))
  rw[List.length_map]at h1
  rw[h1,<-hms,idxF_keys,List.all_map]
  exact hf
 refine lP_enter (σ:=NNIt) (fun q=>(.nd (clausesL l) .nil (.nd .bot (.nd .bot (.nd .bot (.nd .bot .nil (.nd .bot .nil (.nd (.ptr m 0) .nil .nil))) .nil) .nil) (.nd .bot (.nd (.ptr (n2+1+1) 0) .nil .nil) .nil)))) (fun q=>⟨(m,.iter am q.left q.cur ms.length)::ob1,m+1⟩) (fun q=>q.left.length)
  (fun q=>((q.left.filterMap (fun k=>(ms.map (·.1))[k]?)).all (fun t=>hasF t F)&&tail3 l F)=V) ⟨List.range ms.length,none⟩ hT0 (by simp[FT.Le,Wk]) ⟨HWk.refl _,fun h=>h⟩ ?_
 rintro⟨left,cur⟩ hT hok3
 dsimp only at hT hok3
 have hn2m:n2+1+1<m:=by omega
 simp(disch:=omega)
 by_cases hl0:left=[]
 case neg=>
  refine⟨m,am,left,cur,ms.length,rfl,by simp[look_self],.inr ⟨hl0,_,by rw[look_ne (by omega)];exact hmap,by simp,fun j k e hj hk2=>?_⟩⟩
  obtain⟨v,hv,rfl⟩:∃v,ms[k]? = some v/\e=(.str v.1,.int v.2):=by
   simp only[List.getElem?_map]at hk2
   obtain⟨v,h1,h2⟩:=Option.map_eq_some_iff.1 hk2
   exact⟨v,h1,h2.symm⟩
  have hjl:j<left.length:=(List.getElem?_eq_some_iff.1 hj).1
  have hfe:(left.filterMap (fun k=>(ms.map (·.1))[k]?)).Perm (v.1::(left.eraseIdx j).filterMap (fun k=>(ms.map (·.1))[k]?)):=by
   have:=(perm_erase left j k hj).filterMap (fun k=>(ms.map (·.1))[k]?)
   rwa [List.filterMap_cons_some (by rw[List.getElem?_map,hv];rfl)]at this
  rw[perm_all hfe,List.all_cons]at hT
  have hh:hasF v.1 F=(lookM v.1 (idxF F 0)).isSome:=rfl
  have hx:∀x:LObj,look (n2+1) ((m,x)::ob1)=look (n2+1) ob1:=fun x=>look_ne (by omega) _ _
  simp(disch:=omega)[enL,hmap,hv,hC.cell,hC.fa.pair]
  rw[lkM (by rw[look_ne (by omega)];exact hC.fa.map)]
  cases hl:lookM v.1 (idxF F 0) with
  |some t=>
   rw[hh,hl]at hT
   simp(disch:=omega)
   refine⟨⟨left.eraseIdx j,some k⟩,by dsimp only;rw[List.length_eraseIdx_of_lt hjl];omega,by simpa using hT,by simp[FT.Le,Wk],HWk.refl _,fun h=>h⟩
  |none=>
   rw[hh,hl]at hT
   have hV0:V=false:=hT.symm
   simp(disch:=omega)
   exact fin _ _ _ (fun i hi=>by rw[look_ne (by omega)];exact hC.old i hi) (by omega) (by rw[hV0]at hk;exact hk (m+1) (by omega))
 refine⟨m,am,left,cur,ms.length,rfl,by simp[look_self],.inl ⟨hl0,.inr ⟨_,by rw[look_ne (by omega)];exact hmap,by simp⟩,?_⟩⟩
 subst hl0
 have hT:tail3 l F=V:=by simpa using hT
 unfold tail3 at hT
 simp(disch:=omega)
 have hN:n2+1+1+1<=m:=by omega
 have hFlow:=hC.fa.low hok
 refine lP_enter (σ:=NNCt) (fun q=>(.nd (clausesL l) (.nd .bot .nil (.nd .bot (.nd .bot (.nd .bot (.nd .bot (.nd .bot (.nd (.int l.length) .nil .nil) .nil) .nil) .nil) .nil) (.nd .bot (.nd (.ptr (m+1) 0) .nil .nil) .nil))) (.nd .bot (.nd .bot (.nd .bot (.nd .bot (.nd .bot (.nd .bot (.nd (clausesL l) .nil .nil) .nil) .nil) .nil) .nil) .nil) (.nd .bot (.nd (.ptr (n2+1+1) 0) (.nd .bot (.nd .bot (.nd .bot (.nd (.int q.i) .nil .nil) .nil) .nil) .nil) .nil) .nil)))) (fun q=>⟨q.ob,q.n⟩) (fun q=>l.length - q.i)
  (fun q=>q.i<=l.length/\m+1<q.n/\(l.drop q.i).foldl (fun b c=>closB F c b) q.b=V/\CsAt n2 ob2 F own q.ob/\look (m+1) q.ob=some (.cells [.bool q.b]))
  ⟨0,m+1+1,true,(m+1,.cells [.bool true])::ob1⟩ ⟨Nat.zero_le _,Nat.lt_succ_self _,hT,hC.cons (m:=m+1) (x:=.cells [.bool true]) (Desc.mono hok (Nat.le_succ _)) (by omega) rfl,look_self _ _ _⟩ (by simp[FT.Le,Wk]) ?_ ?_
 ·exact⟨hwk_mid hok fun _ _ h=>h,fun _=>⟨Nat.lt_succ_self _,Desc.mono hok (Nat.le_succ _)⟩⟩
 rintro⟨i,m4,b,ob4⟩ ⟨hi,hm4,hT,hC4,hc4⟩ hok4
 dsimp only at hi hm4 hT hC4 hc4 hok4
 by_cases hlt:i<l.length
 case neg=>
  obtain rfl:i=l.length:=by omega
  rw[List.drop_length]at hT
  have hT:b=V:=hT
  subst hT
  cases b
  ·simp(disch:=omega)[hc4]
   exact fin _ _ _ hC4.old (by omega) (hk m4 (by omega))
  ·simp(disch:=omega)[hc4]
   exact fin _ _ _ hC4.old (by omega) (hk m4 (by omega))
 rw[List.drop_eq_getElem_cons hlt,List.foldl_cons]at hT
 have hnx:IntKind.wrap .i64 ((i:Int)+1)=((i+1:Nat):Int):=wrap_nat (show i<2^62 by omega)
 simp(disch:=omega)[hlt,hC4.cell]
 have hclg:=hcg _ (List.getElem_mem hlt)
 have hC5:=hC4.cons hok4 (by omega) (x:=.cells (clauseC l[i])) rfl
 refine t_instances (D:=doerC F (n2+1+1) (m+1) (n2+1) n2 own ob1 hC.fa) l[i] hclg F (n2+1) n2 own ((n2+1+1,.cells [.ptr (n2+1) 0])::statF F (n2+1) n2 own) (fun p hp=>hp) (fun p hp=>?_) (fun ob h=>of_statF hC.fa fun p hp=>h p (List.mem_cons_of_mem _ hp)) hg (by omega) _ _ b (fun i=>i=m+1) trivial (fun p hp=>?_) ⟨?_,fun i=>Iff.rfl⟩ (fun p hp=>?_) hC5.ni fun ob5 m5 S5 hm5 hat5 hS5 hni5 hsame=>?_
 ·rcases List.mem_cons.1 hp with rfl|hp
  ·rfl
  ·exact statF_plain _ _ _ _ p hp
 ·rcases List.mem_cons.1 hp with rfl|hp
  ·exact hC5.cell
  ·exact statF_ok hC5.fa p hp
 ·rw[look_ne (by omega)]
  exact hc4
 ·rcases List.mem_cons.1 hp with rfl|hp
  ·dsimp only;omega
  ·have:=hFlow _ (statF_id p hp)
   omega
 ·have hkp:∀j,j<m->look j ob5=look j ((m4,.cells (clauseC l[i]))::ob4):=fun j hj=>hsame j (by omega) (by omega)
  simp(disch:=omega)[hnx]
  refine⟨⟨i+1,m5,closB F l[i] b,ob5⟩,by dsimp only;omega,⟨by dsimp only;omega,by dsimp only;omega,hT,⟨hC5.fa.keep fun j hj=>hkp j (hFlow j hj),by rw[hkp _ (by omega)];exact hC5.cell,hC5.lo,hni5,fun j hj=>by rw[hkp j (by omega)];exact hC5.old j hj⟩,hat5.1⟩,by simp[FT.Le,Wk],HWk.refl _,fun h=>h⟩
def Sgn(z:Int):Prop:=z=-1\/z=0\/z=1
theorem cmpB_sgn(a b:ByteArray):Sgn (cmpB a b):=by
 unfold cmpB Sgn
 split
 ·exact .inl rfl
 ·split<;>simp
theorem cmpI_sgn(a b:Int):Sgn (cmpI a b):=by
 unfold cmpI Sgn
 split
 ·exact .inl rfl
 ·split<;>simp
theorem or3_sgn{a b c:Int}(ha:Sgn a)(hb:Sgn b)(hc:Sgn c):Sgn (or3 a b c):=by
 unfold or3
 split
 ·exact ha
 ·split
  ·exact hb
  ·exact hc
theorem cmpTs_sgn:∀x y:List Term,Sgn (cmpTs x y)
 |[],[]=>.inr (.inl rfl)
 |[],_::_=>.inl rfl
 |_::_,[]=>.inr (.inr rfl)
 |x::xs,y::ys=>by
  simp only[cmpTs]
  split
  ·exact or3_sgn (cmpI_sgn _ _) (cmpI_sgn _ _) (cmpB_sgn _ _)
  ·exact cmpTs_sgn xs ys
theorem cmpA_sgn(a b:Atom):Sgn (cmpA a b):=or3_sgn (cmpB_sgn _ _) (cmpI_sgn _ _) (cmpTs_sgn _ _)
theorem t_in(zs:List Int)(hz:zs.length<2^60)(own:Own)(x:Int):PureT 19 [.sl (intsL zs) own,.int x] (.bool (zs.any fun z=>decide (z=x))):=by
 refine PureT.of c19 fun H hH=>⟨Nat.le_of_ble_eq_true rfl,?_⟩
 simp(disch:=omega)[b19]
 obtain⟨V,hV⟩:∃V,(zs.any fun z=>decide (z=x))=V:=⟨_,rfl⟩
 rw[hV]
 refine lP_enter (σ:=NN) (fun q=>(.nd (.sl (intsL zs) own) (.nd (.int x) .nil (.nd (.int q.i) .nil .nil)) .nil)) (fun q=>⟨H.objs,q.n⟩) (fun q=>zs.length - q.i)
  (fun q=>H.next<=q.n/\q.i<=zs.length/\((zs.drop q.i).any fun z=>decide (z=x))=V) ⟨0,H.next⟩ ⟨Nat.le_refl _,Nat.zero_le _,hV⟩ (by simp[FT.Le,Wk]) ⟨HWk.refl _,fun h=>h⟩ ?_
 rintro⟨i,n⟩ ⟨hn,hi,he⟩ hok
 dsimp only at hn hi he
 by_cases hlt:i<zs.length
 case neg=>
  obtain rfl:i=zs.length:=by omega
  rw[List.drop_length,List.any_nil]at he
  simp(disch:=omega)
  exact doneK hH (by simp[<-he])
 rw[List.drop_eq_getElem_cons hlt,List.any_cons]at he
 by_cases hx:zs[i]=x
 ·rw[decide_eq_true hx,Bool.true_or]at he
  simp(disch:=omega)[hlt,hx]
  exact doneK hH (by simp[<-he])
 ·rw[decide_eq_false hx,Bool.false_or]at he
  simp(disch:=omega)[hlt,hx,wrap_nat (show i<2^62 by omega)]
  exact⟨⟨i+1,n⟩,by dsimp only;omega,⟨by dsimp only;omega,by dsimp only;omega,he⟩,by simp[FT.Le,Wk],HWk.refl _,fun h=>h⟩
theorem cP_argsS{f:FuncId}{a b c c':LV}{H H':LHeap}{kv kp:HP}(hw:Wk c c')(hh:HWk H H')(hok:H.Ok->H'.Ok)(h:cP E0 F0 f [a,b,c'] H' kv kp):cP E0 F0 f [a,b,c] H kv kp:=fun hH=>
 .weakArgs (args':=[a,b,c']) rfl (fun i=>by
  match i with
  |0=>exact .inl rfl
  |1=>exact .inl rfl
  |2=>exact hw
  |n+3=>exact .inl rfl) hh (h (hok hH))
theorem strip_steps(F:List Stp)(ow:Own):Wk (.sl (F.map stepL) ow) (.sl (F.map stepL) .no):=by
 refine .inr (.inl ?_)
 simp[LV.strip,stripL,stripL_map,List.map_map,Function.comp_def]
theorem sorted_step{B:List Atom}(hs:B.Pairwise fun x y=>¬cmpA y x<0)(hn:B.Nodup){i:Nat}(h:i+1<B.length):cmpA B[i] B[i+1]=-1:=by
 have h1:=List.pairwise_iff_getElem.1 hs i (i+1) (by omega) h (Nat.lt_succ_self _)
 have h2:=cmpA_L.anti B[i] B[i+1]
 have h3:cmpA B[i] B[i+1]≠0:=fun e=>by
  have:=(List.getElem_inj hn).1 (cmpA_L.eq _ _ e)
  omega
 rcases cmpA_sgn B[i] B[i+1] with h|h|h
 ·exact h
 ·exact absurd h h3
 ·rw[h]at h2
  omega
def seenB(b:Bool)(l:List Atom)(a:Atom):Bool:=b||l.any fun x=>decide (cmpA x a=0)
theorem seen_cons(b:Bool)(x:Atom)(l:List Atom)(a:Atom):seenB b (x::l) a=seenB (b||decide (cmpA x a=0)) l a:=by
 unfold seenB
 rw[List.any_cons,Bool.or_assoc]
theorem seen_nil(b:Bool)(a:Atom):seenB b [] a=b:=by simp[seenB]
structure NNKi where
 k:Nat
 n:Nat
 b:Bool
set_option maxHeartbeats 2000000 in
theorem t_law10(hs:PureT 9 [] (.bool true))(l:List Clause)(base:List Atom)(z:Int)(hz:0<=z/\z<65536)(hb:∀c∈l,c.body.length<2^63)(hbl:base.length<2^63)(ob:List (Nat×LObj))(n:Nat)(hni:NoIt ob){kv kp:HP}
  (hk:∀n',n<=n'->kv (.bool true) ⟨ob,n'⟩):cP E0 F0 4 [clausesL l,.sl (base.map atomL) .no,.sc (.int .u16 z)] ⟨ob,n⟩ kv kp:=by
 refine cP_of_fn c4 fun hH=>⟨Nat.le_of_ble_eq_true rfl,?_⟩
 simp(disch:=omega)[b4]
 refine(t_shortClauses 6 (by omega) l hb).go fun n1 hn1=>?_
 have fin1:∀(m:Nat),n<=m->∃H'',HWk ⟨ob,m⟩ H''/\(LHeap.Ok ⟨ob,m⟩->H''.Ok)/\kv (.bool true) H'':=fun m hm=>⟨⟨ob,m⟩,HWk.refl _,id,hk m hm⟩
 cases h1:shortB 6 l
 ·simp(disch:=omega)
  refine hs.go fun n2 hn2=>?_
  simp(disch:=omega)
  exact fin1 _ (by omega)
 simp(disch:=omega)
 refine(t_shortAtoms base (by omega)).go fun n2 hn2=>?_
 cases h2:shortAs base
 ·simp(disch:=omega)
  refine hs.go fun n3 hn3=>?_
  simp(disch:=omega)
  exact fin1 _ (by omega)
 have hcl:l.length<=40->∀c∈l,clShort c=true:=by
  intro hl c hc
  unfold shortB at h1
  rw[if_neg (by omega)]at h1
  split at h1
  ·rename_i hall
   exact List.all_eq_true.1 hall c hc
  ·cases h1
 have hsm:SmallL l:=⟨fun hl c hc=>short_ok3 (hcl hl c hc)⟩
 have hbo:base.length<=100->∀x∈base,x.ok:=by
  intro hl x hx
  unfold shortAs at h2
  rw[if_neg (by omega)]at h2
  split at h2
  ·rename_i hall
   exact Atom.small_ok (List.all_eq_true.1 hall x hx)
  ·cases h2
 obtain⟨fuel,R,hR,hRb,hLC⟩:=lev_ex l
 have hI:ModIn l fuel R base:=⟨hsm,hR,hRb,hbl,hbo⟩
 simp(disch:=omega)
 refine t_Model hI _ _ _ hni (fun h0 n4 hn4=>?_) (fun h0 B ow n4 hB hn4=>?_)
 ·simp(disch:=omega)
  refine t_Derive hI _ _ _ hni (fun _ n5 hn5=>?_) (fun h _ _ _=>absurd h h0)
  simp(disch:=omega)[h0]
  refine hs.go fun n6 hn6=>?_
  simp(disch:=omega)
  exact fin1 _ (by omega)
 simp(disch:=omega)
 refine t_Derive hI _ _ _ hni (fun h _ _=>absurd h0 h) (fun _ oD n5 hn5=>?_)
 obtain⟨hst,hml,hNm,hBk⟩:=model_steps hLC h0
 obtain⟨_,hmg⟩:=model_good hLC h0
 have hls:=fun h=>less_steps hLC h0 (h:(modelF l R base).length≠0)
 have hbe:basedE l R base=0:=by
  unfold modelE at h0
  by_cases h:basedE l R base≠0
  ·rw[if_pos h]at h0;exact absurd h0 h
  ·omega
 obtain⟨F,hF⟩:∃F,modelF l R base=F:=⟨_,rfl⟩
 rw[hF]at hB hst hml hNm hBk hmg hls ⊢
 have hBl:B.length=F.length:=by rw[hB.1.length_eq,List.length_map]
 have hFg:∀s∈F,atomG s.atom:=fun s hs=>hmg _ (List.mem_map.2 ⟨s,hs,rfl⟩)
 have hFo:∀s∈F,s.atom.ok/\s.frm.length<=2^20:=fun s hs=>by
  obtain⟨i,hi⟩:=List.mem_iff_getElem?.1 hs
  have:=(hBk i s hi).1
  exact⟨atomOk_ok (hFg s hs).1,by omega⟩
 have hBack:BackF F:=fun i s hi=>(hBk i s hi).2
 have hBo:∀x∈B,x.ok:=fun x hx=>atomOk_ok (hmg x (hB.1.mem_iff.1 hx)).1
 have hE:stepsE l R base F=0:=by
  unfold stepsE
  rw[if_neg (by omega),if_neg (by omega),if_pos hst]
 simp(disch:=omega)[hBl]
 refine cP_argsS (strip_steps F oD) (HWk.refl _) (fun h=>h) ?_
 refine t_CheckSteps hI _ F (by omega) (fun _=>hFo) _ _ hni fun n6 hn6=>?_
 rw[hE]
 simp(disch:=omega)
 refine lP_enter (σ:=NN) (fun q=>(.nd (clausesL l) (.nd (.sl (base.map atomL) .no) (.nd .bot (.nd (.sl (B.map atomL) ow) .nil .nil) (.nd (.int q.i) .nil .nil)) (.nd .bot (.nd (.sl (F.map stepL) oD) .nil .nil) .nil)) (.nd (.sc (.int .u16 z)) .nil .nil))) (fun q=>⟨ob,q.n⟩) (fun q=>F.length - q.i)
  (fun q=>n<=q.n/\q.i<=F.length) ⟨0,n6⟩ ⟨by dsimp only;omega,Nat.zero_le _⟩ (by simp[FT.Le,Wk]) ⟨HWk.refl _,fun h=>h⟩ ?_
 rintro⟨i,m⟩ ⟨hm,hi⟩ hok
 dsimp only at hm hi hok
 by_cases hlt:i<F.length
 case pos=>
  have hsF:=List.getElem_mem hlt
  have haB:F[i].atom∈B:=hB.1.mem_iff.2 (List.mem_map.2 ⟨_,hsF,rfl⟩)
  have hany:seenB false B F[i].atom=true:=by
   unfold seenB
   rw[Bool.false_or]
   exact List.any_eq_true.2 ⟨_,haB,by simp[cmpA_L.refl]⟩
  simp(disch:=omega)[hlt]
  refine lP_enter (σ:=NNKi) (fun q=>(.nd (clausesL l) (.nd (.sl (base.map atomL) .no) (.nd .bot (.nd (.sl (B.map atomL) ow) .nil .nil) (.nd (.int i) .nil .nil)) (.nd .bot (.nd (.sl (F.map stepL) oD) .nil .nil) (.nd (.int q.k) .nil .nil))) (.nd (.sc (.int .u16 z)) (.nd .bot .nil (.nd (.bool q.b) .nil .nil)) .nil))) (fun q=>⟨ob,q.n⟩) (fun q=>B.length - q.k)
   (fun q=>n<=q.n/\q.k<=B.length/\seenB q.b (B.drop q.k) F[i].atom=true) ⟨0,m,false⟩ ⟨hm,Nat.zero_le _,hany⟩ (by simp[FT.Le,Wk]) ⟨HWk.refl _,fun h=>h⟩ ?_
  rintro⟨k,m2,b⟩ ⟨hm2,hkB,hbk⟩ hok2
  dsimp only at hm2 hkB hbk hok2
  by_cases hkl:k<B.length
  ·rw[List.drop_eq_getElem_cons hkl,seen_cons]at hbk
   cases b
   ·simp(disch:=omega)[hkl,hlt]
    refine(t_Compare B[k] F[i].atom (hBo _ (List.getElem_mem hkl)) (hFo _ hsF).1).go fun n7 hn7=>?_
    by_cases hz0:cmpA B[k] F[i].atom=0
    ·rw[decide_eq_true hz0]at hbk
     simp(disch:=omega)[hz0,wrap_nat (show k<2^62 by omega)]
     exact⟨⟨k+1,n7,true⟩,by dsimp only;omega,⟨by dsimp only;omega,by dsimp only;omega,hbk⟩,by simp[FT.Le,Wk],HWk.refl _,fun h=>h⟩
    ·rw[decide_eq_false hz0]at hbk
     simp(disch:=omega)[hz0,wrap_nat (show k<2^62 by omega)]
     exact⟨⟨k+1,n7,false⟩,by dsimp only;omega,⟨by dsimp only;omega,by dsimp only;omega,hbk⟩,by simp[FT.Le,Wk],HWk.refl _,fun h=>h⟩
   ·simp(disch:=omega)[hkl,wrap_nat (show k<2^62 by omega)]
    rw[Bool.true_or]at hbk
    exact⟨⟨k+1,m2,true⟩,by dsimp only;omega,⟨by dsimp only;omega,by dsimp only;omega,hbk⟩,by simp[FT.Le,Wk],HWk.refl _,fun h=>h⟩
  ·obtain rfl:k=B.length:=by omega
   rw[List.drop_length,seen_nil]at hbk
   subst hbk
   have hnx:IntKind.wrap .i64 ((i:Int)+1)=((i+1:Nat):Int):=wrap_nat (show i<2^62 by omega)
   by_cases hi0:0<i
   ·have hiB:i<B.length:=by omega
    have hiB1:i - 1<B.length:=by omega
    have hwp:IntKind.wrap .i64 ((i:Int) - 1)=((i - 1:Nat):Int):=by rw[wrap_id (by omega) (by omega)];omega
    have hstep:cmpA B[i - 1] B[i]=-1:=by
     have:=sorted_step hB.2 (hB.1.nodup_iff.2 hNm.nodup) (i:=i - 1) (by omega)
     simpa [show i - 1+1=i by omega] using this
    simp(disch:=omega)[hkl,hi0,hwp,hiB,hiB1]
    refine(t_Compare B[i - 1] B[i] (hBo _ (List.getElem_mem hiB1)) (hBo _ (List.getElem_mem hiB))).go fun n7 hn7=>?_
    rw[hstep]
    simp(disch:=omega)[hnx]
    exact⟨⟨i+1,n7⟩,by dsimp only;omega,⟨by dsimp only;omega,by dsimp only;omega⟩,by simp[FT.Le,Wk],HWk.refl _,fun h=>h⟩
   ·simp(disch:=omega)[hkl,hi0,hnx]
    exact⟨⟨i+1,m2⟩,by dsimp only;omega,⟨hm2,by dsimp only;omega⟩,by simp[FT.Le,Wk],HWk.refl _,fun h=>h⟩
 obtain rfl:i=F.length:=by omega
 by_cases hF0:F.length=0
 ·simp(disch:=omega)[hF0]
  refine hs.go fun n7 hn7=>?_
  simp(disch:=omega)
  exact fin1 _ (by omega)
 have hls:=hls hF0
 obtain⟨zn,rfl⟩:∃zn:Nat,z=(zn:Int):=⟨z.toNat,by omega⟩
 have hw:IntKind.wrap .i64 (zn:Int)=(zn:Int):=wrap_id (by omega) (by omega)
 have hF0':0<F.length:=by omega
 obtain⟨k,hkk⟩:∃k,zn % F.length=k:=⟨_,rfl⟩
 have hkl:k<F.length:=by rw[<-hkk];exact Nat.mod_lt _ hF0'
 have hrem:Int.tmod (zn:Int) (F.length:Int)=(k:Int):=by rw[<-hkk];exact(Int.ofNat_tmod _ _).symm
 have hne:¬(F.length:Int)=0:=by omega
 obtain⟨d,hd⟩:∃d,F.length - 1=d:=⟨_,rfl⟩
 have hw1:IntKind.wrap .i64 ((F.length:Int) - 1)=(d:Int):=by rw[wrap_id (by omega) (by omega)];omega
 have hdl:d<=F.length:=by omega
 simp(disch:=omega)[hF0,bn_rem,hw,hrem,hne,hw1,hdl]
 refine effP_ap ?_
 simp(disch:=omega)
 obtain⟨o1,ob1,m1,e1,hr1,hm1⟩:=row_apY (sz:=4) (H:=⟨ob,m⟩) (es:=[]) (Y:=(F.take d).map stepL) (own:=.full) (n:=m) (by omega) rfl (steps_all _) (by simp;omega) (.inl ⟨rfl,rfl,Nat.le_refl _⟩)
 rw[List.nil_append]at e1
 rw[<-List.map_take,e1]
 simp(disch:=omega)
 have hold1:∀i,i<n->look i ob1=look i ob:=fun i hi=>hr1.old.2 i (by dsimp only;omega)
 have hnm1:m<=m1:=hr1.old.1
 have hFd:(F.take d).length=d:=by rw[List.length_take];omega
 have hE2:stepsE l R base (F.take d)=8:=by
  unfold stepsE
  rw[hd]at hls
  rw[if_neg (by omega),if_neg (by omega),hls]
  rfl
 rw[<-List.map_take]
 refine cP_argsS (strip_steps (F.take d) o1) (H':=⟨ob,m1⟩) (hwk_old hH hold1 (Nat.le_refl _)) (fun _=>Desc.mono hH (by dsimp only;omega)) ?_
 refine t_CheckSteps hI _ (F.take d) (by omega) (fun _ s hs=>hFo s (List.mem_of_mem_take hs)) _ _ hni fun m2 hm2=>?_
 rw[hE2]
 have hkF:=(hFo _ (List.getElem_mem hkl)).1
 simp(disch:=omega)[hkl]
 refine t_Why F (by omega) oD F[k].atom hkF (fun _=>hFo) ob m2 fun oW m3 hm3=>?_
 have hbb:backB F 0 F=true:=backB_iff.2 fun i s hi j hj=>by rw[Nat.zero_add];exact hBack i s hi j hj
 have hfn:=firstN_names hNm hkl
 have hwE:whyE F F[k].atom=0:=by
  unfold whyE
  rw[if_neg (by omega),if_pos hbb,hfn]
 have hwO:whyO F F[k].atom=whyL F k:=by
  unfold whyO
  rw[if_neg (by omega),if_pos hbb,hfn]
 rw[hwE,hwO]
 obtain⟨Y,hY⟩:=whyL_last hBack hkl
 obtain⟨_,hw2,hw3⟩:=whyW_spec hBack k
 obtain⟨Wl,hWl⟩:∃Wl,whyL F k=Wl:=⟨_,rfl⟩
 have hWm:∀x∈Wl,0<=x/\x<(F.length:Int)/\x∈whyW F k:=fun x hx=>mem_whyL.1 (by rw[hWl];exact hx)
 have hWr:∀x,0<=x->x<(F.length:Int)->x∈whyW F k->x∈Wl:=fun x h1 h2 h3=>by rw[<-hWl];exact mem_whyL.2 ⟨h1,h2,h3⟩
 have hWll:Wl.length<=300:=by
  rw[<-hWl]
  unfold whyL
  rw[List.length_map]
  exact Nat.le_trans (List.length_filter_le _ _) (by rw[List.length_range];omega)
 rw[hWl]at hY ⊢
 obtain⟨e,he⟩:∃e,Wl.length=e+1:=⟨Y.length,by rw[hY];simp⟩
 have heW:e<Wl.length:=by omega
 have hlast:Wl[e]=(k:Int):=by
  have he2:e=Y.length:=by rw[hY]at he;simp at he;omega
  subst he2
  simp[hY]
 have hW0:¬Wl.length=0:=by omega
 have hwe:IntKind.wrap .i64 ((Wl.length:Int) - 1)=(e:Int):=by rw[wrap_id (by omega) (by omega)];omega
 simp(disch:=omega)[hW0,hwe,heW,hlast]
 refine lP_enter (σ:=NN) (fun q=>(.nd .bot (.nd .bot .nil (.nd .bot (.nd (.sl (F.map stepL) oD) .nil .nil) .nil)) (.nd .bot (.nd .bot (.nd .bot (.nd (.sl (intsL Wl) oW) .nil .nil) .nil) .nil) (.nd .bot (.nd .bot (.nd (.int q.i) .nil .nil) .nil) .nil)))) (fun q=>⟨ob,q.n⟩) (fun q=>Wl.length - q.i)
  (fun q=>n<=q.n/\q.i<=Wl.length) ⟨0,m3⟩ ⟨by dsimp only;omega,Nat.zero_le _⟩ (by simp[FT.Le,Wk]) ⟨HWk.refl _,fun h=>h⟩ ?_
 rintro⟨i,m4⟩ ⟨hm4,hi4⟩ hok4
 dsimp only at hm4 hi4 hok4
 by_cases hiw:i<Wl.length
 case neg=>
  simp(disch:=omega)[hiw]
  refine hs.go fun n7 hn7=>?_
  simp(disch:=omega)
  exact fin1 _ (by omega)
 have hiM:=hWm _ (List.getElem_mem hiw)
 obtain⟨p,hp⟩:∃p:Nat,Wl[i]=(p:Int):=⟨Wl[i].toNat,by omega⟩
 have hpF:p<F.length:=by omega
 have hpW:(p:Int)∈whyW F k:=hp▸hiM.2.2
 simp(disch:=omega)[hiw,hp,hpF]
 refine lP_enter (σ:=NN) (fun q=>(.nd .bot (.nd .bot (.nd .bot .nil (.nd .bot (.nd (.sl (F[p].frm.map LV.int) .no) .nil .nil) .nil)) (.nd .bot (.nd (.sl (F.map stepL) oD) .nil .nil) .nil)) (.nd .bot (.nd .bot (.nd .bot (.nd (.sl (intsL Wl) oW) .nil .nil) .nil) (.nd .bot (.nd (.int q.i) .nil .nil) .nil)) (.nd .bot (.nd .bot (.nd (.int i) .nil .nil) .nil) .nil)))) (fun q=>⟨ob,q.n⟩) (fun q=>F[p].frm.length - q.i)
  (fun q=>n<=q.n/\q.i<=F[p].frm.length) ⟨0,m4⟩ ⟨hm4,Nat.zero_le _⟩ (by simp[FT.Le,Wk]) ⟨HWk.refl _,fun h=>h⟩ ?_
 rintro⟨j,m5⟩ ⟨hm5,hj5⟩ hok5
 dsimp only at hm5 hj5 hok5
 by_cases hjf:j<F[p].frm.length
 case neg=>
  simp(disch:=omega)[hjf,wrap_nat (show i<2^62 by omega)]
  exact⟨⟨i+1,m5⟩,by dsimp only;omega,⟨hm5,by dsimp only;omega⟩,by simp[FT.Le,Wk],HWk.refl _,fun h=>h⟩
 have hpg:F[p]? = some F[p]:=List.getElem?_eq_getElem hpF
 have hx:=hBack p F[p] hpg F[p].frm[j] (List.getElem_mem hjf)
 have hfl:=(hFo _ (List.getElem_mem hpF)).2
 have hxW:F[p].frm[j]∈Wl:=hWr _ hx.1 (by omega) (hw3 _ hpW F[p] (by simp) _ (List.getElem_mem hjf))
 have hany:(Wl.any fun z=>decide (z=F[p].frm[j]))=true:=List.any_eq_true.2 ⟨_,hxW,by simp⟩
 simp(disch:=omega)[hjf]
 refine(t_in Wl (by omega) oW F[p].frm[j]).go fun n8 hn8=>?_
 rw[hany]
 simp(disch:=omega)[wrap_nat (show j<2^62 by omega)]
 exact⟨⟨j+1,n8⟩,by dsimp only;omega,⟨by dsimp only;omega,by dsimp only;omega⟩,by simp[FT.Le,Wk],HWk.refl _,fun h=>h⟩
end Go.Abs.Tz
namespace Go.Abs.Tz
set_option maxRecDepth 20000
open Go Go.Abs Go.Proofs Go.ChangeShapes Go.WideShapes Go.RowKit Go.Proofs.YtghfbggphgpjgaaGreatDoor
theorem law_run10(l:List Clause)(bs:List Atom)(z:Int)(hz:0<=z/\z<65536)(hb:∀c∈l,c.body.length<2^63)(hbl:bs.length<2^63)(W:World)(hW:laidMetH Tryz.prog Rows.customModelIsRightRow.laid W)(us:Array Value)(h0:us.size=3)
  (h1:VR (gOf W) W (clausesL l) (us.getD 0 undef)) (h2:VR (gOf W) W (.sl (bs.map atomL) .no) (us.getD 1 undef)) (h3:VR (gOf W) W (.sc (.int .u16 z)) (us.getD 2 undef)):
  Calls Tryz.prog 4 us W fun e W'=>e=.returned (.bool true)/\Below W.heap.size W W':=by
 have hO:cP E0 F0 4 [clausesL l,.sl (bs.map atomL) .no,.sc (.int .u16 z)] ⟨[],1⟩ (fun v _=>v=.bool true) (fun _ _=>False):=
  t_law10 t_sanity l bs z hz hb hbl [] 1 (fun i m l k n=>by simp[look]) fun _ _=>rfl
 have hC:CallOk Tryz.prog E0 4 [clausesL l,.sl (bs.map atomL) .no,.sc (.int .u16 z)] ⟨[],1⟩ _:=sound hmixT fnsT (hO trivial)
 refine(hC.2 (gOf W) W us (gOf_inv W 1) (gOf_env W hW) ⟨h0,fun i x hi=>?_⟩).mono fun e W' hp=>?_
 ·match i,hi with
  |0,hi=>simp at hi;subst hi;exact h1
  |1,hi=>simp at hi;subst hi;exact h2
  |2,hi=>simp at hi;subst hi;exact h3
  |i+3,hi=>simp at hi
 ·cases e with
  |outgrown=>exact hp.elim
  |panicked ch=>
   obtain⟨_,_,_,_,hT,_⟩:=hp
   rcases hT with⟨_,_,he,_⟩|⟨_,_,he,_,hf⟩
   ·cases he
   ·exact hf.elim
  |returned u=>
   obtain⟨v,H',G',hT,hV,_,hx⟩:=hp
   rcases hT with⟨v',H'',he,_,hv⟩|⟨_,_,he,_⟩
   ·cases he
    subst hv
    obtain rfl:=hV.sc_inv
    exact⟨rfl,hx.os,hx.tape,hx.output,hx.size,fun k hk=>hx.block k (by simp[gOf,hk])⟩
   ·cases he
end Go.Abs.Tz
