/- Part of the proof that the law CustomOrderFree returns true for every input. Conditions: none. -/
import Derived.Test.YtdifmcjgoamanaaGreatDoorPartY
import Derived.Test.YtdifmcjgoamanaaGreatDoorPartW
import Derived.Test.YtdifmcjgoamanaaGreatDoorPartV
namespace Go.Abs.Tz
open Go Go.Abs Go.Proofs
def LevC(l:List Clause)(R:Option (List (PK×Int))):Prop:=(R=none->¬∃g,SolL (edgesOf l) g)/\∀m,R=some m->LevOk l m/\∀g,SolL (edgesOf l) g->∀k,valN m k<=g k
theorem levels_c(l:List Clause)(hc:(checkB l).1=0):∃fuel R,levN l fuel (l.foldl initCl [])=some R/\LevC l R:=by
 have hg:=good_of hc
 obtain⟨i1,i2,i3,i4⟩:=init_fold l [] fun _=>rfl
 have i5:=hg.initLen
 obtain⟨m0,hm0⟩:∃m0,l.foldl initCl []=m0:=⟨_,rfl⟩
 rw[hm0]at i1 i2 i3 i5 ⊢
 have hV:∀c∈l,∀k∈predC c,k∈pKeys m0:=fun c hc k hkc=>(i3 k).2 (.inr ⟨c,hc,hkc⟩)
 have hz:∀k,valN m0 k=0:=fun k=>by unfold valN;rw[i1 k];rfl
 obtain⟨R,hR,hE⟩:=cust_levels hV ((pKeys m0).length*(pKeys m0).length) m0 rfl (fun k=>by rw[i1 k];omega) (fun g _ k=>by rw[hz k];omega) (Nat.le_add_left _ _)
 refine⟨_,R,hR,fun hn=>?_,fun m hm=>?_⟩
 ·rw[hn]at hE;exact hE
 ·rw[hm]at hE
  have hE:LeastL l (pKeys m0) m:=hE
  exact⟨levOk_of hg (i2 .nil) hV (by rw[pKeys_len];exact i5) hE,hE.le⟩
structure ClosedM(l:List Clause)(base:List Atom)(T:Atom->Prop):Prop where
 base:∀a∈base,T a
 good:∀a,T a->atomG a
 step:∀c∈l,∀h,HeadOf T c h->T h
theorem checkF_zero:∀(l:List Clause)(i:Nat),(∀c∈l,CGood c)->(checkF l i).1=0
 |[],_,_=>rfl
 |c::r,i,h=>by
  have hc:=h c List.mem_cons_self
  unfold checkF
  rw[if_neg (by rw[hc.ok];simp),if_neg (by rw[hc.safe];simp)]
  exact checkF_zero r (i+1) fun d hd=>h d (List.mem_cons_of_mem _ hd)
theorem LevC.bound{l:List Clause}{R:Option (List (PK×Int))}(h:LevC l R):∀m,R=some m->0<=maxI 0 (m.map (·.2))/\maxI 0 (m.map (·.2))<=2^30:=fun m hm=>by
 have:=(h.2 m hm).1.max
 omega
theorem lev_ex(l:List Clause):∃fuel R,((checkB l).1=0->levN l fuel (l.foldl initCl [])=some R)/\((checkB l).1=0->∀m,R=some m->0<=maxI 0 (m.map (·.2))/\maxI 0 (m.map (·.2))<=2^30)/\((checkB l).1=0->LevC l R):=by
 by_cases hc:(checkB l).1=0
 ·obtain⟨f,R,h1,h2⟩:=levels_c l hc
  exact⟨f,R,fun _=>h1,fun _=>h2.bound,fun _=>h2⟩
 ·exact⟨0,none,fun h=>absurd h hc,fun h=>absurd h hc,fun h=>absurd h hc⟩
end Go.Abs.Tz
namespace Go.Abs.Tz
open Go Go.Abs Go.Proofs
theorem findB_inv{k:ByteArray}{E:Bind}{j:ByteArray}{u v:Term}(h:findB k (E++[(j,u)])=some v):findB k E=some v\/(findB k E=none/\k=j/\v=u):=by
 induction E with
 |nil=>
  simp only[List.nil_append,findB]at h
  split at h
  ·rename_i he
   cases h
   exact .inr ⟨rfl,eqBA_iff.1 he,rfl⟩
  ·cases h
 |cons e r ih=>
  obtain⟨i,w⟩:=e
  simp only[List.cons_append,findB]at h ⊢
  split at h
  ·rename_i he
   rw[if_pos he];exact .inl h
  ·rename_i he
   rw[if_neg he];exact ih h
theorem eqT_refl(t:Term):eqT t t=true:=by simp[eqT,eqBA_self]
theorem bindR_full{R:Bind}:∀(ps:List Term)(K:Bind),ExtB K R->BoundIn R ps->∃K',bindR K ps (ps.map (fillT R))=some K'/\ExtB K' R
 |[],K,hK,_=>⟨K,rfl,hK⟩
 |p::ps,K,hK,hb=>by
  have hb':BoundIn R ps:=fun t ht hk=>hb t (List.mem_cons_of_mem _ ht) hk
  rw[List.map_cons]
  simp only[bindR]
  by_cases hk:p.kind=3
  ·rw[if_pos hk]
   obtain⟨v,hv⟩:=Option.isSome_iff_exists.1 (hb p List.mem_cons_self hk)
   have hf:fillT R p=v:=by unfold fillT;rw[if_pos hk,hv];rfl
   rw[hf]
   cases ho:findB p.s K with
   |some old=>
    have:=hK _ _ ho
    rw[hv]at this
    cases this
    simp only[eqT_refl,if_true]
    exact bindR_full ps K hK hb'
   |none=>
    simp only
    refine bindR_full ps _ (fun k u hu=>?_) hb'
    rcases findB_inv hu with h|⟨_,rfl,rfl⟩
    ·exact hK _ _ h
    ·exact hv
  ·rw[if_neg hk]
   have hf:fillT R p=p:=by unfold fillT;rw[if_neg hk]
   rw[hf,eqT_refl,if_pos rfl]
   exact bindR_full ps K hK hb'
theorem bindKA_full{R K:Bind}{p:Atom}(hK:ExtB K R)(hb:BoundIn R p.args):∃K',bindKA K p (fillA R p)=some K'/\ExtB K' R:=by
 obtain⟨K',h1,h2⟩:=bindR_full p.args K hK hb
 refine⟨K',?_,h2⟩
 unfold bindKA fillA
 simp only[eqBA_self,List.length_map,decide_true,Bool.and_self,if_true]
 exact h1
theorem chain_full{S:Atom->Prop}(hS:∀a,S a->atomG a){R:Bind}:∀{ps:List Atom}{K:Bind},GoodB K->ExtB K R->(∀p∈ps,BoundIn R p.args/\S (fillA R p))->∃R',Chain S ps K R'/\ExtB R' R
 |[],K,_,hK,_=>⟨K,rfl,hK⟩
 |p::ps,K,gK,hK,h=>by
  obtain⟨h1,h2⟩:=h p List.mem_cons_self
  obtain⟨K',k1,k2⟩:=bindKA_full hK h1
  obtain⟨g1,_,_,_⟩:=bindKA_spec gK (hS _ h2) k1
  obtain⟨R',r1,r2⟩:=chain_full hS g1 k2 fun q hq=>h q (List.mem_cons_of_mem _ hq)
  exact⟨R',⟨fillA R p,K',h2,k1,r1⟩,r2⟩
theorem cmpLit_ext{K R:Bind}(h:ExtB K R){x:Lit}(hb:BoundIn K [x.a,x.b]):cmpLit R x=cmpLit K x:=by
 have e1:=fillT_ext h (hb x.a List.mem_cons_self)
 have e2:=fillT_ext h (hb x.b (List.mem_cons_of_mem _ List.mem_cons_self))
 unfold cmpLit
 rw[e1,e2]
theorem RestP.ext{S:Atom->Prop}{K R:Bind}(h:ExtB K R){b:List Lit}(h2:∀x∈b,x.kind=2->BoundIn K x.atom.args)(h3:∀x∈b,x.kind≠1->x.kind≠2->BoundIn K [x.a,x.b])(hr:RestP S R b):RestP S K b:=fun x hx=>by
 obtain⟨r1,r2⟩:=hr x hx
 refine⟨fun hk=>?_,fun k1 k2=>?_⟩
 ·rw[<-fillA_ext h (h2 x hx hk)];exact r1 hk
 ·rw[<-cmpLit_ext h (h3 x hx k1 k2)];exact r2 k1 k2
theorem headOf_iff{S:Atom->Prop}(hS:∀a,S a->atomG a){c:Clause}(hc:CGood c){h:Atom}:HeadOf S c h↔∃R,GoodB R/\(∀p∈posL c.body,BoundIn R p.args/\S (fillA R p))/\RestP S R c.body/\h=fillA R c.head:=by
 constructor
 ·rintro⟨R,h1,h2,h3⟩
  obtain⟨g1,_,g3,g4⟩:=chain_good hS .nil h1
  exact⟨R,g1,fun p hp=>⟨g3 p hp,g4 p hp⟩,h2,h3⟩
 ·rintro⟨R,h1,h2,h3,rfl⟩
  obtain⟨R',r1,r2⟩:=chain_full hS (K:=[]) .nil (fun k v h=>by cases h) h2
  obtain⟨g1,_,g3,_⟩:=chain_good hS .nil r1
  obtain⟨b1,b2,b3⟩:=hc.bound g3
  exact⟨R',r1,RestP.ext r2 b2 b3 h3,fillA_ext r2 b1⟩
structure SameC(c d:Clause):Prop where
 head:d.head=c.head
 len:d.body.length=c.body.length
 body:∀x,x∈d.body↔x∈c.body
theorem SameC.symm{c d:Clause}(h:SameC c d):SameC d c:=⟨h.head.symm,h.len.symm,fun x=>(h.body x).symm⟩
theorem SameC.good{c d:Clause}(h:SameC c d)(hc:CGood c):CGood d:=by
 obtain⟨h1,h2,h3⟩:=clause_parts hc.ok
 refine⟨?_,?_⟩
 ·unfold clauseOk
  rw[h.head,h.len,h1,List.all_eq_true.2 fun x hx=>h3 x ((h.body x).1 hx)]
  simpa using h2
 ·have hs:=hc.safe
  unfold safeB at hs ⊢
  rw[List.all_eq_true]at hs ⊢
  intro v hv
  rw[h.head]at hv ⊢
  rw[hasV_iff,litsV_1]
  have h4:v∈(litsV c.body ([],addVs c.head.args [])).2:=by
   rw[litsV_2]at hv ⊢
   rcases hv with hv|⟨x,hx,k⟩
   ·exact .inl hv
   ·exact .inr ⟨x,(h.body x).1 hx,k⟩
  have h5:=hs v h4
  rw[hasV_iff,litsV_1]at h5
  rcases h5 with h5|⟨x,hx,k⟩
  ·exact .inl h5
  ·exact .inr ⟨x,(h.body x).2 hx,k⟩
theorem SameC.posL{c d:Clause}(h:SameC c d)(p:Atom):p∈posL d.body->p∈posL c.body:=fun hp=>by
 obtain⟨x,hx,hk,rfl⟩:=posL_mem hp
 exact mem_posL ((h.body x).1 hx) hk
theorem SameC.headOf{c d:Clause}(h:SameC c d)(hc:CGood c){S:Atom->Prop}(hS:∀a,S a->atomG a){a:Atom}:HeadOf S c a->HeadOf S d a:=fun hh=>by
 obtain⟨R,h1,h2,h3,h4⟩:=(headOf_iff hS hc).1 hh
 exact(headOf_iff hS (h.good hc)).2 ⟨R,h1,fun p hp=>h2 p (h.posL p hp),fun x hx=>h3 x ((h.body x).1 hx),by rw[h.head];exact h4⟩
end Go.Abs.Tz
namespace Go.Abs.Tz
open Go Go.Abs Go.Proofs
structure SameL(l k:List Clause):Prop where
 to:∀c∈l,∃d∈k,SameC c d
 of:∀d∈k,∃c∈l,SameC c d
theorem SameL.symm{l k:List Clause}(h:SameL l k):SameL k l:=
 ⟨fun d hd=>by obtain⟨c,hc,hs⟩:=h.of d hd;exact⟨c,hc,hs.symm⟩,fun c hc=>by obtain⟨d,hd,hs⟩:=h.to c hc;exact⟨d,hd,hs.symm⟩⟩
theorem SameL.edge{l k:List Clause}(h:SameL l k){e:Edge PK}(he:e∈edgesOf l):e∈edgesOf k:=by
 obtain⟨c,hc,he⟩:=List.mem_flatMap.1 he
 obtain⟨x,hx,he⟩:=List.mem_filterMap.1 he
 obtain⟨d,hd,hs⟩:=h.to c hc
 refine List.mem_flatMap.2 ⟨d,hd,List.mem_filterMap.2 ⟨x,(hs.body x).2 hx,?_⟩⟩
 rw[hs.head];exact he
theorem SameL.sol{l k:List Clause}(h:SameL l k){g:PK->Nat}(hg:SolL (edgesOf l) g):SolL (edgesOf k) g:=fun e he=>hg e (h.symm.edge he)
theorem lev_same{l k:List Clause}(h:SameL l k){R R':Option (List (PK×Int))}(hR:LevC l R)(hR':LevC k R'):(R=none/\R'=none)\/∃m q,R=some m/\R'=some q/\LevOk l m/\LevOk k q/\∀x,pVal m x=pVal q x:=by
 cases R with
 |none=>
  cases R' with
  |none=>exact .inl ⟨rfl,rfl⟩
  |some q=>exact absurd ⟨_,h.symm.sol (hR'.2 q rfl).1.sol⟩ (hR.1 rfl)
 |some m=>
  obtain⟨a1,a2⟩:=hR.2 m rfl
  cases R' with
  |none=>exact absurd ⟨_,h.sol a1.sol⟩ (hR'.1 rfl)
  |some q=>
   obtain⟨b1,b2⟩:=hR'.2 q rfl
   refine .inr ⟨m,q,rfl,rfl,a1,b1,fun x=>?_⟩
   have h1:=a2 _ (h.symm.sol b1.sol) x
   have h2:=b2 _ (h.sol a1.sol) x
   have h3:=a1.nn x
   have h4:=b1.nn x
   unfold valN at h1 h2
   omega
theorem SameL.closed{l k:List Clause}(h:SameL l k)(hg:∀c∈l,CGood c){m q:List (PK×Int)}(hq:∀x,pVal m x=pVal q x){v:Int}{T:Atom->Prop}(hT:∀a,T a->atomG a)(hc:ClosedS l m v T):ClosedS k q v T:=fun d hd hv a ha=>by
 obtain⟨c,hcl,hs⟩:=h.of d hd
 refine hc c hcl ?_ a (hs.symm.headOf (hs.good (hg c hcl)) hT ha)
 rw[hq,<-hs.head];exact hv
def SameD(o p:Option (List Stp)):Prop:=match o,p with
 |none,none=>True
 |some F,some G=>F.length<=300/\G.length<=300/\NamesF F/\NamesF G/\(∀a∈atomsF F,atomG a)/\∀a,a∈atomsF F↔a∈atomsF G
 |_,_=>False
section
variable{l k:List Clause}{m q:List (PK×Int)}
theorem level_same2(h:SameL l k)(hm:LevOk l m)(hk:LevOk k q)(hg:∀c∈l,CGood c)(hq:∀x,pVal m x=pVal q x)(v:Int){F G:List Stp}(hs:SameD (some F) (some G)):SameD (levelD m v l 302 F) (levelD q v k 302 G):=by
 obtain⟨s1,s2,s3,s4,s5,s6⟩:=hs
 have hgk:∀c∈k,CGood c:=fun d hd=>by obtain⟨c,hc,hs⟩:=h.of d hd;exact hs.good (hg c hc)
 have e0:(fun a=>a∈atomsF G)=fun a=>a∈atomsF F:=funext fun a=>propext (s6 a).symm
 obtain⟨c1,c2⟩:=level_spec (v:=v) (S0:=(·∈atomsF F)) hm hg 302 (F:=F) (by omega) (.base s5) s3 s1
 obtain⟨d1,d2⟩:=level_spec (v:=v) (S0:=(·∈atomsF F)) hk hgk 302 (F:=G) (by omega) (by
  rw[e0]
  exact .base s5) s4 s2
 have lo1:∀{T:Atom->Prop},LowS m v (·∈atomsF F) T->LowS q v (·∈atomsF F) T:=fun h=>⟨h.sup,fun a ha hv=>h.low a ha (by rw[hq];exact hv),h.good⟩
 have lo2:∀{T:Atom->Prop},LowS q v (·∈atomsF F) T->LowS m v (·∈atomsF F) T:=fun h=>⟨h.sup,fun a ha hv=>h.low a ha (by rw[<-hq];exact hv),h.good⟩
 cases h1:levelD m v l 302 F with
 |none=>
  rw[h1]at c1
  obtain⟨L,l1,l2,l3⟩:=c1
  cases h2:levelD q v k 302 G with
  |none=>trivial
  |some G'=>
   rw[h2]at d1
   obtain⟨m1,m2,m3⟩:=d1
   have hcl:=h.symm.closed hgk (fun x=>(hq x).symm) m1.lo.good (d2 G' h2)
   have:=nodup_le l1 (b:=atomsF G') fun x hx=>l3.least _ (lo2 m1.lo) hcl x hx
   rw[List.length_map]at this
   omega
 |some F'=>
  rw[h1]at c1
  obtain⟨n1,n2,n3⟩:=c1
  have hcl:=h.closed hg hq n1.lo.good (c2 F' h1)
  cases h2:levelD q v k 302 G with
  |none=>
   rw[h2]at d1
   obtain⟨L,l1,l2,l3⟩:=d1
   have:=nodup_le l1 (b:=atomsF F') fun x hx=>l3.least _ (lo1 n1.lo) hcl x hx
   rw[List.length_map]at this
   omega
  |some G'=>
   rw[h2]at d1
   obtain⟨m1,m2,m3⟩:=d1
   have hcl2:=h.symm.closed hgk (fun x=>(hq x).symm) m1.lo.good (d2 G' h2)
   exact⟨n3,m3,n2,m2,n1.lo.good,fun a=>⟨n1.least _ (lo2 m1.lo) hcl2 a,m1.least _ (lo1 n1.lo) hcl a⟩⟩
theorem levels_same2(h:SameL l k)(hm:LevOk l m)(hk:LevOk k q)(hg:∀c∈l,CGood c)(hq:∀x,pVal m x=pVal q x):∀(i j w:Nat),(∀c∈l,pVal m (ofA c.head)<(w+i:Nat))->(∀c∈k,pVal q (ofA c.head)<(w+j:Nat))->∀{F G:List Stp},SameD (some F) (some G)->SameD (levelsD m l i w F) (levelsD q k j w G)
 |0,j,w,h1,h2,F,G,hs=>by
  have hlk:∀c∈k,pVal q (ofA c.head)<(w:Int):=fun d hd=>by
   obtain⟨c,hc,hs⟩:=h.of d hd
   rw[hs.head,<-hq]
   simpa using h1 c hc
  rw[levels_id j w hlk]
  exact hs
 |i+1,0,w,h1,h2,F,G,hs=>by
  have hll:∀c∈l,pVal m (ofA c.head)<(w:Int):=fun c hc=>by
   obtain⟨d,hd,hs⟩:=h.to c hc
   rw[<-hs.head,hq]
   simpa using h2 d hd
  rw[levels_id (i+1) w hll]
  exact hs
 |i+1,j+1,w,h1,h2,F,G,hs=>by
  unfold levelsD
  have h3:=level_same2 h hm hk hg hq w hs
  cases e1:levelD m w l 302 F with
  |none=>
   cases e2:levelD q w k 302 G with
   |none=>trivial
   |some G'=>rw[e1,e2]at h3;exact h3.elim
  |some F'=>
   cases e2:levelD q w k 302 G with
   |none=>rw[e1,e2]at h3;exact h3.elim
   |some G'=>
    rw[e1,e2]at h3
    exact levels_same2 h hm hk hg hq i j (w+1) (fun c hc=>by have:=h1 c hc;omega) (fun c hc=>by have:=h2 c hc;omega) h3
end
theorem base_same{base bs:List Atom}(hb:∀a∈base,atomG a)(hs:∀a,a∈bs↔a∈base)(h1:base.length<=300)(h2:bs.length<=300):SameD (some (baseD base)) (some (baseD bs)):=by
 have key:∀{b:List Atom},(∀a∈b,atomG a)->b.length<=300->(baseD b).length<=300/\NamesF (baseD b)/\∀a,a∈atomsF (baseD b)↔a∈b:=fun{b} hb hl=>by
  have hS:∀s∈b.map (fun a=>(⟨a,-1,[]⟩:Stp)),atomOk s.atom=true:=fun s hs=>by
   obtain⟨a,ha,rfl⟩:=List.mem_map.1 hs
   exact(hb a ha).1
  obtain⟨a1,a2⟩:=addFs_has (b.map fun a=>(⟨a,-1,[]⟩:Stp)) [] (fun s hs=>by cases hs) hS .nil
  have hl1:=(addFs_len (b.map fun a=>(⟨a,-1,[]⟩:Stp)) []).2
  refine⟨?_,a1,fun a=>?_⟩
  ·rw[List.length_map,List.length_nil]at hl1
   unfold baseD
   omega
  ·rw[show atomsF (baseD b)=atomsF ((b.map fun a=>(⟨a,-1,[]⟩:Stp)).foldl addF []) from rfl,a2 a]
   simp[atomsF,Function.comp_def]
 obtain⟨p1,p2,p3⟩:=key hb h1
 obtain⟨q1,q2,q3⟩:=key (fun a ha=>hb a ((hs a).1 ha)) h2
 exact⟨p1,q1,p2,q2,fun a ha=>hb a ((p3 a).1 ha),fun a=>by rw[p3,q3,hs]⟩
theorem order_free{l k:List Clause}(h:SameL l k)(hkl:k.length<=40){base bs:List Atom}(hb:∀a,a∈bs↔a∈base)(hbl:bs.length<=100){R:Option (List (PK×Int))}(hL:(checkB l).1=0->LevC l R)(hz:modelE l R base=0):
  (checkB k).1=0/\∀R',LevC k R'->modelE k R' bs=0/\∀B B',SortedOf (modelF l R base) B->SortedOf (modelF k R' bs) B'->B'=B:=by
 have hbe:basedE l R base=0:=by
  unfold modelE at hz
  by_cases h:basedE l R base≠0
  ·rw[if_pos h]at hz;exact absurd hz h
  ·omega
 obtain⟨hc,hRn,hbl2,hbg⟩:=basedE_z hbe
 have hg:=check_good hc
 have hgk:∀c∈k,CGood c:=fun d hd=>by obtain⟨c,hc,hs⟩:=h.of d hd;exact hs.good (hg c hc)
 have hck:(checkB k).1=0:=by
  unfold checkB
  rw[if_neg (by omega)]
  exact checkF_zero k 0 hgk
 refine⟨hck,fun R' hL'=>?_⟩
 rcases lev_same h (hL hc) hL' with⟨h1,_⟩|⟨m,q,h1,h2,h3,h4,h5⟩
 ·exact absurd h1 hRn
 have hD:SameD (derivedD m l base) (derivedD q k bs):=by
  unfold derivedD
  have n1:=h3.max
  have n2:=h4.max
  refine levels_same2 h h3 h4 hg h5 _ _ 0 (fun c hc=>?_) (fun c hc=>?_) (base_same hbg hb (by omega) (by omega))
  ·have:=n1.2.2 _ (h3.has c hc (ofA c.head) (by simp[predC]))
   omega
  ·have:=n2.2.2 _ (h4.has c hc (ofA c.head) (by simp[predC]))
   omega
 cases hd:derivedD m l base with
 |none=>
  exfalso
  unfold modelE at hz
  rw[hbe,h1]at hz
  simp[hd]at hz
 |some F=>
  cases he:derivedD q k bs with
  |none=>rw[hd,he]at hD;exact hD.elim
  |some G=>
   rw[hd,he]at hD
   obtain⟨_,_,s3,s4,_,s6⟩:=hD
   have eF:modelF l R base=F:=by unfold modelF;rw[h1];simp[hd]
   have eG:modelF k R' bs=G:=by unfold modelF;rw[h2];simp[he]
   refine⟨?_,fun B B' hB hB'=>?_⟩
   ·have hbe':basedE k R' bs=0:=by
     unfold basedE
     rw[if_neg (by omega),if_neg (by rw[h2];simp),if_neg (by omega),List.all_eq_true.2 fun a ha=>baseOk_iff.2 (hbg a ((hb a).1 ha))]
     rfl
    unfold modelE
    rw[hbe',h2]
    simp[he]
   ·rw[eF]at hB
    rw[eG]at hB'
    have hp:(atomsF G).Perm (atomsF F):=(List.perm_ext_iff_of_nodup s4.nodup s3.nodup).2 fun a=>(s6 a).symm
    refine perm_unique (le:=fun x y=>¬cmpA y x<0) (hB'.1.trans (hp.trans hB.1.symm)) hB'.2 hB.2 fun a _ b _ h1 h2=>?_
    rw[cmpA_L.anti a b]at h1
    exact cmpA_L.zero.1 (by omega)
end Go.Abs.Tz
namespace Go.Abs.Tz
open Go Go.Abs Go.Proofs
theorem bindKA_ofA{K R:Bind}{p a:Atom}(h:bindKA K p a=some R):ofA a=ofA p:=by
 unfold bindKA at h
 split at h
 ·rename_i hc
  simp only[Bool.and_eq_true,decide_eq_true_eq]at hc
  unfold ofA
  rw[<-eqBA_iff.1 hc.1,hc.2]
 ·cases h
theorem Chain.mono2{S T:Atom->Prop}:∀{ps:List Atom}{K R:Bind},(∀p∈ps,∀a,S a->ofA a=ofA p->T a)->Chain S ps K R->Chain T ps K R
 |[],_,_,_,hc=>hc
 |p::ps,_,_,h,⟨a,K',h1,h2,h3⟩=>⟨a,K',h p List.mem_cons_self a h1 (bindKA_ofA h2),h2,Chain.mono2 (fun q hq=>h q (List.mem_cons_of_mem _ hq)) h3⟩
structure RelC(l k:List Clause)(Q:PK->Prop):Prop where
 sub:∀c∈k,c∈l
 all:∀c∈l,Q (ofA c.head)->c∈k
 inQ:∀c∈k,Q (ofA c.head)
 body:∀c∈k,∀x∈c.body,x.kind=1\/x.kind=2->Q (ofA x.atom)
section
variable{l k:List Clause}{Q:PK->Prop}{m q:List (PK×Int)}
theorem RelC.levels(h:RelC l k Q)(hm:LevOk l m)(hml:∀g,SolL (edgesOf l) g->∀x,valN m x<=g x)(hq:LevOk k q)(hql:∀g,SolL (edgesOf k) g->∀x,valN q x<=g x):∀x,Q x->pVal m x=pVal q x:=by
 have h1:∀x,valN q x<=valN m x:=hql _ fun e he=>by
  obtain⟨c,hc,he⟩:=List.mem_flatMap.1 he
  exact hm.sol e (List.mem_flatMap.2 ⟨c,h.sub c hc,he⟩)
 have h2:∀x,valN m x<=(open Classical in if Q x then valN q x else valN m x):=hml _ fun e he=>by
  obtain⟨c,hc,he0⟩:=List.mem_flatMap.1 he
  obtain⟨x,hx,he1⟩:=List.mem_filterMap.1 he0
  have hs:=hm.sol e he
  have e1:e.1=ofA c.head/\e.2.1=ofA x.atom/\(x.kind=1\/x.kind=2):=by
   unfold edgeL at he1
   split at he1
   ·cases he1;exact⟨rfl,rfl,.inl ‹_›⟩
   ·split at he1
    ·cases he1;exact⟨rfl,rfl,.inr ‹_›⟩
    ·cases he1
  by_cases hQ:Q e.1
  ·have hck:=h.all c hc (e1.1▸hQ)
   have hQ2:Q e.2.1:=by rw[e1.2.1];exact h.body c hck x hx e1.2.2
   rw[if_pos hQ,if_pos hQ2]
   exact hq.sol e (List.mem_flatMap.2 ⟨c,hck,he0⟩)
  ·rw[if_neg hQ]
   have:=h1 e.2.1
   split<;>omega
 intro x hx
 have a1:=h1 x
 have a2:=h2 x
 rw[if_pos hx]at a2
 have a3:=hm.nn x
 have a4:=hq.nn x
 unfold valN at a1 a2
 omega
structure RelD(Q:PK->Prop)(F G:List Stp):Prop where
 lf:F.length<=300
 lg:G.length<=300
 nf:NamesF F
 ng:NamesF G
 good:∀a∈atomsF F,atomG a
 sub:∀a∈atomsF G,a∈atomsF F
 eq:∀a∈atomsF F,Q (ofA a)->a∈atomsF G
theorem level_rel(h:RelC l k Q)(hm:LevOk l m)(hk:LevOk k q)(hg:∀c∈l,CGood c)(hq:∀x,Q x->pVal m x=pVal q x)(v:Int){F G:List Stp}(hs:RelD Q F G){F':List Stp}(hF:levelD m v l 302 F=some F'):∃G',levelD q v k 302 G=some G'/\RelD Q F' G':=by
 obtain⟨c1,c2⟩:=level_spec (v:=v) (S0:=(·∈atomsF F)) hm hg 302 (F:=F) (by have:=hs.lf;omega) (.base hs.good) hs.nf hs.lf
 obtain⟨d1,d2⟩:=level_spec (v:=v) (S0:=(·∈atomsF G)) hk (fun c hc=>hg c (h.sub c hc)) 302 (F:=G) (by have:=hs.lg;omega) (.base fun a ha=>hs.good a (hs.sub a ha)) hs.ng hs.lg
 rw[hF]at c1
 obtain⟨n1,n2,n3⟩:=c1
 have hcl:=c2 F' hF
 have hT:LowS q v (·∈atomsF G) fun a=>a∈atomsF F'/\(Q (ofA a)\/a∈atomsF G):=
  ⟨fun a ha=>⟨n1.lo.sup a (hs.sub a ha),.inr ha⟩,fun a ⟨h1,h2⟩ hv=>h2.elim (fun hQ=>hs.eq a (n1.lo.low a h1 (by rw[hq _ hQ];exact hv)) hQ) id,fun a ⟨h1,_⟩=>n1.lo.good a h1⟩
 have hTc:ClosedS k q v fun a=>a∈atomsF F'/\(Q (ofA a)\/a∈atomsF G):=fun c hc hv a ⟨R,h1,h2,h3⟩=>by
  have hQ:=h.inQ c hc
  refine⟨hcl c (h.sub c hc) (by rw[hq _ hQ];exact hv) a ⟨R,h1.mono fun _ h=>h.1,fun x hx=>⟨fun hk hf=>(h2 x hx).1 hk ⟨hf,.inl ?_⟩,(h2 x hx).2⟩,h3⟩,.inl ?_⟩
  ·rw[ofA_fill];exact h.body c hc x hx (.inr hk)
  ·rw[h3,ofA_fill];exact hQ
 cases hG:levelD q v k 302 G with
 |none=>
  rw[hG]at d1
  obtain⟨L,l1,l2,l3⟩:=d1
  have:=nodup_le l1 (b:=atomsF F') fun x hx=>(l3.least _ hT hTc x hx).1
  rw[List.length_map]at this
  omega
 |some G'=>
  rw[hG]at d1
  obtain⟨m1,m2,m3⟩:=d1
  have hcl2:=d2 G' hG
  have hsub:∀a∈atomsF G',a∈atomsF F':=fun a ha=>(m1.least _ hT hTc a ha).1
  have hT2:LowS m v (·∈atomsF F) fun a=>a∈atomsF F'/\(Q (ofA a)->a∈atomsF G'):=
   ⟨fun a ha=>⟨n1.lo.sup a ha,fun hQ=>m1.lo.sup a (hs.eq a ha hQ)⟩,fun a ⟨h1,_⟩ hv=>n1.lo.low a h1 hv,fun a ⟨h1,_⟩=>n1.lo.good a h1⟩
  have hT2c:ClosedS l m v fun a=>a∈atomsF F'/\(Q (ofA a)->a∈atomsF G'):=fun c hc hv a hh=>by
   refine⟨hcl c hc hv a (HeadOf.mono hm hc hv hT2 n1.lo (fun _ h=>h.1) hh),fun hQ=>?_⟩
   obtain⟨R,h1,h2,h3⟩:=hh
   rw[h3,ofA_fill]at hQ
   have hck:=h.all c hc hQ
   refine hcl2 c hck (by rw[<-hq _ hQ];exact hv) a ⟨R,Chain.mono2 (fun p hp b hb hob=>?_) h1,fun x hx=>⟨fun hk hf=>(h2 x hx).1 hk ⟨hsub _ hf,fun _=>hf⟩,(h2 x hx).2⟩,h3⟩
   obtain⟨x,hx,hxk,rfl⟩:=posL_mem hp
   exact hb.2 (by rw[hob];exact h.body c hck x hx (.inl hxk))
  exact⟨G',rfl,n3,m3,n2,m2,n1.lo.good,hsub,fun a ha hQ=>(n1.least _ hT2 hT2c a ha).2 hQ⟩
theorem levels_rel(h:RelC l k Q)(hm:LevOk l m)(hk:LevOk k q)(hg:∀c∈l,CGood c)(hq:∀x,Q x->pVal m x=pVal q x):∀(i j w:Nat),(∀c∈l,pVal m (ofA c.head)<(w+i:Nat))->(∀c∈k,pVal q (ofA c.head)<(w+j:Nat))->∀{F G F':List Stp},RelD Q F G->levelsD m l i w F=some F'->∃G',levelsD q k j w G=some G'/\RelD Q F' G'
 |0,j,w,h1,h2,F,G,F',hs,hF=>by
  have hlk:∀c∈k,pVal q (ofA c.head)<(w:Int):=fun c hc=>by
   rw[<-hq _ (h.inQ c hc)]
   simpa using h1 c (h.sub c hc)
  cases hF
  exact⟨G,levels_id j w hlk G,hs⟩
 |i+1,0,w,h1,h2,F,G,F',hs,hF=>by
  unfold levelsD at hF
  cases e1:levelD m w l 302 F with
  |none=>rw[e1]at hF;cases hF
  |some F1=>
   rw[e1]at hF
   obtain⟨G1,g1,g2⟩:=level_rel h hm hk hg hq w hs e1
   have hlw:∀c∈k,pVal q (ofA c.head)<(w:Int):=fun c hc=>by simpa using h2 c hc
   rw[level_none hlw]at g1
   cases g1
   exact levels_rel h hm hk hg hq i 0 (w+1) (fun c hc=>by have:=h1 c hc;omega) (fun c hc=>by have:=h2 c hc;omega) g2 hF
 |i+1,j+1,w,h1,h2,F,G,F',hs,hF=>by
  unfold levelsD at hF
  cases e1:levelD m w l 302 F with
  |none=>rw[e1]at hF;cases hF
  |some F1=>
   rw[e1]at hF
   obtain⟨G1,g1,g2⟩:=level_rel h hm hk hg hq w hs e1
   obtain⟨G2,k1,k2⟩:=levels_rel h hm hk hg hq i j (w+1) (fun c hc=>by have:=h1 c hc;omega) (fun c hc=>by have:=h2 c hc;omega) g2 hF
   refine⟨G2,?_,k2⟩
   unfold levelsD
   rw[g1]
   exact k1
end
theorem rel_model{l k:List Clause}{Q:PK->Prop}(h:RelC l k Q)(hkl:k.length<=40){base:List Atom}{R:Option (List (PK×Int))}(hL:(checkB l).1=0->LevC l R)(hz:modelE l R base=0):
  (checkB k).1=0/\∀R',LevC k R'->modelE k R' base=0/\∀a,atomOk a=true->Q (ofA a)->hasF (atomX a) (modelF k R' base)=hasF (atomX a) (modelF l R base):=by
 have hbe:basedE l R base=0:=by
  unfold modelE at hz
  by_cases h:basedE l R base≠0
  ·rw[if_pos h]at hz;exact absurd hz h
  ·omega
 obtain⟨hc,hRn,hbl2,hbg⟩:=basedE_z hbe
 have hg:=check_good hc
 have hck:(checkB k).1=0:=by
  unfold checkB
  rw[if_neg (by omega)]
  exact checkF_zero k 0 fun c hc=>hg c (h.sub c hc)
 refine⟨hck,fun R' hL'=>?_⟩
 obtain⟨p1,p2⟩:=hL hc
 cases R with
 |none=>exact absurd rfl hRn
 |some m=>
  obtain⟨hm,hml⟩:=p2 m rfl
  cases R' with
  |none=>
   refine absurd ⟨valN m,fun e he=>?_⟩ (hL'.1 rfl)
   obtain⟨c,hc,he⟩:=List.mem_flatMap.1 he
   exact hm.sol e (List.mem_flatMap.2 ⟨c,h.sub c hc,he⟩)
  |some q=>
   obtain⟨hq,hql⟩:=hL'.2 q rfl
   have hlev:=h.levels hm hml hq hql
   cases hd:derivedD m l base with
   |none=>
    exfalso
    unfold modelE at hz
    rw[hbe]at hz
    simp[hd]at hz
   |some F=>
    have hb:=base_same hbg (bs:=base) (fun a=>.rfl) (by omega) (by omega)
    obtain⟨b1,b2,b3,b4,b5,b6⟩:=hb
    have n1:=hm.max
    have n2:=hq.max
    unfold derivedD at hd
    obtain⟨G,g1,g2⟩:=levels_rel h hm hq hg hlev _ ((maxI 0 (q.map (·.2))).toNat+1) 0 (fun c hc=>by
     have:=n1.2.2 _ (hm.has c hc (ofA c.head) (by simp[predC]))
     omega) (fun c hc=>by
     have:=n2.2.2 _ (hq.has c hc (ofA c.head) (by simp[predC]))
     omega) ⟨b1,b2,b3,b4,b5,fun a ha=>ha,fun a ha _=>ha⟩ hd
    have hdl:derivedD m l base=some F:=hd
    have hdk:derivedD q k base=some G:=g1
    have eF:modelF l (some m) base=F:=by unfold modelF;simp[hdl]
    have eG:modelF k (some q) base=G:=by unfold modelF;simp[hdk]
    refine⟨?_,fun a ha hQ=>?_⟩
    ·have hbe':basedE k (some q) base=0:=by
      unfold basedE
      rw[if_neg (by omega),if_neg (by simp),if_neg (by omega),List.all_eq_true.2 fun a ha=>baseOk_iff.2 (hbg a ha)]
      rfl
     unfold modelE
     rw[hbe']
     simp[hdk]
    ·rw[eF,eG]
     have hFo:∀s∈F,atomOk s.atom=true:=fun s hs=>(g2.good _ (List.mem_map.2 ⟨s,hs,rfl⟩)).1
     have hGo:∀s∈G,atomOk s.atom=true:=fun s hs=>(g2.good _ (g2.sub _ (List.mem_map.2 ⟨s,hs,rfl⟩))).1
     have e1:hasF (atomX a) F=true↔hasF (atomX a) G=true:=by
      rw[hasF_set hFo ha,hasF_set hGo ha,setF_mem,setF_mem]
      exact⟨fun h=>g2.eq a h hQ,fun h=>g2.sub a h⟩
     cases h1:hasF (atomX a) F
     ·cases h2:hasF (atomX a) G
      ·rfl
      ·rw[e1.2 h2]at h1;cases h1
     ·rw[e1.1 h1]
end Go.Abs.Tz
namespace Go.Abs.Tz
open Go Go.Abs Go.Proofs
structure GrowsIn(Z W U:List PK):Prop where
 pre:∃T,U=W++T
 nd:W.Nodup->U.Nodup
 sub:W ⊆ Z->U ⊆ Z
theorem GrowsIn.refl(Z W:List PK):GrowsIn Z W W:=⟨⟨[],by simp⟩,id,id⟩
theorem GrowsIn.trans{Z W U X:List PK}(h:GrowsIn Z W U)(k:GrowsIn Z U X):GrowsIn Z W X:=by
 obtain⟨⟨T,rfl⟩,h2,h3⟩:=h
 obtain⟨⟨T',rfl⟩,k2,k3⟩:=k
 exact⟨⟨T++T',by rw[List.append_assoc]⟩,fun h=>k2 (h2 h),fun h=>k3 (h3 h)⟩
theorem grows_add{Z:List PK}{k:PK}(hk:k∈Z)(W:List PK):GrowsIn Z W (addP k W):=by
 unfold addP
 by_cases h:hasP k W=true
 ·rw[if_pos h];exact GrowsIn.refl _ _
 ·rw[if_neg h]
  have hm:k∉W:=fun e=>h (hasP_iff.2 e)
  refine⟨⟨[k],rfl⟩,fun hn=>?_,fun hs=>?_⟩
  ·rw[List.nodup_append]
   refine⟨hn,by simp,fun a ha b hb=>?_⟩
   rw[List.mem_singleton]at hb
   subst hb
   rintro rfl
   exact hm ha
  ·intro x hx
   rcases List.mem_append.1 hx with hx|hx
   ·exact hs hx
   ·rw[List.mem_singleton]at hx;subst hx;exact hk
theorem grows_body{Z:List PK}:∀(b:List Lit)(W:List PK),(∀x∈b,(x.kind=1\/x.kind=2)->ofA x.atom∈Z)->GrowsIn Z W (b.foldl wLit W)
 |[],W,_=>GrowsIn.refl _ _
 |x::b,W,h=>by
  refine GrowsIn.trans (U:=wLit W x) ?_ (grows_body b _ fun y hy=>h y (List.mem_cons_of_mem _ hy))
  unfold wLit
  by_cases hk:(decide (x.kind=1)||decide (x.kind=2))=true
  ·rw[if_pos hk]
   exact grows_add (h x List.mem_cons_self (by simpa using hk)) W
  ·rw[if_neg hk];exact GrowsIn.refl _ _
theorem grows_round{Z:List PK}:∀(l:List Clause)(W:List PK),(∀c∈l,∀k∈predC c,k∈Z)->GrowsIn Z W (l.foldl wStepC W)
 |[],W,_=>GrowsIn.refl _ _
 |c::l,W,h=>by
  refine GrowsIn.trans (U:=wStepC W c) ?_ (grows_round l _ fun d hd=>h d (List.mem_cons_of_mem _ hd))
  unfold wStepC
  by_cases hk:hasP (ofA c.head) W=true
  ·rw[if_pos hk]
   exact grows_body c.body W fun x hx hxk=>h c List.mem_cons_self _ (List.mem_cons_of_mem _ (List.mem_map.2 ⟨x,List.mem_filter.2 ⟨hx,by simpa using hxk⟩,rfl⟩))
  ·rw[if_neg hk];exact GrowsIn.refl _ _
theorem rel_meet(l:List Clause)(Z:List PK)(hZ:∀c∈l,∀k∈predC c,k∈Z):∀(d:Nat)(W:List PK)(n:Nat),W.Nodup->W ⊆ Z->Z.length<=W.length+d->(n=W.length->wRound l W=W)->relW l (d+2) n W=some (iterW l d W)
 |d,W,n,hn,hs,hd,hf=>by
  have hit:∀d,wRound l W=W->iterW l d W=W:=by
   intro d h
   induction d with
   |zero=>rfl
   |succ d ih=>unfold iterW;rw[h];exact ih
  by_cases he:n=W.length
  ·show (if n=W.length then some W else _)=_
   rw[if_pos he,hit d (hf he)]
  ·have e1:relW l (d+2) n W=relW l (d+1) W.length (wRound l W):=by
    show (if n=W.length then some W else _)=_
    rw[if_neg he]
   rw[e1]
   have hg:=grows_round (Z:=Z) l W hZ
   change GrowsIn Z W (wRound l W) at hg
   by_cases hw:wRound l W=W
   ·rw[hw,hit d hw]
    show (if W.length=W.length then some W else _)=_
    rw[if_pos rfl]
   ·have hlt:W.length<(wRound l W).length:=by
     obtain⟨T,hT⟩:=hg.pre
     rw[hT,List.length_append]
     have:T≠[]:=by
      rintro rfl
      rw[List.append_nil]at hT
      exact hw hT
     have:=List.length_pos_iff.2 this
     omega
    have hle:=List.Nodup.length_le_of_subset (hg.nd hn) (hg.sub hs)
    match d with
    |0=>omega
    |d+1=>
     exact rel_meet l Z hZ d (wRound l W) W.length (hg.nd hn) (hg.sub hs) (by omega) (fun e=>by omega)
end Go.Abs.Tz
namespace Go.Abs.Tz
open Go Go.Abs Go.Proofs
theorem round_pre(l:List Clause)(W:List PK):∃T,wRound l W=W++T:=(grows_round (Z:=l.flatMap predC) l W fun c hc k hk=>List.mem_flatMap.2 ⟨c,hc,hk⟩).pre
theorem pre_same{W T:List PK}(h:(W++T).length=W.length):W++T=W:=by
 rw[List.length_append]at h
 rw[List.eq_nil_of_length_eq_zero (l:=T) (by omega),List.append_nil]
theorem relW_fix{l:List Clause}{W:List PK}:∀(f n:Nat)(W0:List PK),(n=W0.length->wRound l W0=W0)->relW l f n W0=some W->wRound l W=W/\∀x∈W0,x∈W
 |0,_,_,_,h=>by cases h
 |f+1,n,W0,hn,h=>by
  unfold relW at h
  by_cases he:n=W0.length
  ·rw[if_pos he]at h
   cases h
   exact⟨hn he,fun x hx=>hx⟩
  ·rw[if_neg he]at h
   obtain⟨T,hT⟩:=round_pre l W0
   obtain⟨g1,g2⟩:=relW_fix f W0.length (wRound l W0) (fun hl=>by
    rw[hT]at hl
    have e:=pre_same hl.symm
    rw[e]at hT
    rw[hT,hT]) h
   refine⟨g1,fun x hx=>g2 x ?_⟩
   rw[hT]
   exact List.mem_append_left _ hx
theorem lit_pre(W:List PK)(b:List Lit):∃T,b.foldl wLit W=W++T:=
 (grows_body (Z:=(b.map fun x=>ofA x.atom)) b W fun x hx _=>List.mem_map.2 ⟨x,hx,rfl⟩).pre
theorem body_fix{W:List PK}:∀{b:List Lit},b.foldl wLit W=W->∀x∈b,x.kind=1\/x.kind=2->ofA x.atom∈W
 |[],_,x,hx,_=>by cases hx
 |y::b,h,x,hx,hk=>by
  rw[List.foldl_cons]at h
  obtain⟨T1,h1⟩:=lit_pre W [y]
  have h1:wLit W y=W++T1:=h1
  obtain⟨T2,h2⟩:=lit_pre (wLit W y) b
  have hl:=congrArg List.length h
  rw[h2,h1]at hl
  simp only[List.length_append]at hl
  have e1:wLit W y=W:=by
   rw[h1,List.eq_nil_of_length_eq_zero (l:=T1) (by omega),List.append_nil]
  rw[e1]at h
  rcases List.mem_cons.1 hx with rfl|hx
  ·unfold wLit at e1
   rw[if_pos (by simpa using hk)]at e1
   unfold addP at e1
   by_cases hh:hasP (ofA x.atom) W=true
   ·exact hasP_iff.1 hh
   ·rw[if_neg hh]at e1
    have:=congrArg List.length e1
    simp at this
  ·exact body_fix h x hx hk
theorem step_pre(W:List PK)(c:Clause):∃T,wStepC W c=W++T:=round_pre [c] W
theorem round_fix{W:List PK}:∀{l:List Clause},wRound l W=W->∀c∈l,wStepC W c=W
 |[],_,c,hc=>by cases hc
 |d::l,h,c,hc=>by
  have h:wRound l (wStepC W d)=W:=h
  obtain⟨T1,h1⟩:=step_pre W d
  obtain⟨T2,h2⟩:=round_pre l (wStepC W d)
  have hl:=congrArg List.length h
  rw[h2,h1]at hl
  simp only[List.length_append]at hl
  have e1:wStepC W d=W:=by
   rw[h1,List.eq_nil_of_length_eq_zero (l:=T1) (by omega),List.append_nil]
  rw[e1]at h
  rcases List.mem_cons.1 hc with rfl|hc
  ·exact e1
  ·exact round_fix h c hc
def relK(W:List PK)(l:List Clause):List Clause:=l.filter fun c=>hasP (ofA c.head) W
theorem relC_of{l:List Clause}{W:List PK}(h:wRound l W=W):RelC l (relK W l) (·∈W) where
 sub c hc:=(List.mem_filter.1 hc).1
 all c hc hQ:=List.mem_filter.2 ⟨hc,hasP_iff.2 hQ⟩
 inQ c hc:=hasP_iff.1 (by simpa using (List.mem_filter.1 hc).2)
 body c hc x hx hk:=by
  obtain⟨h1,h2⟩:=List.mem_filter.1 hc
  have e:=round_fix h c h1
  unfold wStepC at e
  rw[if_pos (by simpa using h2)]at e
  exact body_fix e x hx hk
theorem relI_bd(W:List PK):∀(l:List Clause)(i:Nat),∀z∈relI W l i,(i:Int)<=z/\z<i+l.length
 |[],_,z,hz=>by cases hz
 |c::r,i,z,hz=>by
  unfold relI at hz
  have step:z∈relI W r (i+1)->(i:Int)<=z/\z<i+(c::r).length:=fun hz=>by
   have:=relI_bd W r (i+1) z hz
   rw[List.length_cons]
   omega
  split at hz
  ·rcases List.mem_cons.1 hz with rfl|hz
   ·rw[List.length_cons];omega
   ·exact step hz
  ·exact step hz
theorem relI_get(W:List PK)(d:Clause):∀(l p:List Clause),(relI W l p.length).map (fun z=>(p++l).getD z.toNat d)=relK W l
 |[],p=>rfl
 |c::r,p=>by
  have ih:=relI_get W d r (p++[c])
  rw[List.length_append,List.length_singleton,List.append_assoc]at ih
  have ih:(relI W r (p.length+1)).map (fun z=>(p++c::r).getD z.toNat d)=relK W r:=ih
  unfold relI relK
  rw[List.filter_cons]
  by_cases h:hasP (ofA c.head) W=true
  ·rw[if_pos h,if_pos h,List.map_cons,ih]
   congr 1
   simp[List.getD_eq_getElem?_getD]
  ·rw[if_neg h,if_neg h,ih]
   rfl
end Go.Abs.Tz
namespace Go.Abs.Tz
open Go Go.Abs Go.Proofs
def turnC(c:Clause):Clause:=⟨c.head,c.body.reverse⟩
def turnL(l:List Clause):List Clause:=l.reverse.map turnC
def backL(b:List Atom):List Atom:=b.reverse++b.take 1
theorem turnC_same(c:Clause):SameC c (turnC c):=⟨rfl,by simp[turnC],fun x=>by simp[turnC]⟩
theorem mem_turnL{l:List Clause}{d:Clause}:d∈turnL l↔∃c∈l,turnC c=d:=by simp[turnL]
theorem turnL_same(l:List Clause):SameL l (turnL l) where
 to c hc:=⟨turnC c,mem_turnL.2 ⟨c,hc,rfl⟩,turnC_same c⟩
 of d hd:=by
  obtain⟨c,hc,rfl⟩:=mem_turnL.1 hd
  exact⟨c,hc,turnC_same c⟩
theorem turnL_len(l:List Clause):(turnL l).length=l.length:=by simp[turnL]
theorem turnC_ok3{c:Clause}(h:Clause.ok3 c):Clause.ok3 (turnC c):=by
 obtain⟨⟨a1,a2,a3⟩,b1,b2,b3⟩:=h
 exact⟨⟨a1,by simpa [turnC] using a2,fun x hx=>a3 x (by simpa [turnC] using hx)⟩,b1,by simpa [turnC] using b2,fun x hx=>b3 x (by simpa [turnC] using hx)⟩
theorem turnL_small{l:List Clause}(h:SmallL l):SmallL (turnL l):=⟨fun hl d hd=>by
 rw[turnL_len]at hl
 obtain⟨c,hc,rfl⟩:=mem_turnL.1 hd
 exact turnC_ok3 (h.ok3 hl c hc)⟩
theorem mem_backL{b:List Atom}{a:Atom}:a∈backL b↔a∈b:=by
 unfold backL
 rw[List.mem_append,List.mem_reverse]
 exact⟨fun h=>h.elim id List.mem_of_mem_take,.inl⟩
theorem backL_len(b:List Atom):(backL b).length<=b.length+1:=by
 unfold backL
 rw[List.length_append,List.length_reverse,List.length_take]
 omega
theorem SameL.self(l:List Clause):SameL l l:=⟨fun c hc=>⟨c,hc,rfl,rfl,fun _=>.rfl⟩,fun c hc=>⟨c,hc,rfl,rfl,fun _=>.rfl⟩⟩
theorem model_good{l:List Clause}{base:List Atom}{R:Option (List (PK×Int))}(hL:(checkB l).1=0->LevC l R)(hz:modelE l R base=0):(modelF l R base).length<=300/\∀a∈atomsF (modelF l R base),atomG a:=by
 have hbe:basedE l R base=0:=by
  unfold modelE at hz
  by_cases h:basedE l R base≠0
  ·rw[if_pos h]at hz;exact absurd hz h
  ·omega
 obtain⟨hc,hRn,hbl2,hbg⟩:=basedE_z hbe
 have hg:=check_good hc
 rcases lev_same (SameL.self l) (hL hc) (hL hc) with⟨h1,_⟩|⟨m,q,h1,h2,h3,h4,h5⟩
 ·exact absurd h1 hRn
 have hD:SameD (derivedD m l base) (derivedD q l base):=by
  unfold derivedD
  have n1:=h3.max
  have n2:=h4.max
  refine levels_same2 (SameL.self l) h3 h4 hg h5 _ _ 0 (fun c hc=>?_) (fun c hc=>?_) (base_same hbg (fun a=>.rfl) (by omega) (by omega))
  ·have:=n1.2.2 _ (h3.has c hc (ofA c.head) (by simp[predC]))
   omega
  ·have:=n2.2.2 _ (h4.has c hc (ofA c.head) (by simp[predC]))
   omega
 cases hd:derivedD m l base with
 |none=>
  exfalso
  unfold modelE at hz
  rw[hbe,h1]at hz
  simp[hd]at hz
 |some F=>
  cases he:derivedD q l base with
  |none=>rw[hd,he]at hD;exact hD.elim
  |some G=>
   rw[hd,he]at hD
   obtain⟨s1,_,_,_,s5,_⟩:=hD
   have eF:modelF l R base=F:=by unfold modelF;rw[h1];simp[hd]
   rw[eF]
   exact⟨s1,s5⟩
theorem relW_ex(l:List Clause)(hc:(checkB l).1=0)(k:PK):∃f W,relW l f 0 [k]=some W/\wRound l W=W/\k∈W:=by
 have hg:=good_of hc
 have hk:∀c∈l,∀x∈c.body,1<=x.kind:=fun c hc x hx=>(hg.kind c hc x hx).1
 have hW:=rel_meet l (k::pKeys (predM l)) (fun c hc x hkc=>List.mem_cons_of_mem _ ((mem_predM hk).2 ⟨c,hc,hkc⟩)) (predM l).length [k] 0 (by simp) (by simp) (by simp[pKeys];omega) (by simp)
 obtain⟨h1,h2⟩:=relW_fix _ 0 [k] (by simp) hW
 exact⟨_,_,hW,h1,h2 k (by simp)⟩
def pickL(l:List Clause)(z:List Int):List Clause:=z.map fun i=>l.getD i.toNat ⟨⟨⟨#[]⟩,[]⟩,[]⟩
theorem pickL_rel(W:List PK)(l:List Clause):pickL l (relI W l 0)=relK W l:=relI_get W _ l []
theorem relK_len(W:List PK)(l:List Clause):(relK W l).length<=l.length:=List.length_filter_le _ _
end Go.Abs.Tz
namespace Go.Abs.Tz
open Go Go.Abs Go.Proofs
set_option maxRecDepth 20000
set_option linter.unusedSimpArgs false
attribute [local simp ↓] getP_nil getP_node setP_nil setP_node oneP_eq vP_map vP_some vP_none vP_bind eP_some bP_true bP_false gP_yes gP_tf gP_ft gP_tup runP_skip runP_ops runP_drw runP_seq runP_cond runP_blk runP_loop runP_exit runP_ret seqK_n seqK_r seqK_e seqK_p blkK_n blkK_r blkK_e blkK_p loopK_n loopK_r loopK_e loopK_p finK_n finK_r finK_p resP_one resP_two resP_three resP_nil resP_c nxP_nil argsP_nil argsP_cons evP_t evP_c evP_g evsP_nil evsP_cons clP_fn pnP_i opsP_nil opsP_d opsP_x opsP_gt opsP_gf opP_cf opP_cl opP_pn opP_nx valP_mv valP_pk valP_eq valP_bn valP_nt valP_ld valP_fa valP_fd valP_ia valP_ix valP_ln valP_srn valP_srl valP_srh valP_srb valP_cv valP_mi valP_mf valP_xt valP_bs valP_bd valP_nc valP_mn valP_lk valP_ta opP_mv opP_pk opP_eq opP_bn opP_nt opP_ld opP_fa opP_fd opP_ia opP_ix opP_ln opP_sr opP_cv opP_mi opP_mf opP_xt opP_bs opP_bd opP_nc opP_mn opP_lk opP_ta opP_al opP_bx opP_st opP_ap opP_mk opP_nb opP_mu opP_rg opP_en pendP_nil pendP_d pendP_g drwP_nil drwP_d drwP_x drwP_gt drwP_gf look_self natOf_nat
attribute [local simp] faL fdL iaL ixL loadL partL lenL eqK eqL natOf eqB_s eqB_i eqB_b bn_add bn_sub bn_lss bn_leq bn_gtr bn_geq bn_adds bn_lsss bn_gtrs bn_leqs bn_geqs sliceL LV.cells LV.whole look_self put_self putO_self put_eq stL fillL termC dopP LHeap.alloc oneI oneS oneB nth0 nth1 nth2 nth3 nth4 nth5 nth6 nth7 nth8 nth9 look_ne putO_ne
structure NNTu where
 z:Int
 r:Nat
 n:Nat
 X:List LV
 own:Own
 ob:List (Nat×LObj)
structure NNTv where
 z:Int
 k:Nat
 n:Nat
 Y:List Lit
 own:Own
 ob:List (Nat×LObj)
theorem lits_all(G:List Lit):(G.map litL).all (fun e=>e.cells.length==9)=true:=by
 rw[List.all_map,List.all_eq_true]
 intro x _
 rfl
theorem drop_rev{α:Type}{l:List α}{r:Nat}(h:r<l.length):(l.drop r).reverse=(l.drop (r+1)).reverse++[l[r]]:=by
 rw[List.drop_eq_getElem_cons h,List.reverse_cons]
theorem row_drop{m:Nat}{x:LObj}{R L:List (Nat×LObj)}(h:∀i z,look i R=some z->look i L=some z):HWk ⟨(m,x)::L,m+1⟩ ⟨(m,x)::R,m+1⟩:=by
 refine⟨Nat.le_refl _,fun i z hz=>?_⟩
 simp only[look]at hz ⊢
 split at hz
 ·rename_i hi;rw[if_pos hi];exact hz
 ·rename_i hi;rw[if_neg hi];exact h i z hz
def TurnX(l:List Clause)(r:Nat)(X:List LV):Prop:=(X.all fun e=>e.cells.length==3)=true/\X.map LV.strip=(((l.drop r).reverse.map turnC).map clauseL).map LV.strip
theorem t_turned(l:List Clause)(hl:l.length<=2^20)(hb:∀c∈l,c.body.length<=2^20)(H:LHeap){kv kp:HP}
  (hk:∀(X:List LV) own ob n,RowT H 3 X.length own ob n->X.map LV.strip=((turnL l).map clauseL).map LV.strip->kv (.sl X own) ⟨ob,n⟩):cP E0 F0 13 [clausesL l] H kv kp:=by
 refine cP_of_fn c13 fun hH=>⟨Nat.le_of_ble_eq_true rfl,?_⟩
 have hw0:IntKind.wrap .i64 ((l.length:Int) - 1)=(l.length:Int) - 1:=wrap_id (by omega) (by omega)
 simp(disch:=omega)[b13,hw0]
 refine lP_enter (σ:=NNTu) (fun q=>(.nd (clausesL l) (.nd .bot (.nd (.sl q.X q.own) .nil .nil) .nil) (.nd (Nl) (.nd (.int q.z) .nil .nil) .nil))) (fun q=>⟨q.ob,q.n⟩) (fun q=>q.r)
  (fun q=>q.z=(q.r:Int) - 1/\RowT H 3 q.X.length q.own q.ob q.n/\q.r<=l.length/\TurnX l q.r q.X) ⟨(l.length:Int) - 1,l.length,H.next,[],.full,H.objs⟩ ⟨rfl,.inl ⟨rfl,rfl,Nat.le_refl _⟩,Nat.le_refl _,rfl,by simp⟩ (by simp[FT.Le,Wk]) ⟨HWk.refl _,fun h=>h⟩ ?_
 rintro⟨z,r,n,X,own,ob⟩ ⟨hz,hr,hrl,hXX⟩ hok
 dsimp only at hz hr hrl hXX hok
 obtain⟨hX,hXs⟩:=hXX
 cases r with
 |zero=>
  have hz0:¬0<=z:=by omega
  simp(disch:=omega)[hz0]
  rw[List.drop_zero]at hXs
  exact keep (hk X own ob n hr (by rw[hXs];simp[turnL]))
 |succ r=>
 obtain rfl:z=(r:Int):=by omega
 have hlt:r<l.length:=by omega
 have hbr:=hb _ (List.getElem_mem hlt)
 have hw1:IntKind.wrap .i64 ((l[r].body.length:Int) - 1)=(l[r].body.length:Int) - 1:=wrap_id (by omega) (by omega)
 have hw2:IntKind.wrap .i64 ((r:Int) - 1)=(r:Int) - 1:=wrap_id (by omega) (by omega)
 have hXl:X.length+(r+1)=l.length:=by
  have:=congrArg List.length hXs
  simp only[List.length_map,List.length_reverse,List.length_drop]at this
  omega
 have hn:H.next<=n:=by rcases hr with⟨_,_,h⟩|⟨t,_,h1,h2,_⟩<;>omega
 simp(disch:=omega)[hlt,hw1]
 refine lP_enter (σ:=NNTv) (fun q=>(.nd (clausesL l) (.nd .bot (.nd (.sl X own) .nil .nil) (.nd (.ptr n 0) .nil .nil)) (.nd (Nl) (.nd (.int r) .nil .nil) (.nd (.int q.z) .nil .nil)))) (fun q=>⟨q.ob,q.n⟩) (fun q=>q.k)
  (fun q=>q.z=(q.k:Int) - 1/\RowT ⟨(n,.cells [.str l[r].head.pred,argsL l[r].head.args,.sl (q.Y.map litL) q.own])::ob,n+1⟩ 9 q.Y.length q.own q.ob q.n/\q.k<=l[r].body.length/\q.Y=(l[r].body.drop q.k).reverse)
  ⟨(l[r].body.length:Int) - 1,l[r].body.length,n+1,[],.full,(n,.cells [.str l[r].head.pred,argsL l[r].head.args,Nl])::ob⟩ ⟨rfl,.inl ⟨rfl,rfl,Nat.le_refl _⟩,Nat.le_refl _,by simp⟩ (by simp[FT.Le,Wk]) ⟨HWk.refl _,fun h=>h⟩ ?_
 rintro⟨z2,k,m,Y,own2,ob2⟩ ⟨hz2,hr2,hkl,hY⟩ hok2
 dsimp only at hz2 hr2 hkl hY hok2
 have hYl:Y.length+k=l[r].body.length:=by rw[hY,List.length_reverse,List.length_drop];omega
 cases k with
 |zero=>
  have hz0:¬0<=z2:=by omega
  rw[List.drop_zero]at hY
  obtain⟨A,hA⟩:∃A,Y.map litL=A:=⟨_,rfl⟩
  rw[hA]at hr2
  have hx:(LV.agg [.str l[r].head.pred,argsL l[r].head.args,.sl A own2]).cells.length=3:=rfl
  have hX2:TurnX l r (X++[LV.agg [.str l[r].head.pred,argsL l[r].head.args,.sl A own2]]):=by
   refine⟨by rw[List.all_append,hX];rfl,?_⟩
   rw[drop_rev hlt,List.map_append,hXs]
   simp only[List.map_append,List.map_cons,List.map_nil]
   congr 2
   rw[<-hA,hY]
   simp[LV.strip,stripL,turnC]
  have hbase:∀i z,look i H.objs=some z->i<n:=fun i z hz=>by have:=hH.look hz;omega
  rcases hr2 with⟨rfl,rfl,h3⟩|⟨t,rfl,g1,g2,rfl⟩
  ·dsimp only at h3
   rcases hr with⟨rfl,rfl,h4⟩|⟨t0,rfl,f1,f2,rfl⟩
   ·simp(disch:=omega)[hz0]
    refine effP_ap ?_
    simp(disch:=omega)
    rw[apL_new hX hx (by omega) (by omega)]
    simp(disch:=omega)[hw2]
    refine⟨⟨(r:Int) - 1,r,m+1,_,.tok m,(m,.tok (X.length+1) 3)::H.objs⟩,by first|omega|(dsimp only;omega),⟨rfl,.inr ⟨m,rfl,by first|omega|(dsimp only;omega),Nat.lt_succ_self _,by simp⟩,by first|omega|(dsimp only;omega),hX2⟩,by simp[FT.Le,Wk],row_drop (fun i z hz=>by rw[look_ne (by have:=hbase i z hz;omega)];exact hz),fun _=>⟨Nat.lt_succ_self _,Desc.mono hH (by first|omega|(dsimp only;omega))⟩⟩
   ·have hok1:Desc ((t0,LObj.tok X.length 3)::H.objs) n:=hok
    have hok3:Desc ((t0,LObj.tok (X.length+1) 3)::H.objs) n:=⟨hok1.1,hok1.2⟩
    simp(disch:=omega)[hz0]
    refine effP_ap ?_
    simp(disch:=omega)
    rw[apL_tok hX hx (by omega) (by omega) (by omega) (by rw[look_ne (by omega)];simp[look])]
    simp(disch:=omega)[hw2]
    refine⟨⟨(r:Int) - 1,r,m,_,.tok t0,(t0,.tok (X.length+1) 3)::H.objs⟩,by first|omega|(dsimp only;omega),⟨rfl,.inr ⟨t0,rfl,f1,by first|omega|(dsimp only;omega),by simp⟩,by first|omega|(dsimp only;omega),hX2⟩,by simp[FT.Le,Wk],hwk_skip hok3 (Nat.le_refl _),fun _=>hok3.mono (by first|omega|(dsimp only;omega))⟩
  ·dsimp only at g1
   rcases hr with⟨rfl,rfl,h4⟩|⟨t0,rfl,f1,f2,rfl⟩
   ·simp(disch:=omega)[hz0]
    refine effP_ap ?_
    simp(disch:=omega)
    rw[apL_new hX hx (by omega) (by omega)]
    simp(disch:=omega)[hw2]
    refine⟨⟨(r:Int) - 1,r,m+1,_,.tok m,(m,.tok (X.length+1) 3)::H.objs⟩,by first|omega|(dsimp only;omega),⟨rfl,.inr ⟨m,rfl,by first|omega|(dsimp only;omega),Nat.lt_succ_self _,by simp⟩,by first|omega|(dsimp only;omega),hX2⟩,by simp[FT.Le,Wk],row_drop (fun i z hz=>by rw[look_ne (by have:=hbase i z hz;omega),look_ne (by have:=hbase i z hz;omega)];exact hz),fun _=>⟨Nat.lt_succ_self _,Desc.mono hH (by first|omega|(dsimp only;omega))⟩⟩
   ·have hok1:Desc ((t0,LObj.tok X.length 3)::H.objs) n:=hok
    have hok3:Desc ((t0,LObj.tok (X.length+1) 3)::H.objs) n:=⟨hok1.1,hok1.2⟩
    simp(disch:=omega)[hz0]
    refine effP_ap ?_
    simp(disch:=omega)
    rw[apL_tok hX hx (by omega) (by omega) (by omega) (by rw[look_ne (by omega),look_ne (by omega)];simp[look])]
    simp(disch:=omega)[hw2]
    refine⟨⟨(r:Int) - 1,r,m,_,.tok t0,(t0,.tok (X.length+1) 3)::H.objs⟩,by first|omega|(dsimp only;omega),⟨rfl,.inr ⟨t0,rfl,f1,by first|omega|(dsimp only;omega),by simp⟩,by first|omega|(dsimp only;omega),hX2⟩,by simp[FT.Le,Wk],⟨Nat.le_refl _,fun i z hz=>?_⟩,fun _=>hok3.mono (by first|omega|(dsimp only;omega))⟩
    have:=hok3.look hz
    rw[look_ne (by omega),look_ne (by omega)]
    exact hz
 |succ k=>
  obtain rfl:z2=(k:Int):=by omega
  have hkb:k<l[r].body.length:=by omega
  have hw3:IntKind.wrap .i64 ((k:Int) - 1)=(k:Int) - 1:=wrap_id (by omega) (by omega)
  have hY2:Y++[l[r].body[k]]=(l[r].body.drop k).reverse:=by rw[drop_rev hkb,<-hY]
  have hYa:=lits_all Y
  obtain⟨A,hA⟩:∃A,Y.map litL=A:=⟨_,rfl⟩
  have hAl:A.length=Y.length:=by rw[<-hA,List.length_map]
  have hnew:(Y++[l[r].body[k]]).map litL=A++[litL l[r].body[k]]:=by rw[<-hA];simp
  rw[hA]at hYa
  rw[hA]at hr2
  have hB:∀(W:List LV)(ow:Own),Desc ((n,LObj.cells [.str l[r].head.pred,argsL l[r].head.args,.sl W ow])::ob) (n+1):=fun W ow=>⟨Nat.lt_succ_self _,hok⟩
  rcases hr2 with⟨rfl,rfl,h3⟩|⟨t,rfl,g1,g2,rfl⟩
  ·dsimp only at h3
   simp(disch:=omega)[hlt,hkb]
   refine effP_ap ?_
   simp(disch:=omega)
   rw[apL_new hYa rfl (by omega) (by omega)]
   simp(disch:=omega)[hw3]
   refine⟨⟨(k:Int) - 1,k,m+1,Y++[l[r].body[k]],.tok m,(m,.tok (A.length+1) 9)::(n,.cells [.str l[r].head.pred,argsL l[r].head.args,.sl (A++[litL l[r].body[k]]) (.tok m)])::ob⟩,by first|omega|(dsimp only;omega),⟨rfl,.inr ⟨m,rfl,by first|omega|(dsimp only;omega),Nat.lt_succ_self _,by simp[hA,hAl]⟩,by first|omega|(dsimp only;omega),hY2⟩,by simp[FT.Le,Wk],HWk.refl _,fun h=>h⟩
  ·dsimp only at g1
   simp(disch:=omega)[hlt,hkb]
   refine effP_ap ?_
   simp(disch:=omega)
   rw[apL_tok hYa rfl (by omega) (by omega) (by omega) (by simp[look,hAl])]
   simp(disch:=omega)[hw3]
   refine⟨⟨(k:Int) - 1,k,m,Y++[l[r].body[k]],.tok t,(t,.tok (A.length+1) 9)::(n,.cells [.str l[r].head.pred,argsL l[r].head.args,.sl (A++[litL l[r].body[k]]) (.tok t)])::ob⟩,by first|omega|(dsimp only;omega),⟨rfl,.inr ⟨t,rfl,g1,by first|omega|(dsimp only;omega),by simp[hA,hAl]⟩,by first|omega|(dsimp only;omega),hY2⟩,by simp[FT.Le,Wk],HWk.refl _,fun h=>h⟩
theorem cP_argsA{f:FuncId}{a a' b b':LV}{H H':LHeap}{kv kp:HP}(hw:Wk a a')(hw2:Wk b b')(hh:HWk H H')(hok:H.Ok->H'.Ok)(h:cP E0 F0 f [a',b'] H' kv kp):cP E0 F0 f [a,b] H kv kp:=fun hH=>
 .weakArgs (args':=[a',b']) rfl (fun i=>by
  match i with
  |0=>exact hw
  |1=>exact hw2
  |n+2=>exact .inl rfl) hh (h (hok hH))
theorem cP_argsC{f:FuncId}{a a' b c:LV}{H H':LHeap}{kv kp:HP}(hw:Wk a a')(hh:HWk H H')(hok:H.Ok->H'.Ok)(h:cP E0 F0 f [a',b,c] H' kv kp):cP E0 F0 f [a,b,c] H kv kp:=fun hH=>
 .weakArgs (args':=[a',b,c]) rfl (fun i=>by
  match i with
  |0=>exact hw
  |1=>exact .inl rfl
  |2=>exact .inl rfl
  |n+3=>exact .inl rfl) hh (h (hok hH))
theorem strip_clsA{X:List LV}{l:List Clause}(h:X.map LV.strip=(l.map clauseL).map LV.strip)(ow:Own):Wk (.sl X ow) (clausesL l):=by
 refine .inr (.inl ?_)
 have e:(l.map clauseL).map LV.strip=l.map clauseL:=by
  rw[List.map_map]
  exact List.map_congr_left fun c _=>by simp[LV.strip,stripL,stripL_map,List.map_map,Function.comp_def]
 show LV.sl (l.map clauseL) .no=LV.sl (stripL X) .no
 rw[stripL_map,h,e]
theorem clauses_allA(l:List Clause):((l.map clauseL).all fun e=>e.cells.length==3)=true:=by
 rw[List.all_eq_true]
 intro e he
 obtain⟨c,_,rfl⟩:=List.mem_map.1 he
 rfl
structure NNBk where
 z:Int
 r:Nat
 n:Nat
 aa:List Atom
 own:Own
 ob:List (Nat×LObj)
structure NNSm where
 i:Nat
 n:Nat
 own:Own
 ob:List (Nat×LObj)
set_option maxHeartbeats 4000000 in
theorem t_law7(hs:PureT 9 [] (.bool true))(l:List Clause)(base:List Atom)(a:Atom)(hb:∀c∈l,c.body.length<2^63)(hbl:base.length<2^63)(ob:List (Nat×LObj))(n:Nat)(hni:NoIt ob){kv kp:HP}
  (hk:∀n',n<=n'->kv (.bool true) ⟨ob,n'⟩):cP E0 F0 4 [clausesL l,.sl (base.map atomL) .no,atomL a] ⟨ob,n⟩ kv kp:=by
 refine cP_of_fn c4 fun hH=>⟨Nat.le_of_ble_eq_true rfl,?_⟩
 simp(disch:=omega)[b4]
 refine(t_shortClauses 6 (by omega) l hb).go fun n1 hn1=>?_
 obtain⟨OB,hOB⟩:∃OB,(n,LObj.cells [.str a.pred,argsL a.args])::ob=OB:=⟨_,rfl⟩
 have hla:look n OB=some (.cells [.str a.pred,argsL a.args]):=by rw[<-hOB];exact look_self _ _ _
 have hniO:NoIt OB:=by rw[<-hOB];exact hni.cons _ rfl
 have hOBd:Desc OB (n+1):=by rw[<-hOB];exact⟨Nat.lt_succ_self _,hH⟩
 have fin1:∀(m:Nat)(ob1:List (Nat×LObj)),(∀i,i<n+1->look i ob1=look i OB)->n<=m->∃H'',HWk ⟨ob1,m⟩ H''/\(LHeap.Ok ⟨ob1,m⟩->H''.Ok)/\kv (.bool true) H'':=fun m ob1 ho hm=>⟨⟨ob,m⟩,hwk_old hH (fun i hi=>by rw[ho i (by omega),<-hOB,look_ne (by omega)]) (Nat.le_refl _),fun _=>Desc.mono hH hm,hk m hm⟩
 rw[hOB]
 cases h1:shortB 6 l
 ·simp(disch:=omega)
  refine hs.go fun n2 hn2=>?_
  simp(disch:=omega)
  exact fin1 _ _ (fun _ _=>rfl) (by omega)
 simp(disch:=omega)
 refine(t_shortAtoms base (by omega)).go fun n2 hn2=>?_
 cases h2:shortAs base
 ·simp(disch:=omega)
  refine hs.go fun n3 hn3=>?_
  simp(disch:=omega)
  exact fin1 _ _ (fun _ _=>rfl) (by omega)
 by_cases h11:base.length<=11
 case neg=>
  have h11':(11:Int)<(base.length:Int):=by omega
  simp(disch:=omega)[h11']
  refine hs.go fun n3 hn3=>?_
  simp(disch:=omega)
  exact fin1 _ _ (fun _ _=>rfl) (by omega)
 have h11':¬(11:Int)<(base.length:Int):=by omega
 simp(disch:=omega)[h11',hla]
 refine(t_short a).go fun n3 hn3=>?_
 cases h3:a.small
 ·simp(disch:=omega)
  refine hs.go fun n4 hn4=>?_
  simp(disch:=omega)
  exact fin1 _ _ (fun _ _=>rfl) (by omega)
 have ha:=Atom.small_ok h3
 have ha6:a.args.length<=6:=by
  unfold Atom.small at h3
  simp only[Bool.and_eq_true,decide_eq_true_iff]at h3
  exact h3.2.1
 have hcl:l.length<=40->∀c∈l,clShort c=true:=by
  intro hl c hc
  unfold shortB at h1
  rw[if_neg (by omega)]at h1
  split at h1
  ·rename_i hall
   exact List.all_eq_true.1 hall c hc
  ·cases h1
 have hsm:SmallL l:=⟨fun hl c hc=>short_ok3 (hcl hl c hc)⟩
 have hbo:base.length<=100->∀x∈base,x.ok:=by
  intro hl x hx
  unfold shortAs at h2
  rw[if_neg (by omega)]at h2
  split at h2
  ·rename_i hall
   exact Atom.small_ok (List.all_eq_true.1 hall x hx)
  ·cases h2
 obtain⟨fuel,R,hR,hRb,hLC⟩:=lev_ex l
 have hI:ModIn l fuel R base:=⟨hsm,hR,hRb,hbl,hbo⟩
 simp(disch:=omega)
 refine t_Model hI _ _ _ hniO (fun h0 n4 hn4=>?_) (fun h0 B ow n4 hB hn4=>?_)
 ·simp(disch:=omega)[h0]
  refine hs.go fun n5 hn5=>?_
  simp(disch:=omega)
  exact fin1 _ _ (fun _ _=>rfl) (by omega)
 have hbe:basedE l R base=0:=by
  unfold modelE at h0
  by_cases h:basedE l R base≠0
  ·rw[if_pos h]at h0;exact absurd h0 h
  ·omega
 obtain⟨hc,hRn,hb100,hbg⟩:=basedE_z hbe
 have hll:=(check_ok hc).1
 obtain⟨hck1,hres1⟩:=order_free (turnL_same l) (by rw[turnL_len];exact hll) (base:=base) (bs:=backL base) (fun a=>mem_backL) (by have:=backL_len base;omega) hLC h0
 have hw0:IntKind.wrap .i64 ((base.length:Int) - 1)=(base.length:Int) - 1:=wrap_id (by omega) (by omega)
 simp(disch:=omega)[hw0]
 refine lP_enter (σ:=NNBk) (fun q=>(.nd (clausesL l) (.nd (.sl (base.map atomL) .no) (.nd .bot (.nd (.sl (B.map atomL) ow) .nil .nil) .nil) (.nd (.ptr n 0) (.nd (.sl (q.aa.map atomL) q.own) .nil .nil) .nil)) (.nd .bot .nil (.nd .bot (.nd (.int q.z) .nil .nil) .nil)))) (fun q=>⟨q.ob,q.n⟩) (fun q=>q.r)
  (fun q=>q.z=(q.r:Int) - 1/\q.r<=base.length/\q.aa=(base.drop q.r).reverse/\RowT ⟨OB,n4⟩ 2 q.aa.length q.own q.ob q.n) ⟨(base.length:Int) - 1,base.length,n4,[],.full,OB⟩ ⟨rfl,Nat.le_refl _,by simp,.inl ⟨rfl,rfl,Nat.le_refl _⟩⟩ (by simp[FT.Le,Wk]) ⟨HWk.refl _,fun h=>h⟩ ?_
 rintro⟨z,r,n5,aa,own,ob5⟩ ⟨hz,hrl,haa,hr⟩ hok5
 dsimp only at hz hrl haa hr hok5
 have hn5:=hr.old.1
 dsimp only at hn5
 cases r with
 |succ r=>
  obtain rfl:z=(r:Int):=by omega
  have hlt:r<base.length:=by omega
  have hw2:IntKind.wrap .i64 ((r:Int) - 1)=(r:Int) - 1:=wrap_id (by omega) (by omega)
  have hal:aa.length<=11:=by rw[haa,List.length_reverse,List.length_drop];omega
  simp(disch:=omega)[hlt]
  refine effP_ap ?_
  obtain⟨own1,ob6,n6,e1,hr1,hn6⟩:=row_ap (H:=⟨OB,n4⟩) (sz:=2) (es:=aa.map atomL) (by omega) (atoms_all aa) (by rw[List.length_map];omega) (by rw[List.length_map];exact hr) (x:=atomL base[r]) rfl .full
  rw[List.length_map]at hr1
  simp(disch:=omega)
  rw[show apL ⟨ob5,n5⟩ 2 (.sl (aa.map atomL) own) (.sl [.agg [.str base[r].pred,argsL base[r].args]] .full)=_ from e1]
  simp(disch:=omega)[hw2]
  have e2:aa.map atomL++[atomL base[r]]=(aa++[base[r]]).map atomL:=by simp
  exact⟨⟨(r:Int) - 1,r,n6,aa++[base[r]],own1,ob6⟩,by dsimp only;omega,⟨rfl,by dsimp only;omega,by dsimp only;rw[drop_rev hlt,haa],by simpa using hr1⟩,by simp[FT.Le,Wk],HWk.refl _,fun h=>h⟩
 |zero=>
 have hz0:¬0<=z:=by omega
 rw[List.drop_zero]at haa
 obtain⟨hml,hmg⟩:=model_good hLC h0
 have hBl:B.length<2^60:=by rw[hB.1.length_eq,List.length_map];omega
 have hBo:∀x∈B,x.ok:=fun x hx=>atomOk_ok (hmg x (hB.1.mem_iff.1 hx)).1
 by_cases hb0:base.length=0
 ·have hbz:¬0<base.length:=by omega
  have e0:aa=backL base:=by
   have:base=[]:=List.eq_nil_of_length_eq_zero hb0
   rw[haa,this];rfl
  subst e0
  simp(disch:=omega)[hz0,hb0,hbz]
  obtain⟨⟨obK,hobK⟩,⟨nK,hnK⟩⟩:(∃x,ob5=x)/\∃x,n5=x:=⟨⟨_,rfl⟩,⟨_,rfl⟩⟩
  rw[hobK,hnK]
  have hrK:=hr
  rw[hobK,hnK]at hrK
  rw[hnK]at hn5
  refine t_turned l (by omega) (fun c hcm=>by
   have:=hcl hll c hcm
   unfold clShort at this
   simp only[Bool.and_eq_true,decide_eq_true_iff]at this
   omega) ⟨obK,nK⟩ fun X ownX obX nX hrX hX=>?_
  simp(disch:=omega)
  have hold:∀i,i<n+1->look i obX=look i OB:=fun i hi=>by
   rw[hrX.old.2 i (by dsimp only;omega)]
   exact hrK.old.2 i (by dsimp only;omega)
  have hnX:nK<=nX:=hrX.old.1
  have hnK4:n4<=nK:=hrK.old.1
  refine cP_argsA (strip_clsA hX ownX) (.inl rfl) (H':=⟨OB,nX⟩) (hwk_old hOBd hold (Nat.le_refl _)) (fun _=>hOBd.mono (by first|omega|(dsimp only;omega))) ?_
  obtain⟨fuel1,R1,hR1,hRb1,hLC1⟩:=lev_ex (turnL l)
  have hI1:ModIn (turnL l) fuel1 R1 (backL base):=⟨turnL_small hsm,hR1,hRb1,by have:=backL_len base;omega,fun _ x hx=>atomOk_ok (hbg x (mem_backL.1 hx)).1⟩
  obtain⟨hz1,hBB⟩:=hres1 R1 (hLC1 hck1)
  refine t_Model hI1 _ _ _ hniO (fun h _ _=>absurd hz1 h) (fun _ B1 ow1 n6 hB1 hn6=>?_)
  obtain rfl:=hBB B B1 hB hB1
  simp(disch:=omega)
  refine(t_sameAtoms B1 ow1 ow hBl fun x hx=>hBo x hx).go fun n7 hn7=>?_
  simp(disch:=omega)[hla]
  obtain⟨f2,W,hW,hWf,hWk⟩:=relW_ex l hc (a.pred,(a.args.length:Int))
  refine t_relevant l hsm a.pred (a.args.length:Int) fuel R hR f2 W hW _ (fun h=>absurd hc h) (fun _ h=>absurd h hRn) (fun _ _ ownZ n8 hn8=>?_)
  dsimp only at hn8
  simp(disch:=omega)[hla]
  refine t_Holds hI _ a ha _ _ hniO (fun h=>absurd h0 h) (fun _ hbf n9 hn9=>?_) (fun _ hbt n9 hn9=>?_)
  ·simp(disch:=omega)
   refine hs.go fun n10 hn10=>?_
   simp(disch:=omega)
   exact fin1 _ _ (fun _ _=>rfl) (by omega)
  have hao:atomOk a=true:=by
   unfold baseOk at hbt
   simp only[Bool.and_eq_true]at hbt
   exact hbt.1
  obtain⟨zs,hzs⟩:∃zs,relI W l 0=zs:=⟨_,rfl⟩
  have hzb:∀z∈zs,0<=z/\z<(l.length:Int):=fun z hz=>by
   have:=relI_bd W l 0 z (by rw[hzs];exact hz)
   omega
  have hzl:zs.length<=40:=by rw[<-hzs];have:=relI_len W l 0;omega
  obtain⟨IS,hIS⟩:∃IS,hasF (atomX a) (modelF l R base)=IS:=⟨_,rfl⟩
  rw[hzs,hIS]
  simp(disch:=omega)
  refine lP_enter (σ:=NNSm) (fun q=>(.nd (clausesL l) (.nd (.sl (base.map atomL) .no) (.nd .bot (.nd .bot (.nd (.bool IS) .nil .nil) .nil) .nil) (.nd (.ptr n 0) (.nd .bot (.nd (.sl ((pickL l (zs.take q.i)).map clauseL) q.own) .nil .nil) .nil) (.nd (.sl (intsL zs) ownZ) .nil .nil))) (.nd .bot .nil (.nd .bot (.nd .bot (.nd (.int q.i) .nil .nil) .nil) .nil)))) (fun q=>⟨q.ob,q.n⟩) (fun q=>zs.length - q.i)
   (fun q=>q.i<=zs.length/\RowT ⟨OB,n9⟩ 3 q.i q.own q.ob q.n) ⟨0,n9,.full,OB⟩ ⟨Nat.zero_le _,.inl ⟨rfl,rfl,Nat.le_refl _⟩⟩ (by simp[FT.Le,Wk,pickL]) ⟨HWk.refl _,fun h=>h⟩ ?_
  rintro⟨i,m,ownS,obS⟩ ⟨hi,hrS⟩ hokS
  dsimp only at hi hrS hokS
  have hmS:=hrS.old.1
  dsimp only at hmS
  have holdS:∀i,i<n+1->look i obS=look i OB:=fun i hi=>hrS.old.2 i (by dsimp only;omega)
  by_cases hlt:i<zs.length
  case pos=>
   obtain⟨p,hp⟩:∃p:Nat,zs[i]=(p:Int):=⟨zs[i].toNat,by have:=hzb _ (List.getElem_mem hlt);omega⟩
   have hpl:p<l.length:=by have:=hzb _ (List.getElem_mem hlt);omega
   have hpl2:¬l.length<=p:=by omega
   have hpk:pickL l (zs.take (i+1))=pickL l (zs.take i)++[l[p]]:=by
    unfold pickL
    rw[List.take_add_one,List.getElem?_eq_getElem hlt,List.map_append]
    congr 1
    show [l.getD (zs[i]).toNat _]=_
    rw[hp]
    simp[List.getD_eq_getElem?_getD,List.getElem?_eq_getElem hpl]
   have hPl:(pickL l (zs.take i)).length=i:=by
    unfold pickL
    rw[List.length_map,List.length_take];omega
   have hp0:¬(p:Int)<0:=by omega
   simp(disch:=omega)[hlt,hp,hpl,hpl2,hp0]
   refine effP_ap ?_
   obtain⟨own1,ob6,n6',e1,hr1,hn6'⟩:=row_ap (H:=⟨OB,n9⟩) (sz:=3) (es:=(pickL l (zs.take i)).map clauseL) (by omega) (clauses_allA _) (by rw[List.length_map,hPl];omega) (by rw[List.length_map,hPl];exact hrS) (x:=clauseL l[p]) rfl .full
   rw[List.length_map,hPl]at hr1
   have e2:(pickL l (zs.take i)).map clauseL++[clauseL l[p]]=(pickL l (zs.take (i+1))).map clauseL:=by rw[hpk];simp
   rw[e2]at e1
   simp(disch:=omega)
   rw[show apL ⟨obS,m⟩ 3 (.sl ((pickL l (zs.take i)).map clauseL) ownS) (.sl [.agg [.str l[p].head.pred,argsL l[p].head.args,bodyL l[p].body]] .full)=_ from e1]
   simp(disch:=omega)[wrap_nat (show i<2^62 by omega)]
   exact⟨⟨i+1,n6',own1,ob6⟩,by dsimp only;omega,⟨by dsimp only;omega,hr1⟩,by simp[FT.Le,Wk],HWk.refl _,fun h=>h⟩
  obtain rfl:i=zs.length:=by omega
  rw[List.take_length,<-hzs,pickL_rel]
  simp(disch:=omega)[holdS n (Nat.lt_succ_self _),hla]
  refine cP_argsC (strip_clsA rfl ownS) (H':=⟨OB,m⟩) (hwk_old hOBd holdS (Nat.le_refl _)) (fun _=>hOBd.mono (by first|omega|(dsimp only;omega))) ?_
  obtain⟨hck2,hres2⟩:=rel_model (relC_of hWf) (by have:=relK_len W l;omega) hLC h0
  obtain⟨fuel2,R2,hR2,hRb2,hLC2⟩:=lev_ex (relK W l)
  have hI2:ModIn (relK W l) fuel2 R2 base:=⟨⟨fun _ c hcm=>hsm.ok3 hll c (List.mem_filter.1 hcm).1⟩,hR2,hRb2,hbl,hbo⟩
  obtain⟨hz2,hhas⟩:=hres2 R2 (hLC2 hck2)
  refine t_Holds hI2 _ a ha _ _ hniO (fun h=>absurd hz2 h) (fun _ hbf _ _=>by rw[hbt]at hbf;cases hbf) (fun _ _ n10 hn10=>?_)
  rw[hhas a hao hWk,hIS]
  simp(disch:=omega)
  refine hs.go fun n11 hn11=>?_
  simp(disch:=omega)
  exact fin1 _ _ (fun _ _=>rfl) (by omega)
 ·have hb0':0<base.length:=by omega
  have hal:aa.length<=11:=by rw[haa,List.length_reverse];omega
  obtain⟨own1,obK,nK,e1,hr1,hn6⟩:=row_ap (H:=⟨OB,n4⟩) (sz:=2) (es:=aa.map atomL) (by omega) (atoms_all aa) (by rw[List.length_map];omega) (by rw[List.length_map];exact hr) (x:=atomL base[0]) rfl .full
  rw[List.length_map]at hr1
  have e2:aa.map atomL++[atomL base[0]]=(backL base).map atomL:=by
   unfold backL
   rw[haa,List.map_append]
   congr 1
   cases base with
   |nil=>simp at hb0'
   |cons x r=>rfl
  rw[e2]at e1
  have hrK:=hr1
  simp(disch:=omega)[hz0,hb0']
  refine effP_ap ?_
  simp(disch:=omega)
  rw[show apL ⟨ob5,n5⟩ 2 (.sl (aa.map atomL) own) (.sl [.agg [.str base[0].pred,argsL base[0].args]] .full)=_ from e1]
  simp(disch:=omega)
  have hn5:=hrK.old.1
  dsimp only at hn5
  refine t_turned l (by omega) (fun c hcm=>by
   have:=hcl hll c hcm
   unfold clShort at this
   simp only[Bool.and_eq_true,decide_eq_true_iff]at this
   omega) ⟨obK,nK⟩ fun X ownX obX nX hrX hX=>?_
  simp(disch:=omega)
  have hold:∀i,i<n+1->look i obX=look i OB:=fun i hi=>by
   rw[hrX.old.2 i (by dsimp only;omega)]
   exact hrK.old.2 i (by dsimp only;omega)
  have hnX:nK<=nX:=hrX.old.1
  have hnK4:n4<=nK:=hrK.old.1
  refine cP_argsA (strip_clsA hX ownX) (.inl rfl) (H':=⟨OB,nX⟩) (hwk_old hOBd hold (Nat.le_refl _)) (fun _=>hOBd.mono (by first|omega|(dsimp only;omega))) ?_
  obtain⟨fuel1,R1,hR1,hRb1,hLC1⟩:=lev_ex (turnL l)
  have hI1:ModIn (turnL l) fuel1 R1 (backL base):=⟨turnL_small hsm,hR1,hRb1,by have:=backL_len base;omega,fun _ x hx=>atomOk_ok (hbg x (mem_backL.1 hx)).1⟩
  obtain⟨hz1,hBB⟩:=hres1 R1 (hLC1 hck1)
  refine t_Model hI1 _ _ _ hniO (fun h _ _=>absurd hz1 h) (fun _ B1 ow1 n6 hB1 hn6=>?_)
  obtain rfl:=hBB B B1 hB hB1
  simp(disch:=omega)
  refine(t_sameAtoms B1 ow1 ow hBl fun x hx=>hBo x hx).go fun n7 hn7=>?_
  simp(disch:=omega)[hla]
  obtain⟨f2,W,hW,hWf,hWk⟩:=relW_ex l hc (a.pred,(a.args.length:Int))
  refine t_relevant l hsm a.pred (a.args.length:Int) fuel R hR f2 W hW _ (fun h=>absurd hc h) (fun _ h=>absurd h hRn) (fun _ _ ownZ n8 hn8=>?_)
  dsimp only at hn8
  simp(disch:=omega)[hla]
  refine t_Holds hI _ a ha _ _ hniO (fun h=>absurd h0 h) (fun _ hbf n9 hn9=>?_) (fun _ hbt n9 hn9=>?_)
  ·simp(disch:=omega)
   refine hs.go fun n10 hn10=>?_
   simp(disch:=omega)
   exact fin1 _ _ (fun _ _=>rfl) (by omega)
  have hao:atomOk a=true:=by
   unfold baseOk at hbt
   simp only[Bool.and_eq_true]at hbt
   exact hbt.1
  obtain⟨zs,hzs⟩:∃zs,relI W l 0=zs:=⟨_,rfl⟩
  have hzb:∀z∈zs,0<=z/\z<(l.length:Int):=fun z hz=>by
   have:=relI_bd W l 0 z (by rw[hzs];exact hz)
   omega
  have hzl:zs.length<=40:=by rw[<-hzs];have:=relI_len W l 0;omega
  obtain⟨IS,hIS⟩:∃IS,hasF (atomX a) (modelF l R base)=IS:=⟨_,rfl⟩
  rw[hzs,hIS]
  simp(disch:=omega)
  refine lP_enter (σ:=NNSm) (fun q=>(.nd (clausesL l) (.nd (.sl (base.map atomL) .no) (.nd .bot (.nd .bot (.nd (.bool IS) .nil .nil) .nil) .nil) (.nd (.ptr n 0) (.nd .bot (.nd (.sl ((pickL l (zs.take q.i)).map clauseL) q.own) .nil .nil) .nil) (.nd (.sl (intsL zs) ownZ) .nil .nil))) (.nd .bot .nil (.nd .bot (.nd .bot (.nd (.int q.i) .nil .nil) .nil) .nil)))) (fun q=>⟨q.ob,q.n⟩) (fun q=>zs.length - q.i)
   (fun q=>q.i<=zs.length/\RowT ⟨OB,n9⟩ 3 q.i q.own q.ob q.n) ⟨0,n9,.full,OB⟩ ⟨Nat.zero_le _,.inl ⟨rfl,rfl,Nat.le_refl _⟩⟩ (by simp[FT.Le,Wk,pickL]) ⟨HWk.refl _,fun h=>h⟩ ?_
  rintro⟨i,m,ownS,obS⟩ ⟨hi,hrS⟩ hokS
  dsimp only at hi hrS hokS
  have hmS:=hrS.old.1
  dsimp only at hmS
  have holdS:∀i,i<n+1->look i obS=look i OB:=fun i hi=>hrS.old.2 i (by dsimp only;omega)
  by_cases hlt:i<zs.length
  case pos=>
   obtain⟨p,hp⟩:∃p:Nat,zs[i]=(p:Int):=⟨zs[i].toNat,by have:=hzb _ (List.getElem_mem hlt);omega⟩
   have hpl:p<l.length:=by have:=hzb _ (List.getElem_mem hlt);omega
   have hpl2:¬l.length<=p:=by omega
   have hpk:pickL l (zs.take (i+1))=pickL l (zs.take i)++[l[p]]:=by
    unfold pickL
    rw[List.take_add_one,List.getElem?_eq_getElem hlt,List.map_append]
    congr 1
    show [l.getD (zs[i]).toNat _]=_
    rw[hp]
    simp[List.getD_eq_getElem?_getD,List.getElem?_eq_getElem hpl]
   have hPl:(pickL l (zs.take i)).length=i:=by
    unfold pickL
    rw[List.length_map,List.length_take];omega
   have hp0:¬(p:Int)<0:=by omega
   simp(disch:=omega)[hlt,hp,hpl,hpl2,hp0]
   refine effP_ap ?_
   obtain⟨own1,ob6,n6',e1,hr1,hn6'⟩:=row_ap (H:=⟨OB,n9⟩) (sz:=3) (es:=(pickL l (zs.take i)).map clauseL) (by omega) (clauses_allA _) (by rw[List.length_map,hPl];omega) (by rw[List.length_map,hPl];exact hrS) (x:=clauseL l[p]) rfl .full
   rw[List.length_map,hPl]at hr1
   have e2:(pickL l (zs.take i)).map clauseL++[clauseL l[p]]=(pickL l (zs.take (i+1))).map clauseL:=by rw[hpk];simp
   rw[e2]at e1
   simp(disch:=omega)
   rw[show apL ⟨obS,m⟩ 3 (.sl ((pickL l (zs.take i)).map clauseL) ownS) (.sl [.agg [.str l[p].head.pred,argsL l[p].head.args,bodyL l[p].body]] .full)=_ from e1]
   simp(disch:=omega)[wrap_nat (show i<2^62 by omega)]
   exact⟨⟨i+1,n6',own1,ob6⟩,by dsimp only;omega,⟨by dsimp only;omega,hr1⟩,by simp[FT.Le,Wk],HWk.refl _,fun h=>h⟩
  obtain rfl:i=zs.length:=by omega
  rw[List.take_length,<-hzs,pickL_rel]
  simp(disch:=omega)[holdS n (Nat.lt_succ_self _),hla]
  refine cP_argsC (strip_clsA rfl ownS) (H':=⟨OB,m⟩) (hwk_old hOBd holdS (Nat.le_refl _)) (fun _=>hOBd.mono (by first|omega|(dsimp only;omega))) ?_
  obtain⟨hck2,hres2⟩:=rel_model (relC_of hWf) (by have:=relK_len W l;omega) hLC h0
  obtain⟨fuel2,R2,hR2,hRb2,hLC2⟩:=lev_ex (relK W l)
  have hI2:ModIn (relK W l) fuel2 R2 base:=⟨⟨fun _ c hcm=>hsm.ok3 hll c (List.mem_filter.1 hcm).1⟩,hR2,hRb2,hbl,hbo⟩
  obtain⟨hz2,hhas⟩:=hres2 R2 (hLC2 hck2)
  refine t_Holds hI2 _ a ha _ _ hniO (fun h=>absurd hz2 h) (fun _ hbf _ _=>by rw[hbt]at hbf;cases hbf) (fun _ _ n10 hn10=>?_)
  rw[hhas a hao hWk,hIS]
  simp(disch:=omega)
  refine hs.go fun n11 hn11=>?_
  simp(disch:=omega)
  exact fin1 _ _ (fun _ _=>rfl) (by omega)
end Go.Abs.Tz
namespace Go.Abs.Tz
set_option maxRecDepth 20000
open Go Go.Abs Go.Proofs Go.ChangeShapes Go.WideShapes Go.RowKit Go.Proofs.YtdifmcjgoamanaaGreatDoor
theorem law_run7(l:List Clause)(bs:List Atom)(a:Atom)(hb:∀c∈l,c.body.length<2^63)(hbl:bs.length<2^63)(W:World)(hW:laidMetH Tryz.prog Rows.customGrowsRow.laid W)(us:Array Value)(h0:us.size=3)
  (h1:VR (gOf W) W (clausesL l) (us.getD 0 undef)) (h2:VR (gOf W) W (.sl (bs.map atomL) .no) (us.getD 1 undef)) (h3:VR (gOf W) W (atomL a) (us.getD 2 undef)):
  Calls Tryz.prog 4 us W fun e W'=>e=.returned (.bool true)/\Below W.heap.size W W':=by
 have hO:cP E0 F0 4 [clausesL l,.sl (bs.map atomL) .no,atomL a] ⟨[],1⟩ (fun v _=>v=.bool true) (fun _ _=>False):=
  t_law7 t_sanity l bs a hb hbl [] 1 (fun i m l k n=>by simp[look]) fun _ _=>rfl
 have hC:CallOk Tryz.prog E0 4 [clausesL l,.sl (bs.map atomL) .no,atomL a] ⟨[],1⟩ _:=sound hmixT fnsT (hO trivial)
 refine(hC.2 (gOf W) W us (gOf_inv W 1) (gOf_env W hW) ⟨h0,fun i x hi=>?_⟩).mono fun e W' hp=>?_
 ·match i,hi with
  |0,hi=>simp at hi;subst hi;exact h1
  |1,hi=>simp at hi;subst hi;exact h2
  |2,hi=>simp at hi;subst hi;exact h3
  |i+3,hi=>simp at hi
 ·cases e with
  |outgrown=>exact hp.elim
  |panicked ch=>
   obtain⟨_,_,_,_,hT,_⟩:=hp
   rcases hT with⟨_,_,he,_⟩|⟨_,_,he,_,hf⟩
   ·cases he
   ·exact hf.elim
  |returned u=>
   obtain⟨v,H',G',hT,hV,_,hx⟩:=hp
   rcases hT with⟨v',H'',he,_,hv⟩|⟨_,_,he,_⟩
   ·cases he
    subst hv
    obtain rfl:=hV.sc_inv
    exact⟨rfl,hx.os,hx.tape,hx.output,hx.size,fun k hk=>hx.block k (by simp[gOf,hk])⟩
   ·cases he
end Go.Abs.Tz
