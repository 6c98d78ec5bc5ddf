/- Part of the proof that the law CustomModelsAsSpecified returns true for every input. Conditions: none. -/
import Derived.Test.YtdcmabmjiiklhaaGreatDoorPartZ
import Derived.Test.YtdcmabmjiiklhaaGreatDoorPartV
import Derived.Test.YtdcmabmjiiklhaaGreatDoorPartT
import Derived.Test.YtdcmabmjiiklhaaGreatDoorPartG
import Derived.Test.YtdcmabmjiiklhaaGreatDoorPartX
import Derived.Test.YtdcmabmjiiklhaaGreatDoorRunz
import Derived.Test.YtdcmabmjiiklhaaGreatDoorRows
import Derived.ProofKit
import Derived.Deep.Slices
import Derived.Deep.Strs
import Derived.Lib.LaidTab
import Derived.LaidSub
namespace Go.Abs.Tz
open Go Go.Abs Go.Proofs
section
variable(l:List Clause)(m:List (PK×Int))(v:Int)
def ClosedS(T:Atom->Prop):Prop:=∀c∈l,pVal m (ofA c.head)=v->∀h,HeadOf T c h->T h
structure LowS(S0 T:Atom->Prop):Prop where
 sup:∀a,S0 a->T a
 low:∀a,T a->pVal m (ofA a)<v->S0 a
 good:∀a,T a->atomG a
structure Mid(S0 P:Atom->Prop):Prop where
 lo:LowS m v S0 P
 least:∀T,LowS m v S0 T->ClosedS l m v T->∀a,P a->T a
end
section
variable{l:List Clause}{m:List (PK×Int)}{v:Int}{S0 P Q T:Atom->Prop}
theorem HeadOf.mono(hm:LevOk l m){c:Clause}(hc:c∈l)(hv:pVal m (ofA c.head)=v)(hP:LowS m v S0 P)(hT:LowS m v S0 T)(hPT:∀a,P a->T a){h:Atom}(hh:HeadOf P c h):HeadOf T c h:=by
 obtain⟨R,h1,h2,h3⟩:=hh
 refine⟨R,h1.mono hPT,fun x hx=>⟨fun hk ht=>(h2 x hx).1 hk (hP.sup _ (hT.low _ ht ?_)),(h2 x hx).2⟩,h3⟩
 rw[ofA_fill,<-hv]
 exact(hm.lits hc hx).2 hk
theorem Mid.grow(hm:LevOk l m)(hP:Mid l m v S0 P){c:Clause}(hc:c∈l)(hg:CGood c)(hv:pVal m (ofA c.head)=v)(hQ:∀a,Q a->P a\/HeadOf P c a)(hPQ:∀a,P a->Q a):Mid l m v S0 Q where
 lo:=⟨fun a h=>hPQ a (hP.lo.sup a h),fun a h hl=>(hQ a h).elim (fun h=>hP.lo.low a h hl) (fun h=>absurd hl (by
  obtain⟨R,_,_,rfl⟩:=h
  rw[ofA_fill,hv]
  exact Int.lt_irrefl _)),fun a h=>(hQ a h).elim (hP.lo.good a) fun h=>h.good hP.lo.good hg⟩
 least T hT hC a h:=(hQ a h).elim (hP.least T hT hC a) fun h=>hC c hc hv a (HeadOf.mono hm hc hv hP.lo hT (hP.least T hT hC) h)
theorem Mid.base(hS:∀a,S0 a->atomG a):Mid l m v S0 S0:=⟨⟨fun _ h=>h,fun _ h _=>h,hS⟩,fun _ hT _ a h=>hT.sup a h⟩
end
def StrictA(o:List Atom):Prop:=o.Pairwise fun x y=>cmpA x y<0
theorem putR_cons(x:Atom)(r:List Atom)(a:Atom):putR (x::r) a=if cmpA x a<0 then x::putR r a else if cmpA x a=0 then x::r else a::x::r:=by
 unfold putR
 by_cases h:cmpA x a<0
 ·rw[if_pos h]
  have e:posP (x::r) a=posP r a+1:=by rw[posP,if_pos h]
  rw[e,List.getElem?_cons_succ]
  cases r[posP r a]? with
  |none=>simp
  |some y=>
   simp only
   split<;>simp
 ·rw[if_neg h]
  have e:posP (x::r) a=0:=by rw[posP,if_neg h]
  rw[e]
  simp
theorem putR_has:∀(o:List Atom)(a:Atom),a∈putR o a
 |[],a=>by simp[putR,posP]
 |x::r,a=>by
  rw[putR_cons]
  split
  ·exact List.mem_cons_of_mem _ (putR_has r a)
  ·split
   ·rename_i h
    rw[cmpA_L.zero.1 h]
    exact List.mem_cons_self
   ·exact List.mem_cons_self
theorem putR_sub:∀{o:List Atom}{a x:Atom},x∈o->x∈putR o a
 |y::r,a,x,h=>by
  rw[putR_cons]
  split
  ·rcases List.mem_cons.1 h with rfl|h
   ·exact List.mem_cons_self
   ·exact List.mem_cons_of_mem _ (putR_sub h)
  ·split
   ·exact h
   ·exact List.mem_cons_of_mem _ h
theorem putR_strict:∀{o:List Atom}{a:Atom},StrictA o->StrictA (putR o a)
 |[],a,_=>by simp[putR,posP,StrictA]
 |x::r,a,h=>by
  obtain⟨h1,h2⟩:=List.pairwise_cons.1 h
  rw[putR_cons]
  split
  ·rename_i hx
   refine List.pairwise_cons.2 ⟨fun y hy=>?_,putR_strict h2⟩
   rcases putR_mem hy with hy|rfl
   ·exact h1 y hy
   ·exact hx
  ·rename_i hx
   split
   ·exact h
   ·rename_i hx2
    have ha:cmpA a x<0:=by rw[cmpA_L.anti x a];omega
    refine List.pairwise_cons.2 ⟨fun y hy=>?_,h⟩
    rcases List.mem_cons.1 hy with rfl|hy
    ·exact ha
    ·exact cmpA_L.lt_tr ha (h1 y hy)
theorem putR_same{o:List Atom}{a:Atom}(h:(putR o a).length=o.length):putR o a=o:=by
 unfold putR at h ⊢
 have hp:=posP_le o a
 have k:¬(o.take (posP o a)++[a]++o.drop (posP o a)).length=o.length:=by simp;omega
 split
 ·split
  ·rfl
  ·rename_i x hx hz
   rw[hx]at h
   simp only[if_neg hz]at h
   exact absurd h k
 ·rename_i hx
  rw[hx]at h
  exact absurd h k
theorem StrictA.nodup{o:List Atom}(h:StrictA o):o.Nodup:=List.Pairwise.imp (fun{x y} hxy e=>by
 subst e
 have:=cmpA_L.refl x
 omega) h
theorem rputs_all:∀(more out:List Atom),StrictA out->StrictA (rputs out more)/\(∀x∈out,x∈rputs out more)/\((rputs out more).length<=300->∀x∈more,x∈rputs out more)/\((rputs out more).length=out.length->rputs out more=out)
 |[],out,h=>⟨h,fun x hx=>hx,fun _ x hx=>(by cases hx),fun _=>rfl⟩
 |a::r,out,h=>by
  unfold rputs
  split
  ·obtain⟨h1,h2,h3,h4⟩:=rputs_all r (putR out a) (putR_strict h)
   refine⟨h1,fun x hx=>h2 x (putR_sub hx),fun hl x hx=>?_,fun hl=>?_⟩
   ·rcases List.mem_cons.1 hx with rfl|hx
    ·exact h2 x (putR_has out x)
    ·exact h3 hl x hx
   ·have k1:=(rputs_facts r (putR out a)).1
    have k2:=putR_len out a
    have k3:=putR_same (o:=out) (a:=a) (by omega)
    rw[k3]at hl h4 ⊢
    exact h4 hl
  ·rename_i hl
   exact⟨h,fun x hx=>hx,fun hl2=>absurd hl2 hl,fun _=>rfl⟩
theorem hasA_iff{o:List Atom}{a:Atom}:hasA o a=true↔a∈o:=by
 unfold hasA
 rw[List.any_eq_true]
 constructor
 ·rintro⟨x,hx,h⟩
  rw[<-cmpA_L.zero.1 (of_decide_eq_true h)]
  exact hx
 ·intro h
  exact⟨a,h,by simp[cmpA_L.refl a]⟩
theorem restR_iff{o:List Atom}{K:Bind}:∀{b:List Lit},restR o K b=true↔RestP (·∈o) K b
 |[]=>⟨fun _ x hx=>(by cases hx),fun _=>rfl⟩
 |x::r=>by
  have ih:=restR_iff (o:=o) (K:=K) (b:=r)
  have split:RestP (·∈o) K (x::r)↔((x.kind=2->¬fillA K x.atom∈o)/\(x.kind≠1->x.kind≠2->cmpLit K x=true))/\RestP (·∈o) K r:=by
   constructor
   ·intro h
    exact⟨h x List.mem_cons_self,fun y hy=>h y (List.mem_cons_of_mem _ hy)⟩
   ·rintro⟨h1,h2⟩ y hy
    rcases List.mem_cons.1 hy with rfl|hy
    ·exact h1
    ·exact h2 y hy
  rw[split]
  unfold restR
  by_cases h1:x.kind=1
  ·rw[if_pos h1,ih]
   exact⟨fun h=>⟨⟨fun h2=>by omega,fun h3=>absurd h1 h3⟩,h⟩,fun h=>h.2⟩
  ·rw[if_neg h1]
   by_cases h2:x.kind=2
   ·rw[if_pos h2,Bool.and_eq_true,ih]
    have e:(!hasA o (fillA K x.atom))=true↔¬fillA K x.atom∈o:=by
     rw[<-hasA_iff]
     simp
    rw[e]
    exact⟨fun h=>⟨⟨fun _=>h.1,fun _ h3=>absurd h2 h3⟩,h.2⟩,fun h=>⟨h.1.1 h2,h.2⟩⟩
   ·rw[if_neg h2,Bool.and_eq_true,ih]
    exact⟨fun h=>⟨⟨fun h3=>absurd h3 h2,fun _ _=>h.1⟩,h.2⟩,fun h=>⟨h.1.2 h1 h2,h.2⟩⟩
theorem mem_headsR{c:Clause}{o:List Atom}{h:Atom}:∀{r:List Lit}{K:Bind},h∈headsR c o r K↔∃R,Chain (·∈o) (posL r) K R/\RestP (·∈o) R c.body/\h=fillA R c.head
 |[],K=>by
  unfold headsR
  constructor
  ·intro hh
   split at hh
   ·rename_i hr
    simp at hh
    exact⟨K,rfl,restR_iff.1 hr,hh⟩
   ·cases hh
  ·rintro⟨R,h1,h2,h3⟩
   have e:R=K:=h1
   subst e
   rw[restR_iff.2 h2,if_pos rfl,h3]
   exact List.mem_singleton.2 rfl
 |x::r,K=>by
  unfold headsR
  rw[posL_cons]
  by_cases hk:x.kind=1
  ·rw[if_pos hk,if_pos hk,List.mem_flatMap]
   constructor
   ·rintro⟨a,ha,hh⟩
    split at hh
    ·rename_i R hR
     obtain⟨R2,g1,g2,g3⟩:=mem_headsR.1 hh
     exact⟨R2,⟨a,R,ha,hR,g1⟩,g2,g3⟩
    ·cases hh
   ·rintro⟨R2,⟨a,R,ha,hR,g1⟩,g2,g3⟩
    refine⟨a,ha,?_⟩
    simp only[hR]
    exact mem_headsR.2 ⟨R2,g1,g2,g3⟩
  ·rw[if_neg hk,if_neg hk]
   exact mem_headsR
theorem mem_headsR0{c:Clause}{o:List Atom}{h:Atom}:h∈headsR c o c.body []↔HeadOf (·∈o) c h:=mem_headsR
section
variable{l:List Clause}{m q:List (PK×Int)}{v:Int}{S0:Atom->Prop}
theorem rround_spec(hm:LevOk l m)(hg:∀c∈l,CGood c)(hq:∀k,pVal q k=pVal m k):∀(r:List Clause),(∀c∈r,c∈l)->∀{out:List Atom},Mid l m v S0 (·∈out)->StrictA out ->
  Mid l m v S0 (·∈rroundR q v r out)/\StrictA (rroundR q v r out)/\((rroundR q v r out).length=out.length->rroundR q v r out=out/\(out.length<=300->∀c∈r,pVal m (ofA c.head)=v->∀h,HeadOf (·∈out) c h->h∈out))
 |[],_,out,h1,h2=>⟨h1,h2,fun _=>⟨rfl,fun _ c hc=>(by cases hc)⟩⟩
 |c::r,hr,out,h1,h2=>by
  have hr':=fun d hd=>hr d (List.mem_cons_of_mem _ hd)
  have hc:=hr c List.mem_cons_self
  unfold rroundR
  rw[hq]
  by_cases hv:pVal m (ofA c.head)=v
  ·rw[if_pos hv]
   obtain⟨p1,p2,p3,p4⟩:=rputs_all (headsR c out c.body []) out h2
   obtain⟨f1,_,f3⟩:=rputs_facts (headsR c out c.body []) out
   have hM:Mid l m v S0 (·∈rputs out (headsR c out c.body [])):=h1.grow hm hc (hg c hc) hv (fun a ha=>(f3 a ha).imp id mem_headsR0.1) p2
   obtain⟨g1,g2,g3⟩:=rround_spec hm hg hq r hr' hM p1
   refine⟨g1,g2,fun hl=>?_⟩
   have hmono:=rroundR_len q v r (rputs out (headsR c out c.body []))
   have e1:=p4 (by omega)
   rw[e1]at g3 p3 hl ⊢
   obtain⟨k1,k2⟩:=g3 hl
   refine⟨k1,fun h300 d hd hdv h hh=>?_⟩
   rcases List.mem_cons.1 hd with rfl|hd
   ·exact p3 h300 h (mem_headsR0.2 hh)
   ·exact k2 h300 d hd hdv h hh
  ·rw[if_neg hv]
   obtain⟨g1,g2,g3⟩:=rround_spec hm hg hq r hr' h1 h2
   refine⟨g1,g2,fun hl=>?_⟩
   obtain⟨k1,k2⟩:=g3 hl
   refine⟨k1,fun h300 d hd hdv h hh=>?_⟩
   rcases List.mem_cons.1 hd with rfl|hd
   ·exact absurd hdv hv
   ·exact k2 h300 d hd hdv h hh
theorem rlevel_spec(hm:LevOk l m)(hg:∀c∈l,CGood c)(hq:∀k,pVal q k=pVal m k):∀(k:Nat){out:List Atom},302<=k+out.length->Mid l m v S0 (·∈out)->StrictA out ->
  Mid l m v S0 (·∈rlevelR q v l k out)/\StrictA (rlevelR q v l k out)/\((rlevelR q v l k out).length<=300->ClosedS l m v (·∈rlevelR q v l k out))
 |0,out,hk,h1,h2=>⟨h1,h2,fun h=>by
  have:(rlevelR q v l 0 out)=out:=rfl
  rw[this]at h
  omega⟩
 |k+1,out,hk,h1,h2=>by
  unfold rlevelR
  by_cases h300:out.length<=300
  ·rw[if_pos h300]
   obtain⟨g1,g2,g3⟩:=rround_spec hm hg hq l (fun c hc=>hc) h1 h2
   have hmono:=rroundR_len q v l out
   by_cases he:(rroundR q v l out).length=out.length
   ·rw[if_pos he]
    obtain⟨k1,k2⟩:=g3 he
    rw[k1]
    exact⟨h1,h2,fun _=>k2 h300⟩
   ·rw[if_neg he]
    exact rlevel_spec hm hg hq k (by omega) g1 g2
  ·rw[if_neg h300]
   exact⟨h1,h2,fun h=>absurd h h300⟩
end
end Go.Abs.Tz
namespace Go.Abs.Tz
open Go Go.Abs Go.Proofs
abbrev atomsF(F:List Stp):List Atom:=F.map Stp.atom
theorem setF_mem(F:List Stp):SetF F=(·∈atomsF F):=by
 funext a
 exact propext ⟨fun⟨s,hs,e⟩=>List.mem_map.2 ⟨s,hs,e⟩,fun h=>by
  obtain⟨s,hs,e⟩:=List.mem_map.1 h
  exact⟨s,hs,e⟩⟩
def NamesF(F:List Stp):Prop:=(F.map fun q=>atomX q.atom).Nodup
theorem nodup_of_map{α β:Type}(f:α->β):∀{l:List α},(l.map f).Nodup->l.Nodup
 |[],_=>.nil
 |a::l,h=>by
  rw[List.map_cons,List.nodup_cons]at h
  exact List.nodup_cons.2 ⟨fun ha=>h.1 (List.mem_map.2 ⟨a,ha,rfl⟩),nodup_of_map f h.2⟩
theorem NamesF.nodup{F:List Stp}(h:NamesF F):(atomsF F).Nodup:=nodup_of_map atomX (by
 unfold NamesF at h
 rw[List.map_map]
 exact h)
theorem NamesF.app{F G:List Stp}(h:NamesF F)(k:DistF F G):NamesF (F++G):=by
 unfold NamesF
 rw[List.map_append]
 refine List.nodup_append.2 ⟨h,k.1,fun x hx y hy e=>?_⟩
 obtain⟨p,hp,rfl⟩:=List.mem_map.1 hx
 obtain⟨q,hq,rfl⟩:=List.mem_map.1 hy
 have:=k.2 q hq
 rw[hasF_iff.2 ⟨p,hp,e⟩]at this
 cases this
theorem clauseD_spec{c:Clause}(hg:CGood c){F:List Stp}(hF:∀a,a∈atomsF F->atomG a)(i:Int):(clauseD F c i).foldl addF F=F++clauseD F c i/\DistF F (clauseD F c i)/\(∀s∈clauseD F c i,HeadOf (·∈atomsF F) c s.atom) /\
  ((clauseD F c i).length<=300->∀h,HeadOf (·∈atomsF F) c h->h∈atomsF (F++clauseD F c i)):=by
 have hFs:∀s∈F,atomG s.atom:=fun s hs=>hF _ (List.mem_map.2 ⟨s,hs,rfl⟩)
 have hFo:∀s∈F,atomOk s.atom=true:=fun s hs=>(hFs s hs).1
 have hS:∀a,SetF F a->atomG a:=fun a ⟨s,hs,e⟩=>e▸hFs s hs
 have e:clauseD F c i=(headsI F c i).foldl (freshF F) []:=by
  unfold clauseD
  rw[foldI_fresh]
  rfl
 have hd:DistF F (clauseD F c i):=by
  rw[e]
  exact fresh_dist F _ _ (.nil F)
 have key:∀h,HeadOf (·∈atomsF F) c h↔∃s∈headsI F c i,s.atom=h:=by
  intro h
  rw[<-setF_mem]
  have hrest:∀R,Chain (SetF F) (posL c.body) [] R->(restOk F R c.body=true↔RestP (SetF F) R c.body):=fun R hR=>by
   obtain⟨g1,_,g3,_⟩:=chain_good hS .nil hR
   exact restOk_iff hFo fun x hx hk=>((hg.leaf g1 g3).1 x hx hk).1
  constructor
  ·rintro⟨R,h1,h2,rfl⟩
   obtain⟨js,hjs⟩:=of_chain h1
   exact⟨_,List.mem_map.2 ⟨(R,js),mem_insts.2 ⟨js,hjs,(hrest R h1).2 h2,by simp⟩,rfl⟩,rfl⟩
  ·rintro⟨s,hs,rfl⟩
   obtain⟨x,hx,rfl⟩:=List.mem_map.1 hs
   obtain⟨js,h1,h2,_⟩:=mem_insts.1 hx
   have h3:=chain_of h1
   exact⟨x.1,h3,(hrest _ h3).1 h2,rfl⟩
 refine⟨addF_all hd,hd,fun s hs=>?_,fun hl h hh=>?_⟩
 ·rw[e]at hs
  obtain⟨X,hX,hX2⟩:=fresh_pre F (headsI F c i) []
  rw[hX]at hs
  exact(key _).2 ⟨s,hX2 s (by simpa using hs),rfl⟩
 ·have hhg:atomG h:=by
   rw[<-setF_mem]at hh
   exact hh.good hS hg
  obtain⟨s,hs,rfl⟩:=(key h).1 hh
  have hin:∀{G:List Stp},(∀q∈G,atomOk q.atom=true)->hasF (atomX s.atom) G=true->s.atom∈atomsF G:=fun hG hx=>by
   obtain⟨q,hq,eq⟩:=hasF_iff.1 hx
   exact List.mem_map.2 ⟨q,hq,atomX_inj (hG q hq) hhg.1 eq⟩
  rw[e]at hl ⊢
  unfold atomsF
  rw[List.map_append]
  rcases fresh_full F _ _ hl s hs with h|h
  ·exact List.mem_append_left _ (hin hFo h)
  ·refine List.mem_append_right _ (hin (fun q hq=>?_) h)
   have hq2:HeadOf (·∈atomsF F) c q.atom:=by
    obtain⟨X,hX,hX2⟩:=fresh_pre F (headsI F c i) []
    rw[hX]at hq
    exact(key _).2 ⟨q,hX2 q (by simpa using hq),rfl⟩
   rw[<-setF_mem]at hq2
   exact(hq2.good hS hg).1
section
variable{l:List Clause}{m:List (PK×Int)}{v:Int}{S0:Atom->Prop}
def ResD(l:List Clause)(m:List (PK×Int))(v:Int)(S0:Atom->Prop):Option (List Stp)->Prop
 |none=>∃L:List Atom,L.Nodup/\300<L.length/\Mid l m v S0 (·∈L)
 |some F=>Mid l m v S0 (·∈atomsF F)/\NamesF F/\F.length<=300
theorem round_spec(hm:LevOk l m)(hg:∀c∈l,CGood c):∀(r:List Clause),(∀c∈r,c∈l)->∀(i:Nat){F:List Stp},Mid l m v S0 (·∈atomsF F)->NamesF F->F.length<=300 ->
  ResD l m v S0 (roundD m v r i F)/\∀F',roundD m v r i F=some F'->F.length<=F'.length/\(F'.length=F.length->F'=F/\∀c∈r,pVal m (ofA c.head)=v->∀h,HeadOf (·∈atomsF F) c h->h∈atomsF F)
 |[],_,i,F,h1,h2,h3=>⟨⟨h1,h2,h3⟩,fun F' h=>by
  cases h
  exact⟨Nat.le_refl _,fun _=>⟨rfl,fun c hc=>(by cases hc)⟩⟩⟩
 |c::r,hr,i,F,h1,h2,h3=>by
  have hr':=fun d hd=>hr d (List.mem_cons_of_mem _ hd)
  have hc:=hr c List.mem_cons_self
  unfold roundD
  by_cases hv:pVal m (ofA c.head)=v
  ·rw[if_pos hv]
   obtain⟨c1,c2,c3,c4⟩:=clauseD_spec (hg c hc) (F:=F) h1.lo.good i
   rw[c1]
   have hM:Mid l m v S0 (·∈atomsF (F++clauseD F c i)):=h1.grow hm hc (hg c hc) hv (fun a ha=>by
    obtain⟨s,hs,rfl⟩:=List.mem_map.1 ha
    rcases List.mem_append.1 hs with hs|hs
    ·exact .inl (List.mem_map.2 ⟨s,hs,rfl⟩)
    ·exact .inr (c3 s hs)) fun a ha=>by
     obtain⟨s,hs,rfl⟩:=List.mem_map.1 ha
     exact List.mem_map.2 ⟨s,List.mem_append_left _ hs,rfl⟩
   have hN:=h2.app c2
   have hlen:(F++clauseD F c i).length=F.length+(clauseD F c i).length:=List.length_append
   by_cases h300:300<(F++clauseD F c i).length
   ·rw[if_pos h300]
    exact⟨⟨_,hN.nodup,by simpa using h300,hM⟩,fun F' h=>by cases h⟩
   ·rw[if_neg h300]
    obtain⟨g1,g2⟩:=round_spec hm hg r hr' (i+1) hM hN (by omega)
    refine⟨g1,fun F' hF'=>?_⟩
    obtain⟨k1,k2⟩:=g2 F' hF'
    refine⟨by omega,fun hl=>?_⟩
    have e0:clauseD F c i=[]:=List.eq_nil_of_length_eq_zero (by omega)
    rw[e0,List.append_nil]at k1 k2 c4
    obtain⟨j1,j2⟩:=k2 hl
    refine⟨j1,fun d hd hdv h hh=>?_⟩
    rcases List.mem_cons.1 hd with rfl|hd
    ·exact c4 (by simp) h hh
    ·exact j2 d hd hdv h hh
  ·rw[if_neg hv]
   obtain⟨g1,g2⟩:=round_spec hm hg r hr' (i+1) h1 h2 h3
   refine⟨g1,fun F' hF'=>?_⟩
   obtain⟨k1,k2⟩:=g2 F' hF'
   refine⟨k1,fun hl=>?_⟩
   obtain⟨j1,j2⟩:=k2 hl
   refine⟨j1,fun d hd hdv h hh=>?_⟩
   rcases List.mem_cons.1 hd with rfl|hd
   ·exact absurd hdv hv
   ·exact j2 d hd hdv h hh
theorem level_spec(hm:LevOk l m)(hg:∀c∈l,CGood c):∀(k:Nat){F:List Stp},302<=k+F.length->Mid l m v S0 (·∈atomsF F)->NamesF F->F.length<=300 ->
  ResD l m v S0 (levelD m v l k F)/\∀F',levelD m v l k F=some F'->ClosedS l m v (·∈atomsF F')
 |0,F,hk,h1,h2,h3=>by omega
 |k+1,F,hk,h1,h2,h3=>by
  unfold levelD
  obtain⟨g1,g2⟩:=round_spec hm hg l (fun c hc=>hc) 0 h1 h2 h3
  cases hr:roundD m v l 0 F with
  |none=>
   rw[hr]at g1
   exact⟨g1,fun F' h=>by cases h⟩
  |some F2=>
   rw[hr]at g1
   obtain⟨k1,k2⟩:=g2 F2 hr
   obtain⟨m1,m2,m3⟩:=g1
   dsimp only
   by_cases he:F2.length=F.length
   ·rw[if_pos he]
    obtain⟨j1,j2⟩:=k2 he
    subst j1
    exact⟨⟨m1,m2,m3⟩,fun F' h=>by cases h;exact j2⟩
   ·rw[if_neg he]
    exact level_spec hm hg k (by omega) m1 m2 m3
theorem nodup_le:∀{a b:List Atom},a.Nodup->(∀x∈a,x∈b)->a.length<=b.length
 |[],_,_,_=>Nat.zero_le _
 |x::a,b,h,hs=>by
  obtain⟨h1,h2⟩:=List.nodup_cons.1 h
  obtain⟨s,t,rfl⟩:=List.append_of_mem (hs x List.mem_cons_self)
  have:=nodup_le (a:=a) (b:=s++t) h2 fun y hy=>by
   have hy2:=hs y (List.mem_cons_of_mem _ hy)
   have hne:y≠x:=fun e=>h1 (e▸hy)
   rcases List.mem_append.1 hy2 with g|g
   ·exact List.mem_append_left _ g
   ·rcases List.mem_cons.1 g with g|g
    ·exact absurd g hne
    ·exact List.mem_append_right _ g
  simp only[List.length_append,List.length_cons]at this ⊢
  omega
def SameR(o:Option (List Stp))(out:List Atom):Prop:=match o with
 |none=>300<out.length
 |some F=>F.length<=300/\out.length<=300/\NamesF F/\StrictA out/\(∀a∈out,atomG a)/\∀a,a∈atomsF F↔a∈out
theorem level_same(hm:LevOk l m)(hg:∀c∈l,CGood c){q:List (PK×Int)}(hq:∀k,pVal q k=pVal m k){F:List Stp}{out:List Atom}(h:SameR (some F) out):SameR (levelD m v l 302 F) (rlevelR q v l 302 out):=by
 obtain⟨h1,h2,h3,h4,h5,h6⟩:=h
 have e0:(fun a=>a∈atomsF F)=fun a=>a∈out:=funext fun a=>propext (h6 a)
 have hb:Mid l m v (·∈out) (·∈out):=.base h5
 obtain⟨c1,c2⟩:=level_spec (v:=v) (S0:=(·∈out)) hm hg 302 (F:=F) (by omega) (by
  rw[e0]
  exact hb) h3 h1
 obtain⟨r1,r2,r3⟩:=rlevel_spec hm hg hq 302 (out:=out) (by omega) hb h4
 cases hl:levelD m v l 302 F with
 |none=>
  rw[hl]at c1
  obtain⟨L,l1,l2,l3⟩:=c1
  show 300<_
  by_cases h300:(rlevelR q v l 302 out).length<=300
  ·have:=nodup_le l1 (b:=rlevelR q v l 302 out) fun x hx=>l3.least _ r1.lo (r3 h300) x hx
   omega
  ·omega
 |some F'=>
  rw[hl]at c1
  obtain⟨m1,m2,m3⟩:=c1
  have hcl:=c2 F' hl
  have hle:=nodup_le r2.nodup (b:=atomsF F') fun x hx=>r1.least _ m1.lo hcl x hx
  rw[List.length_map]at hle
  have h300:(rlevelR q v l 302 out).length<=300:=by omega
  exact⟨m3,h300,m2,r2,r1.lo.good,fun a=>⟨m1.least _ r1.lo (r3 h300) a,r1.least _ m1.lo hcl a⟩⟩
theorem level_none(hn:∀c∈l,pVal m (ofA c.head)<v)(k:Nat)(F:List Stp):levelD m v l (k+1) F=some F:=by
 have:∀(r:List Clause),(∀c∈r,pVal m (ofA c.head)<v)->∀i,roundD m v r i F=some F:=fun r=>by
  induction r with
  |nil=>intro _ i;rfl
  |cons c r ih=>
   intro hr i
   unfold roundD
   have:=hr c List.mem_cons_self
   rw[if_neg (by omega)]
   exact ih (fun d hd=>hr d (List.mem_cons_of_mem _ hd)) _
 unfold levelD
 rw[this l hn]
 simp
theorem rlevel_none{q:List (PK×Int)}(hn:∀c∈l,pVal q (ofA c.head)<v)(k:Nat)(out:List Atom):rlevelR q v l (k+1) out=out:=by
 have:∀(r:List Clause),(∀c∈r,pVal q (ofA c.head)<v)->rroundR q v r out=out:=fun r=>by
  induction r with
  |nil=>intro _;rfl
  |cons c r ih=>
   intro hr
   unfold rroundR
   have:=hr c List.mem_cons_self
   rw[if_neg (by omega)]
   exact ih (fun d hd=>hr d (List.mem_cons_of_mem _ hd))
 unfold rlevelR
 rw[this l hn]
 simp
theorem rlevels_full{q:List (PK×Int)}:∀(k v:Nat){out:List Atom},300<out.length->rlevelsR q l k v out=out
 |0,_,_,_=>rfl
 |k+1,v,out,h=>by
  unfold rlevelsR
  have e:rlevelR q v l 302 out=out:=by
   unfold rlevelR
   rw[if_neg (by omega)]
  rw[e]
  exact rlevels_full k (v+1) h
theorem levels_id:∀(k w:Nat),(∀c∈l,pVal m (ofA c.head)<(w:Int))->∀F,levelsD m l k w F=some F
 |0,_,_,_=>rfl
 |k+1,w,h,F=>by
  unfold levelsD
  rw[level_none h]
  exact levels_id k (w+1) (fun c hc=>by have:=h c hc;omega) F
theorem rlevels_id{q:List (PK×Int)}:∀(k w:Nat),(∀c∈l,pVal q (ofA c.head)<(w:Int))->∀out,rlevelsR q l k w out=out
 |0,_,_,_=>rfl
 |k+1,w,h,out=>by
  unfold rlevelsR
  rw[rlevel_none h]
  exact rlevels_id k (w+1) (fun c hc=>by have:=h c hc;omega) out
theorem levels_same(hm:LevOk l m)(hg:∀c∈l,CGood c){q:List (PK×Int)}(hq:∀k,pVal q k=pVal m k):∀(k j w:Nat),(∀c∈l,pVal m (ofA c.head)<(w+k:Nat))->(∀c∈l,pVal m (ofA c.head)<(w+j:Nat))->∀{F:List Stp}{out:List Atom},SameR (some F) out->SameR (levelsD m l k w F) (rlevelsR q l j w out)
 |0,j,w,h1,h2,F,out,h=>by
  rw[rlevels_id j w (fun c hc=>by rw[hq];simpa using h1 c hc)]
  exact h
 |k+1,0,w,h1,h2,F,out,h=>by
  rw[levels_id (k+1) w (fun c hc=>by simpa using h2 c hc)]
  exact h
 |k+1,j+1,w,h1,h2,F,out,h=>by
  unfold levelsD rlevelsR
  have hs:=level_same (v:=w) hm hg hq h
  cases hl:levelD m w l 302 F with
  |none=>
   rw[hl]at hs
   show 300<_
   rw[rlevels_full j (w+1) hs]
   exact hs
  |some F'=>
   rw[hl]at hs
   exact levels_same hm hg hq k j (w+1) (fun c hc=>by have:=h1 c hc;omega) (fun c hc=>by have:=h2 c hc;omega) hs
end
theorem addFs_has:∀(S F:List Stp),(∀s∈F,atomOk s.atom=true)->(∀s∈S,atomOk s.atom=true)->NamesF F->NamesF (S.foldl addF F)/\∀a,a∈atomsF (S.foldl addF F)↔(a∈atomsF F\/a∈atomsF S)
 |[],F,_,_,h=>⟨h,fun a=>by simp⟩
 |s::S,F,hF,hS,h=>by
  have hs:=hS s List.mem_cons_self
  have hS':=fun q hq=>hS q (List.mem_cons_of_mem _ hq)
  rw[List.foldl_cons]
  cases hh:hasF (atomX s.atom) F
  ·have e:addF F s=F++[s]:=by unfold addF;rw[hh,if_neg (by simp)]
   have hF2:∀q∈F++[s],atomOk q.atom=true:=fun q hq=>by
    rcases List.mem_append.1 hq with hq|hq
    ·exact hF q hq
    ·simp at hq;rw[hq];exact hs
   have hN:NamesF (F++[s]):=h.app ⟨by simp,fun q hq=>by simp at hq;rw[hq];exact hh⟩
   rw[e]
   obtain⟨g1,g2⟩:=addFs_has S _ hF2 hS' hN
   refine⟨g1,fun a=>?_⟩
   rw[g2 a]
   simp[atomsF,or_assoc,eq_comm]
  ·have e:addF F s=F:=by unfold addF;rw[hh,if_pos rfl]
   rw[e]
   obtain⟨g1,g2⟩:=addFs_has S F hF hS' h
   refine⟨g1,fun a=>?_⟩
   rw[g2 a]
   have hin:s.atom∈atomsF F:=by
    obtain⟨q,hq,eq⟩:=hasF_iff.1 hh
    exact List.mem_map.2 ⟨q,hq,atomX_inj (hF q hq) hs eq⟩
   constructor
   ·rintro(h|h)
    ·exact .inl h
    ·exact .inr (List.mem_cons_of_mem _ h)
   ·rintro(h|h)
    ·exact .inl h
    ·rcases List.mem_cons.1 h with rfl|h
     ·exact .inl hin
     ·exact .inr h
theorem foldl_putR_all:∀(base out:List Atom),StrictA out->StrictA (base.foldl putR out)/\∀a,a∈base.foldl putR out↔(a∈out\/a∈base)
 |[],out,h=>⟨h,fun a=>by simp⟩
 |x::r,out,h=>by
  obtain⟨h1,h2⟩:=foldl_putR_all r (putR out x) (putR_strict h)
  rw[List.foldl_cons]
  refine⟨h1,fun a=>?_⟩
  rw[h2 a]
  constructor
  ·rintro(h|h)
   ·rcases putR_mem h with h|rfl
    ·exact .inl h
    ·exact .inr List.mem_cons_self
   ·exact .inr (List.mem_cons_of_mem _ h)
  ·rintro(h|h)
   ·exact .inl (putR_sub h)
   ·rcases List.mem_cons.1 h with rfl|h
    ·exact .inl (putR_has out a)
    ·exact .inr h
theorem model_same{l:List Clause}{m q:List (PK×Int)}(hm:LevOk l m)(hlq:LevOk l q)(hg:∀c∈l,CGood c)(hq:∀k,pVal m k=pVal q k){base:List Atom}(hb:∀a∈base,atomG a)(hbl:base.length<=300):SameR (derivedD m l base) (rmodelR q l base):=by
 unfold derivedD rmodelR
 have hhas:∀c∈l,pVal m (ofA c.head)<=maxI 0 (m.map (·.2))/\pVal m (ofA c.head)<=q.length:=fun c hc=>by
  have hk:ofA c.head∈predC c:=by simp[predC]
  refine⟨hm.max.2.2 _ (hm.has c hc _ hk),?_⟩
  rw[hq]
  exact hlq.bd _
 have h0:=hm.max.1
 refine levels_same hm hg (fun k=>(hq k).symm) _ _ 0 (fun c hc=>?_) (fun c hc=>?_) ?_
 ·have:=(hhas c hc).1
  omega
 ·have:=(hhas c hc).2
  omega
 ·have hS:∀s∈base.map (fun a=>(⟨a,-1,[]⟩:Stp)),atomOk s.atom=true:=fun s hs=>by
   obtain⟨a,ha,rfl⟩:=List.mem_map.1 hs
   exact(hb a ha).1
  obtain⟨a1,a2⟩:=addFs_has (base.map fun a=>(⟨a,-1,[]⟩:Stp)) [] (fun s hs=>by cases hs) hS .nil
  obtain⟨b1,b2⟩:=foldl_putR_all base [] .nil
  have hl1:=(addFs_len (base.map fun a=>(⟨a,-1,[]⟩:Stp)) []).2
  have e:∀a,a∈atomsF (baseD base)↔a∈base:=fun a=>by
   rw[show atomsF (baseD base)=atomsF ((base.map fun a=>(⟨a,-1,[]⟩:Stp)).foldl addF []) from rfl,a2 a]
   simp[atomsF,Function.comp_def]
  have e2:∀a,a∈base.foldl putR []↔a∈base:=fun a=>by rw[b2 a];simp
  have hl2:=nodup_le b1.nodup (b:=base) fun x hx=>(e2 x).1 hx
  refine⟨?_,by omega,a1,b1,fun a ha=>hb a ((e2 a).1 ha),fun a=>by rw[e a,e2 a]⟩
  rw[List.length_map,List.length_nil]at hl1
  unfold baseD
  omega
end Go.Abs.Tz
namespace Go.Abs.Tz
open Go Go.Abs Go.Proofs
set_option maxRecDepth 20000
set_option linter.unusedSimpArgs false
attribute [local simp ↓] getP_nil getP_node setP_nil setP_node oneP_eq vP_map vP_some vP_none vP_bind eP_some bP_true bP_false gP_yes gP_tf gP_ft gP_tup runP_skip runP_ops runP_drw runP_seq runP_cond runP_blk runP_loop runP_exit runP_ret seqK_n seqK_r seqK_e seqK_p blkK_n blkK_r blkK_e blkK_p loopK_n loopK_r loopK_e loopK_p finK_n finK_r finK_p resP_one resP_two resP_three resP_nil resP_c nxP_nil argsP_nil argsP_cons evP_t evP_c evP_g evsP_nil evsP_cons clP_fn pnP_i opsP_nil opsP_d opsP_x opsP_gt opsP_gf opP_cf opP_cl opP_pn opP_nx valP_mv valP_pk valP_eq valP_bn valP_nt valP_ld valP_fa valP_fd valP_ia valP_ix valP_ln valP_srn valP_srl valP_srh valP_srb valP_cv valP_mi valP_mf valP_xt valP_bs valP_bd valP_nc valP_mn valP_lk valP_ta opP_mv opP_pk opP_eq opP_bn opP_nt opP_ld opP_fa opP_fd opP_ia opP_ix opP_ln opP_sr opP_cv opP_mi opP_mf opP_xt opP_bs opP_bd opP_nc opP_mn opP_lk opP_ta opP_al opP_bx opP_st opP_ap opP_mk opP_nb opP_mu opP_rg opP_en pendP_nil pendP_d pendP_g drwP_nil drwP_d drwP_x drwP_gt drwP_gf look_self natOf_nat
attribute [local simp] faL fdL iaL ixL loadL partL lenL eqK eqL natOf eqB_s eqB_i eqB_b bn_add bn_sub bn_lss bn_leq bn_gtr bn_geq bn_adds bn_lsss bn_gtrs bn_leqs bn_geqs sliceL LV.cells LV.whole look_self put_self putO_self put_eq stL fillL termC dopP LHeap.alloc oneI oneS oneB nth0 nth1 nth2 nth3 nth4 nth5 nth6 nth7 nth8 nth9 look_ne putO_ne
theorem rround_facts{q:List (PK×Int)}{lev:Int}:∀{l:List Clause}{out:List Atom},(∀c∈l,CGood c)->out.length<=301->(∀a∈out,atomG a)->(rroundR q lev l out).length<=301/\∀a∈rroundR q lev l out,atomG a
 |[],_,_,h1,h2=>⟨h1,h2⟩
 |c::r,out,hc,h1,h2=>by
  unfold rroundR
  have hcr:=fun d hd=>hc d (List.mem_cons_of_mem _ hd)
  split
  ·obtain⟨p1,p2,p3⟩:=rputs_facts (headsR c out c.body []) out
   refine rround_facts hcr (by omega) fun a ha=>(p3 a ha).elim (h2 a) ?_
   exact headsR_good (hc c List.mem_cons_self) h2 c.body [] [] rfl .nil (fun x hx=>by cases hx) a
  ·exact rround_facts hcr h1 h2
theorem rlevel_facts{q:List (PK×Int)}{lev:Int}{l:List Clause}(hc:∀c∈l,CGood c):∀(k:Nat){out:List Atom},out.length<=301->(∀a∈out,atomG a)->(rlevelR q lev l k out).length<=301/\∀a∈rlevelR q lev l k out,atomG a
 |0,_,h1,h2=>⟨h1,h2⟩
 |k+1,out,h1,h2=>by
  unfold rlevelR
  split
  ·split
   ·exact rround_facts hc h1 h2
   ·obtain⟨g1,g2⟩:=rround_facts (q:=q) (lev:=lev) hc h1 h2
    exact rlevel_facts hc k g1 g2
  ·exact⟨h1,h2⟩
structure NNRb where
 k:Nat
 bf:Int
 n:Nat
 out:List Atom
section
variable{S:List Strat}{owS:Own}{q:List (PK×Int)}{l:List Clause}{ob:List (Nat×LObj)}{s6:Nat}
theorem t_rbefLoop(hI:RmIn S owS q l ob s6)(lev:Nat)(out:List Atom)(hog:∀a∈out,atomG a)(hol:out.length<=301)(m:Nat)(v4:LV){KX:XP}
  (hk:∀n' z10 z42 z43 z44 z45 z46 z47 z48 z49 z50,m<=n'->KX (.exit 4) ((.nd (clausesL l) (.nd .bot (.nd .bot (.nd (.sl ((rlevelR q lev l 302 out).map atomL) .no) (.nd .bot .nil (.nd (z47) .nil .nil)) .nil) (.nd .bot .nil (.nd .bot (.nd (z43) .nil .nil) .nil))) (.nd .bot (.nd (.int lev) (.nd .bot .nil (.nd (z49) .nil .nil)) .nil) (.nd .bot .nil (.nd .bot (.nd (z45) .nil .nil) .nil)))) (.nd .bot (.nd (v4) (.nd .bot (.nd .bot .nil (.nd (z48) .nil .nil)) .nil) (.nd .bot .nil (.nd .bot (.nd (z44) .nil .nil) .nil))) (.nd (.ptr s6 0) (.nd (z10) (.nd .bot .nil (.nd (z50) .nil .nil)) (.nd .bot (.nd (z42) .nil .nil) .nil)) (.nd .bot .nil (.nd .bot (.nd (z46) .nil .nil) .nil)))))) ⟨ob,n'⟩):
  lP E0 F0 rmBef ((.nd (clausesL l) (.nd .bot (.nd .bot (.nd (.sl (out.map atomL) .no) .nil .nil) .nil) (.nd .bot (.nd (.int lev) .nil .nil) .nil)) (.nd .bot (.nd (v4) .nil .nil) (.nd (.ptr s6 0) (.nd (.int (-1)) .nil .nil) .nil)))) ⟨ob,m⟩ KX:=by
 obtain⟨A,hA⟩:∃A,rlevelR q lev l 302 out=A:=⟨_,rfl⟩
 rw[hA]at hk
 refine lP_enter (σ:=NNRb) (fun p=>(.nd (clausesL l) (.nd .bot (.nd .bot (.nd (.sl (p.out.map atomL) .no) .nil .nil) .nil) (.nd .bot (.nd (.int lev) .nil .nil) .nil)) (.nd .bot (.nd (v4) .nil .nil) (.nd (.ptr s6 0) (.nd (.int p.bf) .nil .nil) .nil)))) (fun p=>⟨ob,p.n⟩) (fun p=>p.k)
  (fun p=>m<=p.n/\(∀a∈p.out,atomG a)/\p.out.length<=301/\((p.k=0/\p.bf=(p.out.length:Int)/\p.out=A)\/(0<p.k/\p.bf≠(p.out.length:Int)/\rlevelR q lev l p.k p.out=A/\302<=p.k+p.out.length)))
  ⟨302,-1,m,out⟩ ⟨Nat.le_refl _,hog,hol,.inr ⟨by dsimp only;omega,by dsimp only;omega,hA,by dsimp only;omega⟩⟩ (by simp[FT.Le,Wk]) ⟨HWk.refl _,fun h=>h⟩ ?_
 rintro⟨k,bf,n,o⟩ ⟨hn,hg,hl,hcase⟩ hok
 dsimp only at hn hg hl hcase hok
 have hll:=hI.hl
 rcases hcase with⟨rfl,rfl,rfl⟩|⟨hk0,hbf,hlv,hfu⟩
 ·simp(disch:=omega)
  exact hk n _ _ _ _ _ _ _ _ _ _ hn
 obtain⟨k',rfl⟩:∃k',k=k'+1:=⟨k - 1,by omega⟩
 simp only[rlevelR]at hlv
 by_cases h300:o.length<=300
 case neg=>
  rw[if_neg h300]at hlv
  subst hlv
  have h300':¬(o.length:Int)<=300:=by omega
  simp(disch:=omega)[hbf,h300']
  exact hk n _ _ _ _ _ _ _ _ _ _ hn
 rw[if_pos h300]at hlv
 have h300':(o.length:Int)<=300:=by omega
 simp(disch:=omega)[hbf,h300']
 refine lP_weak (t':=(.nd (clausesL l) (.nd .bot (.nd .bot (.nd (.sl (o.map atomL) .no) .nil .nil) (.nd (.int 0) .nil .nil)) (.nd .bot (.nd (.int lev) .nil .nil) .nil)) (.nd .bot (.nd (v4) .nil .nil) (.nd (.ptr s6 0) (.nd (.int o.length) .nil .nil) .nil)))) (fun l h=>by cases h) (by simp[FT.Le,Wk]) (HWk.refl _) (fun h=>h) ?_
 refine t_rclLoop hI lev o hg hl n _ _ fun n2 hn2=>?_
 obtain⟨g1,g2⟩:=rround_facts (q:=q) (lev:=lev) hI.hc hl hg
 have g3:=rroundR_len q lev l o
 obtain⟨o2,ho2⟩:∃o2,rroundR q lev l o=o2:=⟨_,rfl⟩
 rw[ho2]at hlv g1 g2 g3 ⊢
 simp(disch:=omega)
 by_cases he:o2.length=o.length
 ·rw[if_pos he]at hlv
  exact⟨⟨0,o.length,n2,o2⟩,by dsimp only;omega,⟨by dsimp only;omega,g2,g1,.inl ⟨rfl,by dsimp only;rw[he],hlv⟩⟩,by simp[FT.Le,Wk],HWk.refl _,fun h=>h⟩
 ·rw[if_neg he]at hlv
  by_cases h3:o2.length<=300
  ·exact⟨⟨k',o.length,n2,o2⟩,by dsimp only;omega,⟨by dsimp only;omega,g2,g1,.inr ⟨by dsimp only;omega,by dsimp only;omega,hlv,by dsimp only;omega⟩⟩,by simp[FT.Le,Wk],HWk.refl _,fun h=>h⟩
  ·exact⟨⟨k',o.length,n2,o2⟩,by dsimp only;omega,⟨by dsimp only;omega,g2,g1,.inr ⟨by dsimp only;omega,by dsimp only;omega,hlv,by dsimp only;omega⟩⟩,by simp[FT.Le,Wk],HWk.refl _,fun h=>h⟩
theorem t_rlvlLoop(hI:RmIn S owS q l ob s6)(out:List Atom)(hog:∀a∈out,atomG a)(hol:out.length<=301)(m:Nat)(v4:LV){KX:XP}
  (hk:∀n' z9 z35 z36 z37 z38 z39,m<=n'->KX (.exit 2) ((.nd (clausesL l) (.nd .bot (.nd .bot (.nd (.sl ((rlevelsR q l (S.length+1) 0 out).map atomL) .no) .nil (.nd .bot (.nd (z39) .nil .nil) .nil)) (.nd .bot (.nd .bot (.nd (z35) .nil .nil) .nil) .nil)) (.nd .bot (.nd (z9) .nil .nil) (.nd .bot (.nd .bot (.nd (z37) .nil .nil) .nil) .nil))) (.nd .bot (.nd (v4) .nil (.nd .bot (.nd .bot (.nd (z36) .nil .nil) .nil) .nil)) (.nd (.ptr s6 0) .nil (.nd .bot (.nd .bot (.nd (z38) .nil .nil) .nil) .nil))))) ⟨ob,n'⟩):
  lP E0 F0 rmLvl ((.nd (clausesL l) (.nd .bot (.nd .bot (.nd (.sl (out.map atomL) .no) .nil .nil) .nil) (.nd .bot (.nd (.int 0) .nil .nil) .nil)) (.nd .bot (.nd (v4) .nil .nil) (.nd (.ptr s6 0) .nil .nil)))) ⟨ob,m⟩ KX:=by
 obtain⟨A,hA⟩:∃A,rlevelsR q l (S.length+1) 0 out=A:=⟨_,rfl⟩
 rw[hA]at hk
 refine lP_enter (σ:=NNRm) (fun p=>(.nd (clausesL l) (.nd .bot (.nd .bot (.nd (.sl (p.out.map atomL) .no) .nil .nil) .nil) (.nd .bot (.nd (.int p.i) .nil .nil) .nil)) (.nd .bot (.nd (v4) .nil .nil) (.nd (.ptr s6 0) .nil .nil)))) (fun p=>⟨ob,p.n⟩) (fun p=>S.length+1 - p.i)
  (fun p=>m<=p.n/\p.i<=S.length+1/\rlevelsR q l (S.length+1 - p.i) p.i p.out=A/\(∀a∈p.out,atomG a)/\p.out.length<=301) ⟨0,m,out⟩ ⟨Nat.le_refl _,Nat.zero_le _,hA,hog,hol⟩ (by simp[FT.Le,Wk]) ⟨HWk.refl _,fun h=>h⟩ ?_
 rintro⟨i,n,o⟩ ⟨hn,hi,hf,hg,hl⟩ hok
 dsimp only at hn hi hf hg hl hok
 have hc6:=hI.c6
 have hSl:=hI.hS
 by_cases hlt:i<=S.length
 case neg=>
  rw[show S.length+1 - i=0 by omega]at hf
  have hA2:o=A:=hf
  subst hA2
  simp(disch:=omega)[hc6,hlt]
  exact hk n _ _ _ _ _ _ hn
 obtain⟨d,hd⟩:∃d,S.length+1 - i=d+1:=⟨S.length - i,by omega⟩
 rw[hd]at hf
 simp only[rlevelsR]at hf
 simp(disch:=omega)[hc6,hlt]
 refine lP_weak (t':=(.nd (clausesL l) (.nd .bot (.nd .bot (.nd (.sl (o.map atomL) .no) .nil .nil) .nil) (.nd .bot (.nd (.int i) .nil .nil) .nil)) (.nd .bot (.nd (v4) .nil .nil) (.nd (.ptr s6 0) (.nd (.int (-1)) .nil .nil) .nil)))) (fun l h=>by cases h) (by simp[FT.Le,Wk]) (HWk.refl _) (fun h=>h) ?_
 refine t_rbefLoop hI i o hg hl n _ fun n2 z10 z42 z43 z44 z45 z46 z47 z48 z49 z50 hn2=>?_
 obtain⟨g1,g2⟩:=rlevel_facts (q:=q) (lev:=i) hI.hc 302 hl hg
 simp(disch:=omega)[wrap_nat (show i<2^62 by omega)]
 exact⟨⟨i+1,n2,rlevelR q i l 302 o⟩,by dsimp only;omega,⟨by dsimp only;omega,by dsimp only;omega,by dsimp only;rw[show S.length+1 - (i+1)=d by omega];exact hf,g2,g1⟩,by simp[FT.Le,Wk],HWk.refl _,fun h=>h⟩
end
theorem foldl_put_facts:∀(base out:List Atom),(base.foldl putR out).length<=out.length+base.length/\∀x∈base.foldl putR out,x∈out\/x∈base
 |[],out=>⟨by simp,fun x hx=>.inl hx⟩
 |a::r,out=>by
  obtain⟨h1,h2⟩:=foldl_put_facts r (putR out a)
  have hp:=putR_len out a
  rw[List.foldl_cons,List.length_cons]
  refine⟨by omega,fun x hx=>?_⟩
  rcases h2 x hx with h|h
  ·rcases putR_mem h with h|h
   ·exact .inl h
   ·exact .inr (by rw[h];exact List.mem_cons_self)
  ·exact .inr (List.mem_cons_of_mem _ h)
def rModE(l:List Clause)(base:List Atom):Int:=if basedE l (refS l) base≠0 then basedE l (refS l) base else match refS l with
 |none=>81
 |some q=>if 300<(rmodelR q l base).length then 2 else 0
def rModL(l:List Clause)(base:List Atom):List Atom:=if rModE l base≠0 then [] else match refS l with
 |none=>[]
 |some q=>rmodelR q l base
theorem t_rModel(l:List Clause)(hl:SmallL l)(h3:(checkB l).1=0->∀c∈l,(posL c.body).length<=3)(base:List Atom)(ow:Own)(hb:base.length<2^63)(hok:base.length<=100->∀a∈base,a.ok)
  (hfind:(checkB l).1=0->∀q,refS l=some q->∀c∈l,ofA c.head∈pKeys q) (H:LHeap) {kv kp:HP} (hk:∀n,H.next<=n->kv (.agg [.sl ((rModL l base).map atomL) .no,.int (rModE l base)]) ⟨H.objs,n⟩):
  cP E0 F0 9 [clausesL l,.sl (base.map atomL) ow] H kv kp:=by
 refine cP_of_fnW c9 fun hH=>⟨Nat.le_of_ble_eq_true rfl,?_⟩
 obtain⟨owS,hS⟩:=t_rstratified l hl
 obtain⟨N0,hN0⟩:∃N0,H.next=N0:=⟨_,rfl⟩
 obtain⟨ob,nx⟩:=H
 dsimp only at hN0 hk
 subst hN0
 have fin:∀(v:LV)(ob':List (Nat×LObj))(m:Nat),nx<=m->(∀i,i<nx->look i ob'=look i ob)->Wk v (.agg [.sl ((rModL l base).map atomL) .no,.int (rModE l base)])->∃v',Wk v v'/\∃H'',HWk ⟨ob',m⟩ H''/\(LHeap.Ok ⟨ob',m⟩->H''.Ok)/\kv v' H'':=fun v ob' m hm hold hw=>⟨_,hw,⟨ob,m⟩,hwk_old hH hold (Nat.le_refl _),fun _=>Desc.mono hH hm,hk m hm⟩
 have hgv:=t_rgiven l hl base ow hb hok
 simp(disch:=omega)[b9]
 refine hgv.go fun n1 hn1=>?_
 obtain⟨e,he0⟩:∃e,basedE l (refS l) base=e:=⟨_,rfl⟩
 rw[he0]
 by_cases he:e=0
 case neg=>
  have eE:rModE l base=e:=by unfold rModE;rw[he0,if_pos he]
  have eL:rModL l base=[]:=by unfold rModL;rw[eE,if_pos he]
  rw[eE,eL]at fin
  simp(disch:=omega)[he,resP_c]
  exact fin _ _ _ (by omega) (fun i hi=>look_ne (by omega) _ _) (.inr (.inl rfl))
 subst he
 have hbz:=basedE_r l base
 have hc0:(checkB l).1=0:=by
  unfold basedE at he0
  by_cases h:(checkB l).1=0
  ·exact h
  ·rw[if_pos h]at he0;exact he0
 obtain⟨q,hq⟩:∃q,refS l=some q:=by
  cases h:refS l with
  |none=>
   unfold basedE at he0
   rw[if_neg (by omega),if_pos h]at he0
   cases he0
  |some q=>exact⟨q,rfl⟩
 have hSl:rstratL l (refS l)=stratsOf q:=by unfold rstratL;rw[if_neg (by omega),hq];rfl
 have hSe:rstratE l (refS l)=0:=by unfold rstratE;rw[if_neg (by omega),if_neg (by rw[hq];simp)]
 rw[hSl,hSe]at hS
 have h100:base.length<=100:=by
  unfold basedE at he0
  rw[if_neg (by omega),if_neg (by rw[hq];simp)]at he0
  by_cases h:100<base.length
  ·rw[if_pos h]at he0;cases he0
  ·omega
 have hall:base.all baseOk=true:=by
  unfold basedE at he0
  rw[if_neg (by omega),if_neg (by rw[hq];simp),if_neg (by omega)]at he0
  cases h:base.all baseOk with
  |true=>rfl
  |false=>rw[h]at he0;simp at he0
 have hbg:∀a∈base,atomG a:=fun a ha=>baseOk_iff.1 (List.all_eq_true.1 hall a ha)
 simp(disch:=omega)
 refine hS.go fun n2 hn2=>?_
 simp(disch:=omega)
 obtain⟨S,hSS⟩:∃S,stratsOf q=S:=⟨_,rfl⟩
 have hSlen:S.length=q.length:=by rw[<-hSS,stratsOf_len]
 rw[hSS]at hS ⊢
 obtain⟨obC,hobC⟩:∃obC,(n2,LObj.cells [.sl (S.map stratL) owS,.int 0])::(nx,.cells [Nl,Z 0])::ob=obC:=⟨_,rfl⟩
 have hold:∀i,i<nx->look i obC=look i ob:=fun i hi=>by rw[<-hobC,look_ne (by omega),look_ne (by omega)]
 have hc4:look nx obC=some (.cells [Nl,Z 0]):=by rw[<-hobC,look_ne (by omega)];exact look_self _ _ _
 have hgl:=good_of hc0
 have hpo:=preds_ok l
 have hql:q.length<2^40:=by
  have h1:=(refS_ok hc0 hq).len
  omega
 have hI:RmIn S owS q l obC n2:=by
  refine⟨(check_ok hc0).1,check_good hc0,h3 hc0,by omega,fun c hc=>?_,by rw[<-hobC];exact look_self _ _ _⟩
  have hk:=hfind hc0 q hq c hc
  obtain⟨f1,f2,f3,_⟩:=idx_spec hk
  refine⟨pIdx (ofA c.head) q,⟨(ofA c.head).1,(ofA c.head).2,pVal q (ofA c.head)⟩,by rw[<-hSS,f2];omega,?_,rfl⟩
  rw[<-hSS]
  unfold stratsOf
  rw[List.getElem?_map,f3]
  rfl
 rw[hobC]
 obtain⟨out0,ho0⟩:∃out0,base.foldl putR []=out0:=⟨_,rfl⟩
 have hout0:=foldl_put_facts base []
 rw[ho0]at hout0
 refine lP_enter (σ:=NNRm) (fun p=>(.nd (clausesL l) (.nd (.sl (base.map atomL) ow) (.nd .bot (.nd (.sl (p.out.map atomL) .no) .nil .nil) .nil) .nil) (.nd .bot (.nd (.ptr nx 0) (.nd (.int p.i) .nil .nil) .nil) (.nd (.ptr n2 0) .nil .nil)))) (fun p=>⟨obC,p.n⟩) (fun p=>base.length - p.i)
  (fun p=>n2+1<=p.n/\p.i<=base.length/\(base.drop p.i).foldl putR p.out=out0/\(∀a∈p.out,atomG a)/\p.out.length<=p.i) ⟨0,n2+1,[]⟩ ⟨Nat.le_refl _,Nat.zero_le _,ho0,(fun a ha=>by cases ha),Nat.le_refl _⟩ (by simp[FT.Le,Wk,LV.strip,stripL]) ⟨HWk.refl _,fun h=>h⟩ ?_
 rintro⟨i,n3,o⟩ ⟨hn3,hi,hf,hg,hlen⟩ hok3
 dsimp only at hn3 hi hf hg hlen hok3
 by_cases hlt:i<base.length
 case pos=>
  rw[List.drop_eq_getElem_cons hlt,List.foldl_cons]at hf
  have hbi:=hbg _ (List.getElem_mem hlt)
  simp(disch:=omega)[hlt]
  refine t_rput o .no base[i] (by omega) (fun x hx=>atomOk_ok (hg x hx).1) (atomOk_ok hbi.1) _ fun n4 hn4=>?_
  dsimp only at hn4
  have hpl:=putR_len o base[i]
  simp(disch:=omega)[wrap_nat (show i<2^62 by omega)]
  exact⟨⟨i+1,n4,putR o base[i]⟩,by dsimp only;omega,⟨by dsimp only;omega,by dsimp only;omega,hf,fun a ha=>by
   rcases putR_mem ha with h|h
   ·exact hg a h
   ·rw[h];exact hbi,by dsimp only;omega⟩,by simp[FT.Le,Wk],HWk.refl _,fun h=>h⟩
 obtain rfl:i=base.length:=by omega
 rw[List.drop_eq_nil_of_le (Nat.le_refl _)]at hf
 have ho2:o=out0:=hf
 subst ho2
 simp(disch:=omega)
 refine lP_weak (t':=(.nd (clausesL l) (.nd .bot (.nd .bot (.nd (.sl (o.map atomL) .no) .nil .nil) .nil) (.nd .bot (.nd (.int 0) .nil .nil) .nil)) (.nd .bot (.nd (.ptr nx 0) .nil .nil) (.nd (.ptr n2 0) .nil .nil)))) (fun l h=>by cases h) (by simp[FT.Le,Wk]) (HWk.refl _) (fun h=>h) ?_
 refine t_rlvlLoop hI o hg (by omega) n3 _ fun n4 z9 z35 z36 z37 z38 z39 hn4=>?_
 obtain⟨M,hM⟩:∃M,rlevelsR q l (S.length+1) 0 o=M:=⟨_,rfl⟩
 have hMr:rmodelR q l base=M:=by unfold rmodelR;rw[ho0,<-hSlen];exact hM
 rw[hM]
 by_cases h300:300<M.length
 ·have h300':(300:Int)<(M.length:Int):=by omega
  have eE:rModE l base=2:=by
   unfold rModE
   rw[he0,if_neg (by simp),hq]
   simp only
   rw[hMr,if_pos h300]
  have eL:rModL l base=[]:=by unfold rModL;rw[eE,if_pos (by decide)]
  rw[eE,eL]at fin
  simp(disch:=omega)[h300',hc4,resP_c]
  rw[look_putO hc4]
  simp(disch:=omega)
  exact fin _ _ _ (by omega) (fun i hi=>by rw[look_putO_ne (by omega)];exact hold i hi) (.inr (.inl rfl))
 ·have h300':¬(300:Int)<(M.length:Int):=by omega
  have eE:rModE l base=0:=by
   unfold rModE
   rw[he0,if_neg (by simp),hq]
   simp only
   rw[hMr,if_neg h300]
  have eL:rModL l base=M:=by unfold rModL;rw[eE,if_neg (by simp),hq];exact hMr
  rw[eE,eL]at fin
  simp(disch:=omega)[h300',hc4,resP_c]
  rw[look_putO hc4]
  simp(disch:=omega)
  exact fin _ _ _ (by omega) (fun i hi=>by rw[look_putO_ne (by omega)];exact hold i hi) (.inl rfl)
end Go.Abs.Tz
namespace Go.Abs.Tz
open Go Go.Abs Go.Proofs
structure Meet(l:List Clause)(R:Option (List (PK×Int)))(base:List Atom):Prop where
 err:modelE l R base=rModE l base
 row:modelE l R base=0->∀B,SortedOf (modelF l R base) B->B=rModL l base
 has:modelE l R base=0->∀a,atomOk a=true->hasF (atomX a) (modelF l R base)=hasA (rModL l base) a
 good:∀a∈rModL l base,atomG a
 len:(rModL l base).length<=300
theorem basedE_none{l:List Clause}{R:Option (List (PK×Int))}{base:List Atom}(h:(R=none↔refS l=none)\/(checkB l).1≠0):basedE l R base=basedE l (refS l) base:=by
 unfold basedE
 by_cases hc:(checkB l).1≠0
 ·rw[if_pos hc,if_pos hc]
 ·rw[if_neg hc,if_neg hc]
  rcases h with h|h
  ·by_cases hR:R=none
   ·rw[if_pos hR,if_pos (h.1 hR)]
   ·rw[if_neg hR,if_neg (fun e=>hR (h.2 e))]
  ·exact absurd h hc
theorem basedE_z{l:List Clause}{R:Option (List (PK×Int))}{base:List Atom}(h:basedE l R base=0):(checkB l).1=0/\R≠none/\base.length<=100/\∀a∈base,atomG a:=by
 unfold basedE at h
 by_cases hc:(checkB l).1≠0
 ·rw[if_pos hc]at h;exact absurd h hc
 rw[if_neg hc]at h
 by_cases hR:R=none
 ·rw[if_pos hR]at h;cases h
 rw[if_neg hR]at h
 by_cases h1:100<base.length
 ·rw[if_pos h1]at h;cases h
 rw[if_neg h1]at h
 cases h2:base.all baseOk with
 |false=>rw[h2]at h;simp at h
 |true=>exact⟨by omega,hR,by omega,fun a ha=>baseOk_iff.1 (List.all_eq_true.1 h2 a ha)⟩
theorem meet_of_err{l:List Clause}{R:Option (List (PK×Int))}{base:List Atom}(h:modelE l R base=rModE l base)(hz:modelE l R base≠0):Meet l R base:=by
 have e:rModL l base=[]:=by unfold rModL;rw[<-h,if_pos hz]
 exact⟨h,fun k=>absurd k hz,fun k=>absurd k hz,fun a ha=>(by rw[e]at ha;cases ha),by rw[e];simp⟩
theorem meet_of(l:List Clause)(base:List Atom):∃fuel R,((checkB l).1=0->levN l fuel (l.foldl initCl [])=some R)/\((checkB l).1=0->∀m,R=some m->0<=maxI 0 (m.map (·.2))/\maxI 0 (m.map (·.2))<=2^30)/\Meet l R base:=by
 by_cases hc:(checkB l).1=0
 case neg=>
  refine⟨0,none,fun h=>absurd h hc,fun h=>absurd h hc,?_⟩
  have e1:∀R:Option (List (PK×Int)),basedE l R base=(checkB l).1:=fun R=>by unfold basedE;rw[if_pos hc]
  have e2:modelE l none base=(checkB l).1:=by unfold modelE;rw[e1,if_pos hc]
  have e3:rModE l base=(checkB l).1:=by unfold rModE;rw[e1,if_pos hc]
  exact meet_of_err (by rw[e2,e3]) (by rw[e2];exact hc)
 obtain⟨fuel,R,hR,h⟩:=levels_all l hc
 refine⟨fuel,R,fun _=>hR,fun _ m hm=>?_,?_⟩
 ·rcases h with⟨h,_⟩|⟨m',q,h1,_,h3,_⟩
  ·rw[h]at hm;cases hm
  ·rw[h1]at hm;cases hm
   have:=h3.max
   omega
 rcases h with⟨h1,h2⟩|⟨m,q,h1,h2,h3,h4,h5⟩
 ·have eb:basedE l R base=basedE l (refS l) base:=by rw[h1,h2]
  have e:modelE l R base=rModE l base:=by
   unfold modelE rModE
   rw[eb,h1,h2]
  refine meet_of_err e ?_
  unfold modelE
  by_cases hb:basedE l R base≠0
  ·rw[if_pos hb];exact hb
  ·rw[if_neg hb,h1]
   show (81:Int)≠0
   decide
 ·have eb:basedE l R base=basedE l (refS l) base:=basedE_none (.inl ⟨fun e=>(by rw[h1]at e;cases e),fun e=>(by rw[h2]at e;cases e)⟩)
  by_cases hb:basedE l R base≠0
  ·have e1:modelE l R base=basedE l R base:=by unfold modelE;rw[if_pos hb]
   have e2:rModE l base=basedE l (refS l) base:=by unfold rModE;rw[<-eb,if_pos hb]
   exact meet_of_err (by rw[e1,e2,eb]) (by rw[e1];exact hb)
  have hb0:basedE l R base=0:=by omega
  obtain⟨_,_,hbl,hbg⟩:=basedE_z hb0
  have hS:=model_same h3 h4 (check_good hc) h5 hbg (by omega)
  have e2:rModE l base=if 300<(rmodelR q l base).length then 2 else 0:=by
   unfold rModE
   rw[<-eb,if_neg hb,h2]
  have e1:modelE l R base=if (derivedD m l base).isNone then 2 else 0:=by
   unfold modelE
   rw[if_neg hb,h1]
  cases hd:derivedD m l base with
  |none=>
   rw[hd]at hS e1
   have hS:300<(rmodelR q l base).length:=hS
   rw[if_pos hS]at e2
   have e1:modelE l R base=2:=e1
   exact meet_of_err (by rw[e1,e2]) (by rw[e1];decide)
  |some F=>
   rw[hd]at hS e1
   obtain⟨k1,k2,k3,k4,k5,k6⟩:=hS
   rw[if_neg (by omega)]at e2
   have e1:modelE l R base=0:=e1
   have eF:modelF l R base=F:=by unfold modelF;rw[h1];simp[hd]
   have eL:rModL l base=rmodelR q l base:=by
    unfold rModL
    rw[e2,if_neg (by simp),h2]
   have hFo:∀s∈F,atomOk s.atom=true:=fun s hs=>(k5 _ ((k6 _).1 (List.mem_map.2 ⟨s,hs,rfl⟩))).1
   refine⟨by rw[e1,e2],fun _ B hB=>?_,fun _ a ha=>?_,fun a ha=>?_,by rw[eL];exact k2⟩
   ·rw[eF]at hB
    rw[eL]
    obtain⟨b1,b2⟩:=hB
    refine perm_unique (le:=fun x y=>¬cmpA y x<0) (b1.trans ((List.perm_ext_iff_of_nodup k3.nodup k4.nodup).2 k6)) b2 (List.Pairwise.imp (fun{x y} h=>?_) k4) fun a _ b _ h1 h2=>?_
    ·rw[cmpA_L.anti x y];omega
    ·rw[cmpA_L.anti a b]at h1
     exact cmpA_L.zero.1 (by omega)
   ·rw[eF,eL]
    have h1:hasF (atomX a) F=true↔hasA (rmodelR q l base) a=true:=by
     rw[hasF_set hFo ha,setF_mem,hasA_iff]
     exact k6 a
    cases h:hasF (atomX a) F
    ·cases h':hasA (rmodelR q l base) a
     ·rfl
     ·rw[h1.2 h']at h;cases h
    ·rw[h1.1 h]
   ·rw[eL]at ha
    exact k5 a ha
end Go.Abs.Tz
namespace Go.Abs.Tz
open Go Go.Abs Go.Proofs
set_option maxRecDepth 20000
set_option linter.unusedSimpArgs false
attribute [local simp ↓] getP_nil getP_node setP_nil setP_node oneP_eq vP_map vP_some vP_none vP_bind eP_some bP_true bP_false gP_yes gP_tf gP_ft gP_tup runP_skip runP_ops runP_drw runP_seq runP_cond runP_blk runP_loop runP_exit runP_ret seqK_n seqK_r seqK_e seqK_p blkK_n blkK_r blkK_e blkK_p loopK_n loopK_r loopK_e loopK_p finK_n finK_r finK_p resP_one resP_two resP_three resP_nil resP_c nxP_nil argsP_nil argsP_cons evP_t evP_c evP_g evsP_nil evsP_cons clP_fn pnP_i opsP_nil opsP_d opsP_x opsP_gt opsP_gf opP_cf opP_cl opP_pn opP_nx valP_mv valP_pk valP_eq valP_bn valP_nt valP_ld valP_fa valP_fd valP_ia valP_ix valP_ln valP_srn valP_srl valP_srh valP_srb valP_cv valP_mi valP_mf valP_xt valP_bs valP_bd valP_nc valP_mn valP_lk valP_ta opP_mv opP_pk opP_eq opP_bn opP_nt opP_ld opP_fa opP_fd opP_ia opP_ix opP_ln opP_sr opP_cv opP_mi opP_mf opP_xt opP_bs opP_bd opP_nc opP_mn opP_lk opP_ta opP_al opP_bx opP_st opP_ap opP_mk opP_nb opP_mu opP_rg opP_en pendP_nil pendP_d pendP_g drwP_nil drwP_d drwP_x drwP_gt drwP_gf look_self natOf_nat
attribute [local simp] faL fdL iaL ixL loadL partL lenL eqK eqL natOf eqB_s eqB_i eqB_b bn_add bn_sub bn_lss bn_leq bn_gtr bn_geq bn_adds bn_lsss bn_gtrs bn_leqs bn_geqs sliceL LV.cells LV.whole look_self put_self putO_self put_eq stL fillL termC dopP LHeap.alloc oneI oneS oneB nth0 nth1 nth2 nth3 nth4 nth5 nth6 nth7 nth8 nth9 look_ne putO_ne
structure RIn(l:List Clause)(base:List Atom):Prop where
 hl:SmallL l
 h3:(checkB l).1=0->∀c∈l,(posL c.body).length<=3
 hb:base.length<2^63
 hok:base.length<=100->∀a∈base,a.ok
theorem t_rModel2{l:List Clause}{base:List Atom}(hI:RIn l base)(ow:Own)(H:LHeap){kv kp:HP}(hk:∀n,H.next<=n->kv (.agg [.sl ((rModL l base).map atomL) .no,.int (rModE l base)]) ⟨H.objs,n⟩):
  cP E0 F0 9 [clausesL l,.sl (base.map atomL) ow] H kv kp:=
 t_rModel l hI.hl hI.h3 base ow hI.hb hI.hok (fun hc q hq c hcl=>(refS_ok hc hq).has c hcl _ (by simp[predC])) H hk
def rHoldsB(l:List Clause)(base:List Atom)(a:Atom):Bool:=if rModE l base≠0 then false else if baseOk a then hasA (rModL l base) a else false
def rHoldsE(l:List Clause)(base:List Atom)(a:Atom):Int:=if rModE l base≠0 then rModE l base else if baseOk a then 0 else 1
theorem t_rHolds{l:List Clause}{base:List Atom}(hI:RIn l base)(hM:(rModL l base).length<=300/\∀a∈rModL l base,atomG a)(ow:Own)(a:Atom)(ha:a.ok)(H:LHeap){kv kp:HP}(hk:∀n,H.next<=n->kv (.tup [.bool (rHoldsB l base a),.int (rHoldsE l base a)]) ⟨H.objs,n⟩):
  cP E0 F0 11 [clausesL l,.sl (base.map atomL) ow,atomL a] H kv kp:=by
 refine cP_of_fn c11 fun hH=>⟨Nat.le_of_ble_eq_true rfl,?_⟩
 obtain⟨N0,hN0⟩:∃N0,H.next=N0:=⟨_,rfl⟩
 obtain⟨ob,nx⟩:=H
 dsimp only at hN0 hk
 subst hN0
 obtain⟨hM1,hM2⟩:=hM
 obtain⟨e,he⟩:∃e,rModE l base=e:=⟨_,rfl⟩
 obtain⟨L,hL⟩:∃L,rModL l base=L:=⟨_,rfl⟩
 rw[hL]at hM1 hM2
 unfold rHoldsB rHoldsE at hk
 rw[he,hL]at hk
 have hold:∀(x y:LObj)(n1:Nat),nx+1<=n1->∀i,i<nx->look i ((n1,x)::(nx,y)::ob)=look i ob:=fun x y n1 h i hi=>by rw[look_ne (by omega),look_ne (by omega)]
 simp(disch:=omega)[b11]
 refine t_rModel2 hI ow _ fun n1 hn1=>?_
 dsimp only at hn1
 rw[he,hL]
 have fin:∀(x:LObj)(m:Nat)(v:LV),n1<=m->kv v ⟨ob,m⟩->∃H'',HWk ⟨(n1,x)::(nx,.cells [.str a.pred,argsL a.args])::ob,m⟩ H''/\(LHeap.Ok ⟨(n1,x)::(nx,.cells [.str a.pred,argsL a.args])::ob,m⟩->H''.Ok)/\kv v H'':=fun x m v hm hk=>⟨⟨ob,m⟩,hwk_old hH (hold _ _ n1 (by omega)) (Nat.le_refl _),fun _=>Desc.mono hH (by dsimp only;omega),hk⟩
 by_cases h0:e=0
 case neg=>
  rw[if_pos h0,if_pos h0]at hk
  simp(disch:=omega)[h0,resP_two]
  exact fin _ _ _ (by omega) (hk _ (by omega))
 subst h0
 simp only[ne_eq,not_true_eq_false,if_false]at hk
 have hl0:∀x:LObj,look nx ((n1,x)::(nx,.cells [.str a.pred,argsL a.args])::ob)=some (.cells [.str a.pred,argsL a.args]):=fun x=>by rw[look_ne (by omega)];exact look_self _ _ _
 simp(disch:=omega)[hl0]
 refine(t_rformedAtom a ha).go fun n2 hn2=>?_
 simp(disch:=omega)[hl0]
 refine(t_rground a ha).go fun n3 hn3=>?_
 cases hf:atomOk a
 ·have e:baseOk a=false:=by simp[baseOk,hf]
  rw[e]at hk
  simp(disch:=omega)[hl0,resP_two]
  exact fin _ _ _ (by omega) (hk _ (by omega))
 cases hg2:a.args.all notVar
 ·have e:baseOk a=false:=by simp[baseOk,hg2]
  rw[e]at hk
  simp(disch:=omega)[hl0,resP_two]
  exact fin _ _ _ (by omega) (hk _ (by omega))
 have e:baseOk a=true:=by simp[baseOk,hf,hg2]
 rw[e]at hk
 simp(disch:=omega)[hl0]
 refine(t_rhas L .no a (by omega) (fun x hx=>atomOk_ok (hM2 x hx).1) ha).go fun n4 hn4=>?_
 simp(disch:=omega)[resP_two]
 exact fin _ _ _ (by omega) (hk _ (by omega))
def rAskL(l:List Clause)(base:List Atom)(a:Atom):List Atom:=if rModE l base≠0 then [] else if atomOk a then askB a (rModL l base) else []
def rAskE(l:List Clause)(base:List Atom)(a:Atom):Int:=if rModE l base≠0 then rModE l base else if atomOk a then 0 else 1
theorem t_rAsk{l:List Clause}{base:List Atom}(hI:RIn l base)(hM:(rModL l base).length<=300/\∀a∈rModL l base,atomG a)(ow:Own)(a:Atom)(ha:a.ok)(ha6:a.args.length<=6)(H:LHeap){kv kp:HP}(hk:∀n,H.next<=n->kv (.agg [.sl ((rAskL l base a).map atomL) .no,.int (rAskE l base a)]) ⟨H.objs,n⟩):
  cP E0 F0 13 [clausesL l,.sl (base.map atomL) ow,atomL a] H kv kp:=by
 refine cP_of_fnW c13 fun hH=>⟨Nat.le_of_ble_eq_true rfl,?_⟩
 obtain⟨N0,hN0⟩:∃N0,H.next=N0:=⟨_,rfl⟩
 obtain⟨ob,nx⟩:=H
 dsimp only at hN0 hk
 subst hN0
 obtain⟨hM1,hM2⟩:=hM
 obtain⟨e,he⟩:∃e,rModE l base=e:=⟨_,rfl⟩
 obtain⟨L,hL⟩:∃L,rModL l base=L:=⟨_,rfl⟩
 have hLe:e≠0->L=[]:=fun h=>by
  rw[<-hL]
  unfold rModL
  rw[he,if_pos h]
 rw[hL]at hM1 hM2
 unfold rAskL rAskE at hk
 rw[he,hL]at hk
 simp(disch:=omega)[b13]
 refine t_rModel2 hI ow _ fun n1 hn1=>?_
 dsimp only at hn1
 rw[he,hL]
 obtain⟨Y,hY⟩:∃Y,(if e≠0 then [] else if atomOk a then askB a L else [])=Y:=⟨_,rfl⟩
 obtain⟨Z,hZ⟩:∃Z:Int,(if e≠0 then e else if atomOk a then 0 else 1)=Z:=⟨_,rfl⟩
 rw[hY,hZ]at hk
 have fin:∀(v:LV)(ob':List (Nat×LObj))(m:Nat),nx<=m->(∀i,i<nx->look i ob'=look i ob)->Wk v (.agg [.sl (Y.map atomL) .no,.int Z])->∃v',Wk v v'/\∃H'',HWk ⟨ob',m⟩ H''/\(LHeap.Ok ⟨ob',m⟩->H''.Ok)/\kv v' H'':=fun v ob' m hm hold hw=>⟨_,hw,⟨ob,m⟩,hwk_old hH hold (Nat.le_refl _),fun _=>Desc.mono hH hm,hk m hm⟩
 have hl5:∀x y:LObj,look nx ((n1,x)::(nx+1,y)::(nx,.cells [.str a.pred,argsL a.args])::ob)=some (.cells [.str a.pred,argsL a.args]):=fun x y=>by rw[look_ne (by omega),look_ne (by omega)];exact look_self _ _ _
 have hl6:∀x y z:LObj,look (nx+1) ((n1,x)::(nx+1,y)::(nx,z)::ob)=some y:=fun x y z=>by rw[look_ne (by omega)];exact look_self _ _ _
 by_cases h0:e=0
 case neg=>
  rw[if_pos h0]at hY hZ
  subst hY
  subst hZ
  have hL0:=hLe h0
  subst hL0
  simp(disch:=omega)[h0,hl6]
  exact fin _ _ _ (by omega) (fun i hi=>by rw[look_ne (by omega),look_ne (by omega),look_ne (by omega)]) (.inl rfl)
 subst h0
 rw[if_neg (by simp)]at hY hZ
 simp(disch:=omega)[hl5]
 refine(t_rformedAtom a ha).go fun n2 hn2=>?_
 cases hf:atomOk a
 ·rw[hf]at hY hZ
  have hY:[]=Y:=hY
  have hZ:1=Z:=hZ
  subst hY
  subst hZ
  simp(disch:=omega)[hl6]
  exact fin _ _ _ (by omega) (fun i hi=>by rw[look_ne (by omega),look_ne (by omega),look_ne (by omega)]) (.inr (.inl rfl))
 rw[hf]at hY hZ
 have hY:askB a L=Y:=hY
 have hZ:0=Z:=hZ
 subst hZ
 obtain⟨HA,hHA⟩:∃HA,(n1,LObj.cells [.sl (L.map atomL) .no,.int 0])::(nx+1,.cells [Nl,Z 0])::(nx,.cells [.str a.pred,argsL a.args])::ob=HA:=⟨_,rfl⟩
 have a5:look nx HA=some (.cells [.str a.pred,argsL a.args]):=by rw[<-hHA];exact hl5 _ _
 have a6:look (nx+1) HA=some (.cells [Nl,Z 0]):=by rw[<-hHA];exact hl6 _ _ _
 have a7:look n1 HA=some (.cells [.sl (L.map atomL) .no,.int 0]):=by rw[<-hHA];exact look_self _ _ _
 have aold:∀i,i<nx->look i HA=look i ob:=fun i hi=>by rw[<-hHA,look_ne (by omega),look_ne (by omega),look_ne (by omega)]
 simp(disch:=omega)
 rw[hHA]
 refine lP_enter (σ:=NNAs) (fun q=>(.nd .bot (.nd .bot (.nd .bot (.nd (.ptr n1 0) .nil .nil) .nil) (.nd (.ptr nx 0) (.nd (.sl (q.aa.map atomL) q.own) .nil .nil) .nil)) (.nd .bot .nil (.nd (.ptr (nx+1) 0) (.nd (.int q.i) .nil .nil) .nil)))) (fun q=>⟨q.ob,q.n⟩) (fun q=>L.length - q.i)
  (fun q=>RowT ⟨HA,n1+1⟩ 2 q.aa.length q.own q.ob q.n/\q.i<=L.length/\q.aa.length<=q.i/\q.aa++askB a (L.drop q.i)=Y) ⟨0,n2,[],.full,HA⟩ ⟨.inl ⟨rfl,rfl,by dsimp only;omega⟩,Nat.zero_le _,Nat.le_refl _,hY⟩ (by simp[FT.Le,Wk]) ⟨HWk.refl _,fun h=>h⟩ ?_
 rintro⟨i,n,aa,own,ob1⟩ ⟨hr,hi,hal,hrec⟩ hok
 dsimp only at hr hi hal hrec hok
 obtain⟨hold1,hold2⟩:=hr.old
 dsimp only at hold1 hold2
 have c5:look nx ob1=some (.cells [.str a.pred,argsL a.args]):=by rw[hold2 nx (by omega)];exact a5
 have c6:look (nx+1) ob1=some (.cells [Nl,Z 0]):=by rw[hold2 (nx+1) (by omega)];exact a6
 have c7:look n1 ob1=some (.cells [.sl (L.map atomL) .no,.int 0]):=by rw[hold2 n1 (by omega)];exact a7
 by_cases hlt:i<L.length
 case neg=>
  obtain rfl:i=L.length:=by omega
  rw[List.drop_eq_nil_of_le (Nat.le_refl _)]at hrec
  have hYaa:aa=Y:=by rw[<-hrec];simp[askB]
  subst hYaa
  simp(disch:=omega)[c7,c6]
  rw[look_putO c6]
  simp(disch:=omega)[resP_c]
  refine fin _ _ _ (by omega) (fun j hj=>by rw[look_putO_ne (by omega),hold2 j (by omega),aold j hj]) ?_
  refine .inr (.inl ?_)
  simp[LV.strip,stripL,stripL_map,List.map_map,Function.comp_def]
 rw[List.drop_eq_getElem_cons hlt]at hrec
 have hbo:=atomOk_ok (hM2 _ (List.getElem_mem hlt)).1
 obtain⟨M,hM⟩:∃M,(atomOk a&&(atomOk L[i]&&(L[i].args.all notVar&&bindA a L[i])))=M:=⟨_,rfl⟩
 have hMatch:=t_rMatch a L[i] ha hbo ha6
 rw[<-match_same,hM]at hMatch
 have hfil:askB a (L[i]::L.drop (i+1))=(if M=true then [L[i]] else [])++askB a (L.drop (i+1)):=by
  unfold askB
  rw[List.filter_cons]
  simp only[hM]
  cases M<;>simp
 rw[hfil,<-List.append_assoc]at hrec
 simp(disch:=omega)[hlt,c5,c7]
 refine hMatch.go fun m2 hm2=>?_
 have hr2:RowT ⟨HA,n1+1⟩ 2 (aa.map atomL).length own ob1 m2:=by
  rw[List.length_map]
  rcases hr with⟨h1,h2,h3⟩|⟨t,h1,h2,h3,h4⟩
  ·exact .inl ⟨h1,h2,by dsimp only at h3 ⊢;omega⟩
  ·exact .inr ⟨t,h1,h2,by omega,h4⟩
 cases hMb:M
 ·rw[hMb]at hrec
  rw[List.length_map]at hr2
  simp(disch:=omega)[wrap_nat (show i<2^62 by omega)]
  exact⟨⟨i+1,m2,aa,own,ob1⟩,by dsimp only;omega,⟨hr2,by dsimp only;omega,by dsimp only;omega,by simpa using hrec⟩,by simp[FT.Le,Wk],HWk.refl _,fun h=>h⟩
 ·rw[hMb,if_pos rfl]at hrec
  simp(disch:=omega)[hlt,c7]
  refine effP_ap ?_
  simp(disch:=omega)
  obtain⟨own2,ob2,n3,e1,hr3,hn3⟩:=row_apY (by omega) (atoms_all aa) (atoms_all [L[i]]) (by rw[List.length_map,List.length_map];simp;omega) hr2
  rw[List.length_map,List.length_map]at hr3
  rw[show [atomL L[i]]=[L[i]].map atomL from rfl,e1]
  simp(disch:=omega)[wrap_nat (show i<2^62 by omega)]
  exact⟨⟨i+1,n3,aa++[L[i]],own2,ob2⟩,by dsimp only;omega,⟨by rw[List.length_append];exact hr3,by dsimp only;omega,by dsimp only;simp;omega,hrec⟩,by simp[FT.Le,Wk],HWk.refl _,fun h=>h⟩
theorem wrap_nat63{n:Nat}(h:n+1<2^63):IntKind.wrap .i64 ((n:Int)+1)=((n+1:Nat):Int):=by
 rw[wrap_id (by omega) (by omega)];omega
def litShort(x:Lit):Bool:=x.atom.small&&(decide (x.a.s.size<=40)&&decide (x.b.s.size<=40))
def cntB:List Lit->Nat
 |[]=>0
 |x::r=>(if x.kind=1 then 1 else 0)+cntB r
def clShort(c:Clause):Bool:=c.body.all litShort&&(c.head.small&&(decide (cntB c.body<=3)&&decide (c.body.length<=8)))
def shortB(mo:Nat)(l:List Clause):Bool:=if 40<l.length then true else if l.all clShort then decide (l.length<=mo) else false
theorem cntB_le:∀l:List Lit,cntB l<=l.length
 |[]=>Nat.le_refl _
 |x::r=>by
  have:=cntB_le r
  simp only[cntB,List.length_cons]
  split<;>omega
structure NNCq where
 i:Nat
 n:Nat
 c:Nat
theorem t_shortClauses(mo:Nat)(hmo:mo<=100)(l:List Clause)(hb:∀c∈l,c.body.length<2^63):PureT 4 [clausesL l,.int mo] (.bool (shortB mo l)):=by
 refine PureT.of c4 fun H hH=>⟨Nat.le_of_ble_eq_true rfl,?_⟩
 by_cases h1:(40:Int)<(l.length:Int)
 ·simp(disch:=omega)[b4,h1]
  exact doneK hH (by simp[shortB,show 40<l.length by omega])
 have hl40:l.length<=40:=by omega
 simp(disch:=omega)[b4,h1]
 obtain⟨A,hA⟩:∃A,l.all clShort=A:=⟨_,rfl⟩
 have hB:shortB mo l=if A then decide (l.length<=mo) else false:=by unfold shortB;rw[if_neg (by omega),hA]
 obtain⟨Vv,hVv⟩:∃Vv,(if A then decide (l.length<=mo) else false)=Vv:=⟨_,rfl⟩
 rw[hB,hVv]
 refine lP_enter (σ:=NN) (fun q=>(.nd (clausesL l) (.nd (.int mo) .nil (.nd (.int q.i) .nil .nil)) (.nd .bot (.nd (.bool false) .nil .nil) .nil))) (fun q=>⟨H.objs,q.n⟩) (fun q=>l.length - q.i)
  (fun q=>H.next<=q.n/\q.i<=l.length/\(l.drop q.i).all clShort=A) ⟨0,H.next⟩ ⟨Nat.le_refl _,Nat.zero_le _,hA⟩ (by simp[FT.Le,Wk]) ⟨HWk.refl _,fun h=>h⟩ ?_
 rintro⟨i,n⟩ ⟨hn,hi,he⟩ hok
 simp only at hn hi he
 by_cases hlt:i<l.length
 case neg=>
  obtain rfl:i=l.length:=by omega
  rw[List.drop_eq_nil_of_le (Nat.le_refl _),List.all_nil]at he
  simp(disch:=omega)
  refine pureK_i hH ?_ (by first|exact HExt.refl' _|(repeat (first|exact HExt.refl (by first|omega|(dsimp only;omega))|refine HExt.cons' hH (by first|omega|(dsimp only;omega)) (by first|omega|(dsimp only;omega)) ?_)))
  rw[<-hVv,<-he]
  simp
 rw[all_drop clShort hlt]at he
 have hbl:=hb _ (mem_at hlt)
 obtain⟨D,hD⟩:∃D,l[i].body.all litShort=D:=⟨_,rfl⟩
 obtain⟨M,hM⟩:∃M,cntB l[i].body=M:=⟨_,rfl⟩
 have hC:clShort l[i]=(D&&(l[i].head.small&&(decide (M<=3)&&decide (l[i].body.length<=8)))):=by unfold clShort;rw[hD,hM]
 rw[hC]at he
 have hML:M<=l[i].body.length:=by rw[<-hM];exact cntB_le _
 simp(disch:=omega)[hlt]
 refine lP_enter (σ:=NNCq) (fun q=>(.nd (clausesL l) (.nd (.int mo) (.nd .bot (.nd (.int q.i) .nil .nil) .nil) (.nd (.int i) .nil .nil)) (.nd .bot (.nd (.bool false) .nil .nil) (.nd (.int q.c) .nil .nil)))) (fun q=>⟨H.objs,q.n⟩) (fun q=>l[i].body.length - q.i)
  (fun q=>H.next<=q.n/\q.i<=l[i].body.length/\q.c+cntB (l[i].body.drop q.i)=M/\(l[i].body.drop q.i).all litShort=D) ⟨0,n,0⟩ ⟨hn,Nat.zero_le _,by simpa using hM,hD⟩ (by simp[FT.Le,Wk]) ⟨HWk.refl _,fun h=>h⟩ ?_
 rintro⟨j,n2,cn⟩ ⟨hn2,hj,hcn,he2⟩ hok2
 dsimp only at hn2 hj hcn he2
 by_cases hlt2:j<l[i].body.length
 case neg=>
  rw[List.drop_eq_nil_of_le (by omega)]at hcn he2
  simp only[cntB,List.all_nil,Nat.add_zero]at hcn he2
  subst hcn
  subst he2
  rw[Bool.true_and]at he
  simp(disch:=omega)[hlt,hlt2]
  refine(t_short l[i].head).go fun n3 hn3=>?_
  cases hs:l[i].head.small
  ·rw[hs,Bool.false_and,Bool.false_and]at he
   simp(disch:=omega)
   exact doneK hH (by simp[<-hVv,<-he])
  rw[hs,Bool.true_and]at he
  by_cases h3:cn<=3
  case neg=>
   have h3':(3:Int)<(cn:Int):=by omega
   have h3n:3<cn:=by omega
   simp only[h3,decide_false,Bool.false_and]at he
   simp(disch:=omega)[h3',h3n]
   exact doneK hH (by simp[<-hVv,<-he])
  have h3':¬(3:Int)<(cn:Int):=by omega
  have h3n:¬3<cn:=by omega
  by_cases h8:l[i].body.length<=8
  case neg=>
   have h8':(8:Int)<(l[i].body.length:Int):=by omega
   have h8n:8<l[i].body.length:=by omega
   simp only[h3,h8,decide_false,Bool.and_false,Bool.false_and]at he
   simp(disch:=omega)[h3',h3n,h8',h8n,hlt]
   exact doneK hH (by simp[<-hVv,<-he])
  have h8':¬(8:Int)<(l[i].body.length:Int):=by omega
  have h8n:¬8<l[i].body.length:=by omega
  simp only[h3,h8,decide_true,Bool.and_true,Bool.true_and]at he
  simp(disch:=omega)[h3',h3n,h8',h8n,hlt,wrap_nat (show i<2^62 by omega)]
  exact⟨⟨i+1,n3⟩,by dsimp only;omega,⟨by dsimp only;omega,by dsimp only;omega,he⟩,by simp[FT.Le,Wk],HWk.refl _,fun h=>h⟩
 rw[all_drop litShort hlt2]at he2
 rw[List.drop_eq_getElem_cons hlt2]at hcn
 simp only[cntB]at hcn
 have hdone:litShort l[i].body[j]=false->Vv=false:=by
  intro h
  rw[<-hVv]
  rw[h,Bool.false_and]at he2
  rw[<-he2,Bool.false_and,Bool.false_and]at he
  rw[<-he];rfl
 have hnext:litShort l[i].body[j]=true->(l[i].body.drop (j+1)).all litShort=D:=by
  intro h
  rw[h,Bool.true_and]at he2
  exact he2
 have hcnj:∃cn2:Nat,(if l[i].body[j].kind=1 then IntKind.wrap .i64 ((cn:Int)+1) else (cn:Int))=(cn2:Int)/\cn2+cntB (l[i].body.drop (j+1))=M:=by
  by_cases hk:l[i].body[j].kind=1
  ·rw[if_pos hk]at hcn ⊢
   exact⟨cn+1,wrap_nat63 (by omega),by omega⟩
  ·rw[if_neg hk]at hcn ⊢
   exact⟨cn,rfl,by omega⟩
 obtain⟨cn2,hc1,hc2⟩:=hcnj
 have hback:∀(x:LObj)(n':Nat),H.next<=n'->H.next<=n2->HWk ⟨(n2,x)::H.objs,n'⟩ ⟨H.objs,n'⟩/\(LHeap.Ok ⟨(n2,x)::H.objs,n'⟩->LHeap.Ok ⟨H.objs,n'⟩):=fun x n' h1 h2=>back hH (HExt.cons' hH h2 h1 (HExt.refl (Nat.le_refl _)))
 by_cases hk:l[i].body[j].kind=1
 all_goals
  first|rw[if_pos hk]at hc1|rw[if_neg hk]at hc1
  simp(disch:=omega)[hlt,hlt2,hk]
  refine(t_short l[i].body[j].atom).go fun n3 hn3=>?_
  cases hs:l[i].body[j].atom.small
  ·have:=hdone (by unfold litShort;rw[hs];rfl)
   simp(disch:=omega)
   exact doneK hH (by simp[this])
  by_cases ha:(40:Int)<(l[i].body[j].a.s.size:Int)
  ·have:=hdone (by
    unfold litShort
    rw[hs,show decide (l[i].body[j].a.s.size<=40)=false from decide_eq_false (by omega)];rfl)
   simp(disch:=omega)[ha]
   exact doneK hH (by simp[this])
  by_cases hb2:(40:Int)<(l[i].body[j].b.s.size:Int)
  ·have:=hdone (by
    unfold litShort
    rw[hs,show decide (l[i].body[j].b.s.size<=40)=false from decide_eq_false (by omega),Bool.and_false];rfl)
   simp(disch:=omega)[ha,hb2]
   exact doneK hH (by simp[this])
  have:=hnext (by
   unfold litShort
   rw[hs,show decide (l[i].body[j].a.s.size<=40)=true from decide_eq_true (by omega),show decide (l[i].body[j].b.s.size<=40)=true from decide_eq_true (by omega)];rfl)
  simp(disch:=omega)[ha,hb2,hc1,wrap_nat63 (show j+1<2^63 by omega)]
  exact⟨⟨j+1,n3,cn2⟩,by dsimp only;omega,⟨by dsimp only;omega,by dsimp only;omega,hc2,this⟩,by simp[FT.Le,Wk,hc1],hback _ _ (by first|omega|(dsimp only at hn3 ⊢;omega)) (by omega)⟩
theorem short_ok3{c:Clause}(h:clShort c=true):Clause.ok3 c:=by
 unfold clShort at h
 simp only[Bool.and_eq_true,decide_eq_true_iff,List.all_eq_true]at h
 obtain⟨h1,h2,h3,h4⟩:=h
 have hb:∀x∈c.body,x.atom.ok/\x.a.s.size<=40/\x.b.s.size<=40:=fun x hx=>by
  have:=h1 x hx
  unfold litShort at this
  simp only[Bool.and_eq_true,decide_eq_true_iff]at this
  exact⟨Atom.small_ok this.1,this.2.1,this.2.2⟩
 exact⟨⟨Atom.small_ok h2,by omega,fun x hx=>⟨(hb x hx).1,by have:=(hb x hx).2.1;unfold Term.ok;omega,by have:=(hb x hx).2.2;unfold Term.ok;omega⟩⟩,⟨Atom.small_ok h2,by omega,fun x hx=>(hb x hx).1⟩⟩
def shortAs(l:List Atom):Bool:=if 100<l.length then true else if l.all Atom.small then decide (l.length<=12) else false
theorem t_shortAtoms(l:List Atom)(hl:l.length<2^63):PureT 5 [.sl (l.map atomL) .no] (.bool (shortAs l)):=by
 refine PureT.of c5 fun H hH=>⟨Nat.le_of_ble_eq_true rfl,?_⟩
 by_cases h1:(100:Int)<(l.length:Int)
 ·simp(disch:=omega)[b5,h1]
  exact doneK hH (by simp[shortAs,show 100<l.length by omega])
 have hl100:l.length<=100:=by omega
 simp(disch:=omega)[b5,h1]
 obtain⟨A,hA⟩:∃A,l.all Atom.small=A:=⟨_,rfl⟩
 have hB:shortAs l=if A then decide (l.length<=12) else false:=by unfold shortAs;rw[if_neg (by omega),hA]
 obtain⟨Vv,hVv⟩:∃Vv,(if A then decide (l.length<=12) else false)=Vv:=⟨_,rfl⟩
 rw[hB,hVv]
 refine lP_enter (σ:=NN) (fun q=>(.nd (.sl (l.map atomL) .no) (.nd .bot (.nd (.int q.i) .nil .nil) .nil) (.nd (.bool false) .nil .nil))) (fun q=>⟨H.objs,q.n⟩) (fun q=>l.length - q.i)
  (fun q=>H.next<=q.n/\q.i<=l.length/\(l.drop q.i).all Atom.small=A) ⟨0,H.next⟩ ⟨Nat.le_refl _,Nat.zero_le _,hA⟩ (by simp[FT.Le,Wk]) ⟨HWk.refl _,fun h=>h⟩ ?_
 rintro⟨i,n⟩ ⟨hn,hi,he⟩ hok
 simp only at hn hi he
 by_cases hlt:i<l.length
 case neg=>
  obtain rfl:i=l.length:=by omega
  rw[List.drop_eq_nil_of_le (Nat.le_refl _),List.all_nil]at he
  simp(disch:=omega)
  refine pureK_i hH ?_ (by first|exact HExt.refl' _|(repeat (first|exact HExt.refl (by first|omega|(dsimp only;omega))|refine HExt.cons' hH (by first|omega|(dsimp only;omega)) (by first|omega|(dsimp only;omega)) ?_)))
  rw[<-hVv,<-he]
  simp
  try omega
 rw[all_drop Atom.small hlt]at he
 simp(disch:=omega)[hlt]
 refine(t_short l[i]).go fun n3 hn3=>?_
 cases hs:l[i].small
 ·rw[hs,Bool.false_and]at he
  simp(disch:=omega)
  exact doneK hH (by simp[<-hVv,<-he])
 rw[hs,Bool.true_and]at he
 simp(disch:=omega)[wrap_nat (show i<2^62 by omega)]
 exact⟨⟨i+1,n3⟩,by dsimp only;omega,⟨by dsimp only;omega,by dsimp only;omega,he⟩,by simp[FT.Le,Wk],HWk.refl _,fun h=>h⟩
theorem t_sameAtoms(l:List Atom)(o1 o2:Own)(hl:l.length<2^60)(ho:∀a∈l,a.ok):PureT 14 [.sl (l.map atomL) o1,.sl (l.map atomL) o2] (.bool true):=by
 refine PureT.of c14 fun H hH=>⟨Nat.le_of_ble_eq_true rfl,?_⟩
 simp(disch:=omega)[b14]
 refine lP_enter (σ:=NN) (fun q=>(.nd (.sl (l.map atomL) o1) (.nd (.sl (l.map atomL) o2) .nil (.nd (.int q.i) .nil .nil)) .nil)) (fun q=>⟨H.objs,q.n⟩) (fun q=>l.length - q.i)
  (fun q=>H.next<=q.n/\q.i<=l.length) ⟨0,H.next⟩ ⟨Nat.le_refl _,Nat.zero_le _⟩ (by simp[FT.Le,Wk]) ⟨HWk.refl _,fun h=>h⟩ ?_
 rintro⟨i,n⟩ ⟨hn,hi⟩ hok
 simp only at hn hi
 by_cases hlt:i<l.length
 case neg=>
  obtain rfl:i=l.length:=by omega
  simp(disch:=omega)
  exact doneK hH (by simp[])
 have hao:=ho _ (List.getElem_mem hlt)
 simp(disch:=omega)[hlt]
 refine(t_rSame l[i] l[i] hao hao).go fun n3 hn3=>?_
 simp(disch:=omega)[cmpA_L.refl l[i],wrap_nat (show i<2^62 by omega)]
 exact⟨⟨i+1,n3⟩,by dsimp only;omega,⟨by dsimp only;omega,by dsimp only;omega⟩,by simp[FT.Le,Wk],HWk.refl _,fun h=>h⟩
theorem cntB_posL:∀b:List Lit,(posL b).length=cntB b
 |[]=>rfl
 |x::r=>by
  have ih:=cntB_posL r
  rw[posL_cons]
  unfold cntB
  by_cases h:x.kind=1
  ·rw[if_pos h,if_pos h,List.length_cons,ih];omega
  ·rw[if_neg h,if_neg h,ih];omega
section
variable{l:List Clause}{fuel:Nat}{R:Option (List (PK×Int))}{base:List Atom}
theorem t_Model6(hI:ModIn l fuel R base)(hM:Meet l R base)(ownB:Own)(ob:List (Nat×LObj))(n:Nat)(hni:NoIt ob){kv kp:HP}
  (hk:∀(ow:Own) n',n<=n'->kv (.tup [.sl ((rModL l base).map atomL) ow,.int (rModE l base)]) ⟨ob,n'⟩):
  cP E0 F0 8 [clausesL l,.sl (base.map atomL) ownB] ⟨ob,n⟩ kv kp:=by
 refine t_Model hI ownB ob n hni (fun h0 n' hn'=>?_) (fun h0 B ow n' hB hn'=>?_)
 ·have e:rModL l base=[]:=by unfold rModL;rw[<-hM.err,if_pos h0]
  rw[hM.err]
  have:=hk .full n' hn'
  rw[e]at this
  exact this
 ·have:=hk ow n' hn'
  rw[<-hM.row h0 B hB,<-hM.err,h0]at this
  exact this
theorem t_Holds6(hI:ModIn l fuel R base)(hM:Meet l R base)(ownB:Own)(a:Atom)(ha:a.ok)(ob:List (Nat×LObj))(n:Nat)(hni:NoIt ob){kv kp:HP}
  (hk:∀n',n<=n'->kv (.tup [.bool (rHoldsB l base a),.int (rHoldsE l base a)]) ⟨ob,n'⟩):
  cP E0 F0 10 [clausesL l,.sl (base.map atomL) ownB,atomL a] ⟨ob,n⟩ kv kp:=by
 unfold rHoldsB rHoldsE at hk
 rw[<-hM.err]at hk
 refine t_Holds hI ownB a ha ob n hni (fun h0 n' hn'=>?_) (fun h0 hb n' hn'=>?_) (fun h0 hb n' hn'=>?_)
 ·rw[if_pos h0,if_pos h0]at hk
  exact hk n' hn'
 ·rw[h0,hb]at hk
  exact hk n' hn'
 ·have hao:atomOk a=true:=by
   unfold baseOk at hb
   simp only[Bool.and_eq_true]at hb
   exact hb.1
  rw[h0,hb,<-hM.has h0 a hao]at hk
  exact hk n' hn'
theorem t_Ask6(hI:ModIn l fuel R base)(hM:Meet l R base)(ownB:Own)(a:Atom)(ha:a.ok)(ob:List (Nat×LObj))(n:Nat)(hni:NoIt ob){kv kp:HP}
  (hk:∀(ow:Own) n',n<=n'->kv (.tup [.sl ((rAskL l base a).map atomL) ow,.int (rAskE l base a)]) ⟨ob,n'⟩):
  cP E0 F0 12 [clausesL l,.sl (base.map atomL) ownB,atomL a] ⟨ob,n⟩ kv kp:=by
 unfold rAskL rAskE at hk
 rw[<-hM.err]at hk
 refine t_Ask hI ownB a ha ob n hni (fun h0 n' hn'=>?_) (fun h0 hb n' hn'=>?_) (fun h0 hb B ow n' hB hn'=>?_)
 ·rw[if_pos h0,if_pos h0]at hk
  exact hk .full n' hn'
 ·rw[h0,hb]at hk
  exact hk .full n' hn'
 ·rw[h0,hb,<-hM.row h0 B hB]at hk
  exact hk ow n' hn'
end
theorem t_law6(hs:PureT 7 [] (.bool true))(l:List Clause)(base:List Atom)(a:Atom)(hb:∀c∈l,c.body.length<2^63)(hbl:base.length<2^63)(ob:List (Nat×LObj))(n:Nat)(hni:NoIt ob){kv kp:HP}
  (hk:∀n',n<=n'->kv (.bool true) ⟨ob,n'⟩):cP E0 F0 3 [clausesL l,.sl (base.map atomL) .no,atomL a] ⟨ob,n⟩ kv kp:=by
 refine cP_of_fn c3 fun hH=>⟨Nat.le_of_ble_eq_true rfl,?_⟩
 simp(disch:=omega)[b3]
 refine(t_shortClauses 6 (by omega) l hb).go fun n1 hn1=>?_
 have fin1:∀(m:Nat),n<=m->∃H'',HWk ⟨(n,.cells [.str a.pred,argsL a.args])::ob,m⟩ H''/\(LHeap.Ok ⟨(n,.cells [.str a.pred,argsL a.args])::ob,m⟩->H''.Ok)/\kv (.bool true) H'':=fun m hm=>⟨⟨ob,m⟩,hwk_old hH (fun i hi=>look_ne (by omega) _ _) (Nat.le_refl _),fun _=>Desc.mono hH hm,hk m hm⟩
 cases h1:shortB 6 l
 ·simp(disch:=omega)
  refine hs.go fun n2 hn2=>?_
  simp(disch:=omega)
  exact fin1 _ (by omega)
 simp(disch:=omega)
 refine(t_shortAtoms base (by omega)).go fun n2 hn2=>?_
 cases h2:shortAs base
 ·simp(disch:=omega)
  refine hs.go fun n3 hn3=>?_
  simp(disch:=omega)
  exact fin1 _ (by omega)
 simp(disch:=omega)
 refine(t_short a).go fun n3 hn3=>?_
 cases h3:a.small
 ·simp(disch:=omega)
  refine hs.go fun n4 hn4=>?_
  simp(disch:=omega)
  exact fin1 _ (by omega)
 have ha:=Atom.small_ok h3
 have ha6:a.args.length<=6:=by
  unfold Atom.small at h3
  simp only[Bool.and_eq_true,decide_eq_true_iff]at h3
  exact h3.2.1
 have hcl:l.length<=40->∀c∈l,clShort c=true:=by
  intro hl c hc
  unfold shortB at h1
  rw[if_neg (by omega)]at h1
  split at h1
  ·rename_i hall
   exact List.all_eq_true.1 hall c hc
  ·cases h1
 have hsm:SmallL l:=⟨fun hl c hc=>short_ok3 (hcl hl c hc)⟩
 have hbo:base.length<=100->∀x∈base,x.ok:=by
  intro hl x hx
  unfold shortAs at h2
  rw[if_neg (by omega)]at h2
  split at h2
  ·rename_i hall
   exact Atom.small_ok (List.all_eq_true.1 hall x hx)
  ·cases h2
 obtain⟨fuel,R,hR,hRb,hM⟩:=meet_of l base
 have hI:ModIn l fuel R base:=⟨hsm,hR,hRb,hbl,hbo⟩
 have hRI:RIn l base:=⟨hsm,fun hc c hcm=>by
  have hll:=(check_ok hc).1
  have:=hcl hll c hcm
  unfold clShort at this
  simp only[Bool.and_eq_true,decide_eq_true_iff]at this
  rw[cntB_posL]
  exact this.2.2.1,hbl,hbo⟩
 have hLM:(rModL l base).length<=300/\∀x∈rModL l base,atomG x:=⟨hM.len,hM.good⟩
 have hAL:(rAskL l base a).length<=300/\∀x∈rAskL l base a,atomG x:=by
  unfold rAskL
  split
  ·exact⟨by simp,fun x hx=>by cases hx⟩
  ·split
   ·exact⟨Nat.le_trans (List.length_filter_le _ _) hM.len,fun x hx=>hM.good x (List.mem_filter.1 hx).1⟩
   ·exact⟨by simp,fun x hx=>by cases hx⟩
 simp(disch:=omega)
 refine t_Model6 hI hM _ _ _ (hni.cons _ rfl) fun o1 m1 hm1=>?_
 simp(disch:=omega)
 refine t_rModel2 hRI _ _ fun m2 hm2=>?_
 dsimp only at hm2
 have k1:∀x:LObj,look n ((m2,x)::(n,.cells [.str a.pred,argsL a.args])::ob)=some (.cells [.str a.pred,argsL a.args]):=fun x=>by rw[look_ne (by omega)];exact look_self _ _ _
 simp(disch:=omega)[k1]
 refine t_Holds6 hI hM _ a ha _ _ ((hni.cons _ rfl).cons _ rfl) fun m3 hm3=>?_
 simp(disch:=omega)[k1]
 refine t_rHolds hRI hLM _ a ha _ fun m4 hm4=>?_
 dsimp only at hm4
 simp(disch:=omega)[k1]
 refine t_Ask6 hI hM _ a ha _ _ ((hni.cons _ rfl).cons _ rfl) fun o2 m5 hm5=>?_
 simp(disch:=omega)[k1]
 refine t_rAsk hRI hLM _ a ha ha6 _ fun m6 hm6=>?_
 dsimp only at hm6
 simp(disch:=omega)
 refine hs.go fun m7 hm7=>?_
 simp(disch:=omega)
 refine(t_sameAtoms (rModL l base) _ _ (by omega) fun x hx=>atomOk_ok (hLM.2 x hx).1).go fun m8 hm8=>?_
 simp(disch:=omega)
 refine(t_sameAtoms (rAskL l base a) _ _ (by omega) fun x hx=>atomOk_ok (hAL.2 x hx).1).go fun m9 hm9=>?_
 simp(disch:=omega)
 exact⟨⟨ob,m9⟩,hwk_old hH (fun i hi=>by rw[look_ne (by omega),look_ne (by omega),look_ne (by omega)]) (Nat.le_refl _),fun _=>Desc.mono hH (by dsimp only;omega),hk m9 (by omega)⟩
end Go.Abs.Tz
namespace Go.Abs.Tz
set_option maxRecDepth 20000
open Go Go.Abs Go.Proofs Go.ChangeShapes Go.WideShapes Go.RowKit Go.Proofs.YtdcmabmjiiklhaaGreatDoor
noncomputable def gOf(W:World):Ghost:=⟨fun b=>if b<W.heap.size then some true else none,0,fun _=>0,fun _=>(0,0),fun _=>none,fun _ _=>.free,E0.rc⟩
theorem gOf_cl{W:World}{b x:Nat}{v:Value}(h:W.cell? (at_ b x)=some v):(gOf W).Cl b x:=by
 left
 have:b<W.heap.size:=by
  rcases Nat.lt_or_ge b W.heap.size with h'|h'
  ·exact h'
  ·unfold World.cell? at h
   rw[show (at_ b x).block=b from rfl,Array.getElem?_eq_none h']at h
   cases h
 simp[gOf,this]
theorem gOf_inv(W:World)(m:Nat):Inv (gOf W) W ⟨[],m⟩:=by
 refine⟨Nat.zero_le _,fun b hb=>?_,fun _ _ _=>rfl,fun _ _ _=>rfl,fun o x hx=>by simp[look]at hx⟩
 simp only[gOf]at hb
 split at hb
 ·assumption
 ·cases hb
abbrev powName:String:=(Rows.customModelsAsSpecifiedRow.laid.map Prod.fst)[2]!
theorem pow_lies{W:World}(h:laidMetH Tryz.prog Rows.customModelsAsSpecifiedRow.laid W):∃t fz,W.heap[(3:Nat)]? = some (.cells (Lib.pow10Tab.map fun z=>Value.int .u64 z).toArray t fz):=by
 have h1:=laidMetH.filter (fun x=>x.1==powName) h
 have e:Rows.customModelsAsSpecifiedRow.laid.filter (fun x=>x.1==powName)=[(powName,Lib.tabData .u64 Lib.pow10Tab)]:=rfl
 rw[e]at h1
 change laidMet Tryz.prog [(powName,Lib.tabData .u64 Lib.pow10Tab)] W at h1
 have h2:=Lib.tabIs_of_head (g:=3) (t:=242) (e:=202) (n:=20) (by kernel_rfl) (by kernel_rfl) (by kernel_rfl) (by kernel_rfl) (by kernel_rfl) (by kernel_rfl) h1
 unfold Lib.TabIs World.var? at h2
 rw[show Tryz.prog.globalNamed powName=some 3 by kernel_rfl]at h2
 simp only[Option.bind_some]at h2
 split at h2
 ·rename_i cs t fz hh
  cases h2
  exact⟨t,fz,hh⟩
 ·cases h2
theorem gOf_env(W:World)(h:laidMetH Tryz.prog Rows.customModelsAsSpecifiedRow.laid W):EnvR E0 (gOf W) W:=by
 refine⟨fun g=>.bot _,rfl,fun p hp=>?_⟩
 obtain⟨t,fz,hh⟩:=pow_lies h
 have hp':p=(3,(Lib.pow10Tab.map fun z=>Value.int .u64 z).toArray):=by simpa [E0,powT] using hp
 subst hp'
 have hlt:3<W.heap.size:=(Array.getElem?_eq_some_iff.1 hh).1
 exact⟨by simp[gOf,hlt],t,fz,hh⟩
theorem add_add{a:Addr}(h:a.spot=none)(x y:Nat):(a.add x).add y=at_ a.block (a.off+x+y):=by
 obtain⟨b,o,s⟩:=a
 simp only at h
 subst h
 unfold Addr.add
 by_cases hx:x=0<;>by_cases hy:y=0<;>simp[hx,hy,Nat.add_assoc]
theorem z9:Tryz.prog.cellsOf 9=1:=by kernel_rfl
theorem z3:Tryz.prog.cellsOf 3=1:=by kernel_rfl
theorem z24:Tryz.prog.cellsOf 24=1:=by kernel_rfl
theorem z43:Tryz.prog.cellsOf 43=1:=by kernel_rfl
theorem z26:Tryz.prog.cellsOf 26=2:=by kernel_rfl
theorem z47:Tryz.prog.cellsOf 47=3:=by kernel_rfl
theorem z49:Tryz.prog.cellsOf 49=9:=by kernel_rfl
theorem z45:Tryz.prog.cellsOf 45=3:=by kernel_rfl
def RowR(W:World)(cl:List LV)(cs:List Value):Prop:=cs.length=cl.length/\∀(j:Nat)(c:LV),cl[j]? = some c->∃v,cs[j]? = some v/\VR (gOf W) W c v/\v.oneCell'=true
theorem RowR.nil(W:World):RowR W [] []:=⟨rfl,fun j c h=>by simp at h⟩
theorem RowR.cons{W:World}{c:LV}{v:Value}{cl:List LV}{cs:List Value}(h:VR (gOf W) W c v)(h1:v.oneCell'=true)(hr:RowR W cl cs):RowR W (c::cl) (v::cs):=
 ⟨by simp[hr.1],fun j x hx=>by
  cases j with
  |zero=>simp at hx;subst hx;exact⟨v,rfl,h,h1⟩
  |succ j=>simp at hx;simpa using hr.2 j x hx⟩
theorem RowR.append{W:World}{cl dl:List LV}{cs ds:List Value}(h:RowR W cl cs)(k:RowR W dl ds):RowR W (cl++dl) (cs++ds):=by
 refine⟨by simp[h.1,k.1],fun j c hc=>?_⟩
 rcases Nat.lt_or_ge j cl.length with hj|hj
 ·rw[List.getElem?_append_left hj]at hc
  rw[List.getElem?_append_left (by rw[h.1];exact hj)]
  exact h.2 j c hc
 ·rw[List.getElem?_append_right hj]at hc
  rw[List.getElem?_append_right (by rw[h.1];exact hj),h.1]
  exact k.2 _ c hc
theorem RowR.agg{W:World}{cl:List LV}{cs:List Value}(h:RowR W cl cs):VR (gOf W) W (.agg cl) (.agg cs.toArray):=by
 refine .agg (by simp[h.1]) (fun i c hc=>?_) (fun i hi=>?_)
 ·obtain⟨v,h1,h2,_⟩:=h.2 i c hc
  have:cs.toArray.getD i undef=v:=by simp[Array.getD_eq_getD_getElem?,h1]
  rw[this];exact h2
 ·obtain⟨v,h1,_,h3⟩:=h.2 i _ (List.getElem?_eq_getElem hi)
  have:cs.toArray.getD i undef=v:=by simp[Array.getD_eq_getD_getElem?,h1]
  rw[this];exact h3
section
variable{H:Type}{enc:TypeId×Value->H}{W:World}{hd:Bool}
theorem fld{m:Nat}{cs:List Value}{f:Field}{t:TypeId}{off c:Nat}{r:Option (DataW H×List MemPlace)}(h:DataW.trod enc Tryz.prog W 0 (fun _=>true) hd m f.type ((cs.drop f.offset).take (Tryz.prog.cellsOf f.type))=r)
  (h1:f.type=t) (h2:f.offset=off) (h3:Tryz.prog.cellsOf t=c):DataW.trod enc Tryz.prog W 0 (fun _=>true) hd m t ((cs.drop off).take c)=r:=by
 subst h1;subst h2;subst h3;exact h
theorem open_row{α:Type}(ec:α->List LV){S E:TypeId}{k:Nat}(hu:Tryz.prog.underlying S=some (.slice E))(hk:Tryz.prog.cellsOf E=k)(hk0:0<k)
  (hec:∀a,(ec a).length=k) (a0:α)
  (hop:∀(n:Nat)(cs:List Value)(x:DataW H×List MemPlace),DataW.trod enc Tryz.prog W 0 (fun _=>true) hd n E cs=some x->∃a:α,RowR W (ec a) cs)
  {n:Nat} {u:Value} {x:DataW H×List MemPlace} (h:DataW.trod enc Tryz.prog W 0 (fun _=>true) hd n S [u]=some x):
  ∃l:List α,l.length<2^63/\VR (gOf W) W (.sl (l.map fun a=>.agg (ec a)) .no) u/\u.oneCell'=true:=by
 rcases Deep.open_slice hu h with⟨e1,_⟩|⟨a,len,cap,m,n',D,Pl,e1,_,hlc,hmax,hm,_,hel⟩
 ·simp only[List.cons.injEq,and_true]at e1
  subst e1
  exact⟨[],by simp,.sln trivial,rfl⟩
 ·simp only[List.cons.injEq,and_true]at e1
  subst e1
  simp only[if_true]at hm
  have hm:=hm.symm
  subst hm
  have hmax2:cap<2^63:=by unfold maxLen at hmax;omega
  by_cases hc0:cap=0
  ·subst hc0
   obtain rfl:len=0:=by omega
   exact⟨[],by simp,.sle a,rfl⟩
  have hspot:a.spot=none:=by
   obtain⟨cs',q1,_⟩:=hel 0 (by omega)
   rw[hk]at q1
   obtain⟨_,q2,q3⟩:=World.cells?_some q1
   have:=q3 0 hk0
   rw[List.getElem?_eq_getElem (by omega)]at this
   have:=World.cell?_spot this
   simpa [Addr.add] using this
  have ht:∀i,∃t:α,i<len->∃cs,RowR W (ec t) cs/\∀j,j<k->W.cell? (at_ a.block (a.off+i*k+j))=cs[j]?:=by
   intro i
   by_cases hi:i<len
   ·obtain⟨cs',q1,q2⟩:=hel i (by omega)
    rw[hk]at q1
    obtain⟨_,_,q3⟩:=World.cells?_some q1
    obtain⟨t,ht⟩:=hop _ _ _ q2
    refine⟨t,fun _=>⟨cs',ht,fun j hj=>?_⟩⟩
    rw[<-q3 j hj,add_add hspot]
   ·exact⟨a0,fun h=>absurd h hi⟩
  let T:Nat->α:=fun i=>Classical.choose (ht i)
  have hT:∀i,i<len->∃cs,RowR W (ec (T i)) cs/\∀j,j<k->W.cell? (at_ a.block (a.off+i*k+j))=cs[j]?:=fun i=>Classical.choose_spec (ht i)
  have hX:∀i j,∃v:Value,i<len->∀c,(ec (T i))[j]? = some c->W.cell? (at_ a.block (a.off+i*k+j))=some v/\VR (gOf W) W c v/\v.oneCell'=true:=by
   intro i j
   by_cases hi:i<len
   ·obtain⟨cs,h1,h2⟩:=hT i hi
    by_cases hj:j<k
    ·obtain⟨v,h3,h4,h5⟩:=h1.2 j _ (List.getElem?_eq_getElem (by rw[hec];exact hj))
     refine⟨v,fun _ c hc=>?_⟩
     rw[List.getElem?_eq_getElem (by rw[hec];exact hj)]at hc
     cases hc
     exact⟨by rw[h2 j hj,h3],h4,h5⟩
    ·exact⟨undef,fun _ c hc=>by rw[List.getElem?_eq_none (by rw[hec];omega)]at hc;cases hc⟩
   ·exact⟨undef,fun h=>absurd h hi⟩
  let V:Nat->Nat->Value:=fun i j=>Classical.choose (hX i j)
  have hV:∀i j,i<len->∀c,(ec (T i))[j]? = some c->W.cell? (at_ a.block (a.off+i*k+j))=some (V i j)/\VR (gOf W) W c (V i j)/\(V i j).oneCell'=true:=fun i j=>Classical.choose_spec (hX i j)
  have ha:a=at_ a.block a.off:=by
   obtain⟨b,o,sp⟩:=a
   simp only at hspot
   subst hspot
   rfl
  have hget:∀(i:Nat)(e:LV),(((List.range len).map T).map fun a=>LV.agg (ec a))[i]? = some e->i<len/\e=.agg (ec (T i)):=by
   intro i e he
   rw[List.getElem?_map,List.getElem?_map]at he
   cases hr:(List.range len)[i]? with
   |none=>rw[hr]at he;cases he
   |some q=>
    rw[hr]at he
    obtain⟨hlt,rfl⟩:=List.getElem?_eq_some_iff.1 hr
    simp at hlt he
    exact⟨hlt,he.symm⟩
  refine⟨(List.range len).map T,by simp;omega,?_,rfl⟩
  have hlen:(((List.range len).map T).map fun a=>LV.agg (ec a)).length=len:=by simp
  have hR:=VR.sl (G:=gOf W) (w:=W) (es:=((List.range len).map T).map fun a=>LV.agg (ec a)) (own:=.no) (b:=a.block) (off:=a.off) (sz:=k) (cap:=cap) (xs:=V) (by rw[hlen];exact hlc)
   (fun i e he=>by obtain⟨_,rfl⟩:=hget i e he;exact hec _)
   (fun i e j c he hc=>by
    obtain⟨hi,rfl⟩:=hget i e he
    obtain⟨g1,_,g3⟩:=hV i j hi c hc
    exact⟨gOf_cl g1,g1,g3⟩)
   (fun i e j c he hc=>by
    obtain⟨hi,rfl⟩:=hget i e he
    exact(hV i j hi c hc).2.1) trivial
  rw[hlen,<-ha]at hR
  exact hR
theorem open_int{n:Nat}{u:Value}{x:DataW H×List MemPlace}(h:DataW.trod enc Tryz.prog W 0 (fun _=>true) hd n 3 [u]=some x):∃k:Int,u=.int .i64 k:=by
 obtain⟨k,e,_⟩:=DataW.trod_int Tryz.underlying3 h
 simp only[List.cons.injEq,and_true]at e
 exact⟨k,e⟩
theorem open_str{n:Nat}{u:Value}{x:DataW H×List MemPlace}(h:DataW.trod enc Tryz.prog W 0 (fun _=>true) hd n 9 [u]=some x):∃s:ByteArray,u=.string s:=by
 obtain⟨s,e,_⟩:=DataW.trod_string Tryz.underlying9 h
 simp only[List.cons.injEq,and_true]at e
 exact⟨s,e⟩
theorem open_term{n:Nat}{cs:List Value}{x:DataW H×List MemPlace}(h:DataW.trod enc Tryz.prog W 0 (fun _=>true) hd n 47 cs=some x):∃t:Term,RowR W (termC t) cs:=by
 obtain⟨xs,m,_,rfl,hl,hlen,hf⟩:=DataW.trod_struct Tryz.underlying47 h
 rw[z47]at hl
 match xs,hlen,cs,hl with
 |[y0,y1,y2],_,[u0,u1,u2],_=>
  have h0:=fld (t:=3) (off:=0) (c:=1) (hf 0 _ rfl) rfl rfl z3
  have h1:=fld (t:=3) (off:=1) (c:=1) (hf 1 _ rfl) rfl rfl z3
  have h2:=fld (t:=9) (off:=2) (c:=1) (hf 2 _ rfl) rfl rfl z9
  obtain⟨k,rfl⟩:=open_int (show DataW.trod enc Tryz.prog W 0 (fun _=>true) hd m 3 [u0]=some y0 from h0)
  obtain⟨l,rfl⟩:=open_int (show DataW.trod enc Tryz.prog W 0 (fun _=>true) hd m 3 [u1]=some y1 from h1)
  obtain⟨s,rfl⟩:=open_str (show DataW.trod enc Tryz.prog W 0 (fun _=>true) hd m 9 [u2]=some y2 from h2)
  exact⟨⟨k,l,s⟩,.cons (.sc _) rfl (.cons (.sc _) rfl (.cons (.sc _) rfl (.nil W)))⟩
theorem open_atom{n:Nat}{cs:List Value}{x:DataW H×List MemPlace}(h:DataW.trod enc Tryz.prog W 0 (fun _=>true) hd n 26 cs=some x):∃a:Atom,RowR W [.str a.pred,argsL a.args] cs:=by
 obtain⟨xs,m,_,rfl,hl,hlen,hf⟩:=DataW.trod_struct Tryz.underlying26 h
 rw[z26]at hl
 match xs,hlen,cs,hl with
 |[y0,y1],_,[u0,u1],_=>
  have h0:=fld (t:=9) (off:=0) (c:=1) (hf 0 _ rfl) rfl rfl z9
  have h1:=fld (t:=24) (off:=1) (c:=1) (hf 1 _ rfl) rfl rfl z24
  obtain⟨s,rfl⟩:=open_str (show DataW.trod enc Tryz.prog W 0 (fun _=>true) hd m 9 [u0]=some y0 from h0)
  obtain⟨ts,_,hv,h1c⟩:=open_row termC Tryz.underlying24 z47 (by omega) (fun _=>rfl) ⟨0,0,⟨#[]⟩⟩ (fun n cs x h=>open_term h) (show DataW.trod enc Tryz.prog W 0 (fun _=>true) hd m 24 [u1]=some y1 from h1)
  exact⟨⟨s,ts⟩,.cons (.sc _) rfl (.cons hv h1c (.nil W))⟩
theorem open_lit{n:Nat}{cs:List Value}{x:DataW H×List MemPlace}(h:DataW.trod enc Tryz.prog W 0 (fun _=>true) hd n 49 cs=some x):∃l:Lit,RowR W (litC l) cs:=by
 obtain⟨xs,m,_,rfl,hl,hlen,hf⟩:=DataW.trod_struct Tryz.underlying49 h
 rw[z49]at hl
 match xs,hlen,cs,hl with
 |[y0,y1,y2,y3],_,[u0,u1,u2,u3,u4,u5,u6,u7,u8],_=>
  have h0:=fld (t:=3) (off:=0) (c:=1) (hf 0 _ rfl) rfl rfl z3
  have h1:=fld (t:=26) (off:=1) (c:=2) (hf 1 _ rfl) rfl rfl z26
  have h2:=fld (t:=47) (off:=3) (c:=3) (hf 2 _ rfl) rfl rfl z47
  have h3:=fld (t:=47) (off:=6) (c:=3) (hf 3 _ rfl) rfl rfl z47
  obtain⟨k,rfl⟩:=open_int (show DataW.trod enc Tryz.prog W 0 (fun _=>true) hd m 3 [u0]=some y0 from h0)
  obtain⟨a,ha⟩:=open_atom (show DataW.trod enc Tryz.prog W 0 (fun _=>true) hd m 26 [u1,u2]=some y1 from h1)
  obtain⟨s,hs⟩:=open_term (show DataW.trod enc Tryz.prog W 0 (fun _=>true) hd m 47 [u3,u4,u5]=some y2 from h2)
  obtain⟨t,ht⟩:=open_term (show DataW.trod enc Tryz.prog W 0 (fun _=>true) hd m 47 [u6,u7,u8]=some y3 from h3)
  exact⟨⟨k,a,s,t⟩,.cons (.sc _) rfl (ha.append (hs.append ht))⟩
theorem open_clause{n:Nat}{cs:List Value}{x:DataW H×List MemPlace}(h:DataW.trod enc Tryz.prog W 0 (fun _=>true) hd n 45 cs=some x):∃c:{c:Clause // c.body.length<2^63},RowR W (clauseC c.1) cs:=by
 obtain⟨xs,m,_,rfl,hl,hlen,hf⟩:=DataW.trod_struct Tryz.underlying45 h
 rw[z45]at hl
 match xs,hlen,cs,hl with
 |[y0,y1],_,[u0,u1,u2],_=>
  have h0:=fld (t:=26) (off:=0) (c:=2) (hf 0 _ rfl) rfl rfl z26
  have h1:=fld (t:=43) (off:=2) (c:=1) (hf 1 _ rfl) rfl rfl z43
  obtain⟨a,ha⟩:=open_atom (show DataW.trod enc Tryz.prog W 0 (fun _=>true) hd m 26 [u0,u1]=some y0 from h0)
  obtain⟨b,hb,hv,h1c⟩:=open_row litC Tryz.underlying43 z49 (by omega) (fun _=>rfl) ⟨0,⟨⟨#[]⟩,[]⟩,⟨0,0,⟨#[]⟩⟩,⟨0,0,⟨#[]⟩⟩⟩ (fun n cs x h=>open_lit h) (show DataW.trod enc Tryz.prog W 0 (fun _=>true) hd m 43 [u2]=some y1 from h1)
  exact⟨⟨⟨a,b⟩,hb⟩,ha.append (.cons hv h1c (.nil W))⟩
theorem open_clauses{base:Nat}{v:Value}{d:DataW H}{p:List MemPlace}(h:DataW.Trod enc Tryz.prog W 0 (fun _=>true) hd 22 v d p)(hv:Value.okWide Tryz.prog W .any base 22 v):∃l:List Clause,(∀c∈l,c.body.length<2^63)/\VR (gOf W) W (clausesL l) v:=by
 have h1:v.cells=#[v]:=by
  unfold Value.okWide at hv
  rw[Tryz.underlying22]at hv
  simp only at hv
  unfold Cell.okWide at hv
  rw[Tryz.underlying22]at hv
  simp only at hv
  unfold Cell.ok at hv
  rw[Tryz.underlying22]at hv
  cases v<;>first|rfl|exact hv.elim
 obtain⟨fuel,h⟩:=h
 rw[h1]at h
 obtain⟨l,_,hV,_⟩:=open_row (fun c:{c:Clause // c.body.length<2^63}=>clauseC c.1) Tryz.underlying22 z45 (by omega) (fun _=>rfl) ⟨⟨⟨⟨#[]⟩,[]⟩,[]⟩,by simp⟩ (fun n cs x h=>open_clause h) (show DataW.trod enc Tryz.prog W 0 (fun _=>true) hd fuel 22 [v]=some _ from h)
 refine⟨l.map (·.1),fun c hc=>?_,?_⟩
 ·obtain⟨q,_,rfl⟩:=List.mem_map.1 hc
  exact q.2
 ·have e:(l.map (·.1)).map clauseL=l.map fun c=>LV.agg (clauseC c.1):=by rw[List.map_map];rfl
  show VR (gOf W) W (.sl ((l.map (·.1)).map clauseL) .no) v
  rw[e]
  exact hV
theorem open_atomP{base:Nat}{v:Value}{d:DataW H}{p:List MemPlace}(h:DataW.Trod enc Tryz.prog W 0 (fun _=>true) hd 26 v d p)(hv:Value.okWide Tryz.prog W .any base 26 v):∃a:Atom,VR (gOf W) W (atomL a) v:=by
 have hv':∃cs,v=.agg cs:=by
  unfold Value.okWide at hv
  rw[Tryz.underlying26]at hv
  obtain⟨cs,h,_⟩:=hv
  exact⟨cs,h⟩
 obtain⟨cs,rfl⟩:=hv'
 obtain⟨fuel,h⟩:=h
 obtain⟨a,ha⟩:=open_atom (show DataW.trod enc Tryz.prog W 0 (fun _=>true) hd fuel 26 cs.toList=some _ from h)
 exact⟨a,by simpa using ha.agg⟩
theorem open_atoms{base:Nat}{v:Value}{d:DataW H}{p:List MemPlace}(h:DataW.Trod enc Tryz.prog W 0 (fun _=>true) hd 23 v d p)(hv:Value.okWide Tryz.prog W .any base 23 v):∃l:List Atom,l.length<2^63/\VR (gOf W) W (.sl (l.map atomL) .no) v:=by
 have h1:v.cells=#[v]:=by
  unfold Value.okWide at hv
  rw[Tryz.underlying23]at hv
  simp only at hv
  unfold Cell.okWide at hv
  rw[Tryz.underlying23]at hv
  simp only at hv
  unfold Cell.ok at hv
  rw[Tryz.underlying23]at hv
  cases v<;>first|rfl|exact hv.elim
 obtain⟨fuel,h⟩:=h
 rw[h1]at h
 obtain⟨l,hl,hV,_⟩:=open_row (fun a:Atom=>[.str a.pred,argsL a.args]) Tryz.underlying23 z26 (by omega) (fun _=>rfl) ⟨⟨#[]⟩,[]⟩ (fun n cs x h=>open_atom h) (show DataW.trod enc Tryz.prog W 0 (fun _=>true) hd fuel 23 [v]=some _ from h)
 exact⟨l,hl,hV⟩
end
theorem law_run6(l:List Clause)(bs:List Atom)(a:Atom)(hb:∀c∈l,c.body.length<2^63)(hbl:bs.length<2^63)(W:World)(hW:laidMetH Tryz.prog Rows.customModelsAsSpecifiedRow.laid W)(us:Array Value)(h0:us.size=3)
  (h1:VR (gOf W) W (clausesL l) (us.getD 0 undef)) (h2:VR (gOf W) W (.sl (bs.map atomL) .no) (us.getD 1 undef)) (h3:VR (gOf W) W (atomL a) (us.getD 2 undef)):
  Calls Tryz.prog 3 us W fun e W'=>e=.returned (.bool true)/\Below W.heap.size W W':=by
 have hO:cP E0 F0 3 [clausesL l,.sl (bs.map atomL) .no,atomL a] ⟨[],1⟩ (fun v _=>v=.bool true) (fun _ _=>False):=
  t_law6 t_sanity l bs a hb hbl [] 1 (fun i m l k n=>by simp[look]) fun _ _=>rfl
 have hC:CallOk Tryz.prog E0 3 [clausesL l,.sl (bs.map atomL) .no,atomL a] ⟨[],1⟩ _:=sound hmixT fnsT (hO trivial)
 refine(hC.2 (gOf W) W us (gOf_inv W 1) (gOf_env W hW) ⟨h0,fun i x hi=>?_⟩).mono fun e W' hp=>?_
 ·match i,hi with
  |0,hi=>simp at hi;subst hi;exact h1
  |1,hi=>simp at hi;subst hi;exact h2
  |2,hi=>simp at hi;subst hi;exact h3
  |i+3,hi=>simp at hi
 ·cases e with
  |outgrown=>exact hp.elim
  |panicked ch=>
   obtain⟨_,_,_,_,hT,_⟩:=hp
   rcases hT with⟨_,_,he,_⟩|⟨_,_,he,_,hf⟩
   ·cases he
   ·exact hf.elim
  |returned u=>
   obtain⟨v,H',G',hT,hV,_,hx⟩:=hp
   rcases hT with⟨v',H'',he,_,hv⟩|⟨_,_,he,_⟩
   ·cases he
    subst hv
    obtain rfl:=hV.sc_inv
    exact⟨rfl,hx.os,hx.tape,hx.output,hx.size,fun k hk=>hx.block k (by simp[gOf,hk])⟩
   ·cases he
end Go.Abs.Tz
