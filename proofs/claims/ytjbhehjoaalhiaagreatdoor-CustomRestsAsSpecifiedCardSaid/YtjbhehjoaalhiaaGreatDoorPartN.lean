/- Part of the proof that the law CustomRestsAsSpecified holds. Conditions: none. -/
import Derived.Test.YtjbhehjoaalhiaaGreatDoorPartM
import Derived.Test.YtjbhehjoaalhiaaGreatDoorPartJ
import Derived.Test.YtjbhehjoaalhiaaGreatDoorPartA
import Derived.Test.YtjbhehjoaalhiaaGreatDoorPartG
import Derived.Test.YtjbhehjoaalhiaaGreatDoorPartK
import Derived.Test.YtjbhehjoaalhiaaGreatDoorPartI
import Derived.Test.YtjbhehjoaalhiaaGreatDoorPartH
import Derived.WalkKit
import Derived.OwnWalk
import Derived.Lib.SliceRun
import Derived.KernelRfl
set_option linter.unusedVariables false
set_option linter.unusedSimpArgs false
set_option linter.unusedSectionVars false
namespace Go.Abs.Tz
open Go Go.Abs Go.Proofs
abbrev ug(F:List Stp):List Atom:=F.map Stp.atom
theorem qgp(F:List Stp):qaD F=(·∈ug F):=by
 funext a
 exact propext ⟨fun⟨s,hs,e⟩=>List.mem_map.2 ⟨s,hs,e⟩,fun h=>by
  obtain⟨s,hs,e⟩:=List.mem_map.1 h
  exact⟨s,hs,e⟩⟩
def qak(F:List Stp):Prop:=(F.map fun q=>qG q.atom).Nodup
theorem qnq{α β:Type}(f:α->β):∀{l:List α},(l.map f).Nodup->l.Nodup
 |[],_=>.nil
 |a::l,h=>by
  rw[List.map_cons,List.nodup_cons]at h
  exact List.nodup_cons.2 ⟨fun ha=>h.1 (List.mem_map.2 ⟨a,ha,rfl⟩),qnq f h.2⟩
theorem qak.nodup{F:List Stp}(h:qak F):(ug F).Nodup:=qnq qG (by
 unfold qak at h
 rw[List.map_map]
 exact h)
theorem qak.app{F G:List Stp}(h:qak F)(k:qbU F G):qak (F++G):=by
 unfold qak
 rw[List.map_append]
 refine List.nodup_append.2 ⟨h,k.1,fun x hx y hy e=>?_⟩
 obtain⟨p,hp,rfl⟩:=List.mem_map.1 hx
 obtain⟨q,hq,rfl⟩:=List.mem_map.1 hy
 have:=k.2 q hq
 rw[qac.2 ⟨p,hp,e⟩]at this
 cases this
theorem qxo{c:qf}(hg:zQ c){F:List Stp}(hF:∀a,a∈ug F->qI a)(i:Int):(vk F c i).foldl zq F=F++vk F c i/\qbU F (vk F c i)/\(∀s∈vk F c i,wH (·∈ug F) c s.atom) /\
  ((vk F c i).length<=300->∀h,wH (·∈ug F) c h->h∈ug (F++vk F c i)):=by
 have hFs:∀s∈F,qI s.atom:=fun s hs=>hF _ (List.mem_map.2 ⟨s,hs,rfl⟩)
 have hFo:∀s∈F,qM s.atom=true:=fun s hs=>(hFs s hs).1
 have hS:∀a,qaD F a->qI a:=fun a ⟨s,hs,e⟩=>e▸hFs s hs
 have e:vk F c i=(qha F c i).foldl (zM F) []:=by
  unfold vk
  rw[qjE]
  rfl
 have hd:qbU F (vk F c i):=by
  rw[e]
  exact qoq F _ _ (.nil F)
 have key:∀h,wH (·∈ug F) c h↔∃s∈qha F c i,s.atom=h:=by
  intro h
  rw[<-qgp]
  have hrest:∀R,qby (qaD F) (qO c.body) [] R->(qap F R c.body=true↔qcq (qaD F) R c.body):=fun R hR=>by
   obtain⟨g1,_,g3,_⟩:=qhw hS .nil hR
   exact qmH hFo fun x hx hk=>((hg.leaf g1 g3).1 x hx hk).1
  constructor
  ·rintro⟨R,h1,h2,rfl⟩
   obtain⟨js,hjs⟩:=qnm h1
   exact⟨_,List.mem_map.2 ⟨(R,js),qfh.2 ⟨js,hjs,(hrest R h1).2 h2,by simp⟩,rfl⟩,rfl⟩
  ·rintro⟨s,hs,rfl⟩
   obtain⟨x,hx,rfl⟩:=List.mem_map.1 hs
   obtain⟨js,h1,h2,_⟩:=qfh.1 hx
   have h3:=qjX h1
   exact⟨x.1,h3,(hrest _ h3).1 h2,rfl⟩
 refine⟨qqz hd,hd,fun s hs=>?_,fun hl h hh=>?_⟩
 ·rw[e]at hs
  obtain⟨X,hX,hX2⟩:=qfz F (qha F c i) []
  rw[hX]at hs
  exact(key _).2 ⟨s,hX2 s (by simpa using hs),rfl⟩
 ·have hhg:qI h:=by
   rw[<-qgp]at hh
   exact hh.good hS hg
  obtain⟨s,hs,rfl⟩:=(key h).1 hh
  have hin:∀{G:List Stp},(∀q∈G,qM q.atom=true)->zn (qG s.atom) G=true->s.atom∈ug G:=fun hG hx=>by
   obtain⟨q,hq,eq⟩:=qac.1 hx
   exact List.mem_map.2 ⟨q,hq,qkm (hG q hq) hhg.1 eq⟩
  rw[e]at hl ⊢
  unfold ug
  rw[List.map_append]
  rcases qop F _ _ hl s hs with h|h
  ·exact List.mem_append_left _ (hin hFo h)
  ·refine List.mem_append_right _ (hin (fun q hq=>?_) h)
   have hq2:wH (·∈ug F) c q.atom:=by
    obtain⟨X,hX,hX2⟩:=qfz F (qha F c i) []
    rw[hX]at hq
    exact(key _).2 ⟨q,hX2 q (by simpa using hq),rfl⟩
   rw[<-qgp]at hq2
   exact(hq2.good hS hg).1
section
variable{l:List qf}{m:List (PK×Int)}{v:Int}{S0:Atom->Prop}
def ResD(l:List qf)(m:List (PK×Int))(v:Int)(S0:Atom->Prop):Option (List Stp)->Prop
 |none=>∃L:List Atom,L.Nodup/\300<L.length/\Mid l m v S0 (·∈L)
 |some F=>Mid l m v S0 (·∈ug F)/\qak F/\F.length<=300
theorem qiw(hm:wc l m)(hg:∀c∈l,zQ c):∀(r:List qf),(∀c∈r,c∈l)->∀(i:Nat){F:List Stp},Mid l m v S0 (·∈ug F)->qak F->F.length<=300 ->
  ResD l m v S0 (wi m v r i F)/\∀F',wi m v r i F=some F'->F.length<=F'.length/\(F'.length=F.length->F'=F/\∀c∈r,qm m (ofA c.head)=v->∀h,wH (·∈ug F) c h->h∈ug F)
 |[],_,i,F,h1,h2,h3=>⟨⟨h1,h2,h3⟩,fun F' h=>by
  cases h
  exact⟨Nat.le_refl _,fun _=>⟨rfl,fun c hc=>(by cases hc)⟩⟩⟩
 |c::r,hr,i,F,h1,h2,h3=>by
  have hr':=fun d hd=>hr d (List.mem_cons_of_mem _ hd)
  have hc:=hr c List.mem_cons_self
  unfold wi
  by_cases hv:qm m (ofA c.head)=v
  ·rw[if_pos hv]
   obtain⟨c1,c2,c3,c4⟩:=qxo (hg c hc) (F:=F) h1.lo.good i
   rw[c1]
   have hM:Mid l m v S0 (·∈ug (F++vk F c i)):=h1.grow hm hc (hg c hc) hv (fun a ha=>by
    obtain⟨s,hs,rfl⟩:=List.mem_map.1 ha
    rcases List.mem_append.1 hs with hs|hs
    ·exact .inl (List.mem_map.2 ⟨s,hs,rfl⟩)
    ·exact .inr (c3 s hs)) fun a ha=>by
     obtain⟨s,hs,rfl⟩:=List.mem_map.1 ha
     exact List.mem_map.2 ⟨s,List.mem_append_left _ hs,rfl⟩
   have hN:=h2.app c2
   have hlen:(F++vk F c i).length=F.length+(vk F c i).length:=List.length_append
   by_cases h300:300<(F++vk F c i).length
   ·rw[if_pos h300]
    exact⟨⟨_,hN.nodup,by simpa using h300,hM⟩,fun F' h=>by cases h⟩
   ·rw[if_neg h300]
    obtain⟨g1,g2⟩:=qiw hm hg r hr' (i+1) hM hN (by omega)
    refine⟨g1,fun F' hF'=>?_⟩
    obtain⟨k1,k2⟩:=g2 F' hF'
    refine⟨by omega,fun hl=>?_⟩
    have e0:vk F c i=[]:=List.eq_nil_of_length_eq_zero (by omega)
    rw[e0,List.append_nil]at k1 k2 c4
    obtain⟨j1,j2⟩:=k2 hl
    refine⟨j1,fun d hd hdv h hh=>?_⟩
    rcases List.mem_cons.1 hd with rfl|hd
    ·exact c4 (by simp) h hh
    ·exact j2 d hd hdv h hh
  ·rw[if_neg hv]
   obtain⟨g1,g2⟩:=qiw hm hg r hr' (i+1) h1 h2 h3
   refine⟨g1,fun F' hF'=>?_⟩
   obtain⟨k1,k2⟩:=g2 F' hF'
   refine⟨k1,fun hl=>?_⟩
   obtain⟨j1,j2⟩:=k2 hl
   refine⟨j1,fun d hd hdv h hh=>?_⟩
   rcases List.mem_cons.1 hd with rfl|hd
   ·exact absurd hdv hv
   ·exact j2 d hd hdv h hh
theorem qnI(hm:wc l m)(hg:∀c∈l,zQ c):∀(k:Nat){F:List Stp},302<=k+F.length->Mid l m v S0 (·∈ug F)->qak F->F.length<=300 ->
  ResD l m v S0 (wM m v l k F)/\∀F',wM m v l k F=some F'->qky l m v (·∈ug F')
 |0,F,hk,h1,h2,h3=>by omega
 |k+1,F,hk,h1,h2,h3=>by
  unfold wM
  obtain⟨g1,g2⟩:=qiw hm hg l (fun c hc=>hc) 0 h1 h2 h3
  cases hr:wi m v l 0 F with
  |none=>
   rw[hr]at g1
   exact⟨g1,fun F' h=>by cases h⟩
  |some F2=>
   rw[hr]at g1
   obtain⟨k1,k2⟩:=g2 F2 hr
   obtain⟨m1,m2,m3⟩:=g1
   dsimp only
   by_cases he:F2.length=F.length
   ·rw[if_pos he]
    obtain⟨j1,j2⟩:=k2 he
    subst j1
    exact⟨⟨m1,m2,m3⟩,fun F' h=>by cases h;exact j2⟩
   ·rw[if_neg he]
    exact qnI hm hg k (by omega) m1 m2 m3
theorem qgI:∀{a b:List Atom},a.Nodup->(∀x∈a,x∈b)->a.length<=b.length
 |[],_,_,_=>Nat.zero_le _
 |x::a,b,h,hs=>by
  obtain⟨h1,h2⟩:=List.nodup_cons.1 h
  obtain⟨s,t,rfl⟩:=List.append_of_mem (hs x List.mem_cons_self)
  have:=qgI (a:=a) (b:=s++t) h2 fun y hy=>by
   have hy2:=hs y (List.mem_cons_of_mem _ hy)
   have hne:y≠x:=fun e=>h1 (e▸hy)
   rcases List.mem_append.1 hy2 with g|g
   ·exact List.mem_append_left _ g
   ·rcases List.mem_cons.1 g with g|g
    ·exact absurd g hne
    ·exact List.mem_append_right _ g
  simp only[List.length_append,List.length_cons]at this ⊢
  omega
def qfR(o:Option (List Stp))(out:List Atom):Prop:=match o with
 |none=>300<out.length
 |some F=>F.length<=300/\out.length<=300/\qak F/\qaj out/\(∀a∈out,qI a)/\∀a,a∈ug F↔a∈out
theorem qvo(hm:wc l m)(hg:∀c∈l,zQ c){q:List (PK×Int)}(hq:∀k,qm q k=qm m k){F:List Stp}{out:List Atom}(h:qfR (some F) out):qfR (wM m v l 302 F) (jK q v l 302 out):=by
 obtain⟨h1,h2,h3,h4,h5,h6⟩:=h
 have e0:(fun a=>a∈ug F)=fun a=>a∈out:=funext fun a=>propext (h6 a)
 have hb:Mid l m v (·∈out) (·∈out):=.base h5
 obtain⟨c1,c2⟩:=qnI (v:=v) (S0:=(·∈out)) hm hg 302 (F:=F) (by omega) (by
  rw[e0]
  exact hb) h3 h1
 obtain⟨r1,r2,r3⟩:=qmF hm hg hq 302 (out:=out) (by omega) hb h4
 cases hl:wM m v l 302 F with
 |none=>
  rw[hl]at c1
  obtain⟨L,l1,l2,l3⟩:=c1
  show 300<_
  by_cases h300:(jK q v l 302 out).length<=300
  ·have:=qgI l1 (b:=jK q v l 302 out) fun x hx=>l3.least _ r1.lo (r3 h300) x hx
   omega
  ·omega
 |some F'=>
  rw[hl]at c1
  obtain⟨m1,m2,m3⟩:=c1
  have hcl:=c2 F' hl
  have hle:=qgI r2.nodup (b:=ug F') fun x hx=>r1.least _ m1.lo hcl x hx
  rw[List.length_map]at hle
  have h300:(jK q v l 302 out).length<=300:=by omega
  exact⟨m3,h300,m2,r2,r1.lo.good,fun a=>⟨m1.least _ r1.lo (r3 h300) a,r1.least _ m1.lo hcl a⟩⟩
theorem qvp(hn:∀c∈l,qm m (ofA c.head)<v)(k:Nat)(F:List Stp):wM m v l (k+1) F=some F:=by
 have:∀(r:List qf),(∀c∈r,qm m (ofA c.head)<v)->∀i,wi m v r i F=some F:=fun r=>by
  induction r with
  |nil=>intro _ i;rfl
  |cons c r ih=>
   intro hr i
   unfold wi
   have:=hr c List.mem_cons_self
   rw[if_neg (by omega)]
   exact ih (fun d hd=>hr d (List.mem_cons_of_mem _ hd)) _
 unfold wM
 rw[this l hn]
 simp
theorem qtv{q:List (PK×Int)}(hn:∀c∈l,qm q (ofA c.head)<v)(k:Nat)(out:List Atom):jK q v l (k+1) out=out:=by
 have:∀(r:List qf),(∀c∈r,qm q (ofA c.head)<v)->yZ q v r out=out:=fun r=>by
  induction r with
  |nil=>intro _;rfl
  |cons c r ih=>
   intro hr
   unfold yZ
   have:=hr c List.mem_cons_self
   rw[if_neg (by omega)]
   exact ih (fun d hd=>hr d (List.mem_cons_of_mem _ hd))
 unfold jK
 rw[this l hn]
 simp
theorem qmE{q:List (PK×Int)}:∀(k v:Nat){out:List Atom},300<out.length->qan q l k v out=out
 |0,_,_,_=>rfl
 |k+1,v,out,h=>by
  unfold qan
  have e:jK q v l 302 out=out:=by
   unfold jK
   rw[if_neg (by omega)]
  rw[e]
  exact qmE k (v+1) h
theorem qnH:∀(k w:Nat),(∀c∈l,qm m (ofA c.head)<(w:Int))->∀F,qaP m l k w F=some F
 |0,_,_,_=>rfl
 |k+1,w,h,F=>by
  unfold qaP
  rw[qvp h]
  exact qnH k (w+1) (fun c hc=>by have:=h c hc;omega) F
theorem qmD{q:List (PK×Int)}:∀(k w:Nat),(∀c∈l,qm q (ofA c.head)<(w:Int))->∀out,qan q l k w out=out
 |0,_,_,_=>rfl
 |k+1,w,h,out=>by
  unfold qan
  rw[qtv h]
  exact qmD k (w+1) (fun c hc=>by have:=h c hc;omega) out
theorem qnG(hm:wc l m)(hg:∀c∈l,zQ c){q:List (PK×Int)}(hq:∀k,qm q k=qm m k):∀(k j w:Nat),(∀c∈l,qm m (ofA c.head)<(w+k:Nat))->(∀c∈l,qm m (ofA c.head)<(w+j:Nat))->∀{F:List Stp}{out:List Atom},qfR (some F) out->qfR (qaP m l k w F) (qan q l j w out)
 |0,j,w,h1,h2,F,out,h=>by
  rw[qmD j w (fun c hc=>by rw[hq];simpa using h1 c hc)]
  exact h
 |k+1,0,w,h1,h2,F,out,h=>by
  rw[qnH (k+1) w (fun c hc=>by simpa using h2 c hc)]
  exact h
 |k+1,j+1,w,h1,h2,F,out,h=>by
  unfold qaP qan
  have hs:=qvo (v:=w) hm hg hq h
  cases hl:wM m w l 302 F with
  |none=>
   rw[hl]at hs
   show 300<_
   rw[qmE j (w+1) hs]
   exact hs
  |some F'=>
   rw[hl]at hs
   exact qnG hm hg hq k j (w+1) (fun c hc=>by have:=h1 c hc;omega) (fun c hc=>by have:=h2 c hc;omega) hs
end
theorem qkt:∀(S F:List Stp),(∀s∈F,qM s.atom=true)->(∀s∈S,qM s.atom=true)->qak F->qak (S.foldl zq F)/\∀a,a∈ug (S.foldl zq F)↔(a∈ug F\/a∈ug S)
 |[],F,_,_,h=>⟨h,fun a=>by simp⟩
 |s::S,F,hF,hS,h=>by
  have hs:=hS s List.mem_cons_self
  have hS':=fun q hq=>hS q (List.mem_cons_of_mem _ hq)
  rw[List.foldl_cons]
  cases hh:zn (qG s.atom) F
  ·have e:zq F s=F++[s]:=by unfold zq;rw[hh,if_neg (by simp)]
   have hF2:∀q∈F++[s],qM q.atom=true:=fun q hq=>by
    rcases List.mem_append.1 hq with hq|hq
    ·exact hF q hq
    ·simp at hq;rw[hq];exact hs
   have hN:qak (F++[s]):=h.app ⟨by simp,fun q hq=>by simp at hq;rw[hq];exact hh⟩
   rw[e]
   obtain⟨g1,g2⟩:=qkt S _ hF2 hS' hN
   refine⟨g1,fun a=>?_⟩
   rw[g2 a]
   simp[ug,or_assoc,eq_comm]
  ·have e:zq F s=F:=by unfold zq;rw[hh,if_pos rfl]
   rw[e]
   obtain⟨g1,g2⟩:=qkt S F hF hS' h
   refine⟨g1,fun a=>?_⟩
   rw[g2 a]
   have hin:s.atom∈ug F:=by
    obtain⟨q,hq,eq⟩:=qac.1 hh
    exact List.mem_map.2 ⟨q,hq,qkm (hF q hq) hs eq⟩
   constructor
   ·rintro(h|h)
    ·exact .inl h
    ·exact .inr (List.mem_cons_of_mem _ h)
   ·rintro(h|h)
    ·exact .inl h
    ·rcases List.mem_cons.1 h with rfl|h
     ·exact .inl hin
     ·exact .inr h
theorem qoA:∀(base out:List Atom),qaj out->qaj (base.foldl zm out)/\∀a,a∈base.foldl zm out↔(a∈out\/a∈base)
 |[],out,h=>⟨h,fun a=>by simp⟩
 |x::r,out,h=>by
  obtain⟨h1,h2⟩:=qoA r (zm out x) (qiH h)
  rw[List.foldl_cons]
  refine⟨h1,fun a=>?_⟩
  rw[h2 a]
  constructor
  ·rintro(h|h)
   ·rcases qdU h with h|rfl
    ·exact .inl h
    ·exact .inr List.mem_cons_self
   ·exact .inr (List.mem_cons_of_mem _ h)
  ·rintro(h|h)
   ·exact .inl (qiG h)
   ·rcases List.mem_cons.1 h with rfl|h
    ·exact .inl (qiI out a)
    ·exact .inr h
theorem quO{l:List qf}{m q:List (PK×Int)}(hm:wc l m)(hlq:wc l q)(hg:∀c∈l,zQ c)(hq:∀k,qm m k=qm q k){base:List Atom}(hb:∀a∈base,qI a)(hbl:base.length<=300):qfR (qbR m l base) (qbi q l base):=by
 unfold qbR qbi
 have hhas:∀c∈l,qm m (ofA c.head)<=uF 0 (m.map (·.2))/\qm m (ofA c.head)<=q.length:=fun c hc=>by
  have hk:ofA c.head∈vC c:=by simp[vC]
  refine⟨hm.max.2.2 _ (hm.has c hc _ hk),?_⟩
  rw[hq]
  exact hlq.bd _
 have h0:=hm.max.1
 refine qnG hm hg (fun k=>(hq k).symm) _ _ 0 (fun c hc=>?_) (fun c hc=>?_) ?_
 ·have:=(hhas c hc).1
  omega
 ·have:=(hhas c hc).2
  omega
 ·have hS:∀s∈base.map (fun a=>(⟨a,-1,[]⟩:Stp)),qM s.atom=true:=fun s hs=>by
   obtain⟨a,ha,rfl⟩:=List.mem_map.1 hs
   exact(hb a ha).1
  obtain⟨a1,a2⟩:=qkt (base.map fun a=>(⟨a,-1,[]⟩:Stp)) [] (fun s hs=>by cases hs) hS .nil
  obtain⟨b1,b2⟩:=qoA base [] .nil
  have hl1:=(qfQ (base.map fun a=>(⟨a,-1,[]⟩:Stp)) []).2
  have e:∀a,a∈ug (qbr base)↔a∈base:=fun a=>by
   rw[show ug (qbr base)=ug ((base.map fun a=>(⟨a,-1,[]⟩:Stp)).foldl zq []) from rfl,a2 a]
   simp[ug,Function.comp_def]
  have e2:∀a,a∈base.foldl zm []↔a∈base:=fun a=>by rw[b2 a];simp
  have hl2:=qgI b1.nodup (b:=base) fun x hx=>(e2 x).1 hx
  refine⟨?_,by omega,a1,b1,fun a ha=>hb a ((e2 a).1 ha),fun a=>by rw[e a,e2 a]⟩
  rw[List.length_map,List.length_nil]at hl1
  unfold qbr
  omega
end Go.Abs.Tz
namespace Go.Abs.Tz
open Go Go.Abs Go.Proofs
set_option maxRecDepth 20000
set_option linter.unusedSimpArgs false
attribute [local simp ↓] yb ya jv ju gI ut zg zB jr up yP yQ yc ye yf yd jA jD jG jB jH jI jE jF jC jy jw jz jx yN yL yO yM g7 gZ g8 g6 yk yh yj uu zx jL zh z7 gL yS yT yo yq yp ym yn yz jO jT jW jS jU jV gy gx j5 j7 jb uZ jm jp u9 jh jl jk jj ji jf uV uW uX uY jn jd je uT jo jq ja jc jg uU gb j6 gu gC j8 gj gt gq gp gk gh j0 gw gf gg jX gA gD j9 gd gi jY gG gz jZ gF ge ga gc j3 gv jP jR jQ yu yx yt yv yw qp uL
attribute [local simp] faL fdL iaL ixL qL zb qV eqK eqL qR zo uO yr yK yA yC yE yG yI yJ yB yF yD yH zC LV.cells LV.whole qp uC uw jM stL zF zR uq qa.alloc gJ gH gK gY gW gV gU gT gS gQ gO gN gM qe ux
theorem qeV{q:List (PK×Int)}{lev:Int}:∀{l:List qf}{out:List Atom},(∀c∈l,zQ c)->out.length<=301->(∀a∈out,qI a)->(yZ q lev l out).length<=301/\∀a∈yZ q lev l out,qI a
 |[],_,_,h1,h2=>⟨h1,h2⟩
 |c::r,out,hc,h1,h2=>by
  unfold yZ
  have hcr:=fun d hd=>hc d (List.mem_cons_of_mem _ hd)
  split
  ·obtain⟨p1,p2,p3⟩:=qdR (zy c out c.body []) out
   refine qeV hcr (by omega) fun a ha=>(p3 a ha).elim (h2 a) ?_
   exact qgZ (hc c List.mem_cons_self) h2 c.body [] [] rfl .nil (fun x hx=>by cases hx) a
  ·exact qeV hcr h1 h2
theorem qmG{q:List (PK×Int)}{lev:Int}{l:List qf}(hc:∀c∈l,zQ c):∀(k:Nat){out:List Atom},out.length<=301->(∀a∈out,qI a)->(jK q lev l k out).length<=301/\∀a∈jK q lev l k out,qI a
 |0,_,h1,h2=>⟨h1,h2⟩
 |k+1,out,h1,h2=>by
  unfold jK
  split
  ·split
   ·exact qeV hc h1 h2
   ·obtain⟨g1,g2⟩:=qeV (q:=q) (lev:=lev) hc h1 h2
    exact qmG hc k g1 g2
  ·exact⟨h1,h2⟩
structure NNRb where
 k:Nat
 bf:Int
 n:Nat
 out:List Atom
section
variable{S:List qE}{owS:Own}{q:List (PK×Int)}{l:List qf}{ob:List (Nat×qc)}{s6:Nat}
theorem qrU(hI:RmIn S owS q l ob s6)(lev:Nat)(out:List Atom)(hog:∀a∈out,qI a)(hol:out.length<=301)(m:Nat)(v4:LV){KX:XP}
  (hk:∀n' z10 z42 z43 z44 z45 z46 z47 z48 z49 z50,m<=n'->KX (.exit 4) ((.nd (qt l) (.nd .bot (.nd .bot (.nd (.sl ((jK q lev l 302 out).map qd) .no) (.nd .bot .nil (.nd (z47) .nil .nil)) .nil) (.nd .bot .nil (.nd .bot (.nd (z43) .nil .nil) .nil))) (.nd .bot (.nd (.int lev) (.nd .bot .nil (.nd (z49) .nil .nil)) .nil) (.nd .bot .nil (.nd .bot (.nd (z45) .nil .nil) .nil)))) (.nd .bot (.nd (v4) (.nd .bot (.nd .bot .nil (.nd (z48) .nil .nil)) .nil) (.nd .bot .nil (.nd .bot (.nd (z44) .nil .nil) .nil))) (.nd (.ptr s6 0) (.nd (z10) (.nd .bot .nil (.nd (z50) .nil .nil)) (.nd .bot (.nd (z42) .nil .nil) .nil)) (.nd .bot .nil (.nd .bot (.nd (z46) .nil .nil) .nil)))))) ⟨ob,n'⟩):
  lP E0 F0 qmC ((.nd (qt l) (.nd .bot (.nd .bot (.nd (.sl (out.map qd) .no) .nil .nil) .nil) (.nd .bot (.nd (.int lev) .nil .nil) .nil)) (.nd .bot (.nd (v4) .nil .nil) (.nd (.ptr s6 0) (.nd (.int (-1)) .nil .nil) .nil)))) ⟨ob,m⟩ KX:=by
 obtain⟨A,hA⟩:∃A,jK q lev l 302 out=A:=⟨_,rfl⟩
 rw[hA]at hk
 refine qy (σ:=NNRb) (fun p=>(.nd (qt l) (.nd .bot (.nd .bot (.nd (.sl (p.out.map qd) .no) .nil .nil) .nil) (.nd .bot (.nd (.int lev) .nil .nil) .nil)) (.nd .bot (.nd (v4) .nil .nil) (.nd (.ptr s6 0) (.nd (.int p.bf) .nil .nil) .nil)))) (fun p=>⟨ob,p.n⟩) (fun p=>p.k)
  (fun p=>m<=p.n/\(∀a∈p.out,qI a)/\p.out.length<=301/\((p.k=0/\p.bf=(p.out.length:Int)/\p.out=A)\/(0<p.k/\p.bf≠(p.out.length:Int)/\jK q lev l p.k p.out=A/\302<=p.k+p.out.length)))
  ⟨302,-1,m,out⟩ ⟨Nat.le_refl _,hog,hol,.inr ⟨by dsimp only;omega,by dsimp only;omega,hA,by dsimp only;omega⟩⟩ (by simp[FT.Le,Wk]) ⟨HWk.refl _,fun h=>h⟩ ?_
 rintro⟨k,bf,n,o⟩ ⟨hn,hg,hl,hcase⟩ hok
 dsimp only at hn hg hl hcase hok
 have hll:=hI.hl
 rcases hcase with⟨rfl,rfl,rfl⟩|⟨hk0,hbf,hlv,hfu⟩
 ·simp(disch:=omega)
  exact hk n _ _ _ _ _ _ _ _ _ _ hn
 obtain⟨k',rfl⟩:∃k',k=k'+1:=⟨k - 1,by omega⟩
 simp only[jK]at hlv
 by_cases h300:o.length<=300
 case neg=>
  rw[if_neg h300]at hlv
  subst hlv
  have h300':¬(o.length:Int)<=300:=by omega
  simp(disch:=omega)[hbf,h300']
  exact hk n _ _ _ _ _ _ _ _ _ _ hn
 rw[if_pos h300]at hlv
 have h300':(o.length:Int)<=300:=by omega
 simp(disch:=omega)[hbf,h300']
 refine vh (t':=(.nd (qt l) (.nd .bot (.nd .bot (.nd (.sl (o.map qd) .no) .nil .nil) (.nd (.int 0) .nil .nil)) (.nd .bot (.nd (.int lev) .nil .nil) .nil)) (.nd .bot (.nd (v4) .nil .nil) (.nd (.ptr s6 0) (.nd (.int o.length) .nil .nil) .nil)))) (fun l h=>by cases h) (by simp[FT.Le,Wk]) (HWk.refl _) (fun h=>h) ?_
 refine qrS hI lev o hg hl n _ _ fun n2 hn2=>?_
 obtain⟨g1,g2⟩:=qeV (q:=q) (lev:=lev) hI.hc hl hg
 have g3:=qeW q lev l o
 obtain⟨o2,ho2⟩:∃o2,yZ q lev l o=o2:=⟨_,rfl⟩
 rw[ho2]at hlv g1 g2 g3 ⊢
 simp(disch:=omega)
 by_cases he:o2.length=o.length
 ·rw[if_pos he]at hlv
  exact⟨⟨0,o.length,n2,o2⟩,by dsimp only;omega,⟨by dsimp only;omega,g2,g1,.inl ⟨rfl,by dsimp only;rw[he],hlv⟩⟩,by simp[FT.Le,Wk],HWk.refl _,fun h=>h⟩
 ·rw[if_neg he]at hlv
  by_cases h3:o2.length<=300
  ·exact⟨⟨k',o.length,n2,o2⟩,by dsimp only;omega,⟨by dsimp only;omega,g2,g1,.inr ⟨by dsimp only;omega,by dsimp only;omega,hlv,by dsimp only;omega⟩⟩,by simp[FT.Le,Wk],HWk.refl _,fun h=>h⟩
  ·exact⟨⟨k',o.length,n2,o2⟩,by dsimp only;omega,⟨by dsimp only;omega,g2,g1,.inr ⟨by dsimp only;omega,by dsimp only;omega,hlv,by dsimp only;omega⟩⟩,by simp[FT.Le,Wk],HWk.refl _,fun h=>h⟩
theorem qrI(hI:RmIn S owS q l ob s6)(out:List Atom)(hog:∀a∈out,qI a)(hol:out.length<=301)(m:Nat)(v4:LV){KX:XP}
  (hk:∀n' z9 z35 z36 z37 z38 z39,m<=n'->KX (.exit 2) ((.nd (qt l) (.nd .bot (.nd .bot (.nd (.sl ((qan q l (S.length+1) 0 out).map qd) .no) .nil (.nd .bot (.nd (z39) .nil .nil) .nil)) (.nd .bot (.nd .bot (.nd (z35) .nil .nil) .nil) .nil)) (.nd .bot (.nd (z9) .nil .nil) (.nd .bot (.nd .bot (.nd (z37) .nil .nil) .nil) .nil))) (.nd .bot (.nd (v4) .nil (.nd .bot (.nd .bot (.nd (z36) .nil .nil) .nil) .nil)) (.nd (.ptr s6 0) .nil (.nd .bot (.nd .bot (.nd (z38) .nil .nil) .nil) .nil))))) ⟨ob,n'⟩):
  lP E0 F0 qmB ((.nd (qt l) (.nd .bot (.nd .bot (.nd (.sl (out.map qd) .no) .nil .nil) .nil) (.nd .bot (.nd (.int 0) .nil .nil) .nil)) (.nd .bot (.nd (v4) .nil .nil) (.nd (.ptr s6 0) .nil .nil)))) ⟨ob,m⟩ KX:=by
 obtain⟨A,hA⟩:∃A,qan q l (S.length+1) 0 out=A:=⟨_,rfl⟩
 rw[hA]at hk
 refine qy (σ:=NNRm) (fun p=>(.nd (qt l) (.nd .bot (.nd .bot (.nd (.sl (p.out.map qd) .no) .nil .nil) .nil) (.nd .bot (.nd (.int p.i) .nil .nil) .nil)) (.nd .bot (.nd (v4) .nil .nil) (.nd (.ptr s6 0) .nil .nil)))) (fun p=>⟨ob,p.n⟩) (fun p=>S.length+1 - p.i)
  (fun p=>m<=p.n/\p.i<=S.length+1/\qan q l (S.length+1 - p.i) p.i p.out=A/\(∀a∈p.out,qI a)/\p.out.length<=301) ⟨0,m,out⟩ ⟨Nat.le_refl _,Nat.zero_le _,hA,hog,hol⟩ (by simp[FT.Le,Wk]) ⟨HWk.refl _,fun h=>h⟩ ?_
 rintro⟨i,n,o⟩ ⟨hn,hi,hf,hg,hl⟩ hok
 dsimp only at hn hi hf hg hl hok
 have hc6:=hI.c6
 have hSl:=hI.hS
 by_cases hlt:i<=S.length
 case neg=>
  rw[show S.length+1 - i=0 by omega]at hf
  have hA2:o=A:=hf
  subst hA2
  simp(disch:=omega)[hc6,hlt]
  exact hk n _ _ _ _ _ _ hn
 obtain⟨d,hd⟩:∃d,S.length+1 - i=d+1:=⟨S.length - i,by omega⟩
 rw[hd]at hf
 simp only[qan]at hf
 simp(disch:=omega)[hc6,hlt]
 refine vh (t':=(.nd (qt l) (.nd .bot (.nd .bot (.nd (.sl (o.map qd) .no) .nil .nil) .nil) (.nd .bot (.nd (.int i) .nil .nil) .nil)) (.nd .bot (.nd (v4) .nil .nil) (.nd (.ptr s6 0) (.nd (.int (-1)) .nil .nil) .nil)))) (fun l h=>by cases h) (by simp[FT.Le,Wk]) (HWk.refl _) (fun h=>h) ?_
 refine qrU hI i o hg hl n _ fun n2 z10 z42 z43 z44 z45 z46 z47 z48 z49 z50 hn2=>?_
 obtain⟨g1,g2⟩:=qmG (q:=q) (lev:=i) hI.hc 302 hl hg
 simp(disch:=omega)[qi (show i<2^62 by omega)]
 exact⟨⟨i+1,n2,jK q i l 302 o⟩,by dsimp only;omega,⟨by dsimp only;omega,by dsimp only;omega,by dsimp only;rw[show S.length+1 - (i+1)=d by omega];exact hf,g2,g1⟩,by simp[FT.Le,Wk],HWk.refl _,fun h=>h⟩
end
theorem qoz:∀(base out:List Atom),(base.foldl zm out).length<=out.length+base.length/\∀x∈base.foldl zm out,x∈out\/x∈base
 |[],out=>⟨by simp,fun x hx=>.inl hx⟩
 |a::r,out=>by
  obtain⟨h1,h2⟩:=qoz r (zm out a)
  have hp:=qeX out a
  rw[List.foldl_cons,List.length_cons]
  refine⟨by omega,fun x hx=>?_⟩
  rcases h2 x hx with h|h
  ·rcases qdU h with h|h
   ·exact .inl h
   ·exact .inr (by rw[h];exact List.mem_cons_self)
  ·exact .inr (List.mem_cons_of_mem _ h)
def zO(l:List qf)(base:List Atom):Int:=if zp l (zk l) base≠0 then zp l (zk l) base else match zk l with
 |none=>81
 |some q=>if 300<(qbi q l base).length then 2 else 0
def zl(l:List qf)(base:List Atom):List Atom:=if zO l base≠0 then [] else match zk l with
 |none=>[]
 |some q=>qbi q l base
theorem qrW(l:List qf)(hl:qbv l)(h3:(qA l).1=0->∀c∈l,(qO c.body).length<=3)(base:List Atom)(ow:Own)(hb:base.length<2^63)(hok:base.length<=100->∀a∈base,a.ok)
  (hfind:(qA l).1=0->∀q,zk l=some q->∀c∈l,ofA c.head∈qu q) (H:qa) {kv kp:HP} (hk:∀n,H.next<=n->kv (.agg [.sl ((zl l base).map qd) .no,.int (zO l base)]) ⟨H.objs,n⟩):
  cP E0 F0 81 [qt l,.sl (base.map qd) ow] H kv kp:=by
 refine qah c81 fun hH=>⟨Nat.le_of_ble_eq_true rfl,?_⟩
 obtain⟨owS,hS⟩:=qld l hl
 obtain⟨N0,hN0⟩:∃N0,H.next=N0:=⟨_,rfl⟩
 obtain⟨ob,nx⟩:=H
 dsimp only at hN0 hk
 subst hN0
 have fin:∀(v:LV)(ob':List (Nat×qc))(m:Nat),nx<=m->(∀i,i<nx->look i ob'=look i ob)->Wk v (.agg [.sl ((zl l base).map qd) .no,.int (zO l base)])->∃v',Wk v v'/\∃H'',HWk ⟨ob',m⟩ H''/\(qa.Ok ⟨ob',m⟩->H''.Ok)/\kv v' H'':=fun v ob' m hm hold hw=>⟨_,hw,⟨ob,m⟩,vV hH hold (Nat.le_refl _),fun _=>qn.mono hH hm,hk m hm⟩
 have hgv:=qll l hl base ow hb hok
 simp(disch:=omega)[b81]
 refine hgv.go fun n1 hn1=>?_
 obtain⟨e,he0⟩:∃e,zp l (zk l) base=e:=⟨_,rfl⟩
 rw[he0]
 by_cases he:e=0
 case neg=>
  have eE:zO l base=e:=by unfold zO;rw[he0,if_pos he]
  have eL:zl l base=[]:=by unfold zl;rw[eE,if_pos he]
  rw[eE,eL]at fin
  simp(disch:=omega)[he,z7]
  exact fin _ _ _ (by omega) (fun i hi=>qe (by omega) _ _) (.inr (.inl rfl))
 subst he
 have hbz:=qqk l base
 have hc0:(qA l).1=0:=by
  unfold zp at he0
  by_cases h:(qA l).1=0
  ·exact h
  ·rw[if_pos h]at he0;exact he0
 obtain⟨q,hq⟩:∃q,zk l=some q:=by
  cases h:zk l with
  |none=>
   unfold zp at he0
   rw[if_neg (by omega),if_pos h]at he0
   cases he0
  |some q=>exact⟨q,rfl⟩
 have hSl:qdi l (zk l)=qH q:=by unfold qdi;rw[if_neg (by omega),hq];rfl
 have hSe:qbh l (zk l)=0:=by unfold qbh;rw[if_neg (by omega),if_neg (by rw[hq];simp)]
 rw[hSl,hSe]at hS
 have h100:base.length<=100:=by
  unfold zp at he0
  rw[if_neg (by omega),if_neg (by rw[hq];simp)]at he0
  by_cases h:100<base.length
  ·rw[if_pos h]at he0;cases he0
  ·omega
 have hall:base.all qK=true:=by
  unfold zp at he0
  rw[if_neg (by omega),if_neg (by rw[hq];simp),if_neg (by omega)]at he0
  cases h:base.all qK with
  |true=>rfl
  |false=>rw[h]at he0;simp at he0
 have hbg:∀a∈base,qI a:=fun a ha=>qkk.1 (List.all_eq_true.1 hall a ha)
 simp(disch:=omega)
 refine hS.go fun n2 hn2=>?_
 simp(disch:=omega)
 obtain⟨S,hSS⟩:∃S,qH q=S:=⟨_,rfl⟩
 have hSlen:S.length=q.length:=by rw[<-hSS,qbc]
 rw[hSS]at hS ⊢
 obtain⟨obC,hobC⟩:∃obC,(n2,qc.cells [.sl (S.map qD) owS,.int 0])::(nx,.cells [Nl,Z 0])::ob=obC:=⟨_,rfl⟩
 have hold:∀i,i<nx->look i obC=look i ob:=fun i hi=>by rw[<-hobC,qe (by omega),qe (by omega)]
 have hc4:look nx obC=some (.cells [Nl,Z 0]):=by rw[<-hobC,qe (by omega)];exact qp _ _ _
 have hgl:=qeh hc0
 have hpo:=qgB l
 have hql:q.length<2^40:=by
  have h1:=(qmM hc0 hq).len
  omega
 have hI:RmIn S owS q l obC n2:=by
  refine⟨(qfJ hc0).1,qhu hc0,h3 hc0,by omega,fun c hc=>?_,by rw[<-hobC];exact qp _ _ _⟩
  have hk:=hfind hc0 q hq c hc
  obtain⟨f1,f2,f3,_⟩:=qdr hk
  refine⟨uy (ofA c.head) q,⟨(ofA c.head).1,(ofA c.head).2,qm q (ofA c.head)⟩,by rw[<-hSS,f2];omega,?_,rfl⟩
  rw[<-hSS]
  unfold qH
  rw[List.getElem?_map,f3]
  rfl
 rw[hobC]
 obtain⟨out0,ho0⟩:∃out0,base.foldl zm []=out0:=⟨_,rfl⟩
 have hout0:=qoz base []
 rw[ho0]at hout0
 refine qy (σ:=NNRm) (fun p=>(.nd (qt l) (.nd (.sl (base.map qd) ow) (.nd .bot (.nd (.sl (p.out.map qd) .no) .nil .nil) .nil) .nil) (.nd .bot (.nd (.ptr nx 0) (.nd (.int p.i) .nil .nil) .nil) (.nd (.ptr n2 0) .nil .nil)))) (fun p=>⟨obC,p.n⟩) (fun p=>base.length - p.i)
  (fun p=>n2+1<=p.n/\p.i<=base.length/\(base.drop p.i).foldl zm p.out=out0/\(∀a∈p.out,qI a)/\p.out.length<=p.i) ⟨0,n2+1,[]⟩ ⟨Nat.le_refl _,Nat.zero_le _,ho0,(fun a ha=>by cases ha),Nat.le_refl _⟩ (by simp[FT.Le,Wk,LV.strip,stripL]) ⟨HWk.refl _,fun h=>h⟩ ?_
 rintro⟨i,n3,o⟩ ⟨hn3,hi,hf,hg,hlen⟩ hok3
 dsimp only at hn3 hi hf hg hlen hok3
 by_cases hlt:i<base.length
 case pos=>
  rw[List.drop_eq_getElem_cons hlt,List.foldl_cons]at hf
  have hbi:=hbg _ (List.getElem_mem hlt)
  simp(disch:=omega)[hlt]
  refine qle o .no base[i] (by omega) (fun x hx=>wX (hg x hx).1) (wX hbi.1) _ fun n4 hn4=>?_
  dsimp only at hn4
  have hpl:=qeX o base[i]
  simp(disch:=omega)[qi (show i<2^62 by omega)]
  exact⟨⟨i+1,n4,zm o base[i]⟩,by dsimp only;omega,⟨by dsimp only;omega,by dsimp only;omega,hf,fun a ha=>by
   rcases qdU ha with h|h
   ·exact hg a h
   ·rw[h];exact hbi,by dsimp only;omega⟩,by simp[FT.Le,Wk],HWk.refl _,fun h=>h⟩
 obtain rfl:i=base.length:=by omega
 rw[List.drop_eq_nil_of_le (Nat.le_refl _)]at hf
 have ho2:o=out0:=hf
 subst ho2
 simp(disch:=omega)
 refine vh (t':=(.nd (qt l) (.nd .bot (.nd .bot (.nd (.sl (o.map qd) .no) .nil .nil) .nil) (.nd .bot (.nd (.int 0) .nil .nil) .nil)) (.nd .bot (.nd (.ptr nx 0) .nil .nil) (.nd (.ptr n2 0) .nil .nil)))) (fun l h=>by cases h) (by simp[FT.Le,Wk]) (HWk.refl _) (fun h=>h) ?_
 refine qrI hI o hg (by omega) n3 _ fun n4 z9 z35 z36 z37 z38 z39 hn4=>?_
 obtain⟨M,hM⟩:∃M,qan q l (S.length+1) 0 o=M:=⟨_,rfl⟩
 have hMr:qbi q l base=M:=by unfold qbi;rw[ho0,<-hSlen];exact hM
 rw[hM]
 by_cases h300:300<M.length
 ·have h300':(300:Int)<(M.length:Int):=by omega
  have eE:zO l base=2:=by
   unfold zO
   rw[he0,if_neg (by simp),hq]
   simp only
   rw[hMr,if_pos h300]
  have eL:zl l base=[]:=by unfold zl;rw[eE,if_pos (by decide)]
  rw[eE,eL]at fin
  simp(disch:=omega)[h300',hc4,z7]
  rw[vI hc4]
  simp(disch:=omega)
  exact fin _ _ _ (by omega) (fun i hi=>by rw[vS (by omega)];exact hold i hi) (.inr (.inl rfl))
 ·have h300':¬(300:Int)<(M.length:Int):=by omega
  have eE:zO l base=0:=by
   unfold zO
   rw[he0,if_neg (by simp),hq]
   simp only
   rw[hMr,if_neg h300]
  have eL:zl l base=M:=by unfold zl;rw[eE,if_neg (by simp),hq];exact hMr
  rw[eE,eL]at fin
  simp(disch:=omega)[h300',hc4,z7]
  rw[vI hc4]
  simp(disch:=omega)
  exact fin _ _ _ (by omega) (fun i hi=>by rw[vS (by omega)];exact hold i hi) (.inl rfl)
end Go.Abs.Tz
namespace Go.Abs.Tz
open Go Go.Abs Go.Proofs
structure qfT(l:List qf)(R:Option (List (PK×Int)))(base:List Atom):Prop where
 err:zW l R base=zO l base
 row:zW l R base=0->∀B,qqA (qab l R base) B->B=zl l base
 has:zW l R base=0->∀a,qM a=true->zn (qG a) (qab l R base)=ws (zl l base) a
 good:∀a∈zl l base,qI a
 len:(zl l base).length<=300
theorem qxX{l:List qf}{R:Option (List (PK×Int))}{base:List Atom}(h:(R=none↔zk l=none)\/(qA l).1≠0):zp l R base=zp l (zk l) base:=by
 unfold zp
 by_cases hc:(qA l).1≠0
 ·rw[if_pos hc,if_pos hc]
 ·rw[if_neg hc,if_neg hc]
  rcases h with h|h
  ·by_cases hR:R=none
   ·rw[if_pos hR,if_pos (h.1 hR)]
   ·rw[if_neg hR,if_neg (fun e=>hR (h.2 e))]
  ·exact absurd h hc
theorem qxW{l:List qf}{R:Option (List (PK×Int))}{base:List Atom}(h:zp l R base=0):(qA l).1=0/\R≠none/\base.length<=100/\∀a∈base,qI a:=by
 unfold zp at h
 by_cases hc:(qA l).1≠0
 ·rw[if_pos hc]at h;exact absurd h hc
 rw[if_neg hc]at h
 by_cases hR:R=none
 ·rw[if_pos hR]at h;cases h
 rw[if_neg hR]at h
 by_cases h1:100<base.length
 ·rw[if_pos h1]at h;cases h
 rw[if_neg h1]at h
 cases h2:base.all qK with
 |false=>rw[h2]at h;simp at h
 |true=>exact⟨by omega,hR,by omega,fun a ha=>qkk.1 (List.all_eq_true.1 h2 a ha)⟩
theorem qgL{l:List qf}{R:Option (List (PK×Int))}{base:List Atom}(h:zW l R base=zO l base)(hz:zW l R base≠0):qfT l R base:=by
 have e:zl l base=[]:=by unfold zl;rw[<-h,if_pos hz]
 exact⟨h,fun k=>absurd k hz,fun k=>absurd k hz,fun a ha=>(by rw[e]at ha;cases ha),by rw[e];simp⟩
theorem quW(l:List qf)(base:List Atom):∃fuel R,((qA l).1=0->wo l fuel (l.foldl y8 [])=some R)/\((qA l).1=0->∀m,R=some m->0<=uF 0 (m.map (·.2))/\uF 0 (m.map (·.2))<=2^30)/\qfT l R base:=by
 by_cases hc:(qA l).1=0
 case neg=>
  refine⟨0,none,fun h=>absurd h hc,fun h=>absurd h hc,?_⟩
  have e1:∀R:Option (List (PK×Int)),zp l R base=(qA l).1:=fun R=>by unfold zp;rw[if_pos hc]
  have e2:zW l none base=(qA l).1:=by unfold zW;rw[e1,if_pos hc]
  have e3:zO l base=(qA l).1:=by unfold zO;rw[e1,if_pos hc]
  exact qgL (by rw[e2,e3]) (by rw[e2];exact hc)
 obtain⟨fuel,R,hR,h⟩:=qjj l hc
 refine⟨fuel,R,fun _=>hR,fun _ m hm=>?_,?_⟩
 ·rcases h with⟨h,_⟩|⟨m',q,h1,_,h3,_⟩
  ·rw[h]at hm;cases hm
  ·rw[h1]at hm;cases hm
   have:=h3.max
   omega
 rcases h with⟨h1,h2⟩|⟨m,q,h1,h2,h3,h4,h5⟩
 ·have eb:zp l R base=zp l (zk l) base:=by rw[h1,h2]
  have e:zW l R base=zO l base:=by
   unfold zW zO
   rw[eb,h1,h2]
  refine qgL e ?_
  unfold zW
  by_cases hb:zp l R base≠0
  ·rw[if_pos hb];exact hb
  ·rw[if_neg hb,h1]
   show (81:Int)≠0
   decide
 ·have eb:zp l R base=zp l (zk l) base:=qxX (.inl ⟨fun e=>(by rw[h1]at e;cases e),fun e=>(by rw[h2]at e;cases e)⟩)
  by_cases hb:zp l R base≠0
  ·have e1:zW l R base=zp l R base:=by unfold zW;rw[if_pos hb]
   have e2:zO l base=zp l (zk l) base:=by unfold zO;rw[<-eb,if_pos hb]
   exact qgL (by rw[e1,e2,eb]) (by rw[e1];exact hb)
  have hb0:zp l R base=0:=by omega
  obtain⟨_,_,hbl,hbg⟩:=qxW hb0
  have hS:=quO h3 h4 (qhu hc) h5 hbg (by omega)
  have e2:zO l base=if 300<(qbi q l base).length then 2 else 0:=by
   unfold zO
   rw[<-eb,if_neg hb,h2]
  have e1:zW l R base=if (qbR m l base).isNone then 2 else 0:=by
   unfold zW
   rw[if_neg hb,h1]
  cases hd:qbR m l base with
  |none=>
   rw[hd]at hS e1
   have hS:300<(qbi q l base).length:=hS
   rw[if_pos hS]at e2
   have e1:zW l R base=2:=e1
   exact qgL (by rw[e1,e2]) (by rw[e1];decide)
  |some F=>
   rw[hd]at hS e1
   obtain⟨k1,k2,k3,k4,k5,k6⟩:=hS
   rw[if_neg (by omega)]at e2
   have e1:zW l R base=0:=e1
   have eF:qab l R base=F:=by unfold qab;rw[h1];simp[hd]
   have eL:zl l base=qbi q l base:=by
    unfold zl
    rw[e2,if_neg (by simp),h2]
   have hFo:∀s∈F,qM s.atom=true:=fun s hs=>(k5 _ ((k6 _).1 (List.mem_map.2 ⟨s,hs,rfl⟩))).1
   refine⟨by rw[e1,e2],fun _ B hB=>?_,fun _ a ha=>?_,fun a ha=>?_,by rw[eL];exact k2⟩
   ·rw[eF]at hB
    rw[eL]
    obtain⟨b1,b2⟩:=hB
    refine qna (le:=fun x y=>¬cmpA y x<0) (b1.trans ((List.perm_ext_iff_of_nodup k3.nodup k4.nodup).2 k6)) b2 (List.Pairwise.imp (fun{x y} h=>?_) k4) fun a _ b _ h1 h2=>?_
    ·rw[v8.anti x y];omega
    ·rw[v8.anti a b]at h1
     exact v8.zero.1 (by omega)
   ·rw[eF,eL]
    have h1:zn (qG a) F=true↔ws (qbi q l base) a=true:=by
     rw[qoi hFo ha,qgp,qoj]
     exact k6 a
    cases h:zn (qG a) F
    ·cases h':ws (qbi q l base) a
     ·rfl
     ·rw[h1.2 h']at h;cases h
    ·rw[h1.1 h]
   ·rw[eL]at ha
    exact k5 a ha
end Go.Abs.Tz
namespace Go.Abs.Tz
open Go Go.Abs Go.Proofs
structure ClosedM(l:List qf)(base:List Atom)(T:Atom->Prop):Prop where
 base:∀a∈base,T a
 good:∀a,T a->qI a
 step:∀c∈l,∀h,wH T c h->T h
theorem qpQ:∀(l:List qf)(i:Nat),(∀c∈l,zQ c)->(wa l i).1=0
 |[],_,_=>rfl
 |c::r,i,h=>by
  have hc:=h c List.mem_cons_self
  unfold wa
  rw[if_neg (by rw[hc.ok];simp),if_neg (by rw[hc.safe];simp)]
  exact qpQ r (i+1) fun d hd=>h d (List.mem_cons_of_mem _ hd)
end Go.Abs.Tz
namespace Go.Abs.Tz
open Go Go.Abs Go.Proofs
structure qv where
 id:Int
 fr:Int
 to:Int
 cls:List qf
def inF(y w:Int)(c:qv):Bool:=decide (c.fr<=y)&&(decide (y<=c.to)&&decide (c.id≠w))
def qB(l:List qv)(y w:Int):List qf:=l.flatMap fun c=>if inF y w c then c.cls else []
def vL(c:qv):Bool:=decide (1<=c.id/\c.id<=2^40)&&decide (0<=c.fr/\c.fr<=c.to/\c.to<=4000)
def qad:List qv->List qv->Nat->Int×Int
 |_,[],_=>(0,0)
 |P,c::r,i=>if vL c=false then (1,i) else if (P.any fun x=>decide (c.id<=x.id))=true then (6,i) else if (qA c.cls).1≠0 then ((qA c.cls).1,i) else qad (P++[c]) r (i+1)
def qfx(p:Option qv)(c:qv):Bool:=match p with
 |none=>false
 |some x=>decide (c.id<=x.id)
def qdw:Option qv->List qv->Nat->Int×Int
 |_,[],_=>(0,0)
 |p,c::r,i=>if vL c=false then (1,i) else if qfx p c=true then (6,i) else if (qA c.cls).1≠0 then ((qA c.cls).1,i) else qdw (some c) r (i+1)
def LastB(P:List qv)(p:Option qv):Prop:=match p with
 |none=>P=[]
 |some x=>x∈P/\∀y∈P,y.id<=x.id
theorem qoO:∀(r P:List qv)(p:Option qv)(i:Nat),LastB P p->qad P r i=qdw p r i
 |[],_,_,_,_=>rfl
 |c::r,P,p,i,h=>by
  have e:(P.any fun x=>decide (c.id<=x.id))=qfx p c:=by
   cases p with
   |none=>
    obtain rfl:P=[]:=h
    rfl
   |some x=>
    obtain⟨h1,h2⟩:=h
    rw[Bool.eq_iff_iff,List.any_eq_true]
    constructor
    ·rintro⟨y,hy,hc⟩
     have:=h2 y hy
     have hc:=of_decide_eq_true hc
     exact decide_eq_true (by omega)
    ·intro hc
     exact⟨x,h1,hc⟩
  unfold qad qdw
  by_cases h1:vL c=false
  ·rw[if_pos h1,if_pos h1]
  rw[if_neg h1,if_neg h1,<-e]
  by_cases h2:(P.any fun x=>decide (c.id<=x.id))=true
  ·rw[if_pos h2,if_pos h2]
  rw[if_neg h2,if_neg h2]
  by_cases h3:(qA c.cls).1≠0
  ·rw[if_pos h3,if_pos h3]
  rw[if_neg h3,if_neg h3]
  refine qoO r (P++[c]) (some c) (i+1) ⟨by simp,fun y hy=>?_⟩
  rcases List.mem_append.1 hy with hy|hy
  ·have hf:∀z∈P,¬c.id<=z.id:=fun z hz hc=>h2 (List.any_eq_true.2 ⟨z,hz,decide_eq_true hc⟩)
   have:=hf y hy
   omega
  ·rw[List.mem_singleton]at hy
   rw[hy]
   exact Int.le_refl _
structure qct(l:List qv):Prop where
 inc:l.Pairwise fun a b=>a.id<b.id
 ok:∀c∈l,vL c=true/\(qA c.cls).1=0
theorem qoP:∀(r P:List qv)(i:Nat),(qad P r i).1=0->qct P->qct (P++r)
 |[],P,_,_,h=>by simpa using h
 |c::r,P,i,h,hP=>by
  unfold qad at h
  by_cases h1:vL c=false
  ·rw[if_pos h1]at h;cases h
  rw[if_neg h1]at h
  by_cases h2:(P.any fun x=>decide (c.id<=x.id))=true
  ·rw[if_pos h2]at h;cases h
  rw[if_neg h2]at h
  by_cases h3:(qA c.cls).1≠0
  ·rw[if_pos h3]at h;exact absurd h h3
  rw[if_neg h3]at h
  have hf:∀z∈P,z.id<c.id:=fun z hz=>by
   have:¬c.id<=z.id:=fun hc=>h2 (List.any_eq_true.2 ⟨z,hz,decide_eq_true hc⟩)
   omega
  have:=qoP r (P++[c]) (i+1) h ⟨List.pairwise_append.2 ⟨hP.inc,by simp,fun a ha b hb=>by
   rw[List.mem_singleton]at hb
   rw[hb]
   exact hf a ha⟩,fun d hd=>by
   rcases List.mem_append.1 hd with hd|hd
   ·exact hP.ok d hd
   ·rw[List.mem_singleton]at hd
    rw[hd]
    exact⟨by simpa using h1,by omega⟩⟩
  rwa [List.append_assoc]at this
theorem qhi{l:List qv}(h:(qad [] l 0).1=0):qct l:=by
 have:=qoP l [] 0 h ⟨.nil,fun c hc=>by cases hc⟩
 simpa using this
def qbV(l:List qv):List Int->Int
 |[]=>0
 |y::r=>if 40<(qB l y 0).length then 2 else if (zk (qB l y 0)).isNone then 81 else qbV l r
def zI(l:List qv):List (Int×Int):=l.map fun c=>(c.fr,c.to)
def vN(l:List qv):Int×Int:=if 30<l.length then (2,0) else if (qad [] l 0).1≠0 then qad [] l 0 else (qbV l (vF 4000 (zI l)),0)
theorem qjb{l:List qv}{y w:Int}{c:qf}(h:c∈qB l y w):∃x∈l,c∈x.cls:=by
 obtain⟨x,hx,hc⟩:=List.mem_flatMap.1 h
 split at hc
 ·exact⟨x,hx,hc⟩
 ·cases hc
theorem qov{l:List qv}(h:qct l){y w:Int}(hl:(qB l y w).length<=40):(qA (qB l y w)).1=0:=by
 unfold qA
 rw[if_neg (by omega)]
 refine qpQ _ 0 fun c hc=>?_
 obtain⟨x,hx,hc⟩:=qjb hc
 exact qhu (h.ok x hx).2 c hc
def qeg(l:List qv)(i:Int):Bool:=l.any fun x=>decide (x.id=i)
def uP(l:List qv)(y:Int):Int:=if (vN l).1≠0 then (vN l).1 else if 0<=y/\y<=4000 then 0 else 1
def qgM(p:Int->Bool)(l:List Int)(a:Int):Int:=l.foldl (fun a y=>if p y then (if a<y then y else a) else a) a
def qeb(p:Int->Bool)(l:List Int)(a:Int):Int:=l.foldl (fun a y=>if p y then (if y<a then y else a) else a) a
def qmN(ys:List Int)(y:Int):Int:=qgM (fun x=>decide (x<=y)) ys 0
def qmO(ys:List Int)(y:Int):Int:=qeb (fun x=>decide (y<=x)) ((ys.filter fun x=>decide (y<x)).map fun x=>x - 1) 4000
end Go.Abs.Tz
namespace Go.Abs.Tz
open Go Go.Abs Go.Proofs
set_option maxRecDepth 20000
set_option linter.unusedSimpArgs false
attribute [local simp ↓] yb ya jv ju gI ut zg zB jr up yP yQ yc ye yf yd jA jD jG jB jH jI jE jF jC jy jw jz jx yN yL yO yM g7 gZ g8 g6 yk yh yj uu zx jL zh z7 gL yS yT yo yq yp ym yn yz jO jT jW jS jU jV gy gx j5 j7 jb uZ jm jp u9 jh jl jk jj ji jf uV uW uX uY jn jd je uT jo jq ja jc jg uU gb j6 gu gC j8 gj gt gq gp gk gh j0 gw gf gg jX gA gD j9 gd gi jY gG gz jZ gF ge ga gc j3 gv jP jR jQ yu yx yt yv yw qp uL
attribute [local simp] faL fdL iaL ixL qL zb qV eqK eqL qR zo uO yr yK yA yC yE yG yI yJ yB yF yD yH zC LV.cells LV.whole qp uC uw jM stL zF zR uq qa.alloc gJ gH gK gY gW gV gU gT gS gQ gO gN gM qe ux
theorem qga{n:Nat}(h:n+1<2^63):IntKind.wrap .i64 ((n:Int)+1)=((n+1:Nat):Int):=by
 rw[ui (by omega) (by omega)];omega
def qaO(x:Lit):Bool:=x.atom.small&&(decide (x.a.s.size<=40)&&decide (x.b.s.size<=40))
def qbq:List Lit->Nat
 |[]=>0
 |x::r=>(if x.kind=1 then 1 else 0)+qbq r
def qav(c:qf):Bool:=c.body.all qaO&&(c.head.small&&(decide (qbq c.body<=3)&&decide (c.body.length<=8)))
def qcz(mo:Nat)(l:List qf):Bool:=if 40<l.length then true else if l.all qav then decide (l.length<=mo) else false
theorem qpC:∀l:List Lit,qbq l<=l.length
 |[]=>Nat.le_refl _
 |x::r=>by
  have:=qpC r
  simp only[qbq,List.length_cons]
  split<;>omega
structure NNCq where
 i:Nat
 n:Nat
 c:Nat
theorem qrz(mo:Nat)(hmo:mo<=100)(l:List qf)(hb:∀c∈l,c.body.length<2^63):qg 15 [qt l,.int mo] (.bool (qcz mo l)):=by
 refine qg.of c15 fun H hH=>⟨Nat.le_of_ble_eq_true rfl,?_⟩
 by_cases h1:(40:Int)<(l.length:Int)
 ·simp(disch:=omega)[b15,h1]
  exact qh hH (by simp[qcz,show 40<l.length by omega])
 have hl40:l.length<=40:=by omega
 simp(disch:=omega)[b15,h1]
 obtain⟨A,hA⟩:∃A,l.all qav=A:=⟨_,rfl⟩
 have hB:qcz mo l=if A then decide (l.length<=mo) else false:=by unfold qcz;rw[if_neg (by omega),hA]
 obtain⟨Vv,hVv⟩:∃Vv,(if A then decide (l.length<=mo) else false)=Vv:=⟨_,rfl⟩
 rw[hB,hVv]
 refine qy (σ:=NN) (fun q=>(.nd (qt l) (.nd (.int mo) .nil (.nd (.int q.i) .nil .nil)) (.nd .bot (.nd (.bool false) .nil .nil) .nil))) (fun q=>⟨H.objs,q.n⟩) (fun q=>l.length - q.i)
  (fun q=>H.next<=q.n/\q.i<=l.length/\(l.drop q.i).all qav=A) ⟨0,H.next⟩ ⟨Nat.le_refl _,Nat.zero_le _,hA⟩ (by simp[FT.Le,Wk]) ⟨HWk.refl _,fun h=>h⟩ ?_
 rintro⟨i,n⟩ ⟨hn,hi,he⟩ hok
 simp only at hn hi he
 by_cases hlt:i<l.length
 case neg=>
  obtain rfl:i=l.length:=by omega
  rw[List.drop_eq_nil_of_le (Nat.le_refl _),List.all_nil]at he
  simp(disch:=omega)
  refine qcE hH ?_ (by first|exact ql.refl' _|(repeat (first|exact ql.refl (by first|omega|(dsimp only;omega))|refine ql.cons' hH (by first|omega|(dsimp only;omega)) (by first|omega|(dsimp only;omega)) ?_)))
  rw[<-hVv,<-he]
  simp
 rw[qaC qav hlt]at he
 have hbl:=hb _ (ub hlt)
 obtain⟨D,hD⟩:∃D,l[i].body.all qaO=D:=⟨_,rfl⟩
 obtain⟨M,hM⟩:∃M,qbq l[i].body=M:=⟨_,rfl⟩
 have hC:qav l[i]=(D&&(l[i].head.small&&(decide (M<=3)&&decide (l[i].body.length<=8)))):=by unfold qav;rw[hD,hM]
 rw[hC]at he
 have hML:M<=l[i].body.length:=by rw[<-hM];exact qpC _
 simp(disch:=omega)[hlt]
 refine qy (σ:=NNCq) (fun q=>(.nd (qt l) (.nd (.int mo) (.nd .bot (.nd (.int q.i) .nil .nil) .nil) (.nd (.int i) .nil .nil)) (.nd .bot (.nd (.bool false) .nil .nil) (.nd (.int q.c) .nil .nil)))) (fun q=>⟨H.objs,q.n⟩) (fun q=>l[i].body.length - q.i)
  (fun q=>H.next<=q.n/\q.i<=l[i].body.length/\q.c+qbq (l[i].body.drop q.i)=M/\(l[i].body.drop q.i).all qaO=D) ⟨0,n,0⟩ ⟨hn,Nat.zero_le _,by simpa using hM,hD⟩ (by simp[FT.Le,Wk]) ⟨HWk.refl _,fun h=>h⟩ ?_
 rintro⟨j,n2,cn⟩ ⟨hn2,hj,hcn,he2⟩ hok2
 dsimp only at hn2 hj hcn he2
 by_cases hlt2:j<l[i].body.length
 case neg=>
  rw[List.drop_eq_nil_of_le (by omega)]at hcn he2
  simp only[qbq,List.all_nil,Nat.add_zero]at hcn he2
  subst hcn
  subst he2
  rw[Bool.true_and]at he
  simp(disch:=omega)[hlt,hlt2]
  refine(qgi l[i].head).go fun n3 hn3=>?_
  cases hs:l[i].head.small
  ·rw[hs,Bool.false_and,Bool.false_and]at he
   simp(disch:=omega)
   exact qh hH (by simp[<-hVv,<-he])
  rw[hs,Bool.true_and]at he
  by_cases h3:cn<=3
  case neg=>
   have h3':(3:Int)<(cn:Int):=by omega
   have h3n:3<cn:=by omega
   simp only[h3,decide_false,Bool.false_and]at he
   simp(disch:=omega)[h3',h3n]
   exact qh hH (by simp[<-hVv,<-he])
  have h3':¬(3:Int)<(cn:Int):=by omega
  have h3n:¬3<cn:=by omega
  by_cases h8:l[i].body.length<=8
  case neg=>
   have h8':(8:Int)<(l[i].body.length:Int):=by omega
   have h8n:8<l[i].body.length:=by omega
   simp only[h3,h8,decide_false,Bool.and_false,Bool.false_and]at he
   simp(disch:=omega)[h3',h3n,h8',h8n,hlt]
   exact qh hH (by simp[<-hVv,<-he])
  have h8':¬(8:Int)<(l[i].body.length:Int):=by omega
  have h8n:¬8<l[i].body.length:=by omega
  simp only[h3,h8,decide_true,Bool.and_true,Bool.true_and]at he
  simp(disch:=omega)[h3',h3n,h8',h8n,hlt,qi (show i<2^62 by omega)]
  exact⟨⟨i+1,n3⟩,by dsimp only;omega,⟨by dsimp only;omega,by dsimp only;omega,he⟩,by simp[FT.Le,Wk],HWk.refl _,fun h=>h⟩
 rw[qaC qaO hlt2]at he2
 rw[List.drop_eq_getElem_cons hlt2]at hcn
 simp only[qbq]at hcn
 have hdone:qaO l[i].body[j]=false->Vv=false:=by
  intro h
  rw[<-hVv]
  rw[h,Bool.false_and]at he2
  rw[<-he2,Bool.false_and,Bool.false_and]at he
  rw[<-he];rfl
 have hnext:qaO l[i].body[j]=true->(l[i].body.drop (j+1)).all qaO=D:=by
  intro h
  rw[h,Bool.true_and]at he2
  exact he2
 have hcnj:∃cn2:Nat,(if l[i].body[j].kind=1 then IntKind.wrap .i64 ((cn:Int)+1) else (cn:Int))=(cn2:Int)/\cn2+qbq (l[i].body.drop (j+1))=M:=by
  by_cases hk:l[i].body[j].kind=1
  ·rw[if_pos hk]at hcn ⊢
   exact⟨cn+1,qga (by omega),by omega⟩
  ·rw[if_neg hk]at hcn ⊢
   exact⟨cn,rfl,by omega⟩
 obtain⟨cn2,hc1,hc2⟩:=hcnj
 have hback:∀(x:qc)(n':Nat),H.next<=n'->H.next<=n2->HWk ⟨(n2,x)::H.objs,n'⟩ ⟨H.objs,n'⟩/\(qa.Ok ⟨(n2,x)::H.objs,n'⟩->qa.Ok ⟨H.objs,n'⟩):=fun x n' h1 h2=>zK hH (ql.cons' hH h2 h1 (ql.refl (Nat.le_refl _)))
 by_cases hk:l[i].body[j].kind=1
 all_goals
  first|rw[if_pos hk]at hc1|rw[if_neg hk]at hc1
  simp(disch:=omega)[hlt,hlt2,hk]
  refine(qgi l[i].body[j].atom).go fun n3 hn3=>?_
  cases hs:l[i].body[j].atom.small
  ·have:=hdone (by unfold qaO;rw[hs];rfl)
   simp(disch:=omega)
   exact qh hH (by simp[this])
  by_cases ha:(40:Int)<(l[i].body[j].a.s.size:Int)
  ·have:=hdone (by
    unfold qaO
    rw[hs,show decide (l[i].body[j].a.s.size<=40)=false from decide_eq_false (by omega)];rfl)
   simp(disch:=omega)[ha]
   exact qh hH (by simp[this])
  by_cases hb2:(40:Int)<(l[i].body[j].b.s.size:Int)
  ·have:=hdone (by
    unfold qaO
    rw[hs,show decide (l[i].body[j].b.s.size<=40)=false from decide_eq_false (by omega),Bool.and_false];rfl)
   simp(disch:=omega)[ha,hb2]
   exact qh hH (by simp[this])
  have:=hnext (by
   unfold qaO
   rw[hs,show decide (l[i].body[j].a.s.size<=40)=true from decide_eq_true (by omega),show decide (l[i].body[j].b.s.size<=40)=true from decide_eq_true (by omega)];rfl)
  simp(disch:=omega)[ha,hb2,hc1,qga (show j+1<2^63 by omega)]
  exact⟨⟨j+1,n3,cn2⟩,by dsimp only;omega,⟨by dsimp only;omega,by dsimp only;omega,hc2,this⟩,by simp[FT.Le,Wk,hc1],hback _ _ (by first|omega|(dsimp only at hn3 ⊢;omega)) (by omega)⟩
theorem qlX{c:qf}(h:qav c=true):qf.ok3 c:=by
 unfold qav at h
 simp only[Bool.and_eq_true,decide_eq_true_iff,List.all_eq_true]at h
 obtain⟨h1,h2,h3,h4⟩:=h
 have hb:∀x∈c.body,x.atom.ok/\x.a.s.size<=40/\x.b.s.size<=40:=fun x hx=>by
  have:=h1 x hx
  unfold qaO at this
  simp only[Bool.and_eq_true,decide_eq_true_iff]at this
  exact⟨Atom.small_ok this.1,this.2.1,this.2.2⟩
 exact⟨⟨Atom.small_ok h2,by omega,fun x hx=>⟨(hb x hx).1,by have:=(hb x hx).2.1;unfold Term.ok;omega,by have:=(hb x hx).2.2;unfold Term.ok;omega⟩⟩,⟨Atom.small_ok h2,by omega,fun x hx=>(hb x hx).1⟩⟩
def qcA(l:List Atom):Bool:=if 100<l.length then true else if l.all Atom.small then decide (l.length<=12) else false
theorem qrA(l:List Atom)(hl:l.length<2^63):qg 20 [.sl (l.map qd) .no] (.bool (qcA l)):=by
 refine qg.of c20 fun H hH=>⟨Nat.le_of_ble_eq_true rfl,?_⟩
 by_cases h1:(100:Int)<(l.length:Int)
 ·simp(disch:=omega)[b20,h1]
  exact qh hH (by simp[qcA,show 100<l.length by omega])
 have hl100:l.length<=100:=by omega
 simp(disch:=omega)[b20,h1]
 obtain⟨A,hA⟩:∃A,l.all Atom.small=A:=⟨_,rfl⟩
 have hB:qcA l=if A then decide (l.length<=12) else false:=by unfold qcA;rw[if_neg (by omega),hA]
 obtain⟨Vv,hVv⟩:∃Vv,(if A then decide (l.length<=12) else false)=Vv:=⟨_,rfl⟩
 rw[hB,hVv]
 refine qy (σ:=NN) (fun q=>(.nd (.sl (l.map qd) .no) (.nd .bot (.nd (.int q.i) .nil .nil) .nil) (.nd (.bool false) .nil .nil))) (fun q=>⟨H.objs,q.n⟩) (fun q=>l.length - q.i)
  (fun q=>H.next<=q.n/\q.i<=l.length/\(l.drop q.i).all Atom.small=A) ⟨0,H.next⟩ ⟨Nat.le_refl _,Nat.zero_le _,hA⟩ (by simp[FT.Le,Wk]) ⟨HWk.refl _,fun h=>h⟩ ?_
 rintro⟨i,n⟩ ⟨hn,hi,he⟩ hok
 simp only at hn hi he
 by_cases hlt:i<l.length
 case neg=>
  obtain rfl:i=l.length:=by omega
  rw[List.drop_eq_nil_of_le (Nat.le_refl _),List.all_nil]at he
  simp(disch:=omega)
  refine qcE hH ?_ (by first|exact ql.refl' _|(repeat (first|exact ql.refl (by first|omega|(dsimp only;omega))|refine ql.cons' hH (by first|omega|(dsimp only;omega)) (by first|omega|(dsimp only;omega)) ?_)))
  rw[<-hVv,<-he]
  simp
  try omega
 rw[qaC Atom.small hlt]at he
 simp(disch:=omega)[hlt]
 refine(qgi l[i]).go fun n3 hn3=>?_
 cases hs:l[i].small
 ·rw[hs,Bool.false_and]at he
  simp(disch:=omega)
  exact qh hH (by simp[<-hVv,<-he])
 rw[hs,Bool.true_and]at he
 simp(disch:=omega)[qi (show i<2^62 by omega)]
 exact⟨⟨i+1,n3⟩,by dsimp only;omega,⟨by dsimp only;omega,by dsimp only;omega,he⟩,by simp[FT.Le,Wk],HWk.refl _,fun h=>h⟩
theorem qlb(l:List Atom)(o1 o2:Own)(hl:l.length<2^60)(ho:∀a∈l,a.ok):qg 27 [.sl (l.map qd) o1,.sl (l.map qd) o2] (.bool true):=by
 refine qg.of c27 fun H hH=>⟨Nat.le_of_ble_eq_true rfl,?_⟩
 simp(disch:=omega)[b27]
 refine qy (σ:=NN) (fun q=>(.nd (.sl (l.map qd) o1) (.nd (.sl (l.map qd) o2) .nil (.nd (.int q.i) .nil .nil)) .nil)) (fun q=>⟨H.objs,q.n⟩) (fun q=>l.length - q.i)
  (fun q=>H.next<=q.n/\q.i<=l.length) ⟨0,H.next⟩ ⟨Nat.le_refl _,Nat.zero_le _⟩ (by simp[FT.Le,Wk]) ⟨HWk.refl _,fun h=>h⟩ ?_
 rintro⟨i,n⟩ ⟨hn,hi⟩ hok
 simp only at hn hi
 by_cases hlt:i<l.length
 case neg=>
  obtain rfl:i=l.length:=by omega
  simp(disch:=omega)
  exact qh hH (by simp[])
 have hao:=ho _ (List.getElem_mem hlt)
 simp(disch:=omega)[hlt]
 refine(qlp l[i] l[i] hao hao).go fun n3 hn3=>?_
 simp(disch:=omega)[v8.refl l[i],qi (show i<2^62 by omega)]
 exact⟨⟨i+1,n3⟩,by dsimp only;omega,⟨by dsimp only;omega,by dsimp only;omega⟩,by simp[FT.Le,Wk],HWk.refl _,fun h=>h⟩
structure NNWi where
 i:Nat
 n:Nat
 is:Bool
theorem qpZ{f:FuncId}{a a' b b':LV}{H H':qa}{kv kp:HP}(hw:Wk a a')(hw2:Wk b b')(hh:HWk H H')(hok:H.Ok->H'.Ok)(h:cP E0 F0 f [a',b'] H' kv kp):cP E0 F0 f [a,b] H kv kp:=fun hH=>
 .weakArgs (args':=[a',b']) rfl (fun i=>by
  match i with
  |0=>exact hw
  |1=>exact hw2
  |n+2=>exact .inl rfl) hh (h (hok hH))
theorem qlR(l:List qf)(ow:Own):Wk (.sl (l.map uH) ow) (qt l):=by
 refine .inr (.inl ?_)
 simp[LV.strip,stripL,qba,List.map_map,Function.comp_def]
theorem qht(l:List qf):((l.map uH).all fun e=>e.cells.length==3)=true:=by
 rw[List.all_eq_true]
 intro e he
 obtain⟨c,_,rfl⟩:=List.mem_map.1 he
 rfl
abbrev qfH(c:qv):List LV:=[.int c.id,.int c.fr,.int c.to,qt c.cls]
abbrev qY(c:qv):LV:=.agg (qfH c)
theorem zP.mono{H:qa}{sz len:Nat}{own:Own}{ob:List (Nat×qc)}{n m:Nat}(h:zP H sz len own ob n)(hm:n<=m):zP H sz len own ob m:=by
 rcases h with⟨h1,h2,h3⟩|⟨t,h1,h2,h3,h4⟩
 ·exact .inl ⟨h1,h2,by omega⟩
 ·exact .inr ⟨t,h1,h2,by omega,h4⟩
theorem qiv{H:qa}(hH:H.Ok){sz:Nat}{es Y:List LV}{own:Own}{ob:List (Nat×qc)}{n m k:Nat}{cs:qc}(hsz:0<sz/\sz<=2^10)(hes:(es.all fun e=>e.cells.length==sz)=true)(hY:(Y.all fun e=>e.cells.length==sz)=true)
  (hl:es.length+Y.length<=2^30) (h:zP H sz es.length own ob n) (hm:n<=m) (hk:m<k):
  ∃own' ob' ob2 n',(∀ow,apL ⟨(m,cs)::ob,k⟩ sz (.sl es own) (.sl Y ow)=some (.sl (es++Y) own',⟨ob',n'⟩))/\zP H sz (es.length+Y.length) own' ob2 n'/\k<=n'/\HWk ⟨ob',n'⟩ ⟨ob2,n'⟩/\(qa.Ok ⟨ob',n'⟩->qa.Ok ⟨ob2,n'⟩):=by
 rcases h with⟨rfl,rfl,h⟩|⟨t,rfl,h1,h2,rfl⟩
 ·have hD:qn H.objs m:=qn.mono hH (by omega)
  refine⟨.tok k,(k,.tok (es.length+Y.length) sz)::(m,cs)::H.objs,(k,.tok (es.length+Y.length) sz)::H.objs,k+1,fun ow=>?_,.inr ⟨k,rfl,by omega,Nat.lt_succ_self _,rfl⟩,Nat.le_succ _,qcJ hD fun _ _ h=>h,fun _=>⟨Nat.lt_succ_self _,hD.mono (by omega)⟩⟩
  unfold apL
  simp only
  rw[hes,hY]
  simp only[Bool.and_self,if_true]
  rw[if_pos ⟨hl,hsz.2,rfl⟩]
  rfl
 ·have hD:qn ((t,qc.tok (es.length+Y.length) sz)::H.objs) m:=⟨by omega,qn.mono hH h1⟩
  refine⟨.tok t,(m,cs)::(t,.tok (es.length+Y.length) sz)::H.objs,(t,.tok (es.length+Y.length) sz)::H.objs,k,fun ow=>?_,.inr ⟨t,rfl,h1,by omega,rfl⟩,Nat.le_refl _,y9 hD (Nat.le_refl _),fun _=>hD.mono (by dsimp only;omega)⟩
  have hlk:look t ((m,cs)::(t,.tok es.length sz)::H.objs)=some (.tok es.length sz):=by rw[qe (by omega)];exact qp _ _ _
  have hcan:vd ⟨(m,cs)::(t,.tok es.length sz)::H.objs,k⟩ sz (.tok t) es.length=true:=by
   have:sz≠0:=by omega
   simp[vd,hlk,this]
  unfold apL
  simp only
  rw[hes,hY]
  simp only[Bool.and_self,if_true]
  rw[if_pos ⟨hl,hsz.2,hcan⟩]
  have hp:qx t (.tok (es.length+Y.length) sz) ((m,cs)::(t,.tok es.length sz)::H.objs)=(m,cs)::(t,.tok (es.length+Y.length) sz)::H.objs:=by
   rw[ux (by omega),uw]
  simp only[qa.put,hp]
theorem zP.keep{H:qa}(hH:H.Ok){sz len:Nat}{own:Own}{ob:List (Nat×qc)}{n m:Nat}(h:zP H sz len own ob n):HWk ⟨ob,m⟩ ⟨H.objs,m⟩:=by
 refine⟨Nat.le_refl _,fun i x hx=>?_⟩
 have:=hH.look hx
 show look i ob=some x
 rw[h.old.2 i this]
 exact hx
theorem qoe(y w:Int)(c:qv):inF y w c=((decide (c.fr<=y)&&decide (y<=c.to))&&decide (c.id≠w)):=by
 unfold inF
 rw[Bool.and_assoc]
structure NNcF where
 i:Nat
 n:Nat
 es:List qf
 own:Own
 ob:List (Nat×qc)
theorem qox{l:List qv}{i:Nat}(h:i<l.length)(y w:Int):qB (l.drop i) y w=(if inF y w l[i] then l[i].cls else [])++qB (l.drop (i+1)) y w:=by
 rw[List.drop_eq_getElem_cons h]
 rfl
theorem qeP(l:List qv)(own:Own)(y w:Int)(hl:l.length<=2^20)(hF:(qB l y w).length<=2^20):qg 69 [.sl (l.map qY) own,.int y,.int w] (qt (qB l y w)):=by
 intro H kv kp hk
 refine qah c69 fun hH=>⟨Nat.le_of_ble_eq_true rfl,?_⟩
 simp(disch:=omega)[b69]
 obtain⟨L,hL⟩:∃L,qB l y w=L:=⟨_,rfl⟩
 rw[hL]at hF hk
 refine qy (σ:=NNcF) (fun q=>(.nd .bot (.nd (.int y) (.nd .bot (.nd (.sl (q.es.map uH) q.own) .nil .nil) (.nd (.int l.length) .nil .nil)) .nil) (.nd (.int w) (.nd .bot .nil (.nd (.int q.i) .nil .nil)) (.nd .bot (.nd (.sl (l.map qY) own) .nil .nil) .nil)))) (fun q=>⟨q.ob,q.n⟩) (fun q=>l.length - q.i)
  (fun q=>zP H 3 q.es.length q.own q.ob q.n/\H.next<=q.n/\q.i<=l.length/\q.es++qB (l.drop q.i) y w=L) ⟨0,H.next,[],.full,H.objs⟩ ⟨.inl ⟨rfl,rfl,Nat.le_refl _⟩,Nat.le_refl _,Nat.zero_le _,hL⟩ (by simp[FT.Le,Wk]) ⟨HWk.refl _,fun h=>h⟩ ?_
 rintro⟨i,n,es,ow,ob⟩ ⟨hr,hn,hi,he⟩ hok
 dsimp only at hr hn hi he hok
 by_cases hlt:i<l.length
 case neg=>
  rw[List.drop_eq_nil_of_le (by omega)]at he
  have he2:es=L:=by simpa [qB] using he
  subst he2
  simp(disch:=omega)[hlt]
  exact⟨qt es,qlR es ow,⟨H.objs,n⟩,hr.keep hH,fun _=>qn.mono hH hn,hk n hn⟩
 rw[qox hlt]at he
 have hel:es.length<=2^20:=by
  have:=congrArg List.length he
  rw[List.length_append]at this
  omega
 simp(disch:=omega)[hlt]
 refine(qeK y l[i].fr l[i].to).go fun n2 hn2=>?_
 obtain⟨B,hB⟩:∃B,(decide (l[i].fr<=y)&&decide (y<=l[i].to))=B:=⟨_,rfl⟩
 have hin:=qoe y w l[i]
 rw[hB]at hin ⊢
 cases B
 ·rw[Bool.false_and]at hin
  rw[hin,if_neg (by simp),List.nil_append]at he
  simp(disch:=omega)[qi (show i<2^62 by omega)]
  exact⟨⟨i+1,n2,es,ow,ob⟩,by dsimp only;omega,⟨hr.mono (by dsimp only;omega),by dsimp only;omega,by dsimp only;omega,he⟩,by simp[FT.Le,Wk],y9 hok (Nat.le_refl _),fun _=>qn.mono hok (by dsimp only;omega)⟩
 rw[Bool.true_and]at hin
 by_cases hid:l[i].id=w
 ·rw[hid]at hin
  have hin:inF y w l[i]=false:=by simpa using hin
  rw[hin,if_neg (by simp),List.nil_append]at he
  simp(disch:=omega)[hid,qi (show i<2^62 by omega)]
  exact⟨⟨i+1,n2,es,ow,ob⟩,by dsimp only;omega,⟨hr.mono (by dsimp only;omega),by dsimp only;omega,by dsimp only;omega,he⟩,by simp[FT.Le,Wk],y9 hok (Nat.le_refl _),fun _=>qn.mono hok (by dsimp only;omega)⟩
 have hin:inF y w l[i]=true:=by simpa [hid] using hin
 rw[hin,if_pos rfl,<-List.append_assoc]at he
 simp(disch:=omega)[hid]
 refine qU ?_
 simp(disch:=omega)
 obtain⟨Y,hY⟩:∃Y,l[i].cls=Y:=⟨_,rfl⟩
 rw[hY]at he ⊢
 have hYl:es.length+Y.length<=2^20:=by
  have:=congrArg List.length he
  rw[List.length_append,List.length_append]at this
  omega
 obtain⟨own2,ob2,ob3,n3,e1,hr3,hn3,hw3,ho3⟩:=qiv (m:=n) (k:=n2) (cs:=.cells [.int l[i].id,.int l[i].fr,.int l[i].to,qt Y]) hH (sz:=3) (es:=es.map uH) (Y:=Y.map uH) (by omega) (qht es) (qht Y) (by rw[List.length_map,List.length_map];omega) (by rw[List.length_map];exact hr) (Nat.le_refl _) (by omega)
 rw[List.length_map,List.length_map]at hr3
 rw[e1]
 simp(disch:=omega)[qi (show i<2^62 by omega)]
 exact⟨⟨i+1,n3,es++Y,own2,ob3⟩,by dsimp only;omega,⟨by rw[List.length_append];exact hr3,by dsimp only;omega,by dsimp only;omega,he⟩,by simp[FT.Le,Wk],hw3,ho3⟩
theorem qeM(l:List qv)(own:Own)(y w:Int)(hl:l.length<=2^20)(hF:(qB l y w).length<=2^20):qg 76 [.sl (l.map qY) own,.int y,.int w] (qt (qB l y w)):=by
 intro H kv kp hk
 refine qah c76 fun hH=>⟨Nat.le_of_ble_eq_true rfl,?_⟩
 simp(disch:=omega)[b76]
 obtain⟨L,hL⟩:∃L,qB l y w=L:=⟨_,rfl⟩
 rw[hL]at hF hk
 refine qy (σ:=NNcF) (fun q=>(.nd (.sl (l.map qY) own) (.nd (.int y) (.nd .bot (.nd (.sl (q.es.map uH) q.own) .nil .nil) .nil) .nil) (.nd (.int w) (.nd .bot (.nd (.int q.i) .nil .nil) .nil) .nil))) (fun q=>⟨q.ob,q.n⟩) (fun q=>l.length - q.i)
  (fun q=>zP H 3 q.es.length q.own q.ob q.n/\H.next<=q.n/\q.i<=l.length/\q.es++qB (l.drop q.i) y w=L) ⟨0,H.next,[],.full,H.objs⟩ ⟨.inl ⟨rfl,rfl,Nat.le_refl _⟩,Nat.le_refl _,Nat.zero_le _,hL⟩ (by simp[FT.Le,Wk]) ⟨HWk.refl _,fun h=>h⟩ ?_
 rintro⟨i,n,es,ow,ob⟩ ⟨hr,hn,hi,he⟩ hok
 dsimp only at hr hn hi he hok
 by_cases hlt:i<l.length
 case neg=>
  rw[List.drop_eq_nil_of_le (by omega)]at he
  have he2:es=L:=by simpa [qB] using he
  subst he2
  simp(disch:=omega)[hlt]
  exact⟨qt es,qlR es ow,⟨H.objs,n⟩,hr.keep hH,fun _=>qn.mono hH hn,hk n hn⟩
 rw[qox hlt]at he
 have hel:es.length<=2^20:=by
  have:=congrArg List.length he
  rw[List.length_append]at this
  omega
 have hin:=qoe y w l[i]
 have none:inF y w l[i]=false->es++qB (l.drop (i+1)) y w=L:=fun h=>by
  rw[h,if_neg (by simp),List.nil_append]at he
  exact he
 by_cases h1:l[i].fr<=y
 case neg=>
  have hn1:=none (by rw[hin,decide_eq_false h1];rfl)
  simp(disch:=omega)[hlt,h1,qi (show i<2^62 by omega)]
  exact⟨⟨i+1,n,es,ow,ob⟩,by dsimp only;omega,⟨hr,by dsimp only;omega,by dsimp only;omega,hn1⟩,by simp[FT.Le,Wk],HWk.refl _,fun h=>h⟩
 by_cases h2:y<=l[i].to
 case neg=>
  have hn1:=none (by rw[hin,decide_eq_false h2,Bool.and_false];rfl)
  simp(disch:=omega)[hlt,h1,h2,qi (show i<2^62 by omega)]
  exact⟨⟨i+1,n,es,ow,ob⟩,by dsimp only;omega,⟨hr,by dsimp only;omega,by dsimp only;omega,hn1⟩,by simp[FT.Le,Wk],HWk.refl _,fun h=>h⟩
 by_cases hid:l[i].id=w
 ·have hn1:=none (by rw[hin,hid];simp)
  simp(disch:=omega)[hlt,h1,h2,hid,qi (show i<2^62 by omega)]
  exact⟨⟨i+1,n,es,ow,ob⟩,by dsimp only;omega,⟨hr,by dsimp only;omega,by dsimp only;omega,hn1⟩,by simp[FT.Le,Wk],HWk.refl _,fun h=>h⟩
 have hin:inF y w l[i]=true:=by rw[hin,decide_eq_true h1,decide_eq_true h2,decide_eq_true hid];rfl
 rw[hin,if_pos rfl,<-List.append_assoc]at he
 simp(disch:=omega)[hlt,h1,h2,hid]
 refine qU ?_
 simp(disch:=omega)
 have hYl:es.length+l[i].cls.length<=2^20:=by
  have:=congrArg List.length he
  rw[List.length_append,List.length_append]at this
  omega
 obtain⟨own2,ob2,n3,e1,hr3,hn3⟩:=vg (sz:=3) (es:=es.map uH) (Y:=l[i].cls.map uH) (by omega) (qht es) (qht _) (by rw[List.length_map,List.length_map];omega) (by rw[List.length_map];exact hr)
 rw[List.length_map,List.length_map]at hr3
 rw[e1]
 simp(disch:=omega)[qi (show i<2^62 by omega)]
 exact⟨⟨i+1,n3,es++l[i].cls,own2,ob2⟩,by dsimp only;omega,⟨by rw[List.length_append];exact hr3,by dsimp only;omega,by dsimp only;omega,he⟩,by simp[FT.Le,Wk],HWk.refl _,fun h=>h⟩
end Go.Abs.Tz
set_option maxRecDepth 100000
namespace Go.Abs.Tz
open Go Go.Abs Go.Proofs Go.Shelf Go.RowKit Go.Lib Go.Sort
theorem qpA:∀(l:List Int)(z:Int),ue (l++[z])=if l.getLast? = some z then ue l else ue l++[z]
 |[],z=>by simp[ue]
 |[x],z=>by
  simp only[List.cons_append,List.nil_append,ue,List.getLast?_singleton,Option.some.injEq]
  by_cases h:x=z<;>simp[h]
 |x::y::r,z=>by
  have ih:=qpA (y::r) z
  rw[List.cons_append]at ih
  simp only[List.cons_append,List.getLast?_cons_cons]
  unfold ue
  by_cases h:x=y
  ·rw[if_pos h,if_pos h]
   exact ih
  ·rw[if_neg h,if_neg h]
   rw[ih]
   split<;>simp
theorem qxl(zs:List Int):Lib.compact zs=ue zs:=by
 have key:∀m,m<=zs.length->compactUpTo zs.toArray m=ue (zs.take m):=by
  intro m
  induction m with
  |zero=>intro _;rfl
  |succ m ih=>
   intro hm
   have hlt:m<zs.length:=by omega
   have e1:zs.take (m+1)=zs.take m++[zs[m]]:=by rw[List.take_add_one,List.getElem?_eq_getElem hlt];rfl
   have e2:zs.toArray[m]! = zs[m]:=by rw[getElem!_pos zs.toArray m (by simpa using hlt)];simp
   rw[compactUpTo_succ,ih (by omega),e1,qpA,e2]
   cases m with
   |zero=>simp[keeps,ue]
   |succ k=>
    have e3:(zs.take (k+1)).getLast? = some zs[k]:=by
     rw[List.getLast?_eq_getElem?,List.length_take,Nat.min_eq_left (by omega)]
     rw[List.getElem?_take,if_pos (by omega),Nat.add_sub_cancel,List.getElem?_eq_getElem (by omega)]
    have e4:zs.toArray[k]! = zs[k]:=by rw[getElem!_pos zs.toArray k (by simp;omega)];simp
    rw[e3]
    unfold keeps
    rw[e2,Nat.add_sub_cancel,e4]
    by_cases h:zs[k]=zs[k+1]
    ·simp[h]
    ·have h':¬zs[k+1]=zs[k]:=fun e=>h e.symm
     simp[h,h']
 have:=key zs.length (Nat.le_refl _)
 rw[List.take_length]at this
 exact this
theorem qpB:∀l:List Int,(ue l).length<=l.length
 |[]=>Nat.le_refl _
 |[x]=>Nat.le_refl _
 |x::y::r=>by
  have ih:=qpB (y::r)
  unfold ue
  split
  ·simp only[List.length_cons]at ih ⊢;omega
  ·simp only[List.length_cons]at ih ⊢;omega
abbrev ve(A:List Int):qc:=.arr 1 (A.map LV.int)
section
variable{G:qb}{w:World}{H:qa}{o:Nat}{A:List Int}
theorem qoh(hI:Inv G w H)(hlo:look o H.objs=some (ve A)):Holds (Value.int .i64) w (G.loc o) 0 A.toArray:=by
 obtain⟨hob,vs,el,fz,c1,c2,c3,⟨d1,d2,d3⟩,c4,c5,c6⟩:=hI.objs o _ hlo
 intro j hj
 have hj':j<A.length:=by simpa using hj
 refine⟨?_,by rw[Nat.zero_add];exact c5 _⟩
 obtain⟨hv,_⟩:=c6 j (.int A[j]) (by rw[List.getElem?_map,List.getElem?_eq_getElem hj'];rfl)
 have hv:=hv.sc_inv
 have hjv:j<vs.size:=by
  have:(A.map LV.int).length=A.length:=List.length_map _
  omega
 unfold World.cell?
 rw[c1,Nat.zero_add]
 simp only[Array.getD_eq_getD_getElem?,Array.getElem?_eq_getElem hjv,Option.getD_some]at hv
 simp only[Array.getElem?_eq_getElem hjv,hv]
 rw[getElem!_pos A.toArray j hj]
 simp
theorem qkV(hI:Inv G w H)(hlo:look o H.objs=some (ve A)){B:List Int}(hB:B.length=A.length)(n:Nat)(os:Array Obj):
  Ext G w G (grow (putRow (Value.int .i64) (Sort.ahead w n) (G.loc o) 0 B.toArray) os)/\Inv G (grow (putRow (Value.int .i64) (Sort.ahead w n) (G.loc o) 0 B.toArray) os) (H.put o (ve B)):=by
 obtain⟨hob,vs,el,fz,c1,c2,c3,⟨d1,d2,d3⟩,c4,c5,c6⟩:=hI.objs o _ hlo
 have hlt:G.loc o<w.heap.size:=(Array.getElem?_eq_some_iff.1 c1).1
 have hml:∀C:List Int,(C.map LV.int).length=C.length:=fun C=>List.length_map _
 have hw1:(grow (putRow (Value.int .i64) (Sort.ahead w n) (G.loc o) 0 B.toArray) os).heap=(w.heap.modify (G.loc o) (onCells (putCells (Value.int .i64) 0 B.toArray)))++os:=rfl
 have hw2:∀k,k<w.heap.size->(grow (putRow (Value.int .i64) (Sort.ahead w n) (G.loc o) 0 B.toArray) os).heap[k]? = (w.heap.modify (G.loc o) (onCells (putCells (Value.int .i64) 0 B.toArray)))[k]?:=fun k hk=>by
  rw[hw1,Array.getElem?_append_left (by simpa using hk)]
 refine Inv.arr_turn (cs':=B.map LV.int) (vs':=putCells (Value.int .i64) 0 B.toArray vs) hI hlo c1 rfl rfl rfl (by rw[hw1];simp) (fun k hk hne=>by
   rw[hw2 k hk,Array.getElem?_modify,if_neg (fun e=>hne e.symm)]) (by
   rw[hw2 _ hlt,Array.getElem?_modify,if_pos rfl,c1];rfl) (by simp[putCells]) (by rw[hml,hml,hB]) (fun i c hc=>?_)
 have hi:i<B.length:=by
  have:=(List.getElem?_eq_some_iff.1 hc).1
  rw[hml]at this;exact this
 rw[List.getElem?_map,List.getElem?_eq_getElem hi]at hc
 cases hc
 have hi3:i<vs.size:=by have:=hml A;omega
 have e:(putCells (Value.int .i64) 0 B.toArray vs).getD i undef=.int .i64 B[i]:=by
  unfold putCells
  rw[Array.getD_eq_getD_getElem?,Array.getElem?_mapIdx,Array.getElem?_eq_getElem hi3]
  simp only[Option.map_some,Option.getD_some,Nat.zero_le,true_and,Nat.zero_add,Nat.sub_zero,List.size_toArray,hi,if_true]
  rw[getElem!_pos B.toArray i (by simpa using hi)]
  simp
 rw[e]
 exact⟨.sc _,rfl⟩
theorem qvW(w:World):grow w #[]=w:=by
 cases w
 simp[grow]
end
theorem qrv(A:List Int)(o:Nat)(ob:List (Nat×qc))(nx:Nat)(hlo:look o ob=some (ve A))(hA:A.length<2^40){kv kp:HP}
  (hk:∀B:List Int,B.Perm A->(B.Pairwise fun x y=>x<=y)->kv (.tup []) ⟨qx o (ve B) ob,nx⟩):
  cP E0 F0 146 [.asl o 0 A.length] ⟨ob,nx⟩ kv kp:=by
 intro hH
 refine .prim (show qZ Tryz.prog E0 _ _ _ _ from ⟨qjN _ c146,fun G w us hI hE ha=>?_⟩)
 obtain⟨u0,rfl,h0⟩:=qdE ha
 cases h0 with
 |@asl _ _ _ cap ho hlc hcap=>
 rw[Nat.zero_mul]
 have c1:=hI.objs o _ hlo
 obtain⟨_,vs,el,fz,c1,_⟩:=c1
 have hlt:G.loc o<w.heap.size:=(Array.getElem?_eq_some_iff.1 c1).1
 refine Calls.mono (Tryz.slices_Sort_int (G.loc o) 0 cap A w (qoh hI hlo) hlt (by omega)) ?_
 rintro e w' ⟨rfl,n,os,rfl⟩
 have hp:=List.mergeSort_perm A fun x y=>decide (x<=y)
 have hs:(A.mergeSort fun x y=>decide (x<=y)).Pairwise fun x y=>x<=y:=by
  have:=List.pairwise_mergeSort (le:=fun x y:Int=>decide (x<=y)) (fun a b c h1 h2=>by simp at h1 h2 ⊢;omega) (fun a b=>by simp;omega) A
  exact this.imp fun h=>of_decide_eq_true h
 have hq:=qkV hI hlo (B:=A.mergeSort fun x y=>decide (x<=y)) hp.length_eq n os
 exact⟨.tup [],_,G,.inl ⟨_,_,rfl,qn.put hH,hk _ hp hs⟩,.tup rfl (fun _ _ h=>by simp at h),hq.2,hq.1⟩
theorem qsC(A:List Int)(o:Nat)(ob:List (Nat×qc))(nx:Nat)(hlo:look o ob=some (ve A))(hA:A.length<2^40){kv kp:HP}
  (hk:∀rest:List Int,kv (.asl o 0 (ue A).length) ⟨qx o (ve (ue A++rest)) ob,nx⟩):
  cP E0 F0 147 [.asl o 0 A.length] ⟨ob,nx⟩ kv kp:=by
 intro hH
 refine .prim (show qZ Tryz.prog E0 _ _ _ _ from ⟨qjN _ c147,fun G w us hI hE ha=>?_⟩)
 obtain⟨u0,rfl,h0⟩:=qdE ha
 cases h0 with
 |@asl _ _ _ cap ho hlc hcap=>
 rw[Nat.zero_mul]
 have c1:=hI.objs o _ hlo
 obtain⟨_,vs,el,fz,c1,_⟩:=c1
 refine Calls.mono (Tryz.slices_Compact_int (G.loc o) 0 cap A w (qoh hI hlo) (by omega) hlc) ?_
 rintro e w' ⟨rfl,q,rfl⟩
 rw[qxl]
 have hcl:=qpB A
 have hq:=qkV hI hlo (B:=ue A++List.replicate (A.length - (ue A).length) 0) (by rw[List.length_append,List.length_replicate];omega) q #[]
 rw[qvW]at hq
 refine⟨.asl o 0 (ue A).length,_,G,.inl ⟨_,_,rfl,qn.put hH,hk _⟩,?_,hq.2,hq.1⟩
 have:=VR.asl (G:=G) (w:=putRow (Value.int .i64) (Sort.ahead w q) (G.loc o) 0 (ue A++List.replicate (A.length - (ue A).length) 0).toArray) (o:=o) (off:=0) (len:=(ue A).length) (cap:=cap) ho (by omega) hcap
 rw[Nat.zero_mul]at this
 exact this
end Go.Abs.Tz
namespace Go.Abs.Tz
open Go Go.Abs Go.Proofs
theorem quR{l:List qv}{x:Int}:x∈vF 4000 (zI l)↔x=0\/∃c∈l,(x=c.fr/\c.fr<=4000)\/(x=c.to+1/\c.to+1<=4000):=by
 unfold vF
 rw[(qiE 4000 (zI l) [0] (by simp)).2 x,List.mem_singleton]
 refine or_congr Iff.rfl ⟨?_,?_⟩
 ·rintro⟨c,hc,h⟩
  obtain⟨d,hd,rfl⟩:=List.mem_map.1 hc
  exact⟨d,hd,h⟩
 ·rintro⟨c,hc,h⟩
  exact⟨_,List.mem_map.2 ⟨c,hc,rfl⟩,h⟩
theorem qbN{c:qv}:vL c=true↔(1<=c.id/\c.id<=2^40)/\0<=c.fr/\c.fr<=c.to/\c.to<=4000:=by
 unfold vL
 rw[Bool.and_eq_true,decide_eq_true_iff,decide_eq_true_iff]
end Go.Abs.Tz
namespace Go.Abs.Tz
open Go Go.Abs Go.Proofs
set_option maxRecDepth 20000
set_option linter.unusedSimpArgs false
attribute [local simp ↓] yb ya jv ju gI ut zg zB jr up yP yQ yc ye yf yd jA jD jG jB jH jI jE jF jC jy jw jz jx yN yL yO yM g7 gZ g8 g6 yk yh yj uu zx jL zh z7 gL yS yT yo yq yp ym yn yz jO jT jW jS jU jV gy gx j5 j7 jb uZ jm jp u9 jh jl jk jj ji jf uV uW uX uY jn jd je uT jo jq ja jc jg uU gb j6 gu gC j8 gj gt gq gp gk gh j0 gw gf gg jX gA gD j9 gd gi jY gG gz jZ gF ge ga gc j3 gv jP jR jQ yu yx yt yv yw qp uL
attribute [local simp] faL fdL iaL ixL qL zb qV eqK eqL qR zo uO yr yK yA yC yE yG yI yJ yB yF yD yH zC LV.cells LV.whole qp uC uw jM stL zF zR uq qa.alloc gJ gH gK gY gW gV gU gT gS gQ gO gN gM qe ux
theorem qsl:qg 214 [.sl [.int 0] .full,.int 0,.int 1] (.tup []):=by
 refine qg.of c214 fun H hH=>⟨Nat.le_of_ble_eq_true rfl,?_⟩
 simp(disch:=omega)[b214,ui]
 refine qaQ ?_
 simp(disch:=omega)[zh]
 exact qh hH (by simp[])
theorem qsb(lim:Int):qg 187 [.sl [.int 0] .full,.int 0,.int 1,.int lim] (.tup []):=by
 refine qg.of c187 fun H hH=>⟨Nat.le_of_ble_eq_true rfl,?_⟩
 simp(disch:=omega)[b187,ui]
 refine qaQ ?_
 simp(disch:=omega)[ui]
 refine qsl.go fun n hn=>?_
 simp(disch:=omega)[zh]
 exact qh hH (by simp[])
theorem qru:qg 146 [.sl [.int 0] .full] (.tup []):=by
 refine qg.of c146 fun H hH=>⟨Nat.le_of_ble_eq_true rfl,?_⟩
 have w0:IntKind.wrap .u64 1=1:=qkD (n:=1) (by omega)
 simp(disch:=omega)[b146,ui,w0]
 refine(qlE 1 (by omega) (by omega)).go fun n hn=>?_
 simp(disch:=omega)
 refine(qsb _).go fun n hn=>?_
 simp(disch:=omega)[zh]
 exact qh hH (by simp[])
theorem qsB:qg 147 [.sl [.int 0] .full] (.sl [.int 0] .full):=by
 refine qg.of c147 fun H hH=>⟨Nat.le_of_ble_eq_true rfl,?_⟩
 simp(disch:=omega)[b147,ui]
 exact qh hH (by simp[])
theorem qqx{l:List (Nat×qc)}{m o:Nat}{A:List Int}(x:Int)(ow:Own)(hl:look o l=some (ve A))(hA:A.length<=2^20):
  qaB ⟨l,m⟩ 1 (.asl o 0 A.length) (.sl [.int x] ow)=some (.asl m 0 (A.length+1),⟨(m,ve (A++[x]))::zZ o l,m+1⟩):=by
 have h1:(A.map LV.int).length=A.length:=List.length_map _
 have h2:wy ⟨l,m⟩ 1 (.asl o 0 A.length)=some (A.map LV.int,⟨zZ o l,m⟩,A.length):=by
  simp only[wy,hl]
  rw[if_pos ⟨trivial,by rw[h1];omega⟩,Nat.mul_one,<-h1,List.take_length]
  rfl
 have h3:qca ⟨l,m⟩ 1 (.sl [.int x] ow)=some ([.int x],1):=rfl
 unfold qaB
 rw[h2,h3]
 simp only
 rw[if_neg (by omega),if_pos ⟨by omega,by omega⟩]
 simp[qa.alloc]
def chV(M:Nat):Nat->List Int->LV
 |0,_=>.sl [.int 0] .full
 |_+1,A=>.asl M 0 A.length
def chH(M:Nat):Nat->List Int->List (Nat×qc)->List (Nat×qc)
 |0,_,ob=>ob
 |_+1,A,ob=>(M,ve A)::ob
theorem qyj{i M n m:Nat}{A:List Int}{ob:List (Nat×qc)}{b:Nat}(hOb:qn ob b)(x:Int)(ow:Own)(c:qc)(h0:i=0->A=[0])(hM:0<i->b<=M/\M<n)(hA:A.length<=2^20):
  qaB ⟨(n,c)::chH M i A ob,m⟩ 1 (chV M i A) (.sl [.int x] ow)=some (.asl m 0 (A.length+1),⟨(m,ve (A++[x]))::(n,c)::ob,m+1⟩):=by
 cases i with
 |zero=>
  rw[h0 rfl]
  rfl
 |succ i=>
  obtain⟨hM1,hM2⟩:=hM (Nat.succ_pos _)
  have:=qqx (l:=(n,c)::(M,ve A)::ob) (m:=m) (o:=M) x ow (by rw[qe (by omega)];exact qp _ _ _) hA
  have hdel:zZ M ((n,c)::(M,ve A)::ob)=(n,c)::ob:=by
   have hb:zZ M ob=ob:=qhq (H:=⟨ob,b⟩) hOb hM1
   simp only[zZ]
   rw[if_neg (by omega),if_pos trivial,hb]
  rw[hdel]at this
  exact this
theorem qtB(M:Int)(l:List (Int×Int))(c:Int×Int):wZ M (l++[c])=wZ M l++(c.1::if c.2<M then [c.2+1] else []):=by
 unfold wZ
 rw[List.flatMap_append]
 simp
theorem qtC(M:Int)(l:List (Int×Int)):1<=(wZ M l).length/\(wZ M l).length<=1+2*l.length:=by
 induction l with
 |nil=>exact⟨Nat.le_refl _,Nat.le_refl _⟩
 |cons c l ih=>
  have e:(wZ M (c::l)).length=(wZ M l).length+(1+if c.2<M then 1 else 0):=by
   unfold wZ
   rw[List.flatMap_cons,List.length_cons,List.length_cons,List.length_append,List.length_cons]
   split<;>simp<;>omega
  rw[e,List.length_cons]
  split<;>omega
def qdk(l:List qv):List Int:=wZ 4000 (zI l)
theorem qtD{l:List qv}{i:Nat}(h:i<l.length):qdk (l.take (i+1))=qdk (l.take i)++(l[i].fr::if l[i].to<4000 then [l[i].to+1] else []):=by
 have e:l.take (i+1)=l.take i++[l[i]]:=by rw[List.take_add_one,List.getElem?_eq_getElem h];rfl
 unfold qdk zI
 rw[e,List.map_append]
 exact qtB _ _ _
structure NNcC where
 i:Nat
 n:Nat
 M:Nat
theorem qsL(l:List qv)(own:Own)(hl:l.length<=2^18)(hok:∀c∈l,vL c=true)(ob:List (Nat×qc))(n:Nat){kv kp:HP}
  (hk0:l=[]->∀n',n<=n'->kv (.sl [.int 0] .full) ⟨ob,n'⟩)
  (hk1:l≠[]->∀(M n':Nat)(rest:List Int),n<=M->M<n'->kv (.asl M 0 (vF 4000 (zI l)).length) ⟨(M,ve (vF 4000 (zI l)++rest))::ob,n'⟩):
  cP E0 F0 84 [.sl (l.map qY) own] ⟨ob,n⟩ kv kp:=by
 refine ur c84 fun hH=>⟨Nat.le_of_ble_eq_true rfl,?_⟩
 have hOb:qn ob n:=hH
 simp(disch:=omega)[b84]
 refine qy (σ:=NNcC) (fun q=>(.nd .bot (.nd .bot (.nd (chV q.M q.i (qdk (l.take q.i))) (.nd (.sl (l.map qY) own) .nil .nil) .nil) (.nd .bot (.nd (.int q.i) .nil .nil) .nil)) (.nd .bot (.nd .bot (.nd (.int l.length) .nil .nil) .nil) .nil))) (fun q=>⟨chH q.M q.i (qdk (l.take q.i)) ob,q.n⟩) (fun q=>l.length - q.i)
  (fun q=>n<=q.n/\q.i<=l.length/\(0<q.i->n<=q.M/\q.M<q.n)) ⟨0,n,0⟩ ⟨Nat.le_refl _,Nat.zero_le _,fun h=>absurd h (by simp)⟩ (by simp[FT.Le,Wk,chV]) ⟨HWk.refl _,fun h=>h⟩ ?_
 rintro⟨i,m,M⟩ ⟨hn,hi,hM⟩ hok1
 dsimp only at hn hi hM hok1
 have hAl:=qtC 4000 (zI (l.take i))
 have hsl:(zI (l.take i)).length<=2^18:=by unfold zI;rw[List.length_map,List.length_take];omega
 by_cases hlt:i<l.length
 case neg=>
  obtain rfl:i=l.length:=by omega
  rw[List.take_length]
  rw[List.take_length]at hAl hsl
  have hyr:=fun(s:List Int)=>qqG 4000 (zI l) (fun c hc=>by
   obtain⟨d,hd,rfl⟩:=List.mem_map.1 hc
   have:=(qbN.1 (hok d hd)).2
   dsimp only
   omega) (s:=s)
  by_cases hl0:l.length=0
  ·have hle:l=[]:=List.eq_nil_of_length_eq_zero hl0
   rw[hl0]
   simp only[chV,chH]
   simp(disch:=omega)[hl0]
   refine qru.go fun n1 hn1=>?_
   simp(disch:=omega)
   refine qsB.go fun n2 hn2=>?_
   simp(disch:=omega)
   exact keep (hk0 hle n2 (by omega))
  ·obtain⟨k,hk⟩:∃k,l.length=k+1:=⟨l.length - 1,by omega⟩
   obtain⟨hM1,hM2⟩:=hM (by omega)
   obtain⟨A,hA⟩:∃A,qdk l=A:=⟨_,rfl⟩
   have hA2:wZ 4000 (zI l)=A:=hA
   rw[hA2]at hAl
   rw[hA]
   have e1:chV M l.length A=.asl M 0 A.length:=by rw[hk];rfl
   have e2:chH M l.length A ob=(M,ve A)::ob:=by rw[hk];rfl
   rw[e1,e2]
   simp(disch:=omega)
   refine qrv A M _ _ (qp _ _ _) (by omega) fun B hB hBs=>?_
   rw[uw]
   have hy:=hyr B (by rw[hA2];exact hB) hBs
   simp(disch:=omega)
   rw[<-hB.length_eq]
   refine qsC B M _ _ (qp _ _ _) (by have:=hB.length_eq;omega) fun rest=>?_
   rw[uw,hy]
   simp(disch:=omega)
   exact keep (hk1 (fun e=>hl0 (by rw[e];rfl)) M m rest hM1 hM2)
 obtain⟨hfr,hto⟩:=qbN.1 (hok _ (ub hlt))
 have hsn:=qtD hlt
 obtain⟨A,hA⟩:∃A,qdk (l.take i)=A:=⟨_,rfl⟩
 have hA2:wZ 4000 (zI (l.take i))=A:=hA
 rw[hA2]at hAl
 rw[hA]at hsn
 rw[hA]at hok1 ⊢
 have h0:i=0->A=[0]:=fun e=>by subst e;rw[<-hA];rfl
 have hAb:A.length<=2^19+1:=by omega
 simp(disch:=omega)[hlt]
 refine qaf ?_
 simp(disch:=omega)
 rw[qyj hOb (x:=l[i].fr) (ow:=.full) (c:=.cells [.int l[i].id,.int l[i].fr,.int l[i].to,qt l[i].cls]) h0 hM (by omega)]
 by_cases h4:l[i].to<4000
 case neg=>
  rw[if_neg h4]at hsn
  simp(disch:=omega)[h4,qi (show i<2^62 by omega)]
  refine⟨⟨i+1,m+1+1,m+1⟩,by dsimp only;omega,⟨by dsimp only;omega,by dsimp only;omega,fun _=>⟨by dsimp only;omega,by dsimp only;omega⟩⟩,?_,?_⟩
  ·dsimp only
   rw[hsn]
   simp[FT.Le,Wk,chV]
  ·dsimp only
   rw[hsn]
   exact⟨qcJ (hOb.mono hn) fun _ _ h=>h,fun _=>⟨Nat.lt_succ_self _,hOb.mono (by omega)⟩⟩
 rw[if_pos h4]at hsn
 have hw:IntKind.wrap .i64 (l[i].to+1)=l[i].to+1:=ui (by omega) (by omega)
 simp(disch:=omega)[h4]
 refine qaf ?_
 simp(disch:=omega)[hw]
 have hap:=qqx (l:=(m+1,ve (A++[l[i].fr]))::(m,.cells [.int l[i].id,.int l[i].fr,.int l[i].to,qt l[i].cls])::ob) (m:=m+1+1) (o:=m+1) (A:=A++[l[i].fr]) (l[i].to+1) .full (qp _ _ _) (by rw[List.length_append,List.length_singleton];omega)
 have hdel:zZ (m+1) ((m+1,ve (A++[l[i].fr]))::(m,.cells [.int l[i].id,.int l[i].fr,.int l[i].to,qt l[i].cls])::ob)=(m,.cells [.int l[i].id,.int l[i].fr,.int l[i].to,qt l[i].cls])::ob:=by
  have hb:zZ (m+1) ob=ob:=qhq (H:=⟨ob,n⟩) hOb (by dsimp only;omega)
  simp only[zZ]
  rw[if_pos trivial,if_neg (by omega),hb]
 rw[hdel,List.length_append,List.length_singleton]at hap
 rw[hap]
 simp(disch:=omega)[qi (show i<2^62 by omega)]
 refine⟨⟨i+1,m+1+1+1,m+1+1⟩,by dsimp only;omega,⟨by dsimp only;omega,by dsimp only;omega,fun _=>⟨by dsimp only;omega,by dsimp only;omega⟩⟩,?_,?_⟩
 ·dsimp only
  rw[hsn]
  simp[FT.Le,Wk,chV]
 ·dsimp only
  rw[hsn]
  exact⟨qcJ (hOb.mono hn) fun _ _ h=>h,fun _=>⟨Nat.lt_succ_self _,hOb.mono (by omega)⟩⟩
theorem qpM:∀(C rest:List Int),wF 1 C.length ((C++rest).map LV.int)=C.map LV.int
 |[],_=>rfl
 |x::C,rest=>by
  have ih:=qpM C rest
  show qea [.int x]::wF 1 C.length ((C++rest).map LV.int)=_
  rw[ih]
  rfl
theorem frzI{H:qa}{C rest:List Int}{o:Nat}(hl:look o H.objs=some (ve (C++rest))):qaS H [o] o 0 C.length=.sl (C.map LV.int) .no:=by
 unfold qaS
 have h1:((C++rest).map LV.int).length=C.length+rest.length:=by simp
 simp only[List.contains_cons,BEq.rfl,Bool.true_or,if_true,hl]
 rw[if_pos (by rw[h1];omega)]
 rw[Nat.zero_mul,List.drop_zero,qpM]
theorem qlC(l:List qv)(own:Own)(hl:l.length<=2^18)(hok:∀c∈l,vL c=true)(ob:List (Nat×qc))(n:Nat){kv kp:HP}
  (hk:∀(ow:Own)(n':Nat),n<=n'->kv (.sl (zJ (vF 4000 (zI l))) ow) ⟨ob,n'⟩):
  cP E0 F0 84 [.sl (l.map qY) own] ⟨ob,n⟩ kv kp:=by
 intro hH
 obtain⟨C,hC⟩:∃C,vF 4000 (zI l)=C:=⟨_,rfl⟩
 have h1:=qsL (kv:=fun v H'=>(l=[]/\v=.sl [.int 0] .full/\∃n',n<=n'/\H'=⟨ob,n'⟩)\/∃(M n':Nat)(rest:List Int),n<=M/\M<n'/\v=.asl M 0 C.length/\H'=⟨(M,ve (C++rest))::ob,n'⟩) (kp:=fun _ _=>False)
  l own hl hok ob n (fun he n' hn=>.inl ⟨he,rfl,n',hn,rfl⟩) (fun _ M n' rest hM hn=>.inr ⟨M,n',rest,hM,hn,by rw[hC],by rw[hC]⟩) hH
 rw[hC]at hk
 refine .frz (fun v _=>match v with|.asl o _ _=>[o]|_=>[]) h1 (fun v H' hT=>?_) (fun v H' hT=>?_)
 ·rcases hT with⟨u,H2,he,hok,hT⟩|⟨u,H2,he,hok,hf⟩
  ·cases he
   rcases hT with⟨rfl,rfl,n',hn,rfl⟩|⟨M,n',rest,hM,hn,rfl,rfl⟩
   ·have hC0:C=[0]:=by rw[<-hC];rfl
    subst hC0
    exact⟨⟨ob,n'⟩,⟨Nat.le_refl _,fun i x hx=>(qcH (L:=[]) rfl).trans hx⟩,.inl ⟨_,_,rfl,qn.mono hH hn,hk .full n' hn⟩⟩
   ·refine⟨⟨ob,n'⟩,⟨Nat.le_refl _,fun i x hx=>?_⟩,.inl ⟨_,_,rfl,qn.mono hH (by dsimp only;omega),?_⟩⟩
    ·have:=hH.look hx
     dsimp only at this
     have e1:look i (wE [M] ((M,ve (C++rest))::ob))=look i ((M,ve (C++rest))::ob):=qcH (by simp;omega)
     show look i (wE [M] ((M,ve (C++rest))::ob))=some x
     rw[e1,qe (by omega)]
     exact hx
    ·have:=hk .no n' (by omega)
     have e:qaS ⟨(M,ve (C++rest))::ob,n'⟩ [M] M 0 C.length=.sl (C.map LV.int) .no:=frzI (qp _ _ _)
     simpa [yg,e] using this
  ·cases he
 ·rcases hT with⟨u,H2,he,hok,hT⟩|⟨u,H2,he,hok,hf⟩
  ·cases he
  ·exact hf.elim
def wN{α:Type}(p:α->Bool):List α->Nat->Int
 |[],_=>-1
 |t::r,i=>if p t then (i:Int) else wN p r (i+1)
theorem qjv{α:Type}(p:α->Bool):∀(l:List α)(i:Nat),decide (0<=wN p l i)=l.any p
 |[],i=>rfl
 |t::r,i=>by
  simp only[wN,List.any_cons]
  by_cases h:p t=true
  ·simp[h]
  ·simp only[h,if_false,Bool.false_eq_true]
   rw[qjv p r (i+1)];simp
def qhH{α:Type}(g:FuncId)(el:α->LV)(m:Nat)(ob:List (Nat×qc))(n:Nat)(p:α->Bool)(l:List α):Prop:=
 ∀x∈l,∀(n':Nat)(kv kp:HP),n<=n'->(∀n'',n'<=n''->kv (.bool (p x)) ⟨ob,n''⟩)->cP E0 F0 g [el x,.ptr m 0] ⟨ob,n'⟩ kv kp
theorem qsp(l:List qv)(hl:l.length<=2^20)(own:Own)(g:FuncId)(p:qv->Bool)(m:Nat)(ob:List (Nat×qc))(n:Nat)(hg:qhH g qY m ob n p l){kv kp:HP}(hk:∀n',n<=n'->kv (.int (wN p l 0)) ⟨ob,n'⟩):
  cP E0 F0 140 [.sl (l.map qY) own,.fn (.func g) [] [.ptr m 0]] ⟨ob,n⟩ kv kp:=by
 refine ur c140 fun hH=>⟨Nat.le_of_ble_eq_true rfl,?_⟩
 simp(disch:=omega)[b140]
 obtain⟨A,hA⟩:∃A,wN p l 0=A:=⟨_,rfl⟩
 rw[hA]at hk
 refine qy (σ:=NN) (fun q=>(.nd (.sl (l.map qY) own) (.nd (.fn (.func g) [] [.ptr m 0]) (.nd .bot (.nd (.int l.length) .nil .nil) .nil) .nil) (.nd .bot (.nd .bot (.nd (.int q.i) .nil .nil) .nil) (.nd (.sl (l.map qY) own) .nil .nil)))) (fun q=>⟨ob,q.n⟩) (fun q=>l.length - q.i)
  (fun q=>n<=q.n/\q.i<=l.length/\wN p (l.drop q.i) q.i=A) ⟨0,n⟩ ⟨Nat.le_refl _,Nat.zero_le _,hA⟩ (by simp[FT.Le,Wk]) ⟨HWk.refl _,fun h=>h⟩ ?_
 rintro⟨q,k⟩ ⟨hn,hq,he⟩ hok
 dsimp only at hn hq he hok
 by_cases hlt:q<l.length
 ·rw[List.drop_eq_getElem_cons hlt]at he
  simp(disch:=omega)[hlt]
  refine hg l[q] (List.getElem_mem hlt) k _ _ hn fun n1 h1=>?_
  cases ht:p l[q]
  ·simp[wN,ht]at he
   simp(disch:=omega)[qi (show q<2^62 by omega)]
   exact⟨⟨q+1,n1⟩,by dsimp only;omega,⟨by dsimp only;omega,by dsimp only;omega,he⟩,by simp[FT.Le,Wk],HWk.refl _,fun h=>h⟩
  ·simp[wN,ht]at he
   simp(disch:=omega)
   exact keep (by rw[<-he]at hk;exact hk n1 (by omega))
 ·obtain rfl:q=l.length:=by omega
  rw[List.drop_eq_nil_of_le (Nat.le_refl _)]at he
  simp(disch:=omega)
  simp[wN]at he
  exact keep (by rw[<-he]at hk;exact hk k hn)
theorem qlG(l:List qv)(hl:l.length<=2^20)(own:Own)(g:FuncId)(p:qv->Bool)(m:Nat)(ob:List (Nat×qc))(n:Nat)(hg:qhH g qY m ob n p l){kv kp:HP}(hk:∀n',n<=n'->kv (.bool (l.any p)) ⟨ob,n'⟩):
  cP E0 F0 77 [.sl (l.map qY) own,.fn (.func g) [] [.ptr m 0]] ⟨ob,n⟩ kv kp:=by
 refine ur c77 fun hH=>⟨Nat.le_of_ble_eq_true rfl,?_⟩
 simp(disch:=omega)[b77]
 refine qsp l hl own g p m ob n hg fun n1 hn1=>?_
 simp(disch:=omega)
 exact keep (by rw[qjv];exact hk n1 hn1)
theorem t_cc1(x c:qv)(m:Nat)(ob:List (Nat×qc))(n:Nat)(hl:look m ob=some (.cells (qfH c))){kv kp:HP}(hk:∀n',n<=n'->kv (.bool (decide (c.id<=x.id))) ⟨ob,n'⟩):
  cP E0 F0 83 [qY x,.ptr m 0] ⟨ob,n⟩ kv kp:=by
 refine ur c83 fun hH=>⟨Nat.le_of_ble_eq_true rfl,?_⟩
 have hm:m<n:=hH.look hl
 simp(disch:=omega)[b83,hl]
 exact⟨⟨ob,n+1⟩,y9 hH (Nat.le_succ _),fun _=>qn.mono hH (Nat.le_succ _),hk _ (Nat.le_succ _)⟩
theorem qsw(x:qv)(id:Int)(m:Nat)(ob:List (Nat×qc))(n:Nat)(hl:look m ob=some (.cells [.int id])){kv kp:HP}(hk:∀n',n<=n'->kv (.bool (decide (x.id=id))) ⟨ob,n'⟩):
  cP E0 F0 78 [qY x,.ptr m 0] ⟨ob,n⟩ kv kp:=by
 refine ur c78 fun hH=>⟨Nat.le_of_ble_eq_true rfl,?_⟩
 have hm:m<n:=hH.look hl
 simp(disch:=omega)[b78,hl]
 exact⟨⟨ob,n+1⟩,y9 hH (Nat.le_succ _),fun _=>qn.mono hH (Nat.le_succ _),hk _ (Nat.le_succ _)⟩
theorem qwf{l:List qv}(h:∀c∈l,c.cls.length<=40)(y w:Int):(qB l y w).length<=l.length*40:=by
 refine qjG _ 40 l fun c hc=>?_
 split
 ·exact h c hc
 ·simp
theorem qct.le{l:List qv}(h:qct l)(h30:l.length<=30)(y w:Int):(qB l y w).length<=1200:=by
 have:=qwf (fun c hc=>(qfJ (h.ok c hc).2).1) y w
 omega
theorem qnZ(y:Int):∀l:List Int,(wA y l).length<=l.length+1
 |[]=>Nat.le_refl _
 |x::r=>by
  have ih:=qnZ y r
  unfold wA
  split
  ·simp only[List.length_cons];omega
  ·split<;>simp
theorem qiF(M:Int)(l:List (Int×Int)):(vF M l).length<=1+2*l.length:=by
 have key:∀(l:List (Int×Int))(o:List Int),(l.foldl (fun o c=>zi M (zi M o c.1) (c.2+1)) o).length<=o.length+2*l.length:=by
  intro l
  induction l with
  |nil=>intro o;exact Nat.le_refl _
  |cons c l ih=>
   intro o
   have h1:∀(o:List Int)(y:Int),(zi M o y).length<=o.length+1:=fun o y=>by
    unfold zi
    split
    ·exact qnZ _ _
    ·omega
   have:=ih (zi M (zi M o c.1) (c.2+1))
   have h2:=h1 o c.1
   have h3:=h1 (zi M o c.1) (c.2+1)
   rw[List.foldl_cons,List.length_cons]
   omega
 have:=key l [0]
 unfold vF
 simpa using this
theorem qtb(l:List qv)(own:Own)(hl:l.length<2^63)(hS:l.length<=30->∀c∈l,qbv c.cls):qg 29 [.sl (l.map qY) own] (.tup [.int (vN l).1,.int (vN l).2]):=by
 refine qg.of c29 fun H hH=>⟨Nat.le_of_ble_eq_true rfl,?_⟩
 obtain⟨E,hE⟩:∃E,vN l=E:=⟨_,rfl⟩
 rw[hE]
 unfold vN at hE
 by_cases h30:30<l.length
 ·rw[if_pos h30]at hE
  have h30':(30:Int)<(l.length:Int):=by omega
  simp(disch:=omega)[b29,h30']
  exact qh hH (by simp[<-hE])
 rw[if_neg h30]at hE
 have h30':¬(30:Int)<(l.length:Int):=by omega
 simp(disch:=omega)[b29,h30']
 obtain⟨A,hA⟩:∃A,qad [] l 0=A:=⟨_,rfl⟩
 rw[hA]at hE
 have hSm:=hS (by omega)
 have ret:∀(e:Int)(i:Nat),(e,(i:Int))=A->e≠0->E=(e,(i:Int)):=fun e i h h0=>by rw[<-h,if_pos h0]at hE;exact hE.symm
 refine qy (σ:=NN) (fun q=>(.nd (.sl (l.map qY) own) (.nd .bot .nil (.nd .bot (.nd .bot (.nd (.int l.length) .nil .nil) .nil) .nil)) (.nd .bot (.nd .bot (.nd .bot (.nd (.sl (l.map qY) own) .nil .nil) .nil) .nil) (.nd .bot (.nd .bot (.nd (.int q.i) .nil .nil) .nil) .nil)))) (fun q=>⟨H.objs,q.n⟩) (fun q=>l.length - q.i)
  (fun q=>H.next<=q.n/\q.i<=l.length/\qad (l.take q.i) (l.drop q.i) q.i=A) ⟨0,H.next⟩ ⟨Nat.le_refl _,Nat.zero_le _,hA⟩ (by simp[FT.Le,Wk]) ⟨HWk.refl _,fun h=>h⟩ ?_
 rintro⟨i,n⟩ ⟨hn,hi,he⟩ hok
 dsimp only at hn hi he hok
 by_cases hlt:i<l.length
 case pos=>
  rw[List.drop_eq_getElem_cons hlt]at he
  unfold qad at he
  simp(disch:=omega)[hlt]
  refine(qeK l[i].id 1 1099511627776).go fun n2 hn2=>?_
  obtain⟨B,hB⟩:∃B,(decide (1<=l[i].id)&&decide (l[i].id<=1099511627776))=B:=⟨_,rfl⟩
  rw[hB]
  cases B
  ·have hio:vL l[i]=false:=by
    cases hx:vL l[i] with
    |false=>rfl
    |true=>
     have:=(qbN.1 hx).1
     rw[decide_eq_true this.1,decide_eq_true (by omega)]at hB
     cases hB
   rw[if_pos hio]at he
   have hEE:=ret 1 i he (by decide)
   simp(disch:=omega)
   exact qh hH (by simp[hEE])
  have hB2:1<=l[i].id/\l[i].id<=2^40:=by
   rw[Bool.and_eq_true,decide_eq_true_iff,decide_eq_true_iff]at hB
   omega
  have hbad:¬(0<=l[i].fr/\l[i].fr<=l[i].to/\l[i].to<=4000)->E=(1,(i:Int)):=fun h=>by
   have hio:vL l[i]=false:=by
    cases hx:vL l[i] with
    |false=>rfl
    |true=>exact absurd (qbN.1 hx).2 h
   rw[if_pos hio]at he
   exact ret 1 i he (by decide)
  by_cases h1:l[i].fr<0
  ·have hEE:=hbad (by omega)
   simp(disch:=omega)[h1]
   exact qh hH (by simp[hEE])
  by_cases h2:l[i].to<l[i].fr
  ·have hEE:=hbad (by omega)
   simp(disch:=omega)[h1,h2]
   exact qh hH (by simp[hEE])
  by_cases h3:4000<l[i].to
  ·have hEE:=hbad (by omega)
   simp(disch:=omega)[h1,h2,h3]
   exact qh hH (by simp[hEE])
  have hio:¬vL l[i]=false:=by rw[qbN.2 ⟨hB2,by omega⟩];simp
  rw[if_neg hio]at he
  have hil:i<=l.length:=by omega
  simp(disch:=omega)[h1,h2,h3,hil]
  rw[<-List.map_take]
  refine qlG (l.take i) (by rw[List.length_take];omega) _ 83 (fun x=>decide (l[i].id<=x.id)) n _ _ (fun x _ n' kv kp hn' hk=>t_cc1 x l[i] n _ n' (qp _ _ _) hk) fun n3 hn3=>?_
  obtain⟨B2,hB2⟩:∃B2,((l.take i).any fun x=>decide (l[i].id<=x.id))=B2:=⟨_,rfl⟩
  rw[hB2]at he ⊢
  cases B2
  case true=>
   rw[if_pos rfl]at he
   have hEE:=ret 6 i he (by decide)
   simp(disch:=omega)
   exact qh hH (by simp[hEE])
  rw[if_neg (by simp)]at he
  simp(disch:=omega)
  refine(qlM l[i].cls (hSm _ (ub hlt)).ok3).go fun n4 hn4=>?_
  by_cases hc:(qA l[i].cls).1=0
  case neg=>
   rw[if_pos hc]at he
   have hEE:=ret _ i he hc
   simp(disch:=omega)[hc]
   exact qh hH (by simp[hEE])
  rw[if_neg (by simpa using hc)]at he
  simp(disch:=omega)[hc,qi (show i<2^62 by omega)]
  have htk:l.take (i+1)=l.take i++[l[i]]:=by rw[List.take_add_one,List.getElem?_eq_getElem hlt];rfl
  exact⟨⟨i+1,n4⟩,by dsimp only;omega,⟨by dsimp only;omega,by dsimp only;omega,by dsimp only;rw[htk];exact he⟩,by simp[FT.Le,Wk],y9 hok (Nat.le_refl _),fun _=>qn.mono hok (by dsimp only;omega)⟩
 obtain rfl:i=l.length:=by omega
 rw[List.drop_eq_nil_of_le (Nat.le_refl _)]at he
 have hA0:A.1=0:=by rw[<-he];rfl
 have hC:qct l:=qhi (by rw[hA];exact hA0)
 rw[if_neg (by rw[hA0];simp)]at hE
 simp(disch:=omega)
 refine qlC l own (by omega) (fun c hc=>(hC.ok c hc).1) _ _ fun ow n2 hn2=>?_
 have hyl:=qiF 4000 (zI l)
 have hsl:(zI l).length=l.length:=by unfold zI;rw[List.length_map]
 obtain⟨ys,hys⟩:∃ys,vF 4000 (zI l)=ys:=⟨_,rfl⟩
 rw[hys]at hyl hE ⊢
 obtain⟨Y,hY⟩:∃Y,qbV l ys=Y:=⟨_,rfl⟩
 rw[hY]at hE
 simp(disch:=omega)
 refine qy (σ:=NN) (fun q=>(.nd (.sl (l.map qY) own) (.nd .bot (.nd .bot .nil (.nd .bot (.nd .bot (.nd .bot (.nd (.int q.i) .nil .nil) .nil) .nil) .nil)) (.nd .bot (.nd .bot (.nd .bot (.nd .bot (.nd (.sl (zJ ys) ow) .nil .nil) .nil) .nil) .nil) .nil)) (.nd .bot .nil (.nd .bot (.nd .bot (.nd .bot (.nd .bot (.nd (.int ys.length) .nil .nil) .nil) .nil) .nil) .nil)))) (fun q=>⟨H.objs,q.n⟩) (fun q=>ys.length - q.i)
  (fun q=>H.next<=q.n/\q.i<=ys.length/\qbV l (ys.drop q.i)=Y) ⟨0,n2⟩ ⟨by dsimp only;omega,Nat.zero_le _,hY⟩ (by simp[FT.Le,Wk]) ⟨HWk.refl _,fun h=>h⟩ ?_
 rintro⟨j,m⟩ ⟨hm,hj,he2⟩ hok2
 dsimp only at hm hj he2 hok2
 by_cases hjl:j<ys.length
 case neg=>
  rw[List.drop_eq_nil_of_le (by omega)]at he2
  have hY0:Y=0:=he2.symm
  simp(disch:=omega)[hjl]
  exact qh hH (by simp[<-hE,hY0])
 rw[List.drop_eq_getElem_cons hjl]at he2
 unfold qbV at he2
 have hfl:=hC.le (by omega) ys[j] 0
 simp(disch:=omega)[hjl]
 refine(qeP l own ys[j] 0 (by omega) (by omega)).go fun n4 hn4=>?_
 obtain⟨F,hF⟩:∃F,qB l ys[j] 0=F:=⟨_,rfl⟩
 have hck:=qov hC (y:=ys[j]) (w:=0)
 rw[hF]at he2 hfl hck ⊢
 by_cases h40:40<F.length
 ·rw[if_pos h40]at he2
  have h40':(40:Int)<(F.length:Int):=by omega
  simp(disch:=omega)[h40']
  exact qh hH (by simp[<-hE,<-he2])
 rw[if_neg h40]at he2
 have h40':¬(40:Int)<(F.length:Int):=by omega
 have hck0:=hck (by omega)
 have hg:=qeh hck0
 obtain⟨fuel,R,hR,hRS⟩:=qjj F hck0
 simp(disch:=omega)[h40']
 refine qlt F (by omega) (fun c hcm=>by have:=hg.body c hcm;omega) (by have:=hg.initLen;omega) fuel R hR _ (fun hRn n5 hn5=>?_) (fun mm hRm n5 hn5=>?_)
 ·dsimp only at hn5
  have hS:zk F=none:=by
   rcases hRS with⟨_,h⟩|⟨m',_,h,_⟩
   ·exact h
   ·rw[hRn]at h;cases h
  rw[hS]at he2
  have hYY:Y=81:=he2.symm
  simp(disch:=omega)
  exact qh hH (by simp[<-hE,hYY])
 ·dsimp only at hn5
  have hS:(zk F).isNone=false:=by
   rcases hRS with⟨h,_⟩|⟨_,q,_,h,_⟩
   ·rw[hRm]at h;cases h
   ·rw[h];rfl
  rw[hS,if_neg (by simp)]at he2
  simp(disch:=omega)[qi (show j<2^62 by omega)]
  exact⟨⟨j+1,n5⟩,by dsimp only;omega,⟨by dsimp only;omega,by dsimp only;omega,he2⟩,by simp[FT.Le,Wk],y9 (qn.mono hH (by omega)) (Nat.le_refl _),fun _=>qn.mono hH (by dsimp only;omega)⟩
theorem qkd(k:IntKind)(a b:Int):zt .mul (.sc (.int k a)) (.sc (.int k b))=some (.sc (.int k (k.wrap (a*b)))):=by simp[zt]
def plI(y:Int):List Int->Nat
 |[]=>0
 |x::r=>if x<y then plI y r+1 else 0
theorem qmZ(y:Int):∀l:List Int,plI y l<=l.length
 |[]=>Nat.le_refl _
 |x::r=>by
  have:=qmZ y r
  unfold plI
  rw[List.length_cons]
  split<;>omega
theorem qnY(y:Int):∀l:List Int,wA y l=(match l[plI y l]? with
  |some x=>if x=y then l else l.take (plI y l)++[y]++l.drop (plI y l)
  |none=>l.take (plI y l)++[y]++l.drop (plI y l))
 |[]=>rfl
 |x::r=>by
  have ih:=qnY y r
  unfold wA plI
  by_cases h:x<y
  ·rw[if_pos h,if_pos h,List.getElem?_cons_succ,ih]
   split
   ·rename_i z hz
    by_cases he:z=y
    ·rw[if_pos he,if_pos he]
    ·rw[if_neg he,if_neg he];simp
   ·simp
  ·rw[if_neg h,if_neg h,List.getElem?_cons_zero]
   simp only
   by_cases he:x=y
   ·rw[if_pos he,if_pos he]
   ·rw[if_neg he,if_neg he];simp
def qbo:List qv->List Int
 |[]=>[]
 |c::r=>c.fr::(c.to+1)::qbo r
theorem qoI:∀l:List qv,(qbo l).length=2*l.length
 |[]=>rfl
 |c::r=>by
  have:=qoI r
  unfold qbo
  simp only[List.length_cons]
  omega
theorem qoJ:∀(l:List qv)(i:Nat)(h:i / 2<l.length),(qbo l)[i]? = some (if i % 2=1 then l[i / 2].to+1 else l[i / 2].fr)
 |[],i,h=>by simp at h
 |c::r,0,h=>rfl
 |c::r,1,h=>rfl
 |c::r,i+2,h=>by
  have e1:(i+2) / 2=i / 2+1:=by omega
  have e2:(i+2) % 2=i % 2:=by omega
  have h2:i / 2<r.length:=by rw[e1]at h;simpa using h
  have ih:=qoJ r i h2
  show (c.fr::(c.to+1)::qbo r)[i+2]? = _
  rw[List.getElem?_cons_succ,List.getElem?_cons_succ,ih]
  simp only[e1,e2,List.getElem_cons_succ]
theorem qoK(M:Int):∀(l:List qv)(o:List Int),(qbo l).foldl (zi M) o=(zI l).foldl (fun o c=>zi M (zi M o c.1) (c.2+1)) o
 |[],_=>rfl
 |_::r,_=>qoK M r _
theorem qgl(l:List Int)(ow:Own):Wk (.sl (zJ l) ow) (.sl (zJ l) .no):=by
 refine .inr (.inl ?_)
 simp[LV.strip,stripL,qba,List.map_map,Function.comp_def]
theorem vT(l:List Int):((l.map LV.int).all fun e=>e.cells.length==1)=true:=by
 rw[List.all_eq_true]
 intro e he
 obtain⟨c,_,rfl⟩:=List.mem_map.1 he
 rfl
structure NNcY where
 i:Nat
 n:Nat
 out:List Int
set_option maxHeartbeats 2000000 in
theorem qrC(l:List qv)(own:Own)(hl:l.length<=2^18)(hw:∀c∈l,-2^62<=c.to/\c.to<=2^62)(H:qa){kv kp:HP}(hk:∀n,H.next<=n->kv (.sl (zJ (vF 4000 (zI l))) .no) ⟨H.objs,n⟩):
  cP E0 F0 88 [.sl (l.map qY) own] H kv kp:=by
 refine qah c88 fun hH=>⟨Nat.le_of_ble_eq_true rfl,?_⟩
 have hOb:qn H.objs H.next:=hH
 simp(disch:=omega)[b88]
 obtain⟨R,hR⟩:∃R,vF 4000 (zI l)=R:=⟨_,rfl⟩
 rw[hR]at hk
 have hR0:(qbo l).foldl (zi 4000) [0]=R:=by rw[qoK];exact hR
 have hfl:=qoI l
 refine qy (σ:=NNcY) (fun q=>(.nd (.sl (l.map qY) own) (.nd .bot (.nd (.sl (zJ q.out) .no) .nil .nil) .nil) (.nd .bot (.nd (.int q.i) .nil .nil) .nil))) (fun q=>⟨H.objs,q.n⟩) (fun q=>2*l.length - q.i)
  (fun q=>H.next<=q.n/\q.i<=2*l.length/\q.out.length<=1+q.i/\((qbo l).drop q.i).foldl (zi 4000) q.out=R) ⟨0,H.next,[0]⟩ ⟨Nat.le_refl _,Nat.zero_le _,by simp,hR0⟩ (by simp[FT.Le,Wk,LV.strip,stripL]) ⟨HWk.refl _,fun h=>h⟩ ?_
 rintro⟨i,n,out⟩ ⟨hn,hi,hol,he⟩ hok
 dsimp only at hn hi hol he hok
 have hmul:IntKind.wrap .i64 (2*(l.length:Int))=2*(l.length:Int):=ui (by omega) (by omega)
 by_cases hlt:i<2*l.length
 case neg=>
  rw[List.drop_eq_nil_of_le (by omega)]at he
  have he2:out=R:=he
  subst he2
  have hlt':¬(i:Int)<2*(l.length:Int):=by omega
  simp(disch:=omega)[qkd,hmul,hlt']
  exact⟨.sl (zJ out) .no,.inl rfl,⟨H.objs,n⟩,HWk.refl _,fun h=>h,hk n hn⟩
 obtain⟨k,hkk⟩:∃k,i / 2=k:=⟨_,rfl⟩
 have hq:k<l.length:=by omega
 have hget:(qbo l)[i]? = some (if i % 2=1 then l[k].to+1 else l[k].fr):=by
  subst hkk
  exact qoJ l i hq
 obtain⟨y,hy⟩:∃y,(if i % 2=1 then l[k].to+1 else l[k].fr)=y:=⟨_,rfl⟩
 rw[hy]at hget
 have hid:i<(qbo l).length:=by omega
 rw[List.drop_eq_getElem_cons hid]at he
 have hgy:(qbo l)[i]=y:=by rw[List.getElem?_eq_getElem hid]at hget;exact Option.some.inj hget
 rw[hgy,List.foldl_cons]at he
 have hlt':(i:Int)<2*(l.length:Int):=by omega
 have hquo:Int.tdiv (i:Int) 2=(k:Int):=by
  rw[<-hkk,show (2:Int)=((2:Nat):Int) from rfl]
  exact(Int.ofNat_tdiv _ _).symm
 have hwq:IntKind.wrap .i64 (k:Int)=(k:Int):=ui (by omega) (by omega)
 have hrem:Int.tmod (i:Int) 2=((i % 2:Nat):Int):=by
  rw[show (2:Int)=((2:Nat):Int) from rfl]
  exact(Int.ofNat_tmod _ _).symm
 have htb:=hw _ (ub hq)
 have hwt:IntKind.wrap .i64 (l[k].to+1)=l[k].to+1:=ui (by omega) (by omega)
 obtain⟨P,hP⟩:∃P,plI y out=P:=⟨_,rfl⟩
 have hPl:P<=out.length:=by rw[<-hP];exact qmZ y out
 have hins:=qnY y out
 rw[hP]at hins
 have hi1:IntKind.wrap .i64 ((i:Int)+1)=((i+1:Nat):Int):=qi (by omega)
 by_cases hodd:i % 2=1
 ·rw[if_pos hodd]at hy
  rw[hodd]at hrem
  have hwy:IntKind.wrap .i64 y=y:=by rw[<-hy];exact hwt
  simp(disch:=omega)[qkd,hmul,hlt',qqh,qqg,hquo,hwq,hrem,hq,hwt,hy,hwy]
  refine qy (σ:=NN) (fun q=>(.nd (.sl (l.map qY) own) (.nd .bot (.nd (.sl (zJ out) .no) .nil .nil) (.nd (.int y) .nil .nil)) (.nd .bot (.nd (.int i) .nil .nil) (.nd (.int q.i) .nil .nil)))) (fun q=>⟨H.objs,q.n⟩) (fun q=>out.length - q.i)
   (fun q=>H.next<=q.n/\q.i<=out.length/\q.i+plI y (out.drop q.i)=P) ⟨0,n⟩ ⟨hn,Nat.zero_le _,by simpa using hP⟩ (by simp[FT.Le,Wk]) ⟨HWk.refl _,fun h=>h⟩ ?_
  rintro⟨j,m0⟩ ⟨hm0,hj,hpj⟩ hok3
  dsimp only at hm0 hj hpj hok3
  by_cases hjl:j<out.length
  case pos=>
   rw[List.drop_eq_getElem_cons hjl]at hpj
   unfold plI at hpj
   by_cases hxy:out[j]<y
   ·rw[if_pos hxy]at hpj
    simp(disch:=omega)[hjl,hxy,qi (show j<2^62 by omega)]
    exact⟨⟨j+1,m0⟩,by dsimp only;omega,⟨by dsimp only;omega,by dsimp only;omega,by dsimp only;omega⟩,by simp[FT.Le,Wk],HWk.refl _,fun h=>h⟩
   rw[if_neg hxy,Nat.add_zero]at hpj
   subst hpj
   rw[List.getElem?_eq_getElem hjl]at hins
   simp only at hins
   by_cases h4:y<=4000
   case neg=>
    have hadd:zi 4000 out y=out:=by unfold zi;rw[if_neg h4]
    rw[hadd]at he
    simp(disch:=omega)[hjl,hxy,h4,hi1]
    exact⟨⟨i+1,m0,out⟩,by dsimp only;omega,⟨by dsimp only;omega,by dsimp only;omega,by dsimp only;omega,he⟩,by simp[FT.Le,Wk],HWk.refl _,fun h=>h⟩
   have hadd:zi 4000 out y=wA y out:=by unfold zi;rw[if_pos h4]
   have hjne:¬(j:Int)=(out.length:Int):=by omega
   by_cases hxe:out[j]=y
   ·rw[if_pos hxe]at hins
    rw[hadd,hins]at he
    simp(disch:=omega)[hjl,hxy,h4,hjne,hxe,hi1]
    exact⟨⟨i+1,m0,out⟩,by dsimp only;omega,⟨by dsimp only;omega,by dsimp only;omega,by dsimp only;omega,he⟩,by simp[FT.Le,Wk],HWk.refl _,fun h=>h⟩
   rw[if_neg hxe]at hins
   rw[hadd,hins]at he
   have hj2:j<=out.length:=hj
   simp(disch:=omega)[hjl,hxy,h4,hjne,hxe,hj2]
   clear hok3
   refine qU ?_
   simp(disch:=omega)
   obtain⟨o1,ob1,m1,e1,hr1,hm1⟩:=vg (sz:=1) (H:=⟨H.objs,H.next⟩) (es:=[]) (Y:=(out.map LV.int).take j) (own:=.full) (n:=m0) (by omega) rfl (yU (vT out) j).1 (by simp;omega) (.inl ⟨rfl,rfl,by dsimp only;omega⟩)
   rw[e1]
   simp(disch:=omega)
   refine qU ?_
   simp(disch:=omega)
   obtain⟨o2,ob2,m2,e2,hr2,hm2⟩:=vg (sz:=1) (es:=[]++(out.map LV.int).take j) (Y:=[.int y]) (by omega) (by simpa using (yU (vT out) j).1) rfl (by simp;omega) (by rw[List.length_append];exact hr1)
   rw[List.nil_append]at e2
   rw[e2]
   simp(disch:=omega)
   refine qU ?_
   simp(disch:=omega)
   obtain⟨o3,ob3,m3,e3,hr3,hm3⟩:=vg (sz:=1) (es:=([]++(out.map LV.int).take j)++[.int y]) (Y:=(out.map LV.int).drop j) (by omega) (by
    rw[List.all_append,List.nil_append,(yU (vT out) j).1];rfl) (yU (vT out) j).2 (by simp;omega) (by rw[List.length_append (bs:=[LV.int y])];exact hr2)
   rw[List.nil_append]at e3
   have hold3:=hr3.old
   dsimp only at hold3
   have hdr:List.take (out.length - j) (List.drop j (out.map LV.int))=List.drop j (out.map LV.int):=List.take_of_length_le (by simp)
   rw[hdr,e3]
   simp(disch:=omega)[hi1]
   refine⟨⟨i+1,m3,out.take j++[y]++out.drop j⟩,by dsimp only;omega,⟨by dsimp only;omega,by dsimp only;omega,by simp;omega,he⟩,?_,vV hH hold3.2 (Nat.le_refl _),fun _=>qn.mono hH (by dsimp only;omega)⟩
   have hst:=qgl (out.take j++[y]++out.drop j) o3
   have hmm:List.take j (out.map LV.int)++LV.int y::List.drop j (out.map LV.int)=zJ (out.take j++[y]++out.drop j):=by simp
   rw[hmm]
   simp only[FT.Le,Wk,true_or,or_true,and_true,true_and]
   exact⟨hst,.inl (by simp)⟩
  case neg=>
   obtain rfl:j=out.length:=by omega
   rw[List.drop_eq_nil_of_le (Nat.le_refl _)]at hpj
   have hPe:P=out.length:=by rw[<-hpj];rfl
   have hnone:out[P]? = none:=List.getElem?_eq_none (by omega)
   rw[hnone]at hins
   simp only at hins
   by_cases h4:y<=4000
   case neg=>
    have hadd:zi 4000 out y=out:=by unfold zi;rw[if_neg h4]
    rw[hadd]at he
    simp(disch:=omega)[hjl,h4,hi1]
    exact⟨⟨i+1,m0,out⟩,by dsimp only;omega,⟨by dsimp only;omega,by dsimp only;omega,by dsimp only;omega,he⟩,by simp[FT.Le,Wk],HWk.refl _,fun h=>h⟩
   have hadd:zi 4000 out y=wA y out:=by unfold zi;rw[if_pos h4]
   rw[hadd,hins]at he
   simp(disch:=omega)[hjl,h4]
   rw[<-hPe]
   clear hok3 hpj
   refine qU ?_
   simp(disch:=omega)
   obtain⟨o1,ob1,m1,e1,hr1,hm1⟩:=vg (sz:=1) (H:=⟨H.objs,H.next⟩) (es:=[]) (Y:=(out.map LV.int).take P) (own:=.full) (n:=m0) (by omega) rfl (yU (vT out) P).1 (by simp;omega) (.inl ⟨rfl,rfl,by dsimp only;omega⟩)
   rw[e1]
   simp(disch:=omega)
   refine qU ?_
   simp(disch:=omega)
   obtain⟨o2,ob2,m2,e2,hr2,hm2⟩:=vg (sz:=1) (es:=[]++(out.map LV.int).take P) (Y:=[.int y]) (by omega) (by simpa using (yU (vT out) P).1) rfl (by simp;omega) (by rw[List.length_append];exact hr1)
   rw[List.nil_append]at e2
   rw[e2]
   simp(disch:=omega)
   refine qU ?_
   simp(disch:=omega)
   obtain⟨o3,ob3,m3,e3,hr3,hm3⟩:=vg (sz:=1) (es:=([]++(out.map LV.int).take P)++[.int y]) (Y:=(out.map LV.int).drop P) (by omega) (by
    rw[List.all_append,List.nil_append,(yU (vT out) P).1];rfl) (yU (vT out) P).2 (by simp;omega) (by rw[List.length_append (bs:=[LV.int y])];exact hr2)
   rw[List.nil_append]at e3
   have hold3:=hr3.old
   dsimp only at hold3
   rw[show (out.map LV.int).drop P=[] from List.drop_eq_nil_of_le (by rw[List.length_map];omega)]at e3
   rw[e3]
   simp(disch:=omega)[hi1]
   have hd0:out.drop P=[]:=List.drop_eq_nil_of_le (by omega)
   rw[hd0,List.append_nil]at he
   refine⟨⟨i+1,m3,out.take P++[y]⟩,by dsimp only;omega,⟨by dsimp only;omega,by dsimp only;omega,by simp;omega,he⟩,?_,vV hH hold3.2 (Nat.le_refl _),fun _=>qn.mono hH (by dsimp only;omega)⟩
   have hst:=qgl (out.take P++[y]) o3
   have hmm:List.take P (out.map LV.int)++[.int y]=zJ (out.take P++[y]):=by simp
   rw[hmm]
   simp only[FT.Le,Wk,true_or,or_true,and_true,true_and]
   exact⟨hst,.inl (by simp)⟩
 ·rw[if_neg hodd]at hy
  rw[show i % 2=0 by omega]at hrem
  simp(disch:=omega)[qkd,hmul,hlt',qqh,qqg,hquo,hwq,hrem,hq,hwt,hy]
  refine qy (σ:=NN) (fun q=>(.nd (.sl (l.map qY) own) (.nd .bot (.nd (.sl (zJ out) .no) .nil .nil) (.nd (.int y) .nil .nil)) (.nd .bot (.nd (.int i) .nil .nil) (.nd (.int q.i) .nil .nil)))) (fun q=>⟨H.objs,q.n⟩) (fun q=>out.length - q.i)
   (fun q=>H.next<=q.n/\q.i<=out.length/\q.i+plI y (out.drop q.i)=P) ⟨0,n⟩ ⟨hn,Nat.zero_le _,by simpa using hP⟩ (by simp[FT.Le,Wk]) ⟨HWk.refl _,fun h=>h⟩ ?_
  rintro⟨j,m0⟩ ⟨hm0,hj,hpj⟩ hok3
  dsimp only at hm0 hj hpj hok3
  by_cases hjl:j<out.length
  case pos=>
   rw[List.drop_eq_getElem_cons hjl]at hpj
   unfold plI at hpj
   by_cases hxy:out[j]<y
   ·rw[if_pos hxy]at hpj
    simp(disch:=omega)[hjl,hxy,qi (show j<2^62 by omega)]
    exact⟨⟨j+1,m0⟩,by dsimp only;omega,⟨by dsimp only;omega,by dsimp only;omega,by dsimp only;omega⟩,by simp[FT.Le,Wk],HWk.refl _,fun h=>h⟩
   rw[if_neg hxy,Nat.add_zero]at hpj
   subst hpj
   rw[List.getElem?_eq_getElem hjl]at hins
   simp only at hins
   by_cases h4:y<=4000
   case neg=>
    have hadd:zi 4000 out y=out:=by unfold zi;rw[if_neg h4]
    rw[hadd]at he
    simp(disch:=omega)[hjl,hxy,h4,hi1]
    exact⟨⟨i+1,m0,out⟩,by dsimp only;omega,⟨by dsimp only;omega,by dsimp only;omega,by dsimp only;omega,he⟩,by simp[FT.Le,Wk],HWk.refl _,fun h=>h⟩
   have hadd:zi 4000 out y=wA y out:=by unfold zi;rw[if_pos h4]
   have hjne:¬(j:Int)=(out.length:Int):=by omega
   by_cases hxe:out[j]=y
   ·rw[if_pos hxe]at hins
    rw[hadd,hins]at he
    simp(disch:=omega)[hjl,hxy,h4,hjne,hxe,hi1]
    exact⟨⟨i+1,m0,out⟩,by dsimp only;omega,⟨by dsimp only;omega,by dsimp only;omega,by dsimp only;omega,he⟩,by simp[FT.Le,Wk],HWk.refl _,fun h=>h⟩
   rw[if_neg hxe]at hins
   rw[hadd,hins]at he
   have hj2:j<=out.length:=hj
   simp(disch:=omega)[hjl,hxy,h4,hjne,hxe,hj2]
   clear hok3
   refine qU ?_
   simp(disch:=omega)
   obtain⟨o1,ob1,m1,e1,hr1,hm1⟩:=vg (sz:=1) (H:=⟨H.objs,H.next⟩) (es:=[]) (Y:=(out.map LV.int).take j) (own:=.full) (n:=m0) (by omega) rfl (yU (vT out) j).1 (by simp;omega) (.inl ⟨rfl,rfl,by dsimp only;omega⟩)
   rw[e1]
   simp(disch:=omega)
   refine qU ?_
   simp(disch:=omega)
   obtain⟨o2,ob2,m2,e2,hr2,hm2⟩:=vg (sz:=1) (es:=[]++(out.map LV.int).take j) (Y:=[.int y]) (by omega) (by simpa using (yU (vT out) j).1) rfl (by simp;omega) (by rw[List.length_append];exact hr1)
   rw[List.nil_append]at e2
   rw[e2]
   simp(disch:=omega)
   refine qU ?_
   simp(disch:=omega)
   obtain⟨o3,ob3,m3,e3,hr3,hm3⟩:=vg (sz:=1) (es:=([]++(out.map LV.int).take j)++[.int y]) (Y:=(out.map LV.int).drop j) (by omega) (by
    rw[List.all_append,List.nil_append,(yU (vT out) j).1];rfl) (yU (vT out) j).2 (by simp;omega) (by rw[List.length_append (bs:=[LV.int y])];exact hr2)
   rw[List.nil_append]at e3
   have hold3:=hr3.old
   dsimp only at hold3
   have hdr:List.take (out.length - j) (List.drop j (out.map LV.int))=List.drop j (out.map LV.int):=List.take_of_length_le (by simp)
   rw[hdr,e3]
   simp(disch:=omega)[hi1]
   refine⟨⟨i+1,m3,out.take j++[y]++out.drop j⟩,by dsimp only;omega,⟨by dsimp only;omega,by dsimp only;omega,by simp;omega,he⟩,?_,vV hH hold3.2 (Nat.le_refl _),fun _=>qn.mono hH (by dsimp only;omega)⟩
   have hst:=qgl (out.take j++[y]++out.drop j) o3
   have hmm:List.take j (out.map LV.int)++LV.int y::List.drop j (out.map LV.int)=zJ (out.take j++[y]++out.drop j):=by simp
   rw[hmm]
   simp only[FT.Le,Wk,true_or,or_true,and_true,true_and]
   exact⟨hst,.inl (by simp)⟩
  case neg=>
   obtain rfl:j=out.length:=by omega
   rw[List.drop_eq_nil_of_le (Nat.le_refl _)]at hpj
   have hPe:P=out.length:=by rw[<-hpj];rfl
   have hnone:out[P]? = none:=List.getElem?_eq_none (by omega)
   rw[hnone]at hins
   simp only at hins
   by_cases h4:y<=4000
   case neg=>
    have hadd:zi 4000 out y=out:=by unfold zi;rw[if_neg h4]
    rw[hadd]at he
    simp(disch:=omega)[hjl,h4,hi1]
    exact⟨⟨i+1,m0,out⟩,by dsimp only;omega,⟨by dsimp only;omega,by dsimp only;omega,by dsimp only;omega,he⟩,by simp[FT.Le,Wk],HWk.refl _,fun h=>h⟩
   have hadd:zi 4000 out y=wA y out:=by unfold zi;rw[if_pos h4]
   rw[hadd,hins]at he
   simp(disch:=omega)[hjl,h4]
   rw[<-hPe]
   clear hok3 hpj
   refine qU ?_
   simp(disch:=omega)
   obtain⟨o1,ob1,m1,e1,hr1,hm1⟩:=vg (sz:=1) (H:=⟨H.objs,H.next⟩) (es:=[]) (Y:=(out.map LV.int).take P) (own:=.full) (n:=m0) (by omega) rfl (yU (vT out) P).1 (by simp;omega) (.inl ⟨rfl,rfl,by dsimp only;omega⟩)
   rw[e1]
   simp(disch:=omega)
   refine qU ?_
   simp(disch:=omega)
   obtain⟨o2,ob2,m2,e2,hr2,hm2⟩:=vg (sz:=1) (es:=[]++(out.map LV.int).take P) (Y:=[.int y]) (by omega) (by simpa using (yU (vT out) P).1) rfl (by simp;omega) (by rw[List.length_append];exact hr1)
   rw[List.nil_append]at e2
   rw[e2]
   simp(disch:=omega)
   refine qU ?_
   simp(disch:=omega)
   obtain⟨o3,ob3,m3,e3,hr3,hm3⟩:=vg (sz:=1) (es:=([]++(out.map LV.int).take P)++[.int y]) (Y:=(out.map LV.int).drop P) (by omega) (by
    rw[List.all_append,List.nil_append,(yU (vT out) P).1];rfl) (yU (vT out) P).2 (by simp;omega) (by rw[List.length_append (bs:=[LV.int y])];exact hr2)
   rw[List.nil_append]at e3
   have hold3:=hr3.old
   dsimp only at hold3
   rw[show (out.map LV.int).drop P=[] from List.drop_eq_nil_of_le (by rw[List.length_map];omega)]at e3
   rw[e3]
   simp(disch:=omega)[hi1]
   have hd0:out.drop P=[]:=List.drop_eq_nil_of_le (by omega)
   rw[hd0,List.append_nil]at he
   refine⟨⟨i+1,m3,out.take P++[y]⟩,by dsimp only;omega,⟨by dsimp only;omega,by dsimp only;omega,by simp;omega,he⟩,?_,vV hH hold3.2 (Nat.le_refl _),fun _=>qn.mono hH (by dsimp only;omega)⟩
   have hst:=qgl (out.take P++[y]) o3
   have hmm:List.take P (out.map LV.int)++[.int y]=zJ (out.take P++[y]):=by simp
   rw[hmm]
   simp only[FT.Le,Wk,true_or,or_true,and_true,true_and]
   exact⟨hst,.inl (by simp)⟩
theorem qrK(l:List qf)(hc:(qA l).1=0)(H:qa){kv kp:HP}(hk:∀v n,H.next<=n->kv (.tup [v,.bool (!(zk l).isNone)]) ⟨H.objs,n⟩):cP E0 F0 89 [qt l] H kv kp:=by
 have hg:=qeh hc
 cases hl0:l with
 |nil=>
  rw[hl0]at hk
  exact qlh H kv kp fun n hn=>hk Nl n hn
 |cons c r=>
  rw[<-hl0]
  have hp:=qlg l (by rw[hl0];simp) hg (qgC fun c hc x hx=>(hg.kind c hc x hx).1)
  refine hp H kv kp fun n hn=>?_
  cases hS:zk l with
  |none=>rw[hS]at hk;exact hk Nl n hn
  |some m=>rw[hS]at hk;exact hk _ n hn
def qgA(l:List qv):Nat->Option qv
 |0=>none
 |k+1=>l[k]?
structure CustIn(l:List qv):Prop where
 len:l.length<2^63
 sm:l.length<=30->∀c∈l,qbv c.cls
theorem qrY(l:List qv)(own:Own)(hI:CustIn l):qg 30 [.sl (l.map qY) own] (.tup [.int (vN l).1,.int (vN l).2]):=by
 refine qg.of c30 fun H hH=>⟨Nat.le_of_ble_eq_true rfl,?_⟩
 have hl:=hI.len
 obtain⟨E,hE⟩:∃E,vN l=E:=⟨_,rfl⟩
 rw[hE]
 unfold vN at hE
 by_cases h30:30<l.length
 ·rw[if_pos h30]at hE
  have h30':(30:Int)<(l.length:Int):=by omega
  simp(disch:=omega)[b30,h30']
  exact qh hH (by simp[<-hE])
 rw[if_neg h30]at hE
 have h30':¬(30:Int)<(l.length:Int):=by omega
 simp(disch:=omega)[b30,h30']
 obtain⟨A,hA⟩:∃A,qad [] l 0=A:=⟨_,rfl⟩
 rw[hA]at hE
 have hA1:qdw none l 0=A:=by rw[<-hA];exact(qoO l [] none 0 rfl).symm
 have hSm:=hI.sm (by omega)
 have ret:∀(e:Int)(i:Nat),(e,(i:Int))=A->e≠0->E=(e,(i:Int)):=fun e i h h0=>by rw[<-h,if_pos h0]at hE;exact hE.symm
 refine qy (σ:=NN) (fun q=>(.nd (.sl (l.map qY) own) .nil (.nd .bot (.nd (.int q.i) .nil .nil) .nil))) (fun q=>⟨H.objs,q.n⟩) (fun q=>l.length - q.i)
  (fun q=>H.next<=q.n/\q.i<=l.length/\qdw (qgA l q.i) (l.drop q.i) q.i=A) ⟨0,H.next⟩ ⟨Nat.le_refl _,Nat.zero_le _,hA1⟩ (by simp[FT.Le,Wk]) ⟨HWk.refl _,fun h=>h⟩ ?_
 rintro⟨i,n⟩ ⟨hn,hi,he⟩ hok
 dsimp only at hn hi he hok
 by_cases hlt:i<l.length
 case pos=>
  rw[List.drop_eq_getElem_cons hlt]at he
  unfold qdw at he
  simp(disch:=omega)[hlt]
  refine(qlc l[i].id 1 1099511627776).go fun n2 hn2=>?_
  obtain⟨B,hB⟩:∃B,(decide (1<=l[i].id)&&decide (l[i].id<=1099511627776))=B:=⟨_,rfl⟩
  rw[hB]
  cases B
  ·have hio:vL l[i]=false:=by
    cases hx:vL l[i] with
    |false=>rfl
    |true=>
     have:=(qbN.1 hx).1
     rw[decide_eq_true this.1,decide_eq_true (by omega)]at hB
     cases hB
   rw[if_pos hio]at he
   have hEE:=ret 1 i he (by decide)
   simp(disch:=omega)
   exact qh hH (by simp[hEE])
  have hB2:1<=l[i].id/\l[i].id<=2^40:=by
   rw[Bool.and_eq_true,decide_eq_true_iff,decide_eq_true_iff]at hB
   omega
  have hbad:¬(0<=l[i].fr/\l[i].fr<=l[i].to/\l[i].to<=4000)->E=(1,(i:Int)):=fun h=>by
   have hio:vL l[i]=false:=by
    cases hx:vL l[i] with
    |false=>rfl
    |true=>exact absurd (qbN.1 hx).2 h
   rw[if_pos hio]at he
   exact ret 1 i he (by decide)
  by_cases h1:l[i].fr<0
  ·have hEE:=hbad (by omega)
   simp(disch:=omega)[h1]
   exact qh hH (by simp[hEE])
  by_cases h2:l[i].to<l[i].fr
  ·have hEE:=hbad (by omega)
   simp(disch:=omega)[h1,h2]
   exact qh hH (by simp[hEE])
  by_cases h3:4000<l[i].to
  ·have hEE:=hbad (by omega)
   simp(disch:=omega)[h1,h2,h3]
   exact qh hH (by simp[hEE])
  have hio:¬vL l[i]=false:=by rw[qbN.2 ⟨hB2,by omega⟩];simp
  rw[if_neg hio]at he
  have tail:∀(n3:Nat),n<=n3->qfx (qgA l i) l[i]=false->(if (qA l[i].cls).1≠0 then ((qA l[i].cls).1,(i:Int)) else qdw (some l[i]) (l.drop (i+1)) (i+1))=A:=fun n3 _ hg=>by
   rw[hg,if_neg (by simp)]at he
   exact he
  have hpe:qgA l (i+1)=some l[i]:=List.getElem?_eq_getElem hlt
  by_cases hi0:i=0
  ·subst hi0
   have he2:=tail n (Nat.le_refl _) rfl
   simp(disch:=omega)[h1,h2,h3]
   refine(qdN l[0].cls (hSm _ (ub hlt)).ok3).go fun n4 hn4=>?_
   rw[qjW]
   by_cases hc:(qA l[0].cls).1=0
   case neg=>
    rw[if_pos hc]at he2
    have hEE:=ret _ 0 he2 hc
    simp(disch:=omega)[hc]
    exact qh hH (by simp[hEE])
   rw[if_neg (by simpa using hc)]at he2
   simp(disch:=omega)[hc,qkE]
   exact⟨⟨1,n4⟩,by dsimp only;omega,⟨by dsimp only;omega,by dsimp only;omega,by dsimp only;rw[hpe];exact he2⟩,by simp[FT.Le,Wk],y9 hok (Nat.le_refl _),fun _=>qn.mono hok (by dsimp only;omega)⟩
  obtain⟨k,rfl⟩:∃k,i=k+1:=⟨i - 1,by omega⟩
  have hkl:k<l.length:=by omega
  have hgl:qfx (qgA l (k+1)) l[k+1]=decide (l[k+1].id<=l[k].id):=by
   show qfx l[k]? l[k+1]=_
   rw[List.getElem?_eq_getElem hkl]
   rfl
  have hk0:(0:Int)<((k+1:Nat):Int):=by omega
  have hwp:IntKind.wrap .i64 (((k+1:Nat):Int) - 1)=(k:Int):=qqI rfl (by omega)
  have hwk:IntKind.wrap .i64 (k:Int)=(k:Int):=ui (by omega) (by omega)
  have hmx:(if (0:Int)<(k:Int) then (k:Int) else 0)=(k:Int):=by split<;>omega
  have hmx2:(if 0<k then (k:Int) else 0)=(k:Int):=by split<;>omega
  by_cases hle:l[k+1].id<=l[k].id
  ·rw[hgl,decide_eq_true hle,if_pos rfl]at he
   have hEE:=ret 6 (k+1) he (by decide)
   simp(disch:=omega)[h1,h2,h3,hk0,hwp,hwk,hmx,hmx2,hkl,hle]
   exact qh hH (by simp[hEE])
  have he2:=tail n (Nat.le_refl _) (by rw[hgl];exact decide_eq_false hle)
  simp(disch:=omega)[h1,h2,h3,hk0,hwp,hwk,hmx,hmx2,hkl,hle]
  refine(qdN l[k+1].cls (hSm _ (ub hlt)).ok3).go fun n4 hn4=>?_
  rw[qjW]
  by_cases hc:(qA l[k+1].cls).1=0
  case neg=>
   rw[if_pos hc]at he2
   have hEE:=ret _ (k+1) he2 hc
   simp(disch:=omega)[hc]
   exact qh hH (by simp[hEE])
  rw[if_neg (by simpa using hc)]at he2
  have hw2:IntKind.wrap .i64 ((k:Int)+1+1)=(k:Int)+1+1:=ui (by omega) (by omega)
  simp(disch:=omega)[hc,hw2]
  exact⟨⟨k+1+1,n4⟩,by dsimp only;omega,⟨by dsimp only;omega,by dsimp only;omega,by dsimp only;rw[hpe];exact he2⟩,by simp[FT.Le,Wk],y9 hok (Nat.le_refl _),fun _=>qn.mono hok (by dsimp only;omega)⟩
 obtain rfl:i=l.length:=by omega
 rw[List.drop_eq_nil_of_le (Nat.le_refl _)]at he
 have hA0:A.1=0:=by rw[<-he];rfl
 have hC:qct l:=qhi (by rw[hA];exact hA0)
 rw[if_neg (by rw[hA0];simp)]at hE
 simp(disch:=omega)
 refine qrC l own (by omega) (fun c hc=>by have:=(qbN.1 (hC.ok c hc).1).2;omega) _ fun n2 hn2=>?_
 dsimp only at hn2
 have hyl:=qiF 4000 (zI l)
 have hsl:(zI l).length=l.length:=by unfold zI;rw[List.length_map]
 obtain⟨ys,hys⟩:∃ys,vF 4000 (zI l)=ys:=⟨_,rfl⟩
 rw[hys]at hyl hE ⊢
 obtain⟨Y,hY⟩:∃Y,qbV l ys=Y:=⟨_,rfl⟩
 rw[hY]at hE
 simp(disch:=omega)
 refine qy (σ:=NN) (fun q=>(.nd (.sl (l.map qY) own) (.nd .bot .nil (.nd .bot (.nd (.sl (zJ ys) .no) .nil .nil) .nil)) (.nd .bot .nil (.nd .bot (.nd (.int q.i) .nil .nil) .nil)))) (fun q=>⟨H.objs,q.n⟩) (fun q=>ys.length - q.i)
  (fun q=>H.next<=q.n/\q.i<=ys.length/\qbV l (ys.drop q.i)=Y) ⟨0,n2⟩ ⟨by dsimp only;omega,Nat.zero_le _,hY⟩ (by simp[FT.Le,Wk]) ⟨HWk.refl _,fun h=>h⟩ ?_
 rintro⟨j,m⟩ ⟨hm,hj,he2⟩ hok2
 dsimp only at hm hj he2 hok2
 by_cases hjl:j<ys.length
 case neg=>
  rw[List.drop_eq_nil_of_le (by omega)]at he2
  have hY0:Y=0:=he2.symm
  simp(disch:=omega)[hjl]
  exact qh hH (by simp[<-hE,hY0])
 rw[List.drop_eq_getElem_cons hjl]at he2
 unfold qbV at he2
 have hfl:=hC.le (by omega) ys[j] 0
 simp(disch:=omega)[hjl]
 refine(qeM l own ys[j] 0 (by omega) (by omega)).go fun n4 hn4=>?_
 obtain⟨F,hF⟩:∃F,qB l ys[j] 0=F:=⟨_,rfl⟩
 have hck:=qov hC (y:=ys[j]) (w:=0)
 rw[hF]at he2 hfl hck ⊢
 by_cases h40:40<F.length
 ·rw[if_pos h40]at he2
  have h40':(40:Int)<(F.length:Int):=by omega
  simp(disch:=omega)[h40']
  exact qh hH (by simp[<-hE,<-he2])
 rw[if_neg h40]at he2
 have h40':¬(40:Int)<(F.length:Int):=by omega
 have hck0:=hck (by omega)
 simp(disch:=omega)[h40']
 refine qrK F hck0 _ fun v n5 hn5=>?_
 dsimp only at hn5
 cases hS:(zk F).isNone
 ·rw[hS,if_neg (by simp)]at he2
  simp(disch:=omega)[qi (show j<2^62 by omega)]
  exact⟨⟨j+1,n5⟩,by dsimp only;omega,⟨by dsimp only;omega,by dsimp only;omega,he2⟩,by simp[FT.Le,Wk],HWk.refl _,fun h=>h⟩
 ·rw[hS,if_pos rfl]at he2
  have hYY:Y=81:=he2.symm
  simp(disch:=omega)
  exact qh hH (by simp[<-hE,hYY])
theorem qig(l:List qv)(own:Own)(y:Int)(hI:CustIn l):qg 66 [.sl (l.map qY) own,.int y] (.int (uP l y)):=by
 refine qg.of c66 fun H hH=>⟨Nat.le_of_ble_eq_true rfl,?_⟩
 obtain⟨E,hE⟩:∃E,uP l y=E:=⟨_,rfl⟩
 rw[hE]
 unfold uP at hE
 simp(disch:=omega)[b66]
 refine(qtb l own hI.len hI.sm).go fun n1 hn1=>?_
 by_cases hc:(vN l).1=0
 case neg=>
  rw[if_pos hc]at hE
  simp(disch:=omega)[hc]
  exact qh hH (by simp[hE])
 rw[if_neg (by simpa using hc)]at hE
 simp(disch:=omega)[hc]
 refine(qeK y 0 4000).go fun n2 hn2=>?_
 by_cases hy:0<=y/\y<=4000
 ·rw[if_pos hy]at hE
  simp(disch:=omega)[hy.1,hy.2]
  exact qh hH (by simp[<-hE])
 ·rw[if_neg hy]at hE
  have hyf:(decide (0<=y)&&decide (y<=4000))=false:=by
   rw[<-Bool.decide_and]
   exact decide_eq_false hy
  rw[hyf]
  simp(disch:=omega)
  exact qh hH (by simp[<-hE])
theorem qlo(l:List qv)(own:Own)(y:Int)(hI:CustIn l):qg 71 [.sl (l.map qY) own,.int y] (.int (uP l y)):=by
 refine qg.of c71 fun H hH=>⟨Nat.le_of_ble_eq_true rfl,?_⟩
 obtain⟨E,hE⟩:∃E,uP l y=E:=⟨_,rfl⟩
 rw[hE]
 unfold uP at hE
 simp(disch:=omega)[b71]
 refine(qrY l own hI).go fun n1 hn1=>?_
 by_cases hc:(vN l).1=0
 case neg=>
  rw[if_pos hc]at hE
  simp(disch:=omega)[hc]
  exact qh hH (by simp[hE])
 rw[if_neg (by simpa using hc)]at hE
 by_cases h1:y<0
 ·rw[if_neg (by omega)]at hE
  simp(disch:=omega)[hc,h1]
  exact qh hH (by simp[<-hE])
 by_cases h2:4000<y
 ·rw[if_neg (by omega)]at hE
  simp(disch:=omega)[hc,h1,h2]
  exact qh hH (by simp[<-hE])
 rw[if_pos (by omega)]at hE
 simp(disch:=omega)[hc,h1,h2]
 exact qh hH (by simp[<-hE])
theorem qbT{l:List qv}{y:Int}(h:uP l y=0)(x w:Int):l.length<=30/\(qB l x w).length<=1200:=by
 unfold uP at h
 by_cases h1:(vN l).1≠0
 ·rw[if_pos h1]at h;exact absurd h h1
 have h1:(vN l).1=0:=by simpa using h1
 unfold vN at h1
 by_cases h2:30<l.length
 ·rw[if_pos h2]at h1;cases h1
 rw[if_neg h2]at h1
 by_cases h3:(qad [] l 0).1≠0
 ·rw[if_pos h3]at h1;exact absurd h1 h3
 exact⟨by omega,(qhi (by simpa using h3)).le (by omega) x w⟩
end Go.Abs.Tz
namespace Go.Abs.Tz
open Go Go.Abs Go.Proofs
def vR(A B:List Atom):List Atom:=A.filter fun x=>!ws B x
end Go.Abs.Tz
namespace Go.Abs.Tz
open Go Go.Abs Go.Proofs
set_option maxRecDepth 20000
set_option linter.unusedSimpArgs false
attribute [local simp ↓] yb ya jv ju gI ut zg zB jr up yP yQ yc ye yf yd jA jD jG jB jH jI jE jF jC jy jw jz jx yN yL yO yM g7 gZ g8 g6 yk yh yj uu zx jL zh z7 gL yS yT yo yq yp ym yn yz jO jT jW jS jU jV gy gx j5 j7 jb uZ jm jp u9 jh jl jk jj ji jf uV uW uX uY jn jd je uT jo jq ja jc jg uU gb j6 gu gC j8 gj gt gq gp gk gh j0 gw gf gg jX gA gD j9 gd gi jY gG gz jZ gF ge ga gc j3 gv jP jR jQ yu yx yt yv yw qp uL
attribute [local simp] faL fdL iaL ixL qL zb qV eqK eqL qR zo uO yr yK yA yC yE yG yI yJ yB yF yD yH zC LV.cells LV.whole qp uC uw jM stL zF zR uq qa.alloc gJ gH gK gY gW gV gU gT gS gQ gO gN gM qe ux
structure RIn(l:List qf)(base:List Atom):Prop where
 hl:qbv l
 h3:(qA l).1=0->∀c∈l,(qO c.body).length<=3
 hb:base.length<2^63
 hok:base.length<=100->∀a∈base,a.ok
theorem qhY{l:List qf}{base:List Atom}(hI:RIn l base)(ow:Own)(H:qa){kv kp:HP}(hk:∀n,H.next<=n->kv (.agg [.sl ((zl l base).map qd) .no,.int (zO l base)]) ⟨H.objs,n⟩):
  cP E0 F0 81 [qt l,.sl (base.map qd) ow] H kv kp:=
 qrW l hI.hl hI.h3 base ow hI.hb hI.hok (fun hc q hq c hcl=>(qmM hc hq).has c hcl _ (by simp[vC])) H hk
def qaq(l:List qf)(base:List Atom)(a:Atom):Bool:=if zO l base≠0 then false else if qK a then ws (zl l base) a else false
def w8(l:List qf)(base:List Atom)(a:Atom):Int:=if zO l base≠0 then zO l base else if qK a then 0 else 1
theorem qlq{l:List qf}{base:List Atom}(hI:RIn l base)(hM:(zl l base).length<=300/\∀a∈zl l base,qI a)(ow:Own)(a:Atom)(ha:a.ok)(H:qa){kv kp:HP}(hk:∀n,H.next<=n->kv (.tup [.bool (qaq l base a),.int (w8 l base a)]) ⟨H.objs,n⟩):
  cP E0 F0 75 [qt l,.sl (base.map qd) ow,qd a] H kv kp:=by
 refine ur c75 fun hH=>⟨Nat.le_of_ble_eq_true rfl,?_⟩
 obtain⟨N0,hN0⟩:∃N0,H.next=N0:=⟨_,rfl⟩
 obtain⟨ob,nx⟩:=H
 dsimp only at hN0 hk
 subst hN0
 obtain⟨hM1,hM2⟩:=hM
 obtain⟨e,he⟩:∃e,zO l base=e:=⟨_,rfl⟩
 obtain⟨L,hL⟩:∃L,zl l base=L:=⟨_,rfl⟩
 rw[hL]at hM1 hM2
 unfold qaq w8 at hk
 rw[he,hL]at hk
 have hold:∀(x y:qc)(n1:Nat),nx+1<=n1->∀i,i<nx->look i ((n1,x)::(nx,y)::ob)=look i ob:=fun x y n1 h i hi=>by rw[qe (by omega),qe (by omega)]
 simp(disch:=omega)[b75]
 refine qhY hI ow _ fun n1 hn1=>?_
 dsimp only at hn1
 rw[he,hL]
 have fin:∀(x:qc)(m:Nat)(v:LV),n1<=m->kv v ⟨ob,m⟩->∃H'',HWk ⟨(n1,x)::(nx,.cells [.str a.pred,qk a.args])::ob,m⟩ H''/\(qa.Ok ⟨(n1,x)::(nx,.cells [.str a.pred,qk a.args])::ob,m⟩->H''.Ok)/\kv v H'':=fun x m v hm hk=>⟨⟨ob,m⟩,vV hH (hold _ _ n1 (by omega)) (Nat.le_refl _),fun _=>qn.mono hH (by dsimp only;omega),hk⟩
 by_cases h0:e=0
 case neg=>
  rw[if_pos h0,if_pos h0]at hk
  simp(disch:=omega)[h0,zx]
  exact fin _ _ _ (by omega) (hk _ (by omega))
 subst h0
 simp only[ne_eq,not_true_eq_false,if_false]at hk
 have hl0:∀x:qc,look nx ((n1,x)::(nx,.cells [.str a.pred,qk a.args])::ob)=some (.cells [.str a.pred,qk a.args]):=fun x=>by rw[qe (by omega)];exact qp _ _ _
 simp(disch:=omega)[hl0]
 refine(qeN a ha).go fun n2 hn2=>?_
 simp(disch:=omega)[hl0]
 refine(qhW a ha).go fun n3 hn3=>?_
 cases hf:qM a
 ·have e:qK a=false:=by simp[qK,hf]
  rw[e]at hk
  simp(disch:=omega)[hl0,zx]
  exact fin _ _ _ (by omega) (hk _ (by omega))
 cases hg2:a.args.all ua
 ·have e:qK a=false:=by simp[qK,hg2]
  rw[e]at hk
  simp(disch:=omega)[hl0,zx]
  exact fin _ _ _ (by omega) (hk _ (by omega))
 have e:qK a=true:=by simp[qK,hf,hg2]
 rw[e]at hk
 simp(disch:=omega)[hl0]
 refine(qhV L .no a (by omega) (fun x hx=>wX (hM2 x hx).1) ha).go fun n4 hn4=>?_
 simp(disch:=omega)[zx]
 exact fin _ _ _ (by omega) (hk _ (by omega))
end Go.Abs.Tz
namespace Go.Abs.Tz
open Go Go.Abs Go.Proofs
def gE(base:List Atom):Int:=zp [] (some []) base
def qbH(A:List qv)(y:Int)(base:List Atom)(a:Atom)(now:Bool):List qv->List Int->List Int×Int
 |[],out=>(out,0)
 |c::r,out=>if c.fr<=y/\y<=c.to then (if w8 (qB A y c.id) base a≠0 then ([],w8 (qB A y c.id) base a) else
   qbH A y base a now r (if qaq (qB A y c.id) base a=now then out else out++[c.id])) else qbH A y base a now r out
def qao(l:List qv)(base:List Atom)(y:Int)(a:Atom):List Int×Int:=
 if uP l y≠0 then ([],uP l y) else if gE base≠0 then ([],gE base) else if qK a=false then ([],1) else
 if w8 (qB l y 0) base a≠0 then ([],w8 (qB l y 0) base a) else qbH l y base a (qaq (qB l y 0) base a) l []
def wD(l:List qv)(base:List Atom)(y i:Int):Int:=
 if uP l y≠0 then uP l y else if qeg l i=false then 5 else if gE base≠0 then gE base else
 if zO (qB l y 0) base≠0 then zO (qB l y 0) base else zO (qB l y i) base
def effW(l:List qv)(base:List Atom)(y i:Int):List Atom:=if wD l base y i≠0 then [] else vR (zl (qB l y 0) base) (zl (qB l y i) base)
def effO(l:List qv)(base:List Atom)(y i:Int):List Atom:=if wD l base y i≠0 then [] else vR (zl (qB l y i) base) (zl (qB l y 0) base)
theorem qpz{l:List qv}(h:(vN l).1=0):qct l/\qbV l (vF 4000 (zI l))=0/\l.length<=30:=by
 unfold vN at h
 by_cases h1:30<l.length
 ·rw[if_pos h1]at h;cases h
 rw[if_neg h1]at h
 by_cases h2:(qad [] l 0).1≠0
 ·rw[if_pos h2]at h;exact absurd h h2
 rw[if_neg h2]at h
 exact⟨qhi (by omega),h,by omega⟩
theorem qqs{l:List qv}{y:Int}(h:uP l y=0):(vN l).1=0/\0<=y/\y<=4000:=by
 unfold uP at h
 by_cases h1:(vN l).1≠0
 ·rw[if_pos h1]at h;exact absurd h h1
 rw[if_neg h1]at h
 by_cases h2:0<=y/\y<=4000
 ·exact⟨by omega,h2⟩
 ·rw[if_neg h2]at h;cases h
end Go.Abs.Tz
namespace Go.Abs.Tz
open Go Go.Abs Go.Proofs
set_option maxRecDepth 20000
set_option linter.unusedSimpArgs false
attribute [local simp ↓] yb ya jv ju gI ut zg zB jr up yP yQ yc ye yf yd jA jD jG jB jH jI jE jF jC jy jw jz jx yN yL yO yM g7 gZ g8 g6 yk yh yj uu zx jL zh z7 gL yS yT yo yq yp ym yn yz jO jT jW jS jU jV gy gx j5 j7 jb uZ jm jp u9 jh jl jk jj ji jf uV uW uX uY jn jd je uT jo jq ja jc jg uU gb j6 gu gC j8 gj gt gq gp gk gh j0 gw gf gg jX gA gD j9 gd gi jY gG gz jZ gF ge ga gc j3 gv jP jR jQ yu yx yt yv yw qp uL
attribute [local simp] faL fdL iaL ixL qL zb qV eqK eqL qR zo uO yr yK yA yC yE yG yI yJ yB yF yD yH zC LV.cells LV.whole qp uC uw jM stL zF zR uq qa.alloc gJ gH gK gY gW gV gU gT gS gQ gO gN gM qe ux
theorem qmK(n:Nat)(m:Option Nat)(q:Nat)(t:FT)(H:qa)(k:LV->Prop):vp E0 [.c n m,.t q] t H k=zE t n fun a=>vP (qL H m a) fun v=>zE t q fun b=>k (.tup [v,b]):=by
 have e1:wz H t.get (.c n m)=qL H m (t.get n):=rfl
 have e2:wz H t.get (.t q)=some (t.get q):=rfl
 unfold vp zE vP
 simp only[wY,List.mapM_cons,List.mapM_nil,e1,e2]
 cases qL H m (t.get n) with
 |none=>simp
 |some v=>simp
def qdT(l:List qv)(y:Int):Int×Int×Int:=if uP l y≠0 then (0,0,uP l y) else (qmN (vF 4000 (zI l)) y,qmO (vF 4000 (zI l)) y,0)
def hiY(ys:List Int)(y:Int):List Int:=(ys.filter fun x=>decide (y<x)).map fun x=>x - 1
theorem quX(p:Int->Bool)(x:Int)(l:List Int)(a:Int):qgM p (x::l) a=qgM p l (if p x then (if a<x then x else a) else a):=rfl
theorem quQ(p:Int->Bool)(x:Int)(l:List Int)(a:Int):qeb p (x::l) a=qeb p l (if p x then (if x<a then x else a) else a):=rfl
theorem qvN(x y:Int)(r:List Int)(a:Int):qeb (fun x=>decide (y<=x)) (hiY (x::r) y) a=qeb (fun x=>decide (y<=x)) (hiY r y) (if x<=y then a else if x - 1<a then x - 1 else a):=by
 unfold hiY
 by_cases h:x<=y
 ·rw[List.filter_cons,decide_eq_false (by omega:¬y<x),if_neg (by simp),if_pos h]
 ·rw[List.filter_cons,decide_eq_true (by omega:y<x),if_pos rfl,List.map_cons,quQ,decide_eq_true (by omega:y<=x - 1),if_pos rfl,if_neg h]
structure NNcR where
 i:Nat
 n:Nat
 lo:Int
 hi:Int
theorem qsX(l:List qv)(own:Own)(y:Int)(hI:CustIn l):qg 35 [.sl (l.map qY) own,.int y] (.tup [.agg [.int (qdT l y).1,.int (qdT l y).2.1],.int (qdT l y).2.2]):=by
 refine qg.of c35 fun H hH=>⟨Nat.le_of_ble_eq_true rfl,?_⟩
 obtain⟨V,hV⟩:∃V,qdT l y=V:=⟨_,rfl⟩
 rw[hV]
 unfold qdT at hV
 simp(disch:=omega)[b35]
 refine(qig l own y hI).go fun n1 hn1=>?_
 by_cases ha:uP l y=0
 case neg=>
  rw[if_pos ha]at hV
  have e1:V.1=0:=by rw[<-hV]
  have e2:V.2.1=0:=by rw[<-hV]
  have e3:V.2.2=uP l y:=by rw[<-hV]
  rw[e1,e2,e3]
  simp(disch:=omega)[ha,qmK]
  exact qh hH (by first|rfl|simp[])
 rw[if_neg (by simpa using ha)]at hV
 obtain⟨h30,_⟩:=qbT ha y 0
 obtain⟨hcu,hyb⟩:=qqs ha
 obtain⟨hC,_,_⟩:=qpz hcu
 rw[ha]
 simp(disch:=omega)
 refine qlC l own (by omega) (fun c hc=>(hC.ok c hc).1) _ _ fun ow n2 hn2=>?_
 have hyl:=qiF 4000 (zI l)
 have hsl:(zI l).length=l.length:=by unfold zI;rw[List.length_map]
 have hyb2:∀x∈vF 4000 (zI l),-10<=x/\x<=4001:=fun x hx=>by
  rcases quR.1 hx with h|⟨c,hc,h⟩
  ·omega
  ·have:=(qbN.1 (hC.ok c hc).1).2
   omega
 obtain⟨ys,hys⟩:∃ys,vF 4000 (zI l)=ys:=⟨_,rfl⟩
 rw[hys]at hyl hV hyb2 ⊢
 obtain⟨LO,hLO⟩:∃x,qmN ys y=x:=⟨_,rfl⟩
 obtain⟨HI,hHI⟩:∃x,qmO ys y=x:=⟨_,rfl⟩
 rw[hLO,hHI]at hV
 simp(disch:=omega)
 refine qy (σ:=NNcR) (fun q=>(.nd .bot (.nd (.int y) (.nd .bot (.nd (.ptr n1 0) .nil .nil) (.nd .bot (.nd (.sl (zJ ys) ow) .nil .nil) .nil)) (.nd .bot .nil (.nd .bot (.nd (.int q.i) .nil .nil) .nil))) (.nd .bot (.nd (.ptr H.next 0) .nil (.nd .bot (.nd (.int ys.length) .nil .nil) .nil)) .nil))) (fun q=>⟨(n1,.cells [.int q.lo,.int q.hi])::(H.next,.cells [.int 0,.int 0])::H.objs,q.n⟩) (fun q=>ys.length - q.i)
  (fun q=>n2<=q.n/\q.i<=ys.length/\qgM (fun x=>decide (x<=y)) (ys.drop q.i) q.lo=LO/\qeb (fun x=>decide (y<=x)) (hiY (ys.drop q.i) y) q.hi=HI) ⟨0,n2,0,4000⟩ ⟨Nat.le_refl _,Nat.zero_le _,hLO,hHI⟩ (by simp[FT.Le,Wk]) ⟨HWk.refl _,fun h=>h⟩ ?_
 rintro⟨i,n,lo,hi⟩ ⟨hn,hil,he1,he2⟩ hok
 dsimp only at hn hil he1 he2 hok
 by_cases hlt:i<ys.length
 case neg=>
  rw[List.drop_eq_nil_of_le (by omega)]at he1 he2
  have e1:lo=LO:=he1
  have e2:hi=HI:=he2
  subst e1 e2
  have e1:V.1=lo:=by rw[<-hV]
  have e2:V.2.1=hi:=by rw[<-hV]
  have e3:V.2.2=0:=by rw[<-hV]
  rw[e1,e2,e3]
  simp(disch:=omega)[hlt,qmK]
  exact qh hH (by first|rfl|simp[])
 rw[List.drop_eq_getElem_cons hlt]at he1 he2
 rw[quX]at he1
 rw[qvN]at he2
 have hyx:=hyb2 _ (List.getElem_mem hlt)
 by_cases hle:ys[i]<=y
 ·rw[decide_eq_true hle,if_pos rfl]at he1
  rw[if_pos hle]at he2
  simp(disch:=omega)[hlt,hle,qi (show i<2^62 by omega)]
  exact⟨⟨i+1,n,if lo<ys[i] then ys[i] else lo,hi⟩,by dsimp only;omega,⟨by dsimp only;omega,by dsimp only;omega,he1,he2⟩,by simp[FT.Le,Wk],HWk.refl _,fun h=>h⟩
 ·rw[decide_eq_false hle,if_neg (by simp)]at he1
  rw[if_neg hle]at he2
  have hw:IntKind.wrap .i64 (ys[i] - 1)=ys[i] - 1:=ui (by omega) (by omega)
  simp(disch:=omega)[hlt,hle,hw,qi (show i<2^62 by omega)]
  exact⟨⟨i+1,n,lo,if ys[i] - 1<hi then ys[i] - 1 else hi⟩,by dsimp only;omega,⟨by dsimp only;omega,by dsimp only;omega,he1,he2⟩,by simp[FT.Le,Wk],HWk.refl _,fun h=>h⟩
end Go.Abs.Tz
namespace Go.Abs
open Go
end Go.Abs
namespace Go.Abs.Tz
open Go Go.Abs Go.Proofs
set_option maxRecDepth 20000
set_option linter.unusedSimpArgs false
attribute [local simp ↓] yb ya jv ju gI ut zg zB jr up yP yQ yc ye yf yd jA jD jG jB jH jI jE jF jC jy jw jz jx yN yL yO yM g7 gZ g8 g6 yk yh yj uu zx jL zh z7 gL yS yT yo yq yp ym yn yz jO jT jW jS jU jV gy gx j5 j7 jb uZ jm jp u9 jh jl jk jj ji jf uV uW uX uY jn jd je uT jo jq ja jc jg uU gb j6 gu gC j8 gj gt gq gp gk gh j0 gw gf gg jX gA gD j9 gd gi jY gG gz jZ gF ge ga gc j3 gv jP jR jQ yu yx yt yv yw qp uL
attribute [local simp] faL fdL iaL ixL qL zb qV eqK eqL qR zo uO yr yK yA yC yE yG yI yJ yB yF yD yH zC LV.cells LV.whole qp uC uw jM stL zF zR uq qa.alloc gJ gH gK gY gW gV gU gT gS gQ gO gN gM qe ux
structure NNcA where
 i:Nat
 a:List qv
end Go.Abs.Tz
namespace Go.Proofs
open Go Go.RowKit Go.Lib
set_option maxHeartbeats 2000000
set_option maxRecDepth 100000
end Go.Proofs
namespace Go.Abs.Tz
open Go Go.Abs Go.Proofs
set_option maxRecDepth 20000
set_option linter.unusedSimpArgs false
attribute [local simp ↓] yb ya jv ju gI ut zg zB jr up yP yQ yc ye yf yd jA jD jG jB jH jI jE jF jC jy jw jz jx yN yL yO yM g7 gZ g8 g6 yk yh yj uu zx jL zh z7 gL yS yT yo yq yp ym yn yz jO jT jW jS jU jV gy gx j5 j7 jb uZ jm jp u9 jh jl jk jj ji jf uV uW uX uY jn jd je uT jo jq ja jc jg uU gb j6 gu gC j8 gj gt gq gp gk gh j0 gw gf gg jX gA gD j9 gd gi jY gG gz jZ gF ge ga gc j3 gv jP jR jQ yu yx yt yv yw qp uL
attribute [local simp] faL fdL iaL ixL qL zb qV eqK eqL qR zo uO yr yK yA yC yE yG yI yJ yB yF yD yH zC LV.cells LV.whole qp uC uw jM stL zF zR uq qa.alloc gJ gH gK gY gW gV gU gT gS gQ gO gN gM qe ux
end Go.Abs.Tz
namespace Go.Abs.Tz
open Go Go.Abs Go.Proofs
set_option maxRecDepth 20000
set_option linter.unusedSimpArgs false
attribute [local simp ↓] yb ya jv ju gI ut zg zB jr up yP yQ yc ye yf yd jA jD jG jB jH jI jE jF jC jy jw jz jx yN yL yO yM g7 gZ g8 g6 yk yh yj uu zx jL zh z7 gL yS yT yo yq yp ym yn yz jO jT jW jS jU jV gy gx j5 j7 jb uZ jm jp u9 jh jl jk jj ji jf uV uW uX uY jn jd je uT jo jq ja jc jg uU gb j6 gu gC j8 gj gt gq gp gk gh j0 gw gf gg jX gA gD j9 gd gi jY gG gz jZ gF ge ga gc j3 gv jP jR jQ yu yx yt yv yw qp uL
attribute [local simp] faL fdL iaL ixL qL zb qV eqK eqL qR zo uO yr yK yA yC yE yG yI yJ yB yF yD yH zC LV.cells LV.whole qp uC uw jM stL zF zR uq qa.alloc gJ gH gK gY gW gV gU gT gS gQ gO gN gM qe ux
theorem qhS(a:List Int)(o1 o2:Own)(ha:a.length<2^60):qg 26 [.sl (zJ a) o1,.sl (zJ a) o2] (.bool true):=by
 refine qg.of c26 fun H hH=>⟨Nat.le_of_ble_eq_true rfl,?_⟩
 simp(disch:=omega)[b26]
 refine qy (σ:=NN) (fun q=>(.nd (.sl (zJ a) o1) (.nd (.sl (zJ a) o2) .nil (.nd (.int q.i) .nil .nil)) .nil)) (fun q=>⟨H.objs,q.n⟩) (fun q=>a.length - q.i)
  (fun q=>H.next<=q.n/\q.i<=a.length) ⟨0,H.next⟩ ⟨Nat.le_refl _,Nat.zero_le _⟩ (by simp[FT.Le,Wk]) ⟨HWk.refl _,fun h=>h⟩ ?_
 rintro⟨i,n⟩ ⟨hn,hi⟩ hok
 dsimp only at hn hi
 by_cases hlt:i<a.length
 ·simp(disch:=omega)[hlt,qi (show i<2^62 by omega)]
  exact⟨⟨i+1,n⟩,by dsimp only;omega,⟨by dsimp only;omega,by dsimp only;omega⟩,by simp[FT.Le,Wk],HWk.refl _,fun h=>h⟩
 ·simp(disch:=omega)[hlt]
  exact qh hH (by first|rfl|simp[])
def sh4(c:qv):Bool:=qcz 4 c.cls
def qbE(l:List qv):Bool:=if 30<l.length then true else if l.all sh4 then decide (l.length<=6) else false
def qeI(n:Nat)(c:qv):Bool:=decide (2<c.cls.length)&&decide (n<=30)
def qcO(l:List qv):Bool:=if l.any (qeI l.length) then false else qbE l&&(decide (l.length<=5)||decide (30<l.length))
def qfY(l:List qv):Prop:=∀c∈l,c.cls.length<2^63/\∀k∈c.cls,k.body.length<2^63
theorem qry(l:List qv)(own:Own)(hl:l.length<2^63)(hb:qfY l):qg 28 [.sl (l.map qY) own] (.bool (qbE l)):=by
 refine qg.of c28 fun H hH=>⟨Nat.le_of_ble_eq_true rfl,?_⟩
 by_cases h1:(30:Int)<(l.length:Int)
 ·simp(disch:=omega)[b28,h1]
  exact qh hH (by simp[qbE,show 30<l.length by omega])
 have hl30:l.length<=30:=by omega
 simp(disch:=omega)[b28,h1]
 obtain⟨A,hA⟩:∃A,l.all sh4=A:=⟨_,rfl⟩
 have hB:qbE l=if A then decide (l.length<=6) else false:=by unfold qbE;rw[if_neg (by omega),hA]
 obtain⟨Vv,hVv⟩:∃Vv,(if A then decide (l.length<=6) else false)=Vv:=⟨_,rfl⟩
 rw[hB,hVv]
 refine qy (σ:=NN) (fun q=>(.nd (.sl (l.map qY) own) (.nd .bot (.nd (.int q.i) .nil .nil) .nil) (.nd (.bool false) .nil .nil))) (fun q=>⟨H.objs,q.n⟩) (fun q=>l.length - q.i)
  (fun q=>H.next<=q.n/\q.i<=l.length/\(l.drop q.i).all sh4=A) ⟨0,H.next⟩ ⟨Nat.le_refl _,Nat.zero_le _,hA⟩ (by simp[FT.Le,Wk]) ⟨HWk.refl _,fun h=>h⟩ ?_
 rintro⟨i,n⟩ ⟨hn,hi,he⟩ hok
 simp only at hn hi he
 by_cases hlt:i<l.length
 case neg=>
  obtain rfl:i=l.length:=by omega
  rw[List.drop_eq_nil_of_le (Nat.le_refl _),List.all_nil]at he
  simp(disch:=omega)
  refine qcE hH ?_ (by first|exact ql.refl' _|(repeat (first|exact ql.refl (by first|omega|(dsimp only;omega))|refine ql.cons' hH (by first|omega|(dsimp only;omega)) (by first|omega|(dsimp only;omega)) ?_)))
  rw[<-hVv,<-he]
  simp
  try omega
 rw[qaC sh4 hlt]at he
 have hsh:sh4 l[i]=qcz 4 l[i].cls:=rfl
 simp(disch:=omega)[hlt]
 refine(qrz 4 (by omega) l[i].cls (hb _ (ub hlt)).2).go fun n3 hn3=>?_
 rw[hsh]at he
 cases hs:qcz 4 l[i].cls
 ·rw[hs,Bool.false_and]at he
  simp(disch:=omega)
  exact qh hH (by simp[<-hVv,<-he])
 rw[hs,Bool.true_and]at he
 simp(disch:=omega)[qi (show i<2^62 by omega)]
 exact⟨⟨i+1,n3⟩,by dsimp only;omega,⟨by dsimp only;omega,by dsimp only;omega,he⟩,by simp[FT.Le,Wk],HWk.refl _,fun h=>h⟩
theorem t_few(l:List qv)(own:Own)(hl:l.length<2^63)(hb:qfY l):qg 19 [.sl (l.map qY) own] (.bool (qcO l)):=by
 refine qg.of c19 fun H hH=>⟨Nat.le_of_ble_eq_true rfl,?_⟩
 simp(disch:=omega)[b19]
 obtain⟨A,hA⟩:∃A,l.any (qeI l.length)=A:=⟨_,rfl⟩
 have hB:qcO l=if A then false else qbE l&&(decide (l.length<=5)||decide (30<l.length)):=by unfold qcO;rw[hA]
 obtain⟨Vv,hVv⟩:∃Vv,qcO l=Vv:=⟨_,rfl⟩
 rw[hVv]at hB ⊢
 obtain⟨L,hL⟩:∃L,l.length=L:=⟨_,rfl⟩
 rw[hL]at hA hB
 refine qy (σ:=NN) (fun q=>(.nd (.sl (l.map qY) own) (.nd .bot (.nd (.int q.i) .nil .nil) .nil) (.nd (.bool false) .nil .nil))) (fun q=>⟨H.objs,q.n⟩) (fun q=>L - q.i)
  (fun q=>H.next<=q.n/\q.i<=L/\(l.drop q.i).any (qeI L)=A) ⟨0,H.next⟩ ⟨Nat.le_refl _,Nat.zero_le _,hA⟩ (by simp[FT.Le,Wk]) ⟨HWk.refl _,fun h=>h⟩ ?_
 rintro⟨i,n⟩ ⟨hn,hi,he⟩ hok
 simp only at hn hi he
 by_cases hlt:i<l.length
 case neg=>
  obtain rfl:i=l.length:=by omega
  rw[List.drop_eq_nil_of_le (Nat.le_refl _),List.any_nil]at he
  rw[<-he,if_neg (by simp)]at hB
  simp(disch:=omega)
  refine(qry l own hl hb).go fun n3 hn3=>?_
  cases hs:qbE l
  ·rw[hs,Bool.false_and]at hB
   simp(disch:=omega)
   exact qh hH (by simp[hB])
  rw[hs,Bool.true_and]at hB
  by_cases h5:(l.length:Int)<=5
  ·rw[decide_eq_true (by omega),Bool.true_or]at hB
   simp(disch:=omega)[h5]
   exact qh hH (by simp[hB])
  rw[decide_eq_false (by omega),Bool.false_or]at hB
  by_cases h30:(30:Int)<(l.length:Int)
  ·rw[decide_eq_true (by omega)]at hB
   simp(disch:=omega)[h5,h30]
   exact qh hH (by simp[hB])
  rw[decide_eq_false (by omega)]at hB
  simp(disch:=omega)[h5,h30]
  exact qh hH (by simp[hB])
 rw[qhF (qeI L) hlt]at he
 have hcl:=(hb _ (ub hlt)).1
 have hwd:qeI L l[i]=(decide (2<l[i].cls.length)&&decide (L<=30)):=rfl
 rw[hwd]at he
 by_cases h2:(2:Int)<(l[i].cls.length:Int)
 ·rw[decide_eq_true (by omega),Bool.true_and]at he
  by_cases h30:(l.length:Int)<=30
  ·rw[decide_eq_true (by omega),Bool.true_or]at he
   rw[<-he,if_pos rfl]at hB
   simp(disch:=omega)[hlt,h2,h30]
   exact qh hH (by simp[hB])
  rw[decide_eq_false (by omega),Bool.false_or]at he
  simp(disch:=omega)[hlt,h2,h30,qga (show i+1<2^63 by omega)]
  exact⟨⟨i+1,n⟩,by dsimp only;omega,⟨by dsimp only;omega,by dsimp only;omega,he⟩,by simp[FT.Le,Wk],HWk.refl _,fun h=>h⟩
 rw[decide_eq_false (by omega),Bool.false_and,Bool.false_or]at he
 simp(disch:=omega)[hlt,h2,qga (show i+1<2^63 by omega)]
 exact⟨⟨i+1,n⟩,by dsimp only;omega,⟨by dsimp only;omega,by dsimp only;omega,he⟩,by simp[FT.Le,Wk],HWk.refl _,fun h=>h⟩
theorem qtk{l:List qv}(hl:l.length<2^63)(h:qbE l=true):CustIn l/\(l.length<=6\/30<l.length)/\(l.length<=30->∀c∈l,c.cls.length<=40->∀k∈c.cls,qav k=true):=by
 unfold qbE at h
 by_cases h30:30<l.length
 ·exact⟨⟨hl,fun h=>by omega⟩,.inr h30,fun h=>by omega⟩
 rw[if_neg h30]at h
 by_cases ha:l.all sh4=true
 ·rw[if_pos ha]at h
  have hk:l.length<=30->∀c∈l,c.cls.length<=40->∀k∈c.cls,qav k=true:=fun _ c hc h40 k hk=>by
   have:=List.all_eq_true.1 ha c hc
   unfold sh4 qcz at this
   rw[if_neg (by omega)]at this
   split at this
   ·rename_i hall
    exact List.all_eq_true.1 hall k hk
   ·cases this
  exact⟨⟨hl,fun h c hc=>⟨fun h40 k hkc=>qlX (hk h c hc h40 k hkc)⟩⟩,.inl (of_decide_eq_true h),hk⟩
 ·rw[if_neg ha]at h
  cases h
end Go.Abs.Tz
