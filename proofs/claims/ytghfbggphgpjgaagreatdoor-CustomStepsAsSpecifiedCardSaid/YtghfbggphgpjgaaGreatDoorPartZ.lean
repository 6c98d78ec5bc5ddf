/- Part of the proof that the law CustomStepsAsSpecified returns true for every input. Conditions: none. -/
import Derived.Test.YtghfbggphgpjgaaGreatDoorPartY
import Derived.Test.YtghfbggphgpjgaaGreatDoorPartG
import Derived.WalkKit
import Derived.RegionTactic
import Derived.Deep.RegionWith
import Derived.LoopN
import Derived.StillTailTactics
import Derived.Deep.LoopGhost
import Derived.Test.YtghfbggphgpjgaaGreatDoorPartD
import Derived.Test.YtghfbggphgpjgaaGreatDoorPartI
import Derived.Test.YtghfbggphgpjgaaGreatDoorPartX
import Derived.Test.YtghfbggphgpjgaaGreatDoorPartV
import Derived.Test.YtghfbggphgpjgaaGreatDoorPartW
import Derived.Test.YtghfbggphgpjgaaGreatDoorPartT
namespace Go.Proofs
open Go Go.Shelf Go.RowKit Go.Lib Go.Sort
set_option maxHeartbeats 1000000
set_option maxRecDepth 100000
end Go.Proofs
namespace Go.Proofs
open Go Go.Shelf Go.RowKit Go.Lib Go.Sort
set_option maxHeartbeats 1000000
set_option maxRecDepth 100000
end Go.Proofs
namespace Go.Proofs
open Go Go.Shelf Go.RowKit Go.Lib Go.Sort
set_option maxHeartbeats 1000000
set_option maxRecDepth 100000
end Go.Proofs
namespace Go.Abs.Tz
open Go Go.Abs Go.Proofs
structure ws{α:Type}(c:α->α->Int):Prop where
 anti:∀x y,c y x=- c x y
 tr:∀x y z,c x y<=0->c y z<=0->c x z<=0
 eq:∀x y,c x y=0->x=y
theorem ws.refl{α:Type}{c:α->α->Int}(h:ws c)(x:α):c x x=0:=by have:=h.anti x x;omega
theorem ws.zero{α:Type}{c:α->α->Int}(h:ws c){x y:α}:c x y=0↔x=y:=⟨h.eq x y,fun e=>e▸h.refl x⟩
theorem ws.lt_tr{α:Type}{c:α->α->Int}(h:ws c){x y z:α}(h1:c x y<0)(h2:c y z<0):c x z<0:=by
 have h3:=h.tr x y z (by omega) (by omega)
 have h4:c x z≠0:=fun e=>by
  have:=h.eq _ _ e
  subst this
  have:=h.anti x y
  omega
 omega
theorem ws.comap{α β:Type}{c:α->α->Int}(h:ws c)(f:β->α)(hf:∀x y,f x=f y->x=y):ws fun x y=>c (f x) (f y):=
 ⟨fun x y=>h.anti _ _,fun x y z=>h.tr _ _ _,fun x y e=>hf _ _ (h.eq _ _ e)⟩
def lexC(a b:Int):Int:=if a≠0 then a else b
theorem ws.lex{α β:Type}{c:α->α->Int}{d:β->β->Int}(h:ws c)(k:ws d):ws fun(x y:α×β)=>lexC (c x.1 y.1) (d x.2 y.2):=by
 refine⟨fun x y=>?_,fun x y z h1 h2=>?_,fun x y e=>?_⟩
 ·have h1:=h.anti x.1 y.1
  have h2:=k.anti x.2 y.2
  simp only[lexC]
  rw[h1,h2]
  split<;>split<;>omega
 ·simp only[lexC]at h1 h2 ⊢
  by_cases a:c x.1 y.1=0
  ·rw[if_neg (by omega)]at h1
   rw[h.eq _ _ a]
   by_cases b:c y.1 z.1=0
   ·rw[if_neg (by omega)]at h2 ⊢
    exact k.tr _ _ _ h1 h2
   ·rw[if_pos b]at h2 ⊢
    exact h2
  ·rw[if_pos a]at h1
   by_cases b:c y.1 z.1=0
   ·rw[<-h.eq _ _ b,if_pos a];exact h1
   ·rw[if_pos b]at h2
    have:=h.lt_tr (x:=x.1) (y:=y.1) (z:=z.1) (by omega) (by omega)
    rw[if_pos (by omega)]
    omega
 ·simp only[lexC]at e
  split at e
  ·rename_i h1;exact absurd e h1
  ·rename_i h1
   exact Prod.ext (h.eq _ _ (by omega)) (k.eq _ _ e)
theorem qlv:ws zP:=by
 refine⟨fun x y=>?_,fun x y z h1 h2=>?_,fun x y e=>?_⟩
 ·unfold zP;split<;>split<;>(try split)<;>omega
 ·unfold zP at h1 h2 ⊢
  repeat' split at h1
  all_goals repeat' split at h2
  all_goals repeat' split
  all_goals omega
 ·unfold zP at e
  repeat' split at e
  all_goals omega
theorem qwY{x y:ByteArray}(h1:z1 x y=false)(h2:z1 y x=false):x=y:=toList_inj (qlE _ _ h1 h2)
theorem qkJ(x:ByteArray):z1 x x=false:=qfk _
theorem qpf{x y z:ByteArray}(h1:z1 x y=true)(h2:z1 y z=true):z1 x z=true:=qiJ _ _ _ h1 h2
theorem qpg{x y:ByteArray}(h:z1 x y=true):z1 y x=false:=by
 cases h2:z1 y x with
 |false=>rfl
 |true=>
  have:=qpf h h2
  rw[qkJ]at this
  cases this
theorem qff(a b:ByteArray):(z1 a b=true/\zQ a b=-1)\/(a=b/\zQ a b=0)\/(z1 b a=true/\zQ a b=1):=by
 unfold zQ
 cases h1:z1 a b with
 |true=>exact .inl ⟨rfl,if_pos rfl⟩
 |false=>
  rw[if_neg (by simp)]
  cases h2:qK a b with
  |true=>exact .inr (.inl ⟨wH.1 h2,if_pos rfl⟩)
  |false=>
   refine .inr (.inr ⟨?_,if_neg (by simp)⟩)
   cases h3:z1 b a with
   |true=>rfl
   |false=>
    have:=qwY h1 h3
    rw[wH.2 this]at h2
    cases h2
theorem qrg:ws zQ:=by
 refine⟨fun x y=>?_,fun x y z h1 h2=>?_,fun x y e=>?_⟩
 ·rcases qff x y with⟨h,e⟩|⟨h,e⟩|⟨h,e⟩<;>rcases qff y x with⟨k,f⟩|⟨k,f⟩|⟨k,f⟩<;>rw[e,f]
  all_goals first
   |rfl
   |(exfalso;have:=qpg h;rw[k]at this;cases this)
   |(exfalso;subst h;rw[qkJ]at k;cases k)
   |(exfalso;subst k;rw[qkJ]at h;cases h)
 ·rcases qff x y with⟨h,e⟩|⟨h,e⟩|⟨h,e⟩
  ·rcases qff y z with⟨k,f⟩|⟨k,f⟩|⟨k,f⟩
   ·rcases qff x z with⟨_,g⟩|⟨_,g⟩|⟨l,g⟩
    ·rw[g];decide
    ·rw[g];decide
    ·have:=qpg (qpf h k);rw[l]at this;cases this
   ·subst k;exact h1
   ·rw[f]at h2;exact absurd h2 (by decide)
  ·subst h;exact h2
  ·rw[e]at h1;exact absurd h1 (by decide)
 ·rcases qff x y with⟨h,g⟩|⟨h,g⟩|⟨h,g⟩
  ·rw[g]at e;exact absurd e (by decide)
  ·exact h
  ·rw[g]at e;exact absurd e (by decide)
theorem qgE:ws uV:=by
 have h:=(qlv.lex (qlv.lex qrg)).comap (fun t:qn=>(t.kind,t.n,t.s)) (fun x y e=>by
  cases x;cases y;simp only[Prod.mk.injEq]at e;obtain⟨rfl,rfl,rfl⟩:=e;rfl)
 exact h
theorem qrf:∀x y:List qn,zO y x=- zO x y
 |[],[]=>rfl
 |[],_::_=>rfl
 |_::_,[]=>rfl
 |a::x,b::y=>by
  have ih:=qrf x y
  have h:=qgE.anti a b
  simp only[zO]
  rw[h,ih]
  split<;>split<;>omega
theorem qre:∀x y:List qn,zO x y=0->x=y
 |[],[],_=>rfl
 |[],_::_,h=>by simp[zO]at h
 |_::_,[],h=>by simp[zO]at h
 |a::x,b::y,h=>by
  simp only[zO]at h
  split at h
  ·rename_i h1;exact absurd h h1
  ·rename_i h1
   rw[qgE.eq a b (by omega),qre x y h]
theorem qrd:∀x y z:List qn,zO x y<=0->zO y z<=0->zO x z<=0
 |[],_,[],_,_=>by simp[zO]
 |[],_,_::_,_,_=>by simp[zO]
 |_::_,[],_,h,_=>by simp[zO]at h
 |_::_,_::_,[],_,h=>by simp[zO]at h
 |a::x,b::y,c::z,h,k=>by
  simp only[zO]at h k ⊢
  by_cases h1:uV a b=0
  ·rw[if_neg (by omega)]at h
   rw[qgE.eq _ _ h1]
   by_cases h2:uV b c=0
   ·rw[if_neg (by omega)]at k ⊢
    exact qrd x y z h k
   ·rw[if_pos h2]at k ⊢
    exact k
  ·rw[if_pos h1]at h
   by_cases h2:uV b c=0
   ·rw[<-qgE.eq _ _ h2,if_pos h1];exact h
   ·rw[if_pos h2]at k
    have:=qgE.lt_tr (x:=a) (y:=b) (z:=c) (by omega) (by omega)
    rw[if_pos (by omega)]
    omega
theorem qyQ:ws zO:=⟨qrf,qrd,qre⟩
theorem qbI:ws zk:=by
 have h:=(qrg.lex (qlv.lex qyQ)).comap (fun a:qd=>(a.pred,(a.args.length:Int),a.args)) (fun x y e=>by
  cases x;cases y;simp only[Prod.mk.injEq]at e;obtain⟨rfl,_,rfl⟩:=e;rfl)
 exact h
end Go.Abs.Tz
namespace Go.Abs
open Go
end Go.Abs
set_option maxRecDepth 100000
namespace Go.Abs.Tz
open Go Go.Abs Go.Proofs Go.Shelf Go.RowKit Go.Lib Go.Sort
abbrev EltA(G:qb)(w:World):Type:={p:qd×Value // VR G w (ql p.1.args) p.2/\p.1.args.length<2^40}
instance (G:qb) (w:World):Inhabited (EltA G w):=⟨⟨(⟨⟨#[]⟩,[]⟩,.slice none 0 0),.sln trivial,by simp⟩⟩
end Go.Abs.Tz
namespace Go.Abs.Tz
open Go Go.Abs Go.Proofs
def uJ(F:List Stp)(c:qf)(ci:Int):List Stp:=jd (fun G a frm=>zK F G ⟨a,ci,frm⟩) c (jb F c (qJ c.body) [] []) []
def vN(m:List (PK×Int))(lev:Int):List qf->Nat->List Stp->Option (List Stp)
 |[],_,F=>some F
 |c::r,i,F=>if qo m (ofA c.head)=lev then (if 300<((uJ F c i).foldl zh F).length then none else vN m lev r (i+1) ((uJ F c i).foldl zh F)) else vN m lev r (i+1) F
def vY(m:List (PK×Int))(lev:Int)(l:List qf):Nat->List Stp->Option (List Stp)
 |0,_=>none
 |k+1,F=>match vN m lev l 0 F with
  |none=>none
  |some F'=>if F'.length=F.length then some F' else vY m lev l k F'
def wE(m:List (PK×Int))(l:List qf):Nat->Nat->List Stp->Option (List Stp)
 |0,_,F=>some F
 |k+1,v,F=>match vY m v l 302 F with
  |none=>none
  |some F'=>wE m l k (v+1) F'
def zj(base:List qd):List Stp:=(base.map fun a=>(⟨a,-1,[]⟩:Stp)).foldl zh []
theorem qlO(F:List Stp)(s:Stp):F.length<=(zh F s).length/\(zh F s).length<=F.length+1:=by
 unfold zh
 split
 ·omega
 ·simp
theorem qfo:∀(l F:List Stp),F.length<=(l.foldl zh F).length/\(l.foldl zh F).length<=F.length+l.length
 |[],F=>by simp
 |s::l,F=>by
  have h1:=qlO F s
  have h2:=qfo l (zh F s)
  rw[List.foldl_cons,List.length_cons]
  omega
theorem qzX{F:List Stp}{s q:Stp}(h:q∈zh F s):q∈F\/q=s:=by
 unfold zh at h
 split at h
 ·exact .inl h
 ·rcases List.mem_append.1 h with h|h
  ·exact .inl h
  ·simp at h;exact .inr h
theorem qyS(F:List Stp)(c:qf)(ci:Int):(uJ F c ci).length<=301:=by
 unfold uJ
 rw[qip]
 exact qpH F _ _ (by simp)
def wC(F:List Stp)(fo am:Nat)(own:Own):List (Nat×qc):=(fo,.cells [.map am,.sl (F.map q9) own])::(am,.map (qbj (zV F 0)))::(match own with
 |.tok t=>[(t,.tok F.length 4)]
 |_=>[])
theorem qjw{F:List Stp}{fo am:Nat}{own:Own}{ob:List (Nat×qc)}(h:zR ob fo am F own):wc (wC F fo am own) ob:=by
 unfold wC wc
 simp only[List.forall_mem_cons]
 refine⟨h.pair,h.map,?_⟩
 rcases h.row with⟨rfl,_⟩|⟨t,rfl,_,_,h4⟩
 ·intro p hp;cases hp
 ·intro p hp
  simp at hp
  subst hp
  exact h4
theorem qhL{F:List Stp}{fo am:Nat}{own:Own}{ob ob0:List (Nat×qc)}(h0:zR ob0 fo am F own)(h:wc (wC F fo am own) ob):zR ob fo am F own:=by
 unfold wC wc at h
 simp only[List.forall_mem_cons]at h
 refine⟨h.1,h.2.1,h0.ne,?_⟩
 rcases h0.row with h1|⟨t,rfl,h2,h3,_⟩
 ·exact .inl h1
 ·exact .inr ⟨t,rfl,h2,h3,h.2.2 (t,_) (by simp)⟩
theorem qnu(F:List Stp)(fo am:Nat)(own:Own):∀p∈wC F fo am own,qcX p.2=true:=by
 unfold wC
 simp only[List.forall_mem_cons]
 refine⟨rfl,rfl,?_⟩
 cases own with
 |tok t=>intro p hp;simp at hp;subst hp;rfl
 |no=>intro p hp;cases hp
 |full=>intro p hp;cases hp
theorem zR.keep{F:List Stp}{fo am:Nat}{own:Own}{ob ob':List (Nat×qc)}(h:zR ob fo am F own)(hk:∀i,(i=fo\/i=am\/own=.tok i)->look i ob'=look i ob):zR ob' fo am F own:=by
 refine⟨by rw[hk _ (.inl rfl)];exact h.pair,by rw[hk _ (.inr (.inl rfl))];exact h.map,h.ne,?_⟩
 rcases h.row with h1|⟨t,rfl,h2,h3,h4⟩
 ·exact .inl h1
 ·exact .inr ⟨t,rfl,h2,h3,by rw[hk _ (.inr (.inr rfl))];exact h4⟩
def qlo(F:List Stp)(ci:Int)(fo am:Nat)(ownF:Own)(go gm fw hv iv:Nat)(ob0:List (Nat×qc))(h0:zR ob0 fo am F ownF):qek (List Stp) where
 fn:=71
 cap:=[.ptr fw 0,.ptr hv 0,.ptr iv 0]
 Stat:=(fw,.cells [.ptr fo 0])::(hv,.cells [.ptr go 0])::(iv,.cells [.int ci])::wC F fo am ownF
 At ob G S:=∃own,zR ob go gm G own/\∀i,S i↔(i=go\/i=gm\/own=.tok i)
 step G a frm:=zK F G ⟨a,ci,frm⟩
 lim G:=G.length<=301
 lim_step G a frm h:=qpK h
 at_look ob G S i h hi:=by
  obtain⟨own,h1,h2⟩:=h
  rcases (h2 i).1 hi with rfl|rfl|rfl
  ·exact⟨_,h1.pair,rfl⟩
  ·exact⟨_,h1.map,rfl⟩
  ·rcases h1.row with⟨e,_⟩|⟨t,e,_,_,h4⟩
   ·cases e
   ·cases e;exact⟨_,h4,rfl⟩
 at_keep ob ob' G S h hk:=by
  obtain⟨own,h1,h2⟩:=h
  exact⟨own,h1.keep fun i hi=>hk i ((h2 i).2 hi),h2⟩
 ok ob n G S a frm kv kp hlim ha hat hst hsep hni hk:=by
  obtain⟨own,h1,h2⟩:=hat
  unfold wc at hst
  simp only[List.forall_mem_cons]at hst
  refine t_do a ha frm fw hv iv ci fo am go gm F G (by omega) ownF own ob n (qhL h0 hst.2.2.2) h1 hst.1 hst.2.1 hst.2.2.1 fun ob' n' own' hn hF' hnear hni' hsame=>?_
  refine hk ob' n' (fun i=>i=go\/i=gm\/own'=.tok i) hn ⟨own',hF',fun i=>Iff.rfl⟩ (fun i hi=>?_) (hni' hni) fun i hi hiS=>hsame i hi (fun e=>hiS ((h2 i).2 (.inl e))) (fun e=>hiS ((h2 i).2 (.inr (.inl e)))) fun t ht e=>hiS ((h2 i).2 (.inr (.inr (by rw[e];exact ht))))
  rcases hi with e|e|e
  ·exact .inl ((h2 i).2 (.inl e))
  ·exact .inl ((h2 i).2 (.inr (.inl e)))
  ·rcases hnear with e2|⟨t,e2,ht⟩
   ·exact .inl ((h2 i).2 (.inr (.inr (by rw[<-e2];exact e))))
   ·rw[e2]at e
    cases e
    exact .inr ht
end Go.Abs.Tz
namespace Go.Abs.Tz
open Go Go.Abs Go.Proofs
set_option maxRecDepth 20000
set_option linter.unusedSimpArgs false
attribute [local simp ↓] yC yB jT jS yf uO zu zG jR uB vl vm yD yF yG yE jY j6 j9 jZ ga gc j7 j8 j0 jW jU jX jV vj vh vk vi yy yw yz yx yK yI yJ jj z8 ge zw zU yi vn vo yN yP yO yL yM yZ gh gq gv gp gt gu g7 g6 gC gE jB jy jM jP jz jH jL jK jJ jI jF ju jv jw jx jN jD jE jq jO jQ jA jC jG jr gI gD gY ya gF gS gW gV gU gT gO gz g0 gM gN gw g9 yb gG gK gQ gx yd g8 gy yc gL gH gJ gA gZ gi gk gj yT yW yS yU yV qq uG
attribute [local simp] faL fdL iaL ixL qS zm ze eqK eqL qX zE uA yQ vg y5 y7 y9 vc ve vf y6 vb y8 vd zM LV.cells LV.whole qq uQ gg gf stL zN ui uI qa.alloc yg ye yh yu yt yr yq yp yo yn ym yk yj qe uD
structure qad(n0:Nat)(ob0:List (Nat×qc))(M:List (PK×Int))(fo am om:Nat)(ob:List (Nat×qc))(F:List Stp)(own:Own):Prop where
 facts:zR ob fo am F own
 lev:look om ob=some (.map (za M))
 ne:om≠am
 ni:qU ob
 old:∀i,i<n0->look i ob=look i ob0
 lo:n0<=fo/\n0<=am/\∀t,own=.tok t->n0<=t
 g:∀s∈F,qD s.atom
structure wo(n0:Nat)(ob0:List (Nat×qc))(M:List (PK×Int))(fo am om f7:Nat)(ob:List (Nat×qc))(F:List Stp)(own:Own):Prop extends qad n0 ob0 M fo am om ob F own where
 cell:look f7 ob=some (.cells [.ptr fo 0])
section
variable{n0:Nat}{ob0:List (Nat×qc)}{M:List (PK×Int)}{fo am om f7:Nat}
theorem zR.tokne{ob:List (Nat×qc)}{F:List Stp}{own:Own}(h:zR ob fo am F own):∀i x,look i ob=some x->(∀k sz,x≠.tok k sz)->∀t,own=.tok t->i≠t:=by
 intro i x hx hne t ht e
 subst e
 rcases h.row with⟨e1,_⟩|⟨t',e1,_,_,e2⟩
 ·rw[e1]at ht;cases ht
 ·rw[e1]at ht
  cases ht
  rw[hx]at e2
  exact hne _ _ (Option.some.inj e2)
theorem qad.turn{ob ob':List (Nat×qc)}{F F':List Stp}{own own':Own}{m:Nat}(h:qad n0 ob0 M fo am om ob F own)(hok:qa.Ok ⟨ob,m⟩)(hn:n0<=m)(hF:zR ob' fo am F' own')(hnear:qlQ m own own')(hni:qU ob')(hg:∀s∈F',qD s.atom)
  (hsame:∀i,i<m->i≠fo->i≠am->(∀t,own=.tok t->i≠t)->look i ob'=look i ob):qad n0 ob0 M fo am om ob' F' own'/\∀i v,look i ob=some (.cells [v])->look i ob'=some (.cells [v]):=by
 have cl:=h.lev
 refine⟨⟨hF,?_,h.ne,hni,fun i hi=>?_,⟨h.lo.1,h.lo.2.1,fun t ht=>?_⟩,hg⟩,fun i v hv=>?_⟩
 ·rw[hsame om (hok.look cl) (fun e=>?_) h.ne (h.facts.tokne _ _ cl (fun k sz e=>by cases e))]
  ·exact cl
  ·rw[e,h.facts.pair]at cl;cases cl
 ·rw[hsame i (by omega) (by have:=h.lo.1;omega) (by have:=h.lo.2.1;omega) (fun t ht=>by have:=h.lo.2.2 t ht;omega)]
  exact h.old i hi
 ·rcases hnear with e|⟨t',e,ht'⟩
  ·exact h.lo.2.2 t (by rw[<-e];exact ht)
  ·rw[e]at ht
   cases ht
   omega
 ·rw[hsame i (hok.look hv) (fun e=>?_) (fun e=>?_) (h.facts.tokne _ _ hv (fun k sz e=>by cases e))]
  ·exact hv
  ·rw[e,h.facts.pair]at hv;cases hv
  ·rw[e,h.facts.map]at hv;cases hv
theorem zR.low{ob:List (Nat×qc)}{F:List Stp}{own:Own}{m:Nat}(h:zR ob fo am F own)(hok:qa.Ok ⟨ob,m⟩):∀i,(i=fo\/i=am\/own=.tok i)->i<m:=fun i hi=>by
 rcases hi with rfl|rfl|rfl
 ·exact hok.look h.pair
 ·exact hok.look h.map
 ·rcases h.row with⟨e1,_⟩|⟨t',e1,_,_,e2⟩
  ·cases e1
  ·cases e1;exact hok.look e2
theorem qad.keep{ob ob':List (Nat×qc)}{F:List Stp}{own:Own}{m:Nat}(h:qad n0 ob0 M fo am om ob F own)(hok:qa.Ok ⟨ob,m⟩)(hn:n0<=m)(hni:qU ob')(hsame:∀i,i<m->look i ob'=look i ob):qad n0 ob0 M fo am om ob' F own:=
 (h.turn hok hn (h.facts.keep fun i hi=>hsame i (h.facts.low hok i hi)) (.inl rfl) hni h.g fun i hi _ _ _=>hsame i hi).1
theorem wo.keep{ob ob':List (Nat×qc)}{F:List Stp}{own:Own}{m:Nat}(h:wo n0 ob0 M fo am om f7 ob F own)(hok:qa.Ok ⟨ob,m⟩)(hn:n0<=m)(hni:qU ob')(hsame:∀i,i<m->look i ob'=look i ob):wo n0 ob0 M fo am om f7 ob' F own:=
 ⟨h.toqad.keep hok hn hni hsame,by rw[hsame _ (hok.look h.cell)];exact h.cell⟩
theorem qnl(s:Stp)(hs:qD s.atom)(F:List Stp)(hF:F.length<=2^20)(ob:List (Nat×qc))(m:Nat)(own:Own)(h:qad n0 ob0 M fo am om ob F own)(hm:n0<=m){kv kp:HP}
  (hk:∀ob' m' own',m<=m'->qad n0 ob0 M fo am om ob' (zh F s) own'->(∀i v,look i ob=some (.cells [v])->look i ob'=some (.cells [v]))->kv (.tup []) ⟨ob',m'⟩):cP E0 F0 46 [.ptr fo 0,q9 s] ⟨ob,m⟩ kv kp:=by
 intro hH
 refine qjq s hs.1 fo am F hF own ob m h.facts (fun hex n' hn'=>?_) (fun hno ob' n' own' hn' hF' hnear hni hsame=>?_) hH
 ·have e:zh F s=F:=by unfold zh;rw[if_pos (wf.2 hex)]
  exact hk ob n' own hn' (by rw[e];exact h) fun _ _ h=>h
 ·have e:zh F s=F++[s]:=by
   unfold zh
   rw[if_neg]
   intro hh
   obtain⟨q,hq,e⟩:=wf.1 hh
   exact hno q hq e
  have hg2:∀q∈F++[s],qD q.atom:=fun q hq=>by
   rcases List.mem_append.1 hq with hq|hq
   ·exact h.g q hq
   ·simp at hq
    subst hq
    exact hs
  have h2:=h.turn hH hm hF' hnear (hni h.ni) hg2 hsame
  exact hk ob' n' own' hn' (by rw[e];exact h2.1) h2.2
theorem quv(s:Stp)(hs:qD s.atom)(F:List Stp)(hF:F.length<=2^20)(ob:List (Nat×qc))(m:Nat)(own:Own)(h:wo n0 ob0 M fo am om f7 ob F own)(hm:n0<=m){kv kp:HP}
  (hk:∀ob' m' own',m<=m'->wo n0 ob0 M fo am om f7 ob' (zh F s) own'->kv (.tup []) ⟨ob',m'⟩):cP E0 F0 46 [.ptr fo 0,q9 s] ⟨ob,m⟩ kv kp:=
 qnl s hs F hF ob m own h.toqad hm fun ob' m' own' h1 h2 h3=>hk ob' m' own' h1 ⟨h2,h3 _ _ h.cell⟩
def qoS:qr:=match r42 with
 |.seq (.seq _ (.blk _ l)) _=>l
 |_=>.bad
def qrL:qr:=match qoS with
 |.loop (.seq _ (.seq _ (.seq (.blk _ (.seq _ (.seq _ (.blk _ l)))) _)))=>l
 |_=>.bad
def qrk:qr:=match qrL with
 |.loop (.seq _ (.blk _ (.seq _ (.seq _ (.blk _ l)))))=>l
 |_=>.bad
def qzW:qr:=match qrk with
 |.loop (.seq _ (.seq _ (.seq (.blk _ (.seq _ (.seq _ (.seq _ (.seq _ (.seq (.seq _ (.blk _ l)) _)))))) _)))=>l
 |_=>.bad
structure NNAd where
 i:Nat
 n:Nat
 ob:List (Nat×qc)
 F:List Stp
 own:Own
theorem quu(G:List Stp)(hG:∀s∈G,qD s.atom)(ownG:Own)(F:List Stp)(hlen:F.length+G.length<=2^20)(ob:List (Nat×qc))(m:Nat)(own:Own)(h:wo n0 ob0 M fo am om f7 ob F own)(hm:n0<=m)(v0 v12 v13 v39 v40 v55 v56 v57:LV){KX:XP}
  (hk:∀ob' m' own',m<=m'->wo n0 ob0 M fo am om f7 ob' (G.foldl zh F) own'->KX (.exit 8) ((.nd (v0) (.nd .bot (.nd .bot (.nd (.ptr f7 0) (.nd .bot .nil (.nd .bot (.nd (.sl (G.map q9) ownG) .nil .nil) .nil)) (.nd .bot (.nd (v39) .nil .nil) (.nd (v55) .nil .nil))) .nil) (.nd .bot (.nd .bot (.nd .bot .nil (.nd .bot (.nd (.int G.length) .nil .nil) .nil)) (.nd .bot .nil (.nd (v57) .nil .nil))) (.nd (v13) .nil .nil))) (.nd .bot (.nd .bot (.nd .bot (.nd .bot .nil (.nd .bot (.nd (.int G.length) .nil .nil) .nil)) (.nd .bot (.nd (v40) .nil .nil) (.nd (v56) .nil .nil))) (.nd (v12) .nil .nil)) (.nd (.map om) (.nd .bot (.nd .bot .nil (.nd .bot (.nd (.sc (.bool false)) .nil .nil) .nil)) .nil) .nil)))) ⟨ob',m'⟩):
  lP E0 F0 qzW ((.nd (v0) (.nd .bot (.nd .bot (.nd (.ptr f7 0) (.nd .bot .nil (.nd .bot (.nd (.sl (G.map q9) ownG) .nil .nil) .nil)) (.nd .bot (.nd (v39) .nil .nil) (.nd (v55) .nil .nil))) .nil) (.nd .bot (.nd .bot (.nd .bot .nil (.nd .bot (.nd (.int 0) .nil .nil) .nil)) (.nd .bot .nil (.nd (v57) .nil .nil))) (.nd (v13) .nil .nil))) (.nd .bot (.nd .bot (.nd .bot (.nd .bot .nil (.nd .bot (.nd (.int G.length) .nil .nil) .nil)) (.nd .bot (.nd (v40) .nil .nil) (.nd (v56) .nil .nil))) (.nd (v12) .nil .nil)) (.nd (.map om) .nil .nil)))) ⟨ob,m⟩ KX:=by
 obtain⟨A,hA⟩:∃A,G.foldl zh F=A:=⟨_,rfl⟩
 rw[hA]at hk
 refine qB (σ:=NNAd) (fun q=>(.nd (v0) (.nd .bot (.nd .bot (.nd (.ptr f7 0) (.nd .bot .nil (.nd .bot (.nd (.sl (G.map q9) ownG) .nil .nil) .nil)) (.nd .bot (.nd (v39) .nil .nil) (.nd (v55) .nil .nil))) .nil) (.nd .bot (.nd .bot (.nd .bot .nil (.nd .bot (.nd (.int q.i) .nil .nil) .nil)) (.nd .bot .nil (.nd (v57) .nil .nil))) (.nd (v13) .nil .nil))) (.nd .bot (.nd .bot (.nd .bot (.nd .bot .nil (.nd .bot (.nd (.int G.length) .nil .nil) .nil)) (.nd .bot (.nd (v40) .nil .nil) (.nd (v56) .nil .nil))) (.nd (v12) .nil .nil)) (.nd (.map om) .nil .nil)))) (fun q=>⟨q.ob,q.n⟩) (fun q=>G.length - q.i)
  (fun q=>m<=q.n/\q.i<=G.length/\(G.drop q.i).foldl zh q.F=A/\q.F.length<=F.length+q.i/\wo n0 ob0 M fo am om f7 q.ob q.F q.own) ⟨0,m,ob,F,own⟩ ⟨Nat.le_refl _,Nat.zero_le _,hA,Nat.le_refl _,h⟩ (by simp[FT.Le,Wk]) ⟨HWk.refl _,fun h=>h⟩ ?_
 rintro⟨i,m1,ob1,F1,own1⟩ ⟨hm1,hi,hf,hl,h1⟩ hok
 dsimp only at hm1 hi hf hl h1 hok
 by_cases hlt:i<G.length
 case neg=>
  obtain rfl:i=G.length:=by omega
  rw[List.drop_eq_nil_of_le (Nat.le_refl _)]at hf
  obtain rfl:F1=A:=hf
  simp(disch:=omega)
  exact hk ob1 m1 own1 hm1 h1
 rw[List.drop_eq_getElem_cons hlt,List.foldl_cons]at hf
 have c7:=h1.cell
 have b7:f7<m1:=hok.look c7
 have hs:=hG _ (List.getElem_mem hlt)
 simp(disch:=omega)[hlt,c7]
 have ha:=qlO F1 G[i]
 refine quv G[i] hs F1 (by omega) _ _ own1 (h1.keep hok (by omega) (h1.ni.cons _ rfl) fun j hj=>qe (by omega) _ _) (by omega) fun ob2 m2 own2 hm2 h2=>?_
 simp(disch:=omega)[qk (show i<2^62 by omega)]
 exact⟨⟨i+1,m2,ob2,zh F1 G[i],own2⟩,by dsimp only;omega,⟨by dsimp only;omega,by dsimp only;omega,hf,by dsimp only;omega,h2⟩,by simp[FT.Le,Wk],HWk.refl _,fun h=>h⟩
theorem qyT{F:List Stp}(hF:∀s∈F,qD s.atom){c:qf}(hc:zq c){ci:Int}:∀s∈uJ F c ci,qD s.atom:=by
 intro s hs
 unfold uJ at hs
 rw[qip]at hs
 obtain⟨X,hX,hX2⟩:=qeT F ((jb F c (qJ c.body) [] []).map fun x=>(⟨qN x.1 c.head,ci,x.2⟩:Stp)) []
 rw[hX]at hs
 have:=hX2 s (by simpa using hs)
 obtain⟨x,hx,rfl⟩:=List.mem_map.1 this
 obtain⟨js,h1,h2,h3⟩:=qca.1 hx
 obtain⟨g1,_,g3,_⟩:=qbJ (S:=wM F) (fun a ⟨q,hq,e⟩=>e▸hF q hq) .nil (qdX h1)
 exact(hc.leaf g1 g3).2
theorem quj(l:List qf)(hl:l.length<=2^20)(hc:∀c∈l,zq c)(lev:Nat)(bf:Nat)(F:List Stp)(hF:F.length<=300)(ob:List (Nat×qc))(m:Nat)(own:Own)(h:wo n0 ob0 M fo am om f7 ob F own)(hm:n0<=m)(v39:LV){KX:XP}
  (hk1:∀F',vN M lev l 0 F=some F'->∀ob' m' own',m<=m'->F'.length<=300->wo n0 ob0 M fo am om f7 ob' F' own'->KX (.exit 6) ((.nd (qz l) (.nd .bot (.nd .bot (.nd (.ptr f7 0) .nil (.nd .bot (.nd (v39) .nil .nil) (.nd (qz l) .nil .nil))) .nil) (.nd .bot (.nd .bot .nil (.nd .bot .nil (.nd (.int l.length) .nil .nil))) (.nd (.int bf) .nil .nil))) (.nd .bot (.nd .bot (.nd .bot .nil (.nd .bot (.nd (.int lev) .nil .nil) (.nd (.int l.length) .nil .nil))) (.nd (.int lev) .nil .nil)) (.nd (.map om) (.nd .bot .nil (.nd .bot .nil (.nd (.sc (.bool false)) .nil .nil))) .nil)))) ⟨ob',m'⟩)
  (hk2:vN M lev l 0 F=none->∀t' ob' m',m<=m'->qU ob'->(∀i,i<n0->look i ob'=look i ob0)->t'.get 4=.sc (.pointer none)->t'.get 5=.int 2->KX .ret t' ⟨ob',m'⟩):
  lP E0 F0 qrk ((.nd (qz l) (.nd .bot (.nd .bot (.nd (.ptr f7 0) .nil (.nd .bot (.nd (v39) .nil .nil) (.nd (qz l) .nil .nil))) .nil) (.nd .bot (.nd .bot .nil (.nd .bot .nil (.nd (.int 0) .nil .nil))) (.nd (.int bf) .nil .nil))) (.nd .bot (.nd .bot (.nd .bot .nil (.nd .bot (.nd (.int lev) .nil .nil) (.nd (.int l.length) .nil .nil))) (.nd (.int lev) .nil .nil)) (.nd (.map om) .nil .nil)))) ⟨ob,m⟩ KX:=by
 obtain⟨A,hA⟩:∃A,vN M lev l 0 F=A:=⟨_,rfl⟩
 rw[hA]at hk1 hk2
 refine qB (σ:=NNAd) (fun q=>(.nd (qz l) (.nd .bot (.nd .bot (.nd (.ptr f7 0) .nil (.nd .bot (.nd (v39) .nil .nil) (.nd (qz l) .nil .nil))) .nil) (.nd .bot (.nd .bot .nil (.nd .bot .nil (.nd (.int q.i) .nil .nil))) (.nd (.int bf) .nil .nil))) (.nd .bot (.nd .bot (.nd .bot .nil (.nd .bot (.nd (.int lev) .nil .nil) (.nd (.int l.length) .nil .nil))) (.nd (.int lev) .nil .nil)) (.nd (.map om) .nil .nil)))) (fun q=>⟨q.ob,q.n⟩) (fun q=>l.length - q.i)
  (fun q=>m<=q.n/\q.i<=l.length/\vN M lev (l.drop q.i) q.i q.F=A/\q.F.length<=300/\wo n0 ob0 M fo am om f7 q.ob q.F q.own) ⟨0,m,ob,F,own⟩ ⟨Nat.le_refl _,Nat.zero_le _,hA,hF,h⟩ (by simp[FT.Le,Wk]) ⟨HWk.refl _,fun h=>h⟩ ?_
 rintro⟨i,m1,ob1,F1,own1⟩ ⟨hm1,hi,hf,hl1,h1⟩ hok
 dsimp only at hm1 hi hf hl1 h1 hok
 by_cases hlt:i<l.length
 case neg=>
  obtain rfl:i=l.length:=by omega
  rw[List.drop_eq_nil_of_le (Nat.le_refl _)]at hf
  simp(disch:=omega)
  exact hk1 F1 hf.symm ob1 m1 own1 hm1 hl1 h1
 rw[List.drop_eq_getElem_cons hlt]at hf
 simp only[vN]at hf
 have c7:=h1.cell
 have cl:=h1.lev
 have b7:f7<m1:=hok.look c7
 have bl:om<m1:=hok.look cl
 have hcg:=hc _ (List.getElem_mem hlt)
 simp(disch:=omega)[hlt]
 refine(qbR l[i].head).go fun m2 hm2=>?_
 simp(disch:=omega)
 have hlk:=lkP (nx:=m2) (show look om ((m1+1,.cells (yY l[i]))::(m1,.cells [.int (i:Int)])::ob1)=some (.map (za M)) by rw[qe (by omega),qe (by omega)];exact cl) (ofA l[i].head)
 unfold uz at hlk
 obtain⟨PV,hPV⟩:∃PV,qo M (ofA l[i].head)=PV:=⟨_,rfl⟩
 rw[hPV]at hlk hf
 unfold ofA at hlk
 rw[hlk]
 have hdrop:∀(x y:qc)(mm:Nat),m1<=mm->HWk ⟨(m1+1,x)::(m1,y)::ob1,mm⟩ ⟨ob1,mm⟩/\qa.Ok ⟨ob1,mm⟩:=fun x y mm hmm=>⟨⟨Nat.le_refl _,fun j z hz=>by
  have:=hok.look hz
  dsimp only at this
  rw[qe (by omega),qe (by omega)]
  exact hz⟩,qx.mono hok hmm⟩
 by_cases hlev:PV=(lev:Int)
 case neg=>
  rw[if_neg hlev]at hf
  simp(disch:=omega)[hlev,qk (show i<2^62 by omega)]
  exact⟨⟨i+1,m2,ob1,F1,own1⟩,by dsimp only;omega,⟨by dsimp only;omega,by dsimp only;omega,hf,hl1,h1⟩,by simp[FT.Le,Wk],(hdrop _ _ m2 (by omega)).1,fun _=>(hdrop (.cells []) (.cells []) m2 (by omega)).2⟩
 rw[if_pos hlev]at hf
 simp(disch:=omega)[hlev,c7]
 obtain⟨G,hGe⟩:∃G,uJ F1 l[i] i=G:=⟨_,rfl⟩
 have hGg:∀s∈G,qD s.atom:=by rw[<-hGe];exact qyT h1.g hcg
 have hGl:G.length<=301:=by rw[<-hGe];exact qyS _ _ _
 rw[hGe]at hf
 obtain⟨obE,hobE⟩:∃obE,(m2+1+1,qc.cells [.ptr (m2+1) 0])::(m2+1,.cells [.map m2,Nl])::(m2,.map [])::(m1+1,.cells [.str l[i].head.pred,ql l[i].head.args,zA l[i].body])::(m1,.cells [.int (i:Int)])::ob1=obE:=⟨_,rfl⟩
 have hE:∀j,j<m1->look j obE=look j ob1:=fun j hj=>by rw[<-hobE,qe (by omega),qe (by omega),qe (by omega),qe (by omega),qe (by omega)]
 have e0:look m1 obE=some (.cells [.int (i:Int)]):=by rw[<-hobE,qe (by omega),qe (by omega),qe (by omega),qe (by omega)];exact qq _ _ _
 have e1:look m2 obE=some (.map []):=by rw[<-hobE,qe (by omega),qe (by omega)];exact qq _ _ _
 have e2:look (m2+1) obE=some (.cells [.map m2,Nl]):=by rw[<-hobE,qe (by omega)];exact qq _ _ _
 have e3:look (m2+1+1) obE=some (.cells [.ptr (m2+1) 0]):=by rw[<-hobE];exact qq _ _ _
 have hniE:qU obE:=by rw[<-hobE];exact((((h1.ni.cons _ rfl).cons _ rfl).cons _ rfl).cons _ rfl).cons _ rfl
 rw[hobE]
 have hlowF:∀p∈wC F1 fo am own1,p.1<m1:=fun p hp=>hok.look (qjw h1.facts p hp)
 have hstE:wc (qlo F1 i fo am own1 (m2+1) m2 f7 (m2+1+1) m1 ob1 h1.facts).Stat obE:=by
  show wc (_::_::_::wC F1 fo am own1) obE
  unfold wc
  simp only[List.forall_mem_cons]
  exact⟨by rw[hE _ b7];exact c7,e3,e0,fun p hp=>by rw[hE _ (hlowF p hp)];exact qjw h1.facts p hp⟩
 refine qnb (D:=qlo F1 i fo am own1 (m2+1) m2 f7 (m2+1+1) m1 ob1 h1.facts) l[i] hcg F1 fo am own1 (qlo F1 i fo am own1 (m2+1) m2 f7 (m2+1+1) m1 ob1 h1.facts).Stat (fun p hp=>hp) ?_ (fun ob h=>?_) h1.g (by omega) obE (m2+1+1+1) [] (fun j=>j=m2+1\/j=m2\/Own.full=.tok j) (by show ([]:List Stp).length<=301;simp) hstE ⟨.full,⟨e2,e1,by omega,.inl ⟨rfl,rfl⟩⟩,fun j=>Iff.rfl⟩ ?_ hniE fun ob2 n2 S2 hn2 hat2 hS2 hni2 hsame2=>?_
 ·show ∀p∈_::_::_::wC F1 fo am own1,_
  simp only[List.forall_mem_cons]
  exact⟨rfl,rfl,rfl,qnu _ _ _ _⟩
 ·have h':wc (_::_::_::wC F1 fo am own1) ob:=h
  unfold wc at h'
  simp only[List.forall_mem_cons]at h'
  exact qhL h1.facts h'.2.2.2
 ·show ∀p∈_::_::_::wC F1 fo am own1,_
  simp only[List.forall_mem_cons]
  have hno:∀j,j<m2->¬(j=m2+1\/j=m2\/Own.full=.tok j):=fun j hj h=>by
   rcases h with h|h|h
   ·omega
   ·omega
   ·cases h
  have hno2:¬(m2+1+1=m2+1\/m2+1+1=m2\/Own.full=.tok (m2+1+1)):=fun h=>by
   rcases h with h|h|h
   ·omega
   ·omega
   ·cases h
  exact⟨hno _ (by omega),hno2,hno _ (by omega),fun p hp=>hno _ (by have:=hlowF p hp;omega)⟩
 have hsame3:∀j,j<m1\/j=m2+1+1->look j ob2=look j obE:=fun j hj=>hsame2 j (by omega) fun h=>by
  rcases h with h|h|h
  ·omega
  ·omega
  ·cases h
 obtain⟨ownG,hfG,_⟩:∃own,zR ob2 (m2+1) m2 G own/\∀j,S2 j↔(j=m2+1\/j=m2\/own=.tok j):=by
  rw[<-hGe];exact hat2
 have f3:look (m2+1+1) ob2=some (.cells [.ptr (m2+1) 0]):=by rw[hsame3 _ (.inr rfl)];exact e3
 have h2:wo n0 ob0 M fo am om f7 ob2 F1 own1:=h1.keep hok (by omega) hni2 fun j hj=>by rw[hsame3 j (.inl hj),hE j hj]
 simp(disch:=omega)[f3,hfG.pair]
 refine vA (t':=(.nd (qz l) (.nd .bot (.nd .bot (.nd (.ptr f7 0) (.nd .bot .nil (.nd .bot (.nd (.sl (G.map q9) ownG) .nil .nil) .nil)) (.nd .bot (.nd (v39) .nil .nil) (.nd (qz l) .nil .nil))) .nil) (.nd .bot (.nd .bot (.nd .bot .nil (.nd .bot (.nd (.int 0) .nil .nil) .nil)) (.nd .bot .nil (.nd (.int i) .nil .nil))) (.nd (.int bf) .nil .nil))) (.nd .bot (.nd .bot (.nd .bot (.nd .bot .nil (.nd .bot (.nd (.int G.length) .nil .nil) .nil)) (.nd .bot (.nd (.int lev) .nil .nil) (.nd (.int l.length) .nil .nil))) (.nd (.int lev) .nil .nil)) (.nd (.map om) .nil .nil)))) (fun l h=>by cases h) (by simp[FT.Le,Wk]) (HWk.refl _) (fun h=>h) ?_
 refine quu G hGg ownG F1 (by omega) ob2 n2 own1 h2 (by omega) _ _ _ _ _ _ _ _ fun ob3 n3 own3 hn3 h3=>?_
 have c73:=h3.cell
 have hF2:=qfo G F1
 obtain⟨F2,hF2e⟩:∃F2,G.foldl zh F1=F2:=⟨_,rfl⟩
 rw[hF2e]at hf h3 hF2
 by_cases hbig:300<F2.length
 ·rw[if_pos hbig]at hf
  have hbig':(300:Int)<(F2.length:Int):=by omega
  simp(disch:=omega)[c73,h3.facts.pair,hbig']
  exact hk2 hf.symm _ ob3 n3 (by omega) h3.ni h3.old rfl rfl
 ·rw[if_neg hbig]at hf
  have hbig':¬(300:Int)<(F2.length:Int):=by omega
  simp(disch:=omega)[c73,h3.facts.pair,hbig',qk (show i<2^62 by omega)]
  exact⟨⟨i+1,n3,ob3,F2,own3⟩,by dsimp only;omega,⟨by dsimp only;omega,by dsimp only;omega,hf,by dsimp only;omega,h3⟩,by simp[FT.Le,Wk],HWk.refl _,fun h=>h⟩
end
section
variable{n0:Nat}{ob0:List (Nat×qc)}{M:List (PK×Int)}{fo am om f7:Nat}
theorem qjN(M:List (PK×Int))(lev:Int):∀(l:List qf)(i:Nat)(F F':List Stp),vN M lev l i F=some F'->F.length<=F'.length
 |[],_,F,F',h=>by
  simp only[vN,Option.some.injEq]at h
  rw[h];exact Nat.le_refl _
 |c::r,i,F,F',h=>by
  simp only[vN]at h
  split at h
  ·split at h
   ·cases h
   ·have h1:=qjN M lev r _ _ _ h
    have h2:=qfo (uJ F c i) F
    omega
  ·exact qjN M lev r _ _ _ h
structure NNBf where
 k:Nat
 bf:Int
 n:Nat
 ob:List (Nat×qc)
 F:List Stp
 own:Own
theorem quq(l:List qf)(hl:l.length<=2^20)(hc:∀c∈l,zq c)(lev:Nat)(F:List Stp)(hF:F.length<=300)(ob:List (Nat×qc))(m:Nat)(own:Own)(h:wo n0 ob0 M fo am om f7 ob F own)(hm:n0<=m)(v39:LV){KX:XP}
  (hk1:∀F',vY M lev l 302 F=some F'->∀ob' m' own',m<=m'->F'.length<=300->wo n0 ob0 M fo am om f7 ob' F' own'->KX (.exit 4) ((.nd (qz l) (.nd .bot (.nd .bot (.nd (.ptr f7 0) (.nd .bot .nil (.nd (.sl (F'.map q9) own') .nil .nil)) (.nd .bot (.nd (v39) .nil .nil) .nil)) (.nd .bot .nil (.nd .bot (.nd (.int F'.length) .nil .nil) .nil))) (.nd .bot (.nd .bot (.nd .bot .nil (.nd (.sc (.bool false)) .nil .nil)) .nil) (.nd (.int F'.length) .nil (.nd .bot (.nd (.ptr fo 0) .nil .nil) .nil)))) (.nd .bot (.nd .bot (.nd .bot (.nd .bot .nil (.nd (.int F'.length) .nil .nil)) (.nd .bot (.nd (.int lev) .nil .nil) .nil)) (.nd (.int lev) .nil (.nd .bot (.nd (.ptr fo 0) .nil .nil) .nil))) (.nd (.map om) .nil (.nd .bot .nil (.nd .bot (.nd (.ptr fo 1) .nil .nil) .nil)))))) ⟨ob',m'⟩)
  (hk2:vY M lev l 302 F=none->∀t' ob' m',m<=m'->qU ob'->(∀i,i<n0->look i ob'=look i ob0)->t'.get 4=.sc (.pointer none)->t'.get 5=.int 2->KX .ret t' ⟨ob',m'⟩):
  lP E0 F0 qrL ((.nd (qz l) (.nd .bot (.nd .bot (.nd (.ptr f7 0) .nil (.nd .bot (.nd (v39) .nil .nil) .nil)) .nil) (.nd .bot .nil (.nd (.int (-1)) .nil .nil))) (.nd .bot (.nd .bot (.nd .bot .nil (.nd .bot (.nd (.int lev) .nil .nil) .nil)) (.nd (.int lev) .nil .nil)) (.nd (.map om) .nil .nil)))) ⟨ob,m⟩ KX:=by
 obtain⟨A,hA⟩:∃A,vY M lev l 302 F=A:=⟨_,rfl⟩
 rw[hA]at hk1 hk2
 refine qB (σ:=NNBf) (fun q=>(.nd (qz l) (.nd .bot (.nd .bot (.nd (.ptr f7 0) .nil (.nd .bot (.nd (v39) .nil .nil) .nil)) .nil) (.nd .bot .nil (.nd (.int q.bf) .nil .nil))) (.nd .bot (.nd .bot (.nd .bot .nil (.nd .bot (.nd (.int lev) .nil .nil) .nil)) (.nd (.int lev) .nil .nil)) (.nd (.map om) .nil .nil)))) (fun q=>⟨q.ob,q.n⟩) (fun q=>q.k)
  (fun q=>m<=q.n/\q.F.length<=300/\wo n0 ob0 M fo am om f7 q.ob q.F q.own/\((q.k=0/\q.bf=(q.F.length:Int)/\A=some q.F)\/(0<q.k/\q.bf≠(q.F.length:Int)/\vY M lev l q.k q.F=A/\302<=q.k+q.F.length)))
  ⟨302,-1,m,ob,F,own⟩ ⟨Nat.le_refl _,hF,h,   .inr ⟨by dsimp only;omega,by dsimp only;omega,hA,by dsimp only;omega⟩⟩ (by simp[FT.Le,Wk]) ⟨HWk.refl _,fun h=>h⟩ ?_
 rintro⟨k,bf,m1,ob1,F1,own1⟩ ⟨hm1,hl1,h1,hcase⟩ hok
 dsimp only at hm1 hl1 h1 hcase hok
 have c7:=h1.cell
 rcases hcase with⟨rfl,rfl,hA1⟩|⟨hk0,hbf,hlv,hfu⟩
 ·simp(disch:=omega)[c7,h1.facts.pair]
  exact hk1 F1 hA1 ob1 m1 own1 hm1 hl1 h1
 obtain⟨k',rfl⟩:∃k',k=k'+1:=⟨k - 1,by omega⟩
 simp only[vY]at hlv
 simp(disch:=omega)[c7,h1.facts.pair,hbf]
 refine vA (t':=(.nd (qz l) (.nd .bot (.nd .bot (.nd (.ptr f7 0) .nil (.nd .bot (.nd (v39) .nil .nil) (.nd (qz l) .nil .nil))) .nil) (.nd .bot (.nd .bot .nil (.nd .bot .nil (.nd (.int 0) .nil .nil))) (.nd (.int F1.length) .nil .nil))) (.nd .bot (.nd .bot (.nd .bot .nil (.nd .bot (.nd (.int lev) .nil .nil) (.nd (.int l.length) .nil .nil))) (.nd (.int lev) .nil .nil)) (.nd (.map om) .nil .nil)))) (fun l h=>by cases h) (by simp[FT.Le,Wk]) (HWk.refl _) (fun h=>h) ?_
 refine quj l hl hc lev F1.length F1 hl1 ob1 m1 own1 h1 (by omega) v39 (fun F' hr ob2 m2 own2 hm2 hl2 h2=>?_) (fun hr t' ob2 m2 hm2 hni hold h4 h5=>?_)
 ·rw[hr]at hlv
  simp only at hlv
  simp(disch:=omega)
  by_cases he:F'.length=F1.length
  ·rw[if_pos he]at hlv
   exact⟨⟨0,F1.length,m2,ob2,F',own2⟩,by dsimp only;omega,⟨by dsimp only;omega,hl2,h2,.inl ⟨rfl,by dsimp only;rw[he],hlv.symm⟩⟩,by simp[FT.Le,Wk],HWk.refl _,fun h=>h⟩
  ·rw[if_neg he]at hlv
   have:=qjN _ _ _ _ _ _ hr
   exact⟨⟨k',F1.length,m2,ob2,F',own2⟩,by dsimp only;omega,⟨by dsimp only;omega,hl2,h2,.inr ⟨by dsimp only;omega,by dsimp only;omega,hlv,by dsimp only;omega⟩⟩,by simp[FT.Le,Wk],HWk.refl _,fun h=>h⟩
 ·rw[hr]at hlv
  simp(disch:=omega)
  exact hk2 hlv.symm t' ob2 m2 (by omega) hni hold h4 h5
theorem qtK(l:List qf)(hl:l.length<=2^20)(hc:∀c∈l,zq c)(N:Nat)(hN:N<=2^40)(F:List Stp)(hF:F.length<=300)(ob:List (Nat×qc))(m:Nat)(own:Own)(h:wo n0 ob0 M fo am om f7 ob F own)(hm:n0<=m){KX:XP}
  (hk1:∀F',wE M l N 0 F=some F'->∀ob' m' own',m<=m'->F'.length<=300->wo n0 ob0 M fo am om f7 ob' F' own'->KX (.exit 2) ((.nd (qz l) (.nd .bot (.nd .bot (.nd (.ptr f7 0) .nil (.nd .bot (.nd (.int N) .nil .nil) .nil)) .nil) (.nd .bot (.nd .bot .nil (.nd .bot (.nd (.sc (.bool false)) .nil .nil) .nil)) .nil)) (.nd .bot (.nd .bot (.nd .bot .nil (.nd .bot (.nd (.int N) .nil .nil) .nil)) .nil) (.nd (.map om) .nil .nil)))) ⟨ob',m'⟩)
  (hk2:wE M l N 0 F=none->∀t' ob' m',m<=m'->qU ob'->(∀i,i<n0->look i ob'=look i ob0)->t'.get 4=.sc (.pointer none)->t'.get 5=.int 2->KX .ret t' ⟨ob',m'⟩):
  lP E0 F0 qoS ((.nd (qz l) (.nd .bot (.nd .bot (.nd (.ptr f7 0) .nil (.nd .bot (.nd (.int N) .nil .nil) .nil)) .nil) .nil) (.nd .bot (.nd .bot (.nd .bot .nil (.nd .bot (.nd (.int 0) .nil .nil) .nil)) .nil) (.nd (.map om) .nil .nil)))) ⟨ob,m⟩ KX:=by
 obtain⟨A,hA⟩:∃A,wE M l N 0 F=A:=⟨_,rfl⟩
 rw[hA]at hk1 hk2
 refine qB (σ:=NNAd) (fun q=>(.nd (qz l) (.nd .bot (.nd .bot (.nd (.ptr f7 0) .nil (.nd .bot (.nd (.int N) .nil .nil) .nil)) .nil) .nil) (.nd .bot (.nd .bot (.nd .bot .nil (.nd .bot (.nd (.int q.i) .nil .nil) .nil)) .nil) (.nd (.map om) .nil .nil)))) (fun q=>⟨q.ob,q.n⟩) (fun q=>N - q.i)
  (fun q=>m<=q.n/\q.i<=N/\wE M l (N - q.i) q.i q.F=A/\q.F.length<=300/\wo n0 ob0 M fo am om f7 q.ob q.F q.own)
  ⟨0,m,ob,F,own⟩ ⟨Nat.le_refl _,Nat.zero_le _,hA,hF,h⟩ (by simp[FT.Le,Wk]) ⟨HWk.refl _,fun h=>h⟩ ?_
 rintro⟨i,m1,ob1,F1,own1⟩ ⟨hm1,hi,hf,hl1,h1⟩ hok
 dsimp only at hm1 hi hf hl1 h1 hok
 by_cases hlt:i<N
 case neg=>
  obtain rfl:i=N:=by omega
  rw[Nat.sub_self]at hf
  simp(disch:=omega)
  exact hk1 F1 hf.symm ob1 m1 own1 hm1 hl1 h1
 obtain⟨d,hd⟩:∃d,N - i=d+1:=⟨N - i - 1,by omega⟩
 rw[hd]at hf
 simp only[wE]at hf
 simp(disch:=omega)[hlt]
 refine vA (t':=(.nd (qz l) (.nd .bot (.nd .bot (.nd (.ptr f7 0) .nil (.nd .bot (.nd (.int N) .nil .nil) .nil)) .nil) (.nd .bot .nil (.nd (.int (-1)) .nil .nil))) (.nd .bot (.nd .bot (.nd .bot .nil (.nd .bot (.nd (.int i) .nil .nil) .nil)) (.nd (.int i) .nil .nil)) (.nd (.map om) .nil .nil)))) (fun l h=>by cases h) (by simp[FT.Le,Wk]) (HWk.refl _) (fun h=>h) ?_
 refine quq l hl hc i F1 hl1 ob1 m1 own1 h1 (by omega) (.int N) (fun F' hr ob2 m2 own2 hm2 hl2 h2=>?_) (fun hr t' ob2 m2 hm2 hni hold h4 h5=>?_)
 ·rw[hr]at hf
  simp only at hf
  simp(disch:=omega)[qk (show i<2^62 by omega)]
  exact⟨⟨i+1,m2,ob2,F',own2⟩,by dsimp only;omega,⟨by dsimp only;omega,by dsimp only;omega,by dsimp only;rw[show N - (i+1)=d by omega];exact hf,hl2,h2⟩,by simp[FT.Le,Wk],HWk.refl _,fun h=>h⟩
 ·rw[hr]at hf
  simp(disch:=omega)
  exact hk2 hf.symm t' ob2 m2 (by omega) hni hold h4 h5
end
theorem qzc{f:FuncId}{args:List LV}{H:qa}{kv kp:HP}(h:cP E0 F0 f (stripL args) H kv kp):cP E0 F0 f args H kv kp:=fun hH=>by
 refine .weakArgs (args':=stripL args) (by rw[qbS]) (fun k=>?_) ⟨Nat.le_refl _,fun _ _ h=>h⟩ (h hH)
 simp only[zz,List.getD_eq_getElem?_getD,qaA]
 cases args[k]? with
 |none=>exact .inl rfl
 |some v=>exact .inr (.inl rfl)
def qzE:qr:=match b43.body with
 |.seq _ (.seq _ (.seq _ (.seq _ (.seq _ (.seq (.seq _ (.blk _ l)) _)))))=>l
 |_=>.bad
def zr(a:qd):Bool:=qI a&&a.args.all ux
theorem qec{a:qd}:zr a=true↔qD a:=by simp[zr,qD]
section
variable{n0:Nat}{ob0:List (Nat×qc)}{M:List (PK×Int)}{fo am om:Nat}
theorem qur(base:List qd)(ownB:Own)(hb:base.length<=100)(hok:∀a∈base,a.ok)(ob:List (Nat×qc))(m:Nat)(h:qad n0 ob0 M fo am om ob [] .full)(hm:n0<=m){KX:XP}
  (hk1:base.all zr=true->∀ob' m' own',m<=m'->qad n0 ob0 M fo am om ob' (zj base) own'->KX (.exit 0) ((.nd .bot (.nd .bot (.nd .bot (.nd (.map om) .nil .nil) (.nd .bot .nil (.nd (.int base.length) .nil .nil))) (.nd .bot (.nd (.ptr fo 0) .nil .nil) (.nd .bot .nil (.nd (.sc (.bool false)) .nil .nil)))) (.nd .bot (.nd .bot .nil (.nd .bot .nil (.nd (.int base.length) .nil .nil))) (.nd .bot (.nd .bot .nil (.nd (.sl (base.map qg) ownB) .nil .nil)) .nil)))) ⟨ob',m'⟩)
  (hk2:base.all zr=false->∀t' ob' m',m<=m'->qU ob'->(∀i,i<n0->look i ob'=look i ob0)->t'.get 4=.sc (.map none)->t'.get 5=.sc (.pointer none)->t'.get 6=.int 1->KX .ret t' ⟨ob',m'⟩):
  lP E0 F0 qzE ((.nd .bot (.nd .bot (.nd .bot (.nd (.map om) .nil .nil) (.nd .bot .nil (.nd (.int base.length) .nil .nil))) (.nd .bot (.nd (.ptr fo 0) .nil .nil) .nil)) (.nd .bot (.nd .bot .nil (.nd .bot .nil (.nd (.int 0) .nil .nil))) (.nd .bot (.nd .bot .nil (.nd (.sl (base.map qg) ownB) .nil .nil)) .nil)))) ⟨ob,m⟩ KX:=by
 obtain⟨A,hA⟩:∃A,base.all zr=A:=⟨_,rfl⟩
 obtain⟨B,hB⟩:∃B,zj base=B:=⟨_,rfl⟩
 rw[hA]at hk1 hk2
 rw[hB]at hk1
 refine qB (σ:=NNAd) (fun q=>(.nd .bot (.nd .bot (.nd .bot (.nd (.map om) .nil .nil) (.nd .bot .nil (.nd (.int base.length) .nil .nil))) (.nd .bot (.nd (.ptr fo 0) .nil .nil) .nil)) (.nd .bot (.nd .bot .nil (.nd .bot .nil (.nd (.int q.i) .nil .nil))) (.nd .bot (.nd .bot .nil (.nd (.sl (base.map qg) ownB) .nil .nil)) .nil)))) (fun q=>⟨q.ob,q.n⟩) (fun q=>base.length - q.i)
  (fun q=>m<=q.n/\q.i<=base.length/\(base.drop q.i).all zr=A/\((base.map fun a=>(⟨a,-1,[]⟩:Stp)).drop q.i).foldl zh q.F=B/\q.F.length<=q.i/\qad n0 ob0 M fo am om q.ob q.F q.own)
  ⟨0,m,ob,[],.full⟩ ⟨Nat.le_refl _,Nat.zero_le _,hA,hB,Nat.le_refl _,h⟩ (by simp[FT.Le,Wk]) ⟨HWk.refl _,fun h=>h⟩ ?_
 rintro⟨i,m1,ob1,F1,own1⟩ ⟨hm1,hi,hf,hg,hl1,h1⟩ hok1
 dsimp only at hm1 hi hf hg hl1 h1 hok1
 by_cases hlt:i<base.length
 case neg=>
  obtain rfl:i=base.length:=by omega
  rw[List.drop_eq_nil_of_le (Nat.le_refl _)]at hf
  rw[List.drop_eq_nil_of_le (by simp)]at hg
  obtain rfl:F1=B:=hg
  simp(disch:=omega)
  exact hk1 hf.symm ob1 m1 own1 hm1 h1
 rw[qax _ hlt]at hf
 rw[List.drop_eq_getElem_cons (by simpa using hlt),List.foldl_cons,List.getElem_map]at hg
 have hao:=hok _ (List.getElem_mem hlt)
 simp(disch:=omega)[hlt]
 refine(qhg base[i] hao).go fun m2 hm2=>?_
 have hold2:∀(x:qc) j,j<n0->look j ((m1,x)::ob1)=look j ob0:=fun x j hj=>by rw[qe (by omega)];exact h1.old j hj
 cases ha:qI base[i]
 ·have e:zr base[i]=false:=by simp[zr,ha]
  rw[e,Bool.false_and]at hf
  simp(disch:=omega)
  exact hk2 hf.symm _ _ m2 (by omega) (h1.ni.cons _ rfl) (hold2 _) rfl rfl rfl
 simp(disch:=omega)
 refine(qnc base[i] hao).go fun m3 hm3=>?_
 cases hgr:base[i].args.all ux
 ·have e:zr base[i]=false:=by simp[zr,hgr]
  rw[e,Bool.false_and]at hf
  simp(disch:=omega)
  exact hk2 hf.symm _ _ m3 (by omega) (h1.ni.cons _ rfl) (hold2 _) rfl rfl rfl
 have e:zr base[i]=true:=by simp[zr,ha,hgr]
 have hG:qD base[i]:=qec.1 e
 rw[e,Bool.true_and]at hf
 simp(disch:=omega)
 have hal:=(wK ha).1
 refine qtZ base[i] (by omega) (fun t ht hk3=>by have:=List.all_eq_true.1 hgr t ht;simp[ux,hk3]at this) _ fun m4 hm4=>?_
 dsimp only at hm4
 simp(disch:=omega)
 refine qzc ?_
 have hstrip:stripL [.ptr fo 0,.agg [.str base[i].pred,ql base[i].args,Z (-1),Nl]]=[.ptr fo 0,q9 ⟨base[i],-1,[]⟩]:=by
  simp[LV.strip,stripL,qdw,List.map_map,Function.comp_def]
 rw[hstrip]
 refine qnl ⟨base[i],-1,[]⟩ hG F1 (by omega) ((m1,.cells [.str base[i].pred,ql base[i].args])::ob1) m4 own1 (h1.keep hok1 (by omega) (h1.ni.cons _ rfl) fun j hj=>qe (by omega) _ _) (by omega) fun ob2 m5 own2 hm5 h2 _=>?_
 simp(disch:=omega)[qk (show i<2^62 by omega)]
 have:=qlO F1 ⟨base[i],-1,[]⟩
 exact⟨⟨i+1,m5,ob2,zh F1 ⟨base[i],-1,[]⟩,own2⟩,by dsimp only;omega,⟨by dsimp only;omega,by dsimp only;omega,hf,hg,by dsimp only;omega,h2⟩,by simp[FT.Le,Wk],HWk.refl _,fun h=>h⟩
end
theorem qnk(l:List qf)(hl:qcJ l)(fuel:Nat)(R:Option (List (PK×Int)))(hR:(qQ l).1=0->jm l fuel (l.foldl jc [])=some R)(base:List qd)(ownB:Own)(hb:base.length<2^63)(hok:base.length<=100->∀a∈base,a.ok)(ob:List (Nat×qc))(n:Nat)(hni:qU ob){kv kp:HP}
  (he:∀e:Int,e≠0->((qQ l).1≠0/\e=(qQ l).1\/(qQ l).1=0/\R=none/\e=81\/(qQ l).1=0/\R≠none/\100<base.length/\e=2\/(qQ l).1=0/\R≠none/\base.length<=100/\base.all zr=false/\e=1)->∀n',n<=n'->kv (.tup [.sc (.map none),.sc (.pointer none),.int e]) ⟨ob,n'⟩)
  (hv:(qQ l).1=0->∀m,R=some m->base.length<=100->base.all zr=true->∀om fo am ob' n' own',n<=n'->qad n ob m fo am om ob' (zj base) own'->kv (.tup [.map om,.ptr fo 0,.int 0]) ⟨ob',n'⟩):
  cP E0 F0 43 [qz l,.sl (base.map qg) ownB] ⟨ob,n⟩ kv kp:=by
 refine zX c43 fun hH=>⟨Nat.le_of_ble_eq_true rfl,?_⟩
 simp(disch:=omega)[b43]
 refine qul l hl fuel R hR _ (fun hc n2 hn2=>?_) (fun hc hRn n2 hn2=>?_) (fun hc m hRm o n2 ho hn2=>?_)
 ·dsimp only at hn2
  simp(disch:=omega)[hc]
  exact keep (he _ hc (.inl ⟨hc,rfl⟩) n2 hn2)
 ·dsimp only at hn2
  simp(disch:=omega)
  exact keep (he 81 (by decide) (.inr (.inl ⟨hc,hRn,rfl⟩)) n2 hn2)
 dsimp only at ho
 have hRs:R≠none:=by rw[hRm];simp
 by_cases h100:base.length<=100
 case neg=>
  have h100':(100:Int)<(base.length:Int):=by omega
  simp(disch:=omega)[h100']
  obtain⟨g1,g2⟩:=zo (l:=(o,qc.map (za m))::ob) (n:=n2) hH (qi.cons' hH ho (by dsimp only;omega) (qi.refl' _))
  exact⟨_,g1,g2,he 2 (by decide) (.inr (.inr (.inl ⟨hc,hRs,by omega,rfl⟩))) n2 (by omega)⟩
 have h100':¬(100:Int)<(base.length:Int):=by omega
 simp(disch:=omega)[h100']
 refine vA (t':=(.nd .bot (.nd .bot (.nd .bot (.nd (.map o) .nil .nil) (.nd .bot .nil (.nd (.int base.length) .nil .nil))) (.nd .bot (.nd (.ptr (n2+1) 0) .nil .nil) .nil)) (.nd .bot (.nd .bot .nil (.nd .bot .nil (.nd (.int 0) .nil .nil))) (.nd .bot (.nd .bot .nil (.nd (.sl (base.map qg) ownB) .nil .nil)) .nil)))) (fun l h=>by cases h) (by simp[FT.Le,Wk]) (HWk.refl _) (fun h=>h) ?_
 have hold:∀i,i<n->look i ((n2+1,.cells [.map n2,Nl])::(n2,.map [])::(o,.map (za m))::ob)=look i ob:=fun i hi=>by rw[qe (by omega),qe (by omega),qe (by omega)]
 have hB:qad n ob m (n2+1) n2 o ((n2+1,.cells [.map n2,Nl])::(n2,.map [])::(o,.map (za m))::ob) [] .full:=by
  refine⟨⟨qq _ _ _,by rw[qe (by omega)];exact qq _ _ _,by omega,.inl ⟨rfl,rfl⟩⟩,by rw[qe (by omega),qe (by omega)];exact qq _ _ _,by omega,((hni.cons _ rfl).cons _ rfl).cons _ rfl,hold,⟨by omega,by omega,fun t h=>by cases h⟩,fun s hs=>by cases hs⟩
 refine qur base ownB h100 (hok h100) _ (n2+1+1) hB (by omega) (fun hall ob2 m2 own2 hm2 h2=>?_) (fun hall t' ob2 m2 hm2 hni2 hold2 h4 h5 h6=>?_)
 ·simp(disch:=omega)
  exact keep (hv hc m hRm h100 hall o _ _ ob2 m2 own2 (by omega) h2)
 ·simp(disch:=omega)
  unfold zW
  rw[h4,h5,h6]
  exact⟨⟨ob,m2⟩,⟨Nat.le_refl _,fun i x hx=>by rw[hold2 i (hH.look hx)];exact hx⟩,fun _=>qx.mono hH (by dsimp only;omega),he 1 (by decide) (.inr (.inr (.inr ⟨hc,hRs,h100,hall,rfl⟩))) m2 (by omega)⟩
theorem qrq:∀(l:List qf)(i:Nat),(qas l i).1=0->∀c∈l,zq c
 |[],_,_,c,hc=>by cases hc
 |d::l,i,h,c,hc=>by
  unfold qas at h
  split at h
  ·cases h
  ·split at h
   ·cases h
   ·rename_i h1 h2
    rcases List.mem_cons.1 hc with rfl|hc
    ·exact⟨by simpa using h1,by simpa using h2⟩
    ·exact qrq l _ h c hc
theorem qdg{l:List qf}(h:(qQ l).1=0):∀c∈l,zq c:=by
 unfold qQ at h
 split at h
 ·cases h
 ·exact qrq l _ h
def qar(m:List (PK×Int))(l:List qf)(base:List qd):Option (List Stp):=wE m l ((ub 0 (m.map (·.2))).toNat+1) 0 (zj base)
def d24a:qr:=match b30.body with
 |.seq a _=>a
 |_=>.bad
def d24b:qr:=match b30.body with
 |.seq _ (.seq a _)=>a
 |_=>.bad
def d24c:qr:=match b30.body with
 |.seq _ (.seq _ (.seq a _))=>a
 |_=>.bad
def d24d:qr:=match b30.body with
 |.seq _ (.seq _ (.seq _ (.seq a _)))=>a
 |_=>.bad
theorem qzq:b30.body=.seq d24a (.seq d24b (.seq d24c (.seq d24d (.seq l42 r42)))):=rfl
theorem oneN:(Value.pointer none).oneCell'=true:=rfl
def zb(l:List qf)(R:Option (List (PK×Int)))(base:List qd):Int:=
 if (qQ l).1≠0 then (qQ l).1 else if R=none then 81 else if 100<base.length then 2 else if base.all zr then 0 else 1
theorem qud(l:List qf)(hl:qcJ l)(fuel:Nat)(R:Option (List (PK×Int)))(hR:(qQ l).1=0->jm l fuel (l.foldl jc [])=some R)(hRb:(qQ l).1=0->∀m,R=some m->0<=ub 0 (m.map (·.2))/\ub 0 (m.map (·.2))<=2^30)
  (base:List qd) (ownB:Own) (hb:base.length<2^63) (hok:base.length<=100->∀a∈base,a.ok) (ob:List (Nat×qc)) (n:Nat) (hni:qU ob) {kv kp:HP}
  (he:∀e:Int,e≠0->(e=zb l R base\/zb l R base=0/\(∃m,R=some m/\qar m l base=none)/\e=2)->∀n',n<=n'->kv (.tup [.sc (.pointer none),.int e]) ⟨ob,n'⟩)
  (hv:zb l R base=0->∀m F,R=some m->qar m l base=some F->F.length<=300->∀om fo am ob' n' own',n<=n'->qad n ob m fo am om ob' F own'->kv (.tup [.ptr fo 0,.int 0]) ⟨ob',n'⟩):
  cP E0 F0 30 [qz l,.sl (base.map qg) ownB] ⟨ob,n⟩ kv kp:=by
 refine qfi c30 (Nat.le_of_ble_eq_true rfl) fun hH=>?_
 rw[qzq]
 simp(disch:=omega)
 refine vB (ur ?_)
 simp(disch:=omega)[d24a,b30]
 refine vB (ur ?_)
 simp(disch:=omega)[d24b,b30]
 refine qnk l hl fuel R hR base ownB hb hok ob n hni (fun e he0 hwhy n2 hn2=>?_) (fun hc m hRm h100 hall om fo am ob2 n2 own2 hn2 h2=>?_)
 ·have heE:e=zb l R base:=by
   unfold zb
   rcases hwhy with⟨h1,h2⟩|⟨h1,h2,h3⟩|⟨h1,h2,h3,h4⟩|⟨h1,h2,h3,h4,h5⟩
   ·rw[if_pos h1];exact h2
   ·rw[if_neg (by omega),if_pos h2];exact h3
   ·rw[if_neg (by omega),if_neg h2,if_pos h3];exact h4
   ·rw[if_neg (by omega),if_neg h2,if_neg (by omega),if_neg (by simp[h4])];exact h5
  simp(disch:=omega)[oneN]
  refine vB (ur ?_)
  simp(disch:=omega)[d24c,b30,he0]
  obtain⟨g1,g2⟩:=zo (l:=(n2,qc.cells [.sc (.pointer none)])::ob) (n:=n2+1) hH (qi.cons' hH hn2 (by dsimp only;omega) (qi.refl' _))
  exact⟨_,g1,g2,he e he0 (.inl heE) (n2+1) (by omega)⟩
 ·have hbz:zb l R base=0:=by
   unfold zb
   rw[if_neg (by omega),if_neg (by rw[hRm];simp),if_neg (by omega),if_pos hall]
  obtain⟨hM0,hM1⟩:=hRb hc m hRm
  simp(disch:=omega)
  refine vB (ur ?_)
  simp(disch:=omega)[d24c,b30]
  refine vB (ur ?_)
  simp(disch:=omega)[d24d,b30]
  refine qgk fun hok2=>?_
  have hokB:qa.Ok ⟨ob2,n2⟩:=hok2.2
  have hlv:look om ((n2,qc.cells [.ptr fo 0])::ob2)=some (.map ((m.map fun e=>(uz e.1,e.2)).map fun e=>(e.1,.int e.2))):=by
   rw[List.map_map,qe]
   ·exact h2.lev
   ·have:=hokB.look h2.lev
    dsimp only at this
    omega
  refine vA (t':=(.nd (qz l) (.nd .bot (.nd .bot (.nd (.ptr n2 0) .nil .nil) .nil) (.nd .bot (.nd (.int 0) .nil .nil) .nil)) (.nd .bot .nil (.nd (.map om) .nil .nil)))) (fun l h=>by cases h) (by simp[FT.Le,Wk]) (HWk.refl _) (fun h=>h) ?_
  refine vB (qgl (qoO (qz l) (.ptr n2 0) om (m.map fun e=>(uz e.1,e.2)) 0 ⟨(n2,qc.cells [.ptr fo 0])::ob2,n2+1⟩ hlv) ?_)
  rintro e t' H' ⟨rfl,ht,hw,hokw⟩
  rw[List.map_map,show ((fun e:LV×Int=>e.2)∘fun e:PK×Int=>(uz e.1,e.2))=fun e=>e.2 from rfl]at ht
  obtain⟨N,hN⟩:∃N:Nat,ub 0 (m.map (·.2))=(N:Int):=⟨(ub 0 (m.map (·.2))).toNat,by omega⟩
  have hdd:qar m l base=wE m l (N+1) 0 (zj base):=by
   unfold qar
   rw[hN];rfl
  rw[hN]at ht hM1
  show lP E0 F0 r42 t' H' _
  refine vA (fun l h=>by cases h) ht hw hokw ?_
  refine ur ?_
  simp(disch:=omega)[r42,b30,qk (show N<2^62 by omega)]
  refine vA (t':=(.nd (qz l) (.nd .bot (.nd .bot (.nd (.ptr n2 0) .nil (.nd .bot (.nd (.int (N+1:Nat)) .nil .nil) .nil)) .nil) .nil) (.nd .bot (.nd .bot (.nd .bot .nil (.nd .bot (.nd (.int 0) .nil .nil) .nil)) .nil) (.nd (.map om) .nil .nil)))) (fun l h=>by cases h) (by simp[FT.Le,Wk]) (HWk.refl _) (fun h=>h) ?_
  have hcg:=qdg hc
  have hll:=(qfg hc).1
  have hbl:(zj base).length<=300:=by
   have:=qfo (base.map fun a=>(⟨a,-1,[]⟩:Stp)) []
   rw[List.length_map,List.length_nil]at this
   unfold zj
   omega
  refine qtK (n0:=n) (ob0:=ob) (M:=m) (am:=am) l (by omega) hcg (N+1) (by omega) (zj base) hbl _ (n2+1+1) own2 ⟨?_,qq _ _ _⟩ (by omega) (fun F' hF' ob3 m3 own3 hm3 hl3 h3=>?_) (fun hF' t' ob3 m3 hm3 hni3 hold3 h4 h5=>?_)
  ·exact h2.keep hokB (by omega) (h2.ni.cons _ rfl) fun j hj=>qe (by omega) _ _
  ·have c7:=h3.cell
   simp(disch:=omega)[c7]
   exact keep (hv hbz m F' hRm (by rw[hdd];exact hF') hl3 om fo am ob3 m3 own3 (by omega) h3.toqad)
  ·simp(disch:=omega)
   unfold zW
   rw[h4,h5]
   exact⟨⟨ob,m3⟩,⟨Nat.le_refl _,fun i x hx=>by rw[hold3 i (hH.look hx)];exact hx⟩,fun _=>qx.mono hH (by dsimp only;omega),he 2 (by decide) (.inr ⟨hbz,⟨m,hRm,by rw[hdd];exact hF'⟩,rfl⟩) m3 (by omega)⟩
structure NNAt where
 i:Nat
 n:Nat
 M:Nat
structure qiS(l:List qf)(fuel:Nat)(R:Option (List (PK×Int)))(base:List qd):Prop where
 hl:qcJ l
 hR:(qQ l).1=0->jm l fuel (l.foldl jc [])=some R
 hRb:(qQ l).1=0->∀m,R=some m->0<=ub 0 (m.map (·.2))/\ub 0 (m.map (·.2))<=2^30
 hb:base.length<2^63
 hok:base.length<=100->∀a∈base,a.ok
def ua(l:List qf)(R:Option (List (PK×Int)))(base:List qd):Int:=if zb l R base≠0 then zb l R base else match R with
 |none=>81
 |some m=>if (qar m l base).isNone then 2 else 0
def vX(l:List qf)(R:Option (List (PK×Int)))(base:List qd):List Stp:=match R with
 |none=>[]
 |some m=>(qar m l base).getD []
theorem quc{l:List qf}{fuel:Nat}{R:Option (List (PK×Int))}{base:List qd}(hI:qiS l fuel R base)(ownB:Own)(ob:List (Nat×qc))(n:Nat)(hni:qU ob){kv kp:HP}
  (he:ua l R base≠0->∀n',n<=n'->kv (.tup [.sc (.pointer none),.int (ua l R base)]) ⟨ob,n'⟩)
  (hv:ua l R base=0->(vX l R base).length<=300->(∀s∈vX l R base,qD s.atom)->∀fo am ob' n' own',n<=n'->zR ob' fo am (vX l R base) own'->qU ob'->(∀i,i<n->look i ob'=look i ob)->kv (.tup [.ptr fo 0,.int 0]) ⟨ob',n'⟩):
  cP E0 F0 30 [qz l,.sl (base.map qg) ownB] ⟨ob,n⟩ kv kp:=by
 refine qud l hI.hl fuel R hI.hR hI.hRb base ownB hI.hb hI.hok ob n hni (fun e he0 hwhy n' hn'=>?_) (fun hz m F hRm hd hFl om fo am ob' n' own' hn' hB=>?_)
 ·have:e=ua l R base:=by
   unfold ua
   rcases hwhy with h|⟨h1,⟨m,h2,h3⟩,h4⟩
   ·rw[if_pos (by rw[<-h];exact he0)];exact h
   ·rw[if_neg (by omega),h2]
    simp only[h3]
    exact h4
  subst this
  exact he he0 n' hn'
 ·have e1:ua l R base=0:=by
   unfold ua
   rw[if_neg (by omega),hRm]
   simp[hd]
  have e2:vX l R base=F:=by
   unfold vX
   rw[hRm]
   simp[hd]
  rw[e2]at hv
  exact hv e1 hFl hB.g fo am ob' n' own' hn' hB.facts hB.ni hB.old
theorem qbC{ob ob':List (Nat×qc)}{n n' m:Nat}(hH:qa.Ok ⟨ob,n⟩)(h:∀i,i<n->look i ob'=look i ob)(hm:n'<=m):HWk ⟨ob',m⟩ ⟨ob,m⟩:=⟨Nat.le_refl _,fun i x hx=>by rw[h i (hH.look hx)];exact hx⟩
def qAa(F:List Stp)(B:List qd):Prop:=B.Perm (F.map Stp.atom)/\B.Pairwise fun x y=>¬zk y x<0
def zy(c:qf)(l:List qd):List Lit->qm->List qd
 |[],K=>if qaF l K c.body then [qN K c.head] else []
 |x::r,K=>if x.kind=1 then l.flatMap fun a=>match zf K x.atom a with
   |some R=>zy c l r R
   |none=>[]
  else zy c l r K
theorem qdF(x:Lit)(r:List Lit):qJ (x::r)=if x.kind=1 then x.atom::qJ r else qJ r:=by
 unfold qJ
 rw[List.filter_cons]
 by_cases h:x.kind=1<;>simp[h]
theorem qqc{α β:Type}(f:α->List β)(M:Nat):∀(l:List α),(∀a∈l,(f a).length<=M)->(l.flatMap f).length<=l.length*M
 |[],_=>by simp
 |a::l,h=>by
  have h1:=h a List.mem_cons_self
  have h2:=qqc f M l fun b hb=>h b (List.mem_cons_of_mem _ hb)
  rw[List.flatMap_cons,List.length_append,List.length_cons,Nat.add_mul]
  omega
theorem qih(c:qf)(l:List qd)(N:Nat)(hN:l.length<=N)(h1:1<=N):∀(r:List Lit)(K:qm),(zy c l r K).length<=N^(qJ r).length
 |[],K=>by
  unfold zy
  split<;>simp[qJ]
 |x::r,K=>by
  unfold zy
  rw[qdF]
  by_cases hk:x.kind=1
  ·rw[if_pos hk,if_pos hk,List.length_cons]
   refine Nat.le_trans (qqc _ (N^(qJ r).length) l fun a _=>?_) ?_
   ·split
    ·exact qih c l N hN h1 r _
    ·exact Nat.zero_le _
   ·rw[Nat.pow_succ,Nat.mul_comm]
    exact Nat.mul_le_mul_left _ hN
  ·rw[if_neg hk,if_neg hk]
   exact qih c l N hN h1 r K
theorem qdC{H:qa}{sz:Nat}{es Y:List LV}{own:Own}{ob:List (Nat×qc)}{n:Nat}(hsz:0<sz/\sz<=2^10)(hes:(es.all fun e=>e.cells.length==sz)=true)(hY:(Y.all fun e=>e.cells.length==sz)=true)(hl:es.length+Y.length<=2^30)(h:vS H sz es.length own ob n):
  ∃own' ob' n',(∀ow,apL ⟨ob,n⟩ sz (.sl es own) (.sl Y ow)=some (.sl (es++Y) own',⟨ob',n'⟩))/\vS H sz (es.length+Y.length) own' ob' n'/\n<=n':=by
 rcases h with⟨rfl,rfl,h⟩|⟨t,rfl,h1,h2,rfl⟩
 ·refine⟨.tok n,(n,.tok (es.length+Y.length) sz)::H.objs,n+1,fun ow=>?_,.inr ⟨n,rfl,h,Nat.lt_succ_self _,rfl⟩,Nat.le_succ _⟩
  unfold apL
  simp only
  rw[hes,hY]
  simp only[Bool.and_self,if_true]
  rw[if_pos ⟨hl,hsz.2,rfl⟩]
  rfl
 ·refine⟨.tok t,(t,.tok (es.length+Y.length) sz)::H.objs,n,fun ow=>?_,.inr ⟨t,rfl,h1,h2,rfl⟩,Nat.le_refl _⟩
  have hcan:vE ⟨(t,.tok es.length sz)::H.objs,n⟩ sz (.tok t) es.length=true:=by
   have:sz≠0:=by omega
   simp[vE,look,this]
  unfold apL
  simp only
  rw[hes,hY]
  simp only[Bool.and_self,if_true]
  rw[if_pos ⟨hl,hsz.2,hcan⟩]
  simp[qa.put,qy]
theorem vS.old{H:qa}{sz len:Nat}{own:Own}{ob:List (Nat×qc)}{n:Nat}(h:vS H sz len own ob n):H.next<=n/\∀i,i<H.next->look i ob=look i H.objs:=by
 rcases h with⟨_,rfl,h⟩|⟨t,_,h1,h2,rfl⟩
 ·exact⟨h,fun _ _=>rfl⟩
 ·exact⟨by omega,fun i hi=>qe (by omega) _ _⟩
theorem qfE(l:List qd)(ow:Own):Wk (.sl (l.map qg) ow) (.sl (l.map qg) .no):=by
 refine .inr (.inl ?_)
 simp[LV.strip,stripL,qdw,List.map_map,Function.comp_def]
theorem qiL:∀(ps qs:List qn)(K R:qm),zg K ps qs=some R->R.length<=K.length+ps.length
 |[],_,K,R,h=>by
  simp only[zg,Option.some.injEq]at h
  subst h;simp
 |_::_,[],_,_,h=>by simp[zg]at h
 |p::ps,q::qs,K,R,h=>by
  simp only[zg]at h
  rw[List.length_cons]
  split at h
  ·split at h
   ·split at h
    ·have:=qiL ps qs K R h;omega
    ·cases h
   ·have:=qiL ps qs _ R h
    simp only[List.length_append,List.length_singleton]at this
    omega
  ·split at h
   ·have:=qiL ps qs K R h;omega
   ·cases h
theorem qrI{K R:qm}{p a:qd}(h:zf K p a=some R):R.length<=K.length+p.args.length:=by
 unfold zf at h
 split at h
 ·exact qiL _ _ _ _ h
 ·cases h
theorem qmQ(c:qf)(hc:zq c)(l:List qd)(owl:Own)(hlg:∀x∈l,qD x)(hl:l.length<=2^20)(N:Nat)(hlN:l.length<=N)(hN1:1<=N):
  ∀(r don:List Lit)(K:qm)(ow:Own),c.body=don++r->uq K->K.length<=3*don.length->(∀x∈don,x.kind=1->uL K x.atom.args)->N^(qJ r).length<=2^29->∀(H:qa){kv kp:HP},
   (∀n,H.next<=n->kv (.sl ((zy c l r K).map qg) .no) ⟨H.objs,n⟩)->cP E0 F0 35 [wA c,.int don.length,.sl (K.map wg) ow,.sl (l.map qg) owl] H kv kp
 |[],don,K,ow,hd,hK,hKl,hb,hpw,H,kv,kp,hk=>by
  refine qdZ c35 fun hH=>⟨Nat.le_of_ble_eq_true rfl,?_⟩
  obtain⟨cp1,cp2,cp3⟩:=wl hc.ok
  rw[List.append_nil]at hd
  have hp:∀p∈qJ c.body,uL K p.args:=fun p hp=>by
   obtain⟨x,hx,hk1,rfl⟩:=qhF hp
   exact hb x (by rw[<-hd];exact hx) hk1
  have hdl:don.length=c.body.length:=by rw[hd]
  obtain⟨N0,hN0⟩:∃N0,H.next=N0:=⟨_,rfl⟩
  obtain⟨ob,nx⟩:=H
  dsimp only at hN0 hk
  subst hN0
  have hai:(don.length:Int)=(c.body.length:Int):=by omega
  simp(disch:=omega)[b35,hai]
  refine qmM c hc K hK ow (by omega) hp l owl (by omega) (fun x hx=>jo (hlg x hx).1) _ fun n1 hn1=>?_
  dsimp only at hn1
  have fin:∀(v:LV)(ob':List (Nat×qc))(m:Nat),nx<=m->(∀i,i<nx->look i ob'=look i ob)->Wk v (.sl ((zy c l [] K).map qg) .no)->∃v',Wk v v'/\∃H'',HWk ⟨ob',m⟩ H''/\(qa.Ok ⟨ob',m⟩->H''.Ok)/\kv v' H'':=fun v ob' m hm hold hw=>⟨_,hw,⟨ob,m⟩,qbC hH hold (Nat.le_refl _),fun _=>qx.mono hH hm,hk m hm⟩
  cases hr:qaF l K c.body
  ·have e:zy c l [] K=[]:=by simp[zy,hr]
   rw[e]at fin
   simp(disch:=omega)
   exact fin _ _ _ (by omega) (fun i hi=>qe (by omega) _ _) (.inr (.inl rfl))
  ·have e:zy c l [] K=[qN K c.head]:=by simp[zy,hr]
   rw[e]at fin
   have hal:=(wK cp1).1
   simp(disch:=omega)
   refine qjg K ow (by omega) c.head (by omega) (hc.bound hp).1 _ fun n2 hn2=>?_
   dsimp only at hn2
   simp(disch:=omega)
   refine zF ?_
   simp(disch:=omega)
   rw[show apL ⟨(nx,.cells [.str c.head.pred,ql c.head.args,zA c.body])::ob,n2⟩ 2 Nl (.sl [qg (qN K c.head)] .full)=some (.sl [qg (qN K c.head)] (.tok n2),⟨(n2,.tok 1 2)::(nx,.cells [.str c.head.pred,ql c.head.args,zA c.body])::ob,n2+1⟩) from rfl]
   simp(disch:=omega)
   exact fin _ _ _ (by omega) (fun i hi=>by rw[qe (by omega),qe (by omega)]) (qfE [qN K c.head] (.tok n2))
 |x::r,don,K,ow,hd,hK,hKl,hb,hpw,H,kv,kp,hk=>by
  refine qdZ c35 fun hH=>⟨Nat.le_of_ble_eq_true rfl,?_⟩
  obtain⟨cp1,cp2,cp3⟩:=wl hc.ok
  have hdl:c.body.length=don.length+(r.length+1):=by rw[hd,List.length_append,List.length_cons]
  have hlt:don.length<c.body.length:=by omega
  have hgx:c.body[don.length]'hlt=x:=by
   have:c.body[don.length]? = some x:=by rw[hd,List.getElem?_append_right (Nat.le_refl _)];simp
   rw[List.getElem?_eq_getElem hlt]at this
   exact Option.some.inj this
  have hmem:x∈c.body:=by rw[hd];simp
  obtain⟨N0,hN0⟩:∃N0,H.next=N0:=⟨_,rfl⟩
  obtain⟨ob,nx⟩:=H
  dsimp only at hN0 hk
  subst hN0
  have hai:¬(don.length:Int)=(c.body.length:Int):=by omega
  have hstep:∀(R:qm)(owR:Own),uq R->R.length<=3*(don++[x]).length->(x.kind=1->uL R x.atom.args)->(∀y∈don,y.kind=1->uL R y.atom.args)->∀(H:qa){kv kp:HP},(∀n,H.next<=n->kv (.sl ((zy c l r R).map qg) .no) ⟨H.objs,n⟩) ->
    cP E0 F0 35 [wA c,.int ((don.length+1:Nat):Int),.sl (R.map wg) owR,.sl (l.map qg) owl] H kv kp:=by
   intro R owR hR hRl hx1 hy H kv kp hk
   have:=qmQ c hc l owl hlg hl N hlN hN1 r (don++[x]) R owR (by rw[hd];simp) hR hRl (fun y hy2 hy1=>by
    rcases List.mem_append.1 hy2 with h|h
    ·exact hy y h hy1
    ·simp at h
     subst h
     exact hx1 hy1) (by
    refine Nat.le_trans ?_ hpw
    rw[qdF]
    split
    ·exact Nat.pow_le_pow_right hN1 (by simp)
    ·exact Nat.le_refl _) H (kp:=kp) hk
   rwa [show (don++[x]).length=don.length+1 by simp]at this
  have fin:∀(v:LV)(ob':List (Nat×qc))(m:Nat),nx<=m->(∀i,i<nx->look i ob'=look i ob)->Wk v (.sl ((zy c l (x::r) K).map qg) .no)->∃v',Wk v v'/\∃H'',HWk ⟨ob',m⟩ H''/\(qa.Ok ⟨ob',m⟩->H''.Ok)/\kv v' H'':=fun v ob' m hm hold hw=>⟨_,hw,⟨ob,m⟩,qbC hH hold (Nat.le_refl _),fun _=>qx.mono hH hm,hk m hm⟩
  have hw1:=qk (show don.length<2^62 by omega)
  by_cases hk1:x.kind=1
  case neg=>
   have e:zy c l (x::r) K=zy c l r K:=by
    conv=>lhs;unfold zy
    rw[if_neg hk1]
   rw[e]at fin
   simp(disch:=omega)[b35,hai,hlt,hgx,hk1,hw1]
   refine hstep K ow hK (by rw[List.length_append];omega) (fun h=>absurd h hk1) hb _ fun n1 hn1=>?_
   dsimp only at hn1
   simp(disch:=omega)
   exact fin _ _ _ (by omega) (fun i hi=>qe (by omega) _ _) (.inl rfl)
  have hxok:=qgh (cp3 x hmem) (.inl hk1)
  have hpl:(qJ (x::r)).length=(qJ r).length+1:=by rw[qdF,if_pos hk1,List.length_cons]
  obtain⟨A,hA⟩:∃A,zy c l (x::r) K=A:=⟨_,rfl⟩
  have hAl:A.length<=2^29:=by
   rw[<-hA]
   exact Nat.le_trans (qih c l N hlN hN1 _ K) hpw
  have hAe:(l.flatMap fun a=>match zf K x.atom a with
    |some R=>zy c l r R
    |none=>[])=A:=by
   rw[<-hA]
   conv=>rhs;unfold zy
   rw[if_pos hk1]
  rw[hA]at fin
  simp(disch:=omega)[b35,hai,hlt,hgx,hk1]
  refine qB (σ:=NNAs) (fun q=>(.nd .bot (.nd (.int don.length) (.nd (.sl (l.map qg) owl) .nil (.nd (.int q.i) .nil .nil)) (.nd .bot (.nd (.sl (q.aa.map qg) q.own) .nil .nil) .nil)) (.nd (.sl (K.map wg) ow) (.nd (.ptr nx 0) .nil .nil) .nil))) (fun q=>⟨q.ob,q.n⟩) (fun q=>l.length - q.i)
   (fun q=>vS ⟨(nx,.cells [.str c.head.pred,ql c.head.args,zA c.body])::ob,nx+1⟩ 2 q.aa.length q.own q.ob q.n/\q.i<=l.length/\q.aa++((l.drop q.i).flatMap fun a=>match zf K x.atom a with
    |some R=>zy c l r R
    |none=>[])=A) ⟨0,nx+1,[],.full,(nx,.cells [.str c.head.pred,ql c.head.args,zA c.body])::ob⟩ ⟨.inl ⟨rfl,rfl,Nat.le_refl _⟩,Nat.zero_le _,hAe⟩ (by simp[FT.Le,Wk]) ⟨HWk.refl _,fun h=>h⟩ ?_
  rintro⟨i,n,aa,own,ob1⟩ ⟨hr,hi,hrec⟩ hok
  dsimp only at hr hi hrec hok
  obtain⟨hold1,hold2⟩:=hr.old
  dsimp only at hold1 hold2
  have hc4:look nx ob1=some (.cells [.str c.head.pred,ql c.head.args,zA c.body]):=by rw[hold2 nx (by omega)];exact qq _ _ _
  have hold3:∀j,j<nx->look j ob1=look j ob:=fun j hj=>by rw[hold2 j (by omega),qe (by omega)]
  by_cases hli:i<l.length
  case neg=>
   obtain rfl:i=l.length:=by omega
   rw[List.drop_eq_nil_of_le (Nat.le_refl _),List.flatMap_nil,List.append_nil]at hrec
   subst hrec
   simp(disch:=omega)
   exact fin _ _ _ (by omega) hold3 (qfE aa own)
  rw[List.drop_eq_getElem_cons hli,List.flatMap_cons,<-List.append_assoc]at hrec
  have hlg1:=hlg _ (List.getElem_mem hli)
  simp(disch:=omega)[hli,hlt,hgx,hc4]
  refine qmO K hK ow x.atom l[i] (jo hxok) hlg1 (by omega) _ (fun R hR n1 hn1=>?_) (fun hR n1 hn1 z=>?_)
  ·dsimp only at hn1
   rw[hR]at hrec
   dsimp only at hrec
   obtain⟨gR,gX,gB,_⟩:=qfm hK hlg1 hR
   have hRl:R.length<=K.length+3:=by
    have h1:=qrI hR
    have h2:=(wK hxok).1
    omega
   simp(disch:=omega)[hli,hlt,hgx,hc4,hw1]
   refine hstep R .no gR (by rw[List.length_append];simp only[List.length_singleton];omega) (fun _=>gB) (fun y hy hy1=>(hb y hy hy1).ext gX) _ fun n2 hn2=>?_
   dsimp only at hn2
   simp(disch:=omega)
   refine zF ?_
   simp(disch:=omega)
   obtain⟨Y,hY⟩:∃Y,zy c l r R=Y:=⟨_,rfl⟩
   rw[hY]at hrec ⊢
   have hYl:aa.length+Y.length<=2^29:=by
    have:=congrArg List.length hrec
    rw[List.length_append,List.length_append]at this
    omega
   have hr2:vS ⟨(nx,.cells [.str c.head.pred,ql c.head.args,zA c.body])::ob,nx+1⟩ 2 (aa.map qg).length own ob1 n2:=by
    rw[List.length_map]
    rcases hr with⟨h1,h2,h3⟩|⟨t,h1,h2,h3,h4⟩
    ·exact .inl ⟨h1,h2,by dsimp only at h3 ⊢;omega⟩
    ·exact .inr ⟨t,h1,h2,by omega,h4⟩
   obtain⟨own2,ob2,n3,e1,hr3,hn3⟩:=qdC (by omega) (qaw aa) (qaw Y) (by rw[List.length_map,List.length_map];omega) hr2
   rw[List.length_map,List.length_map]at hr3
   rw[e1]
   simp(disch:=omega)[qk (show i<2^62 by omega)]
   exact⟨⟨i+1,n3,aa++Y,own2,ob2⟩,by dsimp only;omega,⟨by rw[List.length_append];exact hr3,by dsimp only;omega,hrec⟩,by simp[FT.Le,Wk],HWk.refl _,fun h=>h⟩
  ·dsimp only at hn1
   rw[hR]at hrec
   dsimp only at hrec
   rw[List.append_nil]at hrec
   simp(disch:=omega)[qk (show i<2^62 by omega)]
   refine⟨⟨i+1,n1,aa,own,ob1⟩,by dsimp only;omega,⟨?_,by dsimp only;omega,hrec⟩,by simp[FT.Le,Wk],HWk.refl _,fun h=>h⟩
   rcases hr with⟨h1,h2,h3⟩|⟨t,h1,h2,h3,h4⟩
   ·exact .inl ⟨h1,h2,by dsimp only at h3 ⊢;omega⟩
   ·exact .inr ⟨t,h1,h2,by dsimp only;omega,h4⟩
def ja:List qd->qd->Nat
 |[],_=>0
 |x::r,a=>if zk x a<0 then ja r a+1 else 0
theorem qhE:∀(l:List qd)(a:qd),ja l a<=l.length
 |[],_=>Nat.le_refl _
 |x::r,a=>by
  unfold ja
  have:=qhE r a
  split<;>simp<;>omega
def zx(l:List qd)(a:qd):List qd:=match l[ja l a]? with
 |some x=>if zk x a=0 then l else l.take (ja l a)++[a]++l.drop (ja l a)
 |none=>l.take (ja l a)++[a]++l.drop (ja l a)
theorem qdl{sz:Nat}{Y:List LV}(h:(Y.all fun e=>e.cells.length==sz)=true)(i:Nat):((Y.take i).all fun e=>e.cells.length==sz)=true/\((Y.drop i).all fun e=>e.cells.length==sz)=true:=by
 rw[List.all_eq_true]at h
 exact⟨List.all_eq_true.2 fun x hx=>h x (List.mem_of_mem_take hx),List.all_eq_true.2 fun x hx=>h x (List.mem_of_mem_drop hx)⟩
theorem qmN(l:List qd)(ow:Own)(a:qd)(hl:l.length<=2^20)(hlo:∀x∈l,qd.ok x)(ha:a.ok)(H:qa){kv kp:HP}(hk:∀n,H.next<=n->kv (.sl ((zx l a).map qg) .no) ⟨H.objs,n⟩):
  cP E0 F0 33 [.sl (l.map qg) ow,qg a] H kv kp:=by
 refine qdZ c33 fun hH=>⟨Nat.le_of_ble_eq_true rfl,?_⟩
 obtain⟨N0,hN0⟩:∃N0,H.next=N0:=⟨_,rfl⟩
 obtain⟨ob,nx⟩:=H
 dsimp only at hN0 hk
 subst hN0
 have fin:∀(v:LV)(ob':List (Nat×qc))(m:Nat),nx<=m->(∀i,i<nx->look i ob'=look i ob)->Wk v (.sl ((zx l a).map qg) .no)->∃v',Wk v v'/\∃H'',HWk ⟨ob',m⟩ H''/\(qa.Ok ⟨ob',m⟩->H''.Ok)/\kv v' H'':=fun v ob' m hm hold hw=>⟨_,hw,⟨ob,m⟩,qbC hH hold (Nat.le_refl _),fun _=>qx.mono hH hm,hk m hm⟩
 obtain⟨P,hP⟩:∃P,ja l a=P:=⟨_,rfl⟩
 have hPl:P<=l.length:=by rw[<-hP];exact qhE l a
 simp(disch:=omega)[b33]
 refine qB (σ:=NN) (fun q=>(.nd (.sl (l.map qg) ow) (.nd .bot (.nd (.ptr nx 0) .nil .nil) (.nd (.int q.i) .nil .nil)) .nil)) (fun q=>⟨(nx,.cells [.str a.pred,ql a.args])::ob,q.n⟩) (fun q=>l.length - q.i)
  (fun q=>nx+1<=q.n/\q.i<=l.length/\q.i+ja (l.drop q.i) a=P) ⟨0,nx+1⟩ ⟨by dsimp only;omega,Nat.zero_le _,by simpa using hP⟩ (by simp[FT.Le,Wk]) ⟨HWk.refl _,fun h=>h⟩ ?_
 rintro⟨i,n⟩ ⟨hn,hi,he⟩ hok
 simp only at hn hi he
 by_cases hlt:i<l.length
 case neg=>
  obtain rfl:i=l.length:=by omega
  rw[List.drop_eq_nil_of_le (Nat.le_refl _)]at he
  simp only[ja,Nat.add_zero]at he
  simp(disch:=omega)
  obtain⟨i,hie⟩:∃i,l.length=i:=⟨_,rfl⟩
  rw[hie]
  clear hok
  generalize n=m0 at *
  refine zF ?_
  simp(disch:=omega)
  obtain⟨o1,ob1,m1,e1,hr1,hm1⟩:=qdC (sz:=2) (H:=⟨(nx,.cells [.str a.pred,ql a.args])::ob,nx+1⟩) (es:=[]) (Y:=(l.map qg).take i) (own:=.full) (n:=m0) (by omega) rfl (qdl (qaw l) i).1 (by simp;omega) (.inl ⟨rfl,rfl,by dsimp only;omega⟩)
  rw[e1]
  obtain⟨q1,q2⟩:=hr1.old
  dsimp only at q1 q2
  have hc1:look nx ob1=some (.cells [.str a.pred,ql a.args]):=by rw[q2 nx (by omega)];exact qq _ _ _
  simp(disch:=omega)[hc1]
  refine zF ?_
  simp(disch:=omega)
  obtain⟨o2,ob2,m2,e2,hr2,hm2⟩:=qdC (sz:=2) (es:=[]++(l.map qg).take i) (Y:=[qg a]) (by omega) (by simpa using (qdl (qaw l) i).1) rfl (by simp;omega) (by rw[List.length_append];exact hr1)
  rw[List.nil_append]at e2
  rw[e2]
  simp(disch:=omega)
  refine zF ?_
  simp(disch:=omega)
  obtain⟨o3,ob3,m3,e3,hr3,hm3⟩:=qdC (sz:=2) (es:=([]++(l.map qg).take i)++[qg a]) (Y:=(l.map qg).drop i) (by omega) (by
   rw[List.all_append,List.nil_append,(qdl (qaw l) i).1];rfl) (qdl (qaw l) i).2 (by simp;omega) (by rw[List.length_append (bs:=[qg a])];exact hr2)
  rw[List.nil_append]at e3
  obtain⟨r1,r2⟩:=hr3.old
  dsimp only at r1 r2
  have hol3:∀j,j<nx->look j ob3=look j ob:=fun j hj=>by rw[r2 j (by omega),qe (by omega)]
  rw[show (l.map qg).drop i=[] from List.drop_eq_nil_of_le (by rw[List.length_map];omega)]at e3
  rw[e3]
  simp(disch:=omega)
  have e:zx l a=l.take i++[a]:=by
   unfold zx
   have hn:l[ja l a]? = none:=List.getElem?_eq_none (by omega)
   have hd:l.drop (ja l a)=[]:=List.drop_eq_nil_of_le (by omega)
   rw[hn]
   simp only
   rw[hd,hP,<-he,hie]
   simp
  rw[e]at fin
  have:=fin (.sl ((l.take i++[a]).map qg) o3) ob3 m3 (by omega) hol3 (qfE _ _)
  simpa using this
 rw[List.drop_eq_getElem_cons hlt]at he
 simp only[ja]at he
 have hao:=hlo _ (List.getElem_mem hlt)
 simp(disch:=omega)[hlt]
 refine(qjj l[i] a hao ha).go fun n1 hn1=>?_
 by_cases hneg:zk l[i] a<0
 ·rw[if_pos hneg]at he
  simp(disch:=omega)[hneg,qk (show i<2^62 by omega)]
  exact⟨⟨i+1,n1⟩,by dsimp only;omega,⟨by dsimp only;omega,by dsimp only;omega,by dsimp only;omega⟩,by simp[FT.Le,Wk],HWk.refl _,fun h=>h⟩
 rw[if_neg hneg,Nat.add_zero]at he
 subst he
 simp(disch:=omega)[hneg,hlt]
 refine(qjj l[i] a hao ha).go fun n2 hn2=>?_
 by_cases hz:zk l[i] a=0
 ·have e:zx l a=l:=by
   unfold zx
   rw[hP,List.getElem?_eq_getElem hlt]
   simp only[hz,if_true]
  rw[e]at fin
  simp(disch:=omega)[hz]
  exact fin _ _ _ (by omega) (fun j hj=>qe (by omega) _ _) (qfE l ow)
 have e:zx l a=l.take i++[a]++l.drop i:=by
  unfold zx
  rw[hP,List.getElem?_eq_getElem hlt]
  simp only[hz,if_false]
 have hi2:i<=l.length:=hi
 simp(disch:=omega)[hz,hlt,hi2]
 clear hok
 generalize n2=m0 at *
 refine zF ?_
 simp(disch:=omega)
 obtain⟨o1,ob1,m1,e1,hr1,hm1⟩:=qdC (sz:=2) (H:=⟨(nx,.cells [.str a.pred,ql a.args])::ob,nx+1⟩) (es:=[]) (Y:=(l.map qg).take i) (own:=.full) (n:=m0) (by omega) rfl (qdl (qaw l) i).1 (by simp;omega) (.inl ⟨rfl,rfl,by dsimp only;omega⟩)
 rw[e1]
 obtain⟨q1,q2⟩:=hr1.old
 dsimp only at q1 q2
 have hc1:look nx ob1=some (.cells [.str a.pred,ql a.args]):=by rw[q2 nx (by omega)];exact qq _ _ _
 simp(disch:=omega)[hc1]
 refine zF ?_
 simp(disch:=omega)
 obtain⟨o2,ob2,m2,e2,hr2,hm2⟩:=qdC (sz:=2) (es:=[]++(l.map qg).take i) (Y:=[qg a]) (by omega) (by simpa using (qdl (qaw l) i).1) rfl (by simp;omega) (by rw[List.length_append];exact hr1)
 rw[List.nil_append]at e2
 rw[e2]
 simp(disch:=omega)
 refine zF ?_
 simp(disch:=omega)
 obtain⟨o3,ob3,m3,e3,hr3,hm3⟩:=qdC (sz:=2) (es:=([]++(l.map qg).take i)++[qg a]) (Y:=(l.map qg).drop i) (by omega) (by
  rw[List.all_append,List.nil_append,(qdl (qaw l) i).1];rfl) (qdl (qaw l) i).2 (by simp;omega) (by rw[List.length_append (bs:=[qg a])];exact hr2)
 rw[List.nil_append]at e3
 obtain⟨r1,r2⟩:=hr3.old
 dsimp only at r1 r2
 have hol3:∀j,j<nx->look j ob3=look j ob:=fun j hj=>by rw[r2 j (by omega),qe (by omega)]
 have hdr:List.take (l.length - i) (List.drop i (l.map qg))=List.drop i (l.map qg):=List.take_of_length_le (by simp)
 rw[hdr,e3]
 simp(disch:=omega)
 rw[e]at fin
 have:=fin (.sl ((l.take i++[a]++l.drop i).map qg) o3) ob3 m3 (by omega) hol3 (qfE _ _)
 simpa using this
theorem qrM(l:List qf)(base:List qd):zb l (zH l) base=if qbw l (zH l)≠0 then qbw l (zH l) else if 100<base.length then 2 else if base.all zr then 0 else 1:=by
 unfold zb qbw
 by_cases h:(qQ l).1=0
 ·by_cases h2:zH l=none
  ·simp[h,h2]
  ·simp[h,h2]
 ·simp[h]
theorem qmS(l:List qf)(hl:qcJ l)(base:List qd)(ow:Own)(hb:base.length<2^63)(hok:base.length<=100->∀a∈base,a.ok):qh 31 [qz l,.sl (base.map qg) ow] (.int (zb l (zH l) base)):=by
 obtain⟨owS,hS⟩:=qmL l hl
 rw[qrM]
 obtain⟨e,he0⟩:∃e,qbw l (zH l)=e:=⟨_,rfl⟩
 rw[he0]at hS ⊢
 obtain⟨V,hV⟩:∃V:Int,(if e≠0 then e else if 100<base.length then 2 else if base.all zr then 0 else 1)=V:=⟨_,rfl⟩
 rw[hV]
 refine qh.of c31 fun H hH=>⟨Nat.le_of_ble_eq_true rfl,?_⟩
 simp(disch:=omega)[b31]
 refine hS.go fun n hn=>?_
 by_cases he:e=0
 case neg=>
  simp(disch:=omega)[he]
  exact qp hH (by simp[<-hV,he])
 by_cases h100:base.length<=100
 case neg=>
  have h100':(100:Int)<(base.length:Int):=by omega
  simp(disch:=omega)[he,h100']
  exact qp hH (by simp[<-hV,he,show 100<base.length by omega])
 have h100':¬(100:Int)<(base.length:Int):=by omega
 simp(disch:=omega)[he,h100']
 obtain⟨A,hA⟩:∃A,base.all zr=A:=⟨_,rfl⟩
 rw[hA]at hV
 have hbo:=hok h100
 refine qB (σ:=NN) (fun q=>(.nd .bot (.nd (.sl (base.map qg) ow) .nil .nil) (.nd .bot .nil (.nd (.int q.i) .nil .nil)))) (fun q=>⟨H.objs,q.n⟩) (fun q=>base.length - q.i)
  (fun q=>H.next<=q.n/\q.i<=base.length/\(base.drop q.i).all zr=A) ⟨0,n+1⟩ ⟨by dsimp only;omega,Nat.zero_le _,hA⟩ (by simp[FT.Le,Wk]) (zJ hH) ?_
 rintro⟨i,n1⟩ ⟨hn1,hi,hf⟩ hok1
 simp only at hn1 hi hf
 by_cases hlt:i<base.length
 case neg=>
  obtain rfl:i=base.length:=by omega
  rw[List.drop_eq_nil_of_le (Nat.le_refl _)]at hf
  have hA2:A=true:=hf.symm
  subst hA2
  simp(disch:=omega)
  exact qp hH (by simp[<-hV,he,show ¬100<base.length by omega])
 rw[qax _ hlt]at hf
 have hao:=hbo _ (List.getElem_mem hlt)
 simp(disch:=omega)[hlt]
 refine(qhe base[i] hao).go fun n2 hn2=>?_
 simp(disch:=omega)[hlt]
 refine(qmR base[i] hao).go fun n3 hn3=>?_
 cases ha:qI base[i]
 ·have e1:zr base[i]=false:=by simp[zr,ha]
  rw[e1,Bool.false_and]at hf
  simp(disch:=omega)
  exact qp hH (by simp[<-hV,he,show ¬100<base.length by omega,<-hf])
 cases hg:base[i].args.all ux
 ·have e1:zr base[i]=false:=by simp[zr,hg]
  rw[e1,Bool.false_and]at hf
  simp(disch:=omega)
  exact qp hH (by simp[<-hV,he,show ¬100<base.length by omega,<-hf])
 have e1:zr base[i]=true:=by simp[zr,ha,hg]
 rw[e1,Bool.true_and]at hf
 simp(disch:=omega)[qk (show i<2^62 by omega)]
 exact⟨⟨i+1,n3⟩,by dsimp only;omega,⟨by dsimp only;omega,by dsimp only;omega,hf⟩,by simp[FT.Le,Wk],HWk.refl _,fun h=>h⟩
def vv:List qd->List qd->List qd
 |out,[]=>out
 |out,a::r=>if out.length<=300 then vv (zx out a) r else out
def ji(q:List (PK×Int))(lev:Int):List qf->List qd->List qd
 |[],out=>out
 |c::r,out=>if qo q (ofA c.head)=lev then ji q lev r (vv out (zy c out c.body [])) else ji q lev r out
def u9(q:List (PK×Int))(lev:Int)(l:List qf):Nat->List qd->List qd
 |0,out=>out
 |k+1,out=>if out.length<=300 then (if (ji q lev l out).length=out.length then ji q lev l out else u9 q lev l k (ji q lev l out)) else out
def qaD(q:List (PK×Int))(l:List qf):Nat->Nat->List qd->List qd
 |0,_,out=>out
 |k+1,v,out=>qaD q l k (v+1) (u9 q v l 302 out)
def qbx(q:List (PK×Int))(l:List qf)(base:List qd):List qd:=qaD q l (q.length+1) 0 (base.foldl zx [])
theorem qfM(l:List qd)(a:qd):l.length<=(zx l a).length/\(zx l a).length<=l.length+1:=by
 unfold zx
 have h:=qhE l a
 split
 ·split
  ·omega
  ·simp;omega
 ·simp;omega
theorem qey{l:List qd}{a x:qd}(h:x∈zx l a):x∈l\/x=a:=by
 unfold zx at h
 have key:∀P:Nat,x∈l.take P++[a]++l.drop P->x∈l\/x=a:=fun P h=>by
  rcases List.mem_append.1 h with h|h
  ·rcases List.mem_append.1 h with h|h
   ·exact .inl (List.mem_of_mem_take h)
   ·simp at h;exact .inr h
  ·exact .inl (List.mem_of_mem_drop h)
 split at h
 ·split at h
  ·exact .inl h
  ·exact key _ h
 ·exact key _ h
theorem qew:∀(more out:List qd),out.length<=(vv out more).length/\((vv out more).length<=301\/(vv out more).length<=out.length)/\∀x∈vv out more,x∈out\/x∈more
 |[],out=>⟨Nat.le_refl _,.inr (Nat.le_refl _),fun x hx=>.inl hx⟩
 |a::r,out=>by
  unfold vv
  split
  ·rename_i h
   obtain⟨h1,h2,h3⟩:=qew r (zx out a)
   have hp:=qfM out a
   refine⟨by omega,by omega,fun x hx=>?_⟩
   rcases h3 x hx with h|h
   ·rcases qey h with h|h
    ·exact .inl h
    ·exact .inr (by rw[h];exact List.mem_cons_self)
   ·exact .inr (List.mem_cons_of_mem _ h)
  ·exact⟨Nat.le_refl _,.inr (Nat.le_refl _),fun x hx=>.inl hx⟩
theorem qgp{c:qf}(hc:zq c){l:List qd}(hl:∀a∈l,qD a):∀(r don:List Lit)(K:qm),c.body=don++r->uq K->(∀x∈don,x.kind=1->uL K x.atom.args)->∀a∈zy c l r K,qD a
 |[],don,K,hd,hK,hb,a,ha=>by
  unfold zy at ha
  split at ha
  ·simp at ha
   subst ha
   refine(hc.leaf hK fun p hp=>?_).2
   obtain⟨x,hx,hk,rfl⟩:=qhF hp
   rw[List.append_nil]at hd
   exact hb x (by rw[<-hd];exact hx) hk
  ·cases ha
 |x::r,don,K,hd,hK,hb,a,ha=>by
  unfold zy at ha
  split at ha
  ·rename_i hk
   obtain⟨y,hy,ha⟩:=List.mem_flatMap.1 ha
   split at ha
   ·rename_i R hR
    obtain⟨g1,g2,g3,_⟩:=qfm hK (hl y hy) hR
    refine qgp hc hl r (don++[x]) R (by rw[hd];simp) g1 (fun z hz hzk=>?_) a ha
    rcases List.mem_append.1 hz with hz|hz
    ·exact(hb z hz hzk).ext g2
    ·simp at hz
     subst hz
     exact g3
   ·cases ha
  ·rename_i hk
   refine qgp hc hl r (don++[x]) K (by rw[hd];simp) hK (fun z hz hzk=>?_) a ha
   rcases List.mem_append.1 hz with hz|hz
   ·exact hb z hz hzk
   ·simp at hz
    subst hz
    exact absurd hzk hk
def qod:qr:=match b11.body with
 |.seq _ (.seq _ (.seq _ (.seq _ (.seq _ (.seq _ (.seq (.seq _ (.blk _ l)) _))))))=>l
 |_=>.bad
def qoe:qr:=match qod with
 |.loop (.seq _ (.seq (.blk _ (.seq _ (.blk _ l))) _))=>l
 |_=>.bad
def rmCl:qr:=match qoe with
 |.loop (.seq _ (.blk _ (.seq _ (.seq _ (.blk _ l)))))=>l
 |_=>.bad
def rmPut:qr:=match rmCl with
 |.loop (.seq _ (.seq (.blk _ (.seq _ (.seq _ (.seq _ (.blk _ l))))) _))=>l
 |_=>.bad
structure NNRm where
 i:Nat
 n:Nat
 out:List qd
theorem qto(out more:List qd)(owm:Own)(hog:∀a∈out,qD a)(hmg:∀a∈more,qD a)(hol:out.length<=301)(hml:more.length<=2^40)(ob:List (Nat×qc))(m:Nat)(v0 v4 v6 v9 v10 v11:LV){KX:XP}
  (hk:∀n' z13 z80 z81 z82 z83 z84 z85 z86 z87 z88,m<=n'->KX (.exit 8) ((.nd (v0) (.nd .bot (.nd .bot (.nd (.sl ((vv out more).map qg) .no) .nil (.nd .bot .nil (.nd .bot (.nd (z87) .nil .nil) .nil))) (.nd (v11) (.nd .bot .nil (.nd .bot (.nd (z83) .nil .nil) .nil)) .nil)) (.nd .bot (.nd (v9) (.nd .bot .nil (.nd .bot (.nd (z81) .nil .nil) .nil)) .nil) (.nd (z13) (.nd .bot .nil (.nd .bot (.nd (z85) .nil .nil) .nil)) .nil))) (.nd .bot (.nd (v4) (.nd .bot (.nd .bot .nil (.nd .bot (.nd (z80) .nil .nil) .nil)) (.nd .bot .nil (.nd .bot (.nd (z88) .nil .nil) .nil))) (.nd (.sl (more.map qg) owm) (.nd .bot .nil (.nd .bot (.nd (z84) .nil .nil) .nil)) .nil)) (.nd (v6) (.nd (v10) (.nd .bot .nil (.nd .bot (.nd (z82) .nil .nil) .nil)) .nil) (.nd .bot (.nd .bot .nil (.nd .bot (.nd (z86) .nil .nil) .nil)) .nil))))) ⟨ob,n'⟩):
  lP E0 F0 rmPut ((.nd (v0) (.nd .bot (.nd .bot (.nd (.sl (out.map qg) .no) .nil .nil) (.nd (v11) .nil .nil)) (.nd .bot (.nd (v9) .nil .nil) (.nd (.int 0) .nil .nil))) (.nd .bot (.nd (v4) .nil (.nd (.sl (more.map qg) owm) .nil .nil)) (.nd (v6) (.nd (v10) .nil .nil) .nil)))) ⟨ob,m⟩ KX:=by
 obtain⟨A,hA⟩:∃A,vv out more=A:=⟨_,rfl⟩
 rw[hA]at hk
 refine qB (σ:=NNRm) (fun q=>(.nd (v0) (.nd .bot (.nd .bot (.nd (.sl (q.out.map qg) .no) .nil .nil) (.nd (v11) .nil .nil)) (.nd .bot (.nd (v9) .nil .nil) (.nd (.int q.i) .nil .nil))) (.nd .bot (.nd (v4) .nil (.nd (.sl (more.map qg) owm) .nil .nil)) (.nd (v6) (.nd (v10) .nil .nil) .nil)))) (fun q=>⟨ob,q.n⟩) (fun q=>more.length - q.i)
  (fun q=>m<=q.n/\q.i<=more.length/\vv q.out (more.drop q.i)=A/\(∀a∈q.out,qD a)/\q.out.length<=301) ⟨0,m,out⟩ ⟨Nat.le_refl _,Nat.zero_le _,hA,hog,hol⟩ (by simp[FT.Le,Wk]) ⟨HWk.refl _,fun h=>h⟩ ?_
 rintro⟨i,n,o⟩ ⟨hn,hi,hf,hg,hl⟩ hok
 dsimp only at hn hi hf hg hl hok
 by_cases hlt:i<more.length
 case neg=>
  rw[List.drop_eq_nil_of_le (by omega)]at hf
  have hA2:o=A:=hf
  subst hA2
  simp(disch:=omega)[hlt]
  exact hk n _ _ _ _ _ _ _ _ _ _ hn
 rw[List.drop_eq_getElem_cons hlt]at hf
 simp only[vv]at hf
 by_cases h300:o.length<=300
 case neg=>
  rw[if_neg h300]at hf
  subst hf
  have h300':¬(o.length:Int)<=300:=by omega
  simp(disch:=omega)[hlt,h300']
  exact hk n _ _ _ _ _ _ _ _ _ _ hn
 rw[if_pos h300]at hf
 have h300':(o.length:Int)<=300:=by omega
 have hmi:=hmg _ (List.getElem_mem hlt)
 simp(disch:=omega)[hlt,h300']
 refine qmN o .no more[i] (by omega) (fun x hx=>jo (hg x hx).1) (jo hmi.1) _ fun n2 hn2=>?_
 dsimp only at hn2
 have hpl:=qfM o more[i]
 simp(disch:=omega)[qk (show i<2^62 by omega)]
 exact⟨⟨i+1,n2,zx o more[i]⟩,by dsimp only;omega,⟨by dsimp only;omega,by dsimp only;omega,hf,fun a ha=>by
  rcases qey ha with h|h
  ·exact hg a h
  ·rw[h];exact hmi,by dsimp only;omega⟩,by simp[FT.Le,Wk],HWk.refl _,fun h=>h⟩
theorem qmP(c:qf)(hc:zq c)(h3:(qJ c.body).length<=3)(l:List qd)(owl:Own)(hlg:∀x∈l,qD x)(hl:l.length<=301)(H:qa){kv kp:HP}(hk:∀n,H.next<=n->kv (.sl ((zy c l c.body []).map qg) .no) ⟨H.objs,n⟩):
  cP E0 F0 35 [wA c,.int 0,Nl,.sl (l.map qg) owl] H kv kp:=by
 have h:=qmQ c hc l owl hlg (by omega) 301 hl (by omega) c.body [] [] .full rfl .nil (by simp) (fun x hx=>by cases hx) (Nat.le_trans (Nat.pow_le_pow_right (by omega) h3) (by decide)) H (kp:=kp) hk
 simpa using h
theorem qpC(c:qf)(h3:(qJ c.body).length<=3)(l:List qd)(hl:l.length<=301):(zy c l c.body []).length<=2^29:=
 Nat.le_trans (qih c l 301 hl (by omega) c.body []) (Nat.le_trans (Nat.pow_le_pow_right (by omega) h3) (by decide))
theorem qfK(q:List (PK×Int))(lev:Int):∀(l:List qf)(out:List qd),out.length<=(ji q lev l out).length
 |[],_=>Nat.le_refl _
 |c::r,out=>by
  unfold ji
  split
  ·exact Nat.le_trans (qew _ out).1 (qfK q lev r _)
  ·exact qfK q lev r out
section
variable{S:List qv}{owS:Own}{q:List (PK×Int)}{l:List qf}{ob:List (Nat×qc)}{s6:Nat}
structure RmIn(S:List qv)(owS:Own)(q:List (PK×Int))(l:List qf)(ob:List (Nat×qc))(s6:Nat):Prop where
 hl:l.length<=40
 hc:∀c∈l,zq c
 h3:∀c∈l,(qJ c.body).length<=3
 hS:S.length<2^40
 find:∀c∈l,∃(idx:Nat)(x:qv),uU S (ofA c.head) 0=(idx:Int)/\S[idx]? = some x/\x.level=qo q (ofA c.head)
 c6:look s6 ob=some (.cells [.sl (S.map qH) owS,.int 0])
theorem qtC(hI:RmIn S owS q l ob s6)(lev:Nat)(out:List qd)(hog:∀a∈out,qD a)(hol:out.length<=301)(m:Nat)(v4 v10:LV){KX:XP}
  (hk:∀n',m<=n'->KX (.exit 6) ((.nd (qz l) (.nd .bot (.nd .bot (.nd (.sl ((ji q lev l out).map qg) .no) .nil (.nd .bot .nil (.nd (.int l.length) .nil .nil))) (.nd (.int l.length) .nil .nil)) (.nd .bot (.nd (.int lev) .nil .nil) (.nd .bot (.nd .bot .nil (.nd (.int l.length) .nil .nil)) .nil))) (.nd .bot (.nd (v4) (.nd .bot .nil (.nd .bot .nil (.nd (.sc (.bool false)) .nil .nil))) .nil) (.nd (.ptr s6 0) (.nd (v10) .nil .nil) (.nd .bot (.nd .bot .nil (.nd (qz l) .nil .nil)) .nil))))) ⟨ob,n'⟩):
  lP E0 F0 rmCl ((.nd (qz l) (.nd .bot (.nd .bot (.nd (.sl (out.map qg) .no) .nil .nil) (.nd (.int 0) .nil .nil)) (.nd .bot (.nd (.int lev) .nil .nil) .nil)) (.nd .bot (.nd (v4) .nil .nil) (.nd (.ptr s6 0) (.nd (v10) .nil .nil) .nil)))) ⟨ob,m⟩ KX:=by
 obtain⟨A,hA⟩:∃A,ji q lev l out=A:=⟨_,rfl⟩
 rw[hA]at hk
 refine qB (σ:=NNRm) (fun p=>(.nd (qz l) (.nd .bot (.nd .bot (.nd (.sl (p.out.map qg) .no) .nil .nil) (.nd (.int p.i) .nil .nil)) (.nd .bot (.nd (.int lev) .nil .nil) .nil)) (.nd .bot (.nd (v4) .nil .nil) (.nd (.ptr s6 0) (.nd (v10) .nil .nil) .nil)))) (fun p=>⟨ob,p.n⟩) (fun p=>l.length - p.i)
  (fun p=>m<=p.n/\p.i<=l.length/\ji q lev (l.drop p.i) p.out=A/\(∀a∈p.out,qD a)/\p.out.length<=301) ⟨0,m,out⟩ ⟨Nat.le_refl _,Nat.zero_le _,hA,hog,hol⟩ (by simp[FT.Le,Wk]) ⟨HWk.refl _,fun h=>h⟩ ?_
 rintro⟨i,n,o⟩ ⟨hn,hi,hf,hg,hl⟩ hok
 dsimp only at hn hi hf hg hl hok
 have hll:=hI.hl
 by_cases hlt:i<l.length
 case neg=>
  obtain rfl:i=l.length:=by omega
  rw[List.drop_eq_nil_of_le (Nat.le_refl _)]at hf
  have hA2:o=A:=hf
  subst hA2
  simp(disch:=omega)
  exact hk n hn
 rw[List.drop_eq_getElem_cons hlt]at hf
 simp only[ji]at hf
 have hcg:=hI.hc _ (List.getElem_mem hlt)
 have hc3:=hI.h3 _ (List.getElem_mem hlt)
 obtain⟨idx,x,f1,f2,f3⟩:=hI.find _ (List.getElem_mem hlt)
 have hc6:=hI.c6
 have hfd:=qmU S owS l[i].head hI.hS
 rw[f1]at hfd
 rw[<-f3]at hf
 simp(disch:=omega)[hlt,hc6]
 refine hfd.go fun n1 hn1=>?_
 have hix:idx<S.length:=(List.getElem?_eq_some_iff.1 f2).1
 have hxg:S[idx]'hix=x:=(List.getElem?_eq_some_iff.1 f2).2
 by_cases hlev:x.level=(lev:Int)
 case neg=>
  rw[if_neg hlev]at hf
  simp(disch:=omega)[hlt,hc6,hix,hxg,hlev,qk (show i<2^62 by omega)]
  exact⟨⟨i+1,n1,o⟩,by dsimp only;omega,⟨by dsimp only;omega,by dsimp only;omega,hf,hg,hl⟩,by simp[FT.Le,Wk],HWk.refl _,fun h=>h⟩
 rw[if_pos hlev]at hf
 simp(disch:=omega)[hlt,hc6,hix,hxg,hlev]
 refine qmP l[i] hcg hc3 o .no hg hl _ fun n2 hn2=>?_
 dsimp only at hn2
 have hhg:=qgp hcg hg l[i].body [] [] rfl .nil (fun x hx=>by cases hx)
 have hhm:=qpC l[i] hc3 o hl
 obtain⟨more,hmo⟩:∃more,zy l[i] o l[i].body []=more:=⟨_,rfl⟩
 rw[hmo]at hhg hhm hf ⊢
 simp(disch:=omega)
 refine vA (t':=(.nd (qz l) (.nd .bot (.nd .bot (.nd (.sl (o.map qg) .no) .nil .nil) (.nd (.int i) .nil .nil)) (.nd .bot (.nd (.int lev) .nil .nil) (.nd (.int 0) .nil .nil))) (.nd .bot (.nd (v4) .nil (.nd (.sl (more.map qg) .no) .nil .nil)) (.nd (.ptr s6 0) (.nd (v10) .nil .nil) .nil)))) (fun l h=>by cases h) (by simp[FT.Le,Wk]) (HWk.refl _) (fun h=>h) ?_
 refine qto o more .no hg hhg hl (by omega) ob n2 _ _ _ _ _ _ fun n3 z13 z80 z81 z82 z83 z84 z85 z86 z87 z88 hn3=>?_
 obtain⟨p1,p2,p3⟩:=qew more o
 simp(disch:=omega)[qk (show i<2^62 by omega)]
 exact⟨⟨i+1,n3,vv o more⟩,by dsimp only;omega,⟨by dsimp only;omega,by dsimp only;omega,hf,fun a ha=>(p3 a ha).elim (hg a) (hhg a),by dsimp only;omega⟩,by simp[FT.Le,Wk],HWk.refl _,fun h=>h⟩
end
end Go.Abs.Tz
namespace Go.Abs.Tz
open Go Go.Abs Go.Proofs
theorem qoP:∀(l:List Int)(t:Int),t<=ub t l/\(∀x∈l,x<=ub t l)/\∀N,t<=N->(∀x∈l,x<=N)->ub t l<=N
 |[],t=>⟨Int.le_refl _,fun x hx=>(by cases hx),fun N h _=>h⟩
 |a::l,t=>by
  obtain⟨h1,h2,h3⟩:=qoP l (mx t a)
  have e:ub t (a::l)=ub (mx t a) l:=rfl
  have hm:t<=mx t a/\a<=mx t a/\∀N,t<=N->a<=N->mx t a<=N:=by
   unfold mx
   split<;>exact⟨by omega,by omega,fun N _ _=>by omega⟩
  rw[e]
  refine⟨Int.le_trans hm.1 h1,fun x hx=>?_,fun N h k=>h3 N (hm.2.2 N h (k a List.mem_cons_self)) fun x hx=>k x (List.mem_cons_of_mem _ hx)⟩
  rcases List.mem_cons.1 hx with rfl|hx
  ·exact Int.le_trans hm.2.1 h1
  ·exact h2 x hx
theorem qoE{k:PK}:∀{m:List (PK×Int)},k∉qA m->vQ k m=none
 |[],_=>rfl
 |(j,v)::r,h=>by
  have h1:¬j=k:=fun e=>h (by simp[qA,e])
  have h2:k∉qA r:=fun e=>h (by simp only[qA,List.map_cons];exact List.mem_cons_of_mem _ e)
  unfold vQ
  have ih:=qoE h2
  split
  ·rename_i he
   exact absurd (vC.1 he).symm h1
  ·exact ih
structure uW(l:List qf)(m:List (PK×Int)):Prop where
 nd:(qA m).Nodup
 has:∀c∈l,∀k∈vx c,k∈qA m
 nn:∀k,0<=qo m k
 sol:jf (yR l) (qR m)
 len:m.length<=240
 bd:∀k,qo m k<=m.length
theorem qpd{l:List qf}(hg:qej l){V:List PK}(hN:V.Nodup)(hV:∀c∈l,∀k∈vx c,k∈V)(hVl:V.length<=240){m:List (PK×Int)}(h:qcM l V m):uW l m:=by
 have hl:m.length=V.length:=by rw[<-h.keys,vV]
 refine⟨by rw[h.keys];exact hN,fun c hc k hk=>by rw[h.keys];exact hV c hc k hk,h.nn,h.sol,by omega,fun k=>?_⟩
 by_cases hk:k∈V
 ·have hb:=qic h.sol (V:=V) (fun g hg=>qnp fun k _=>h.le g hg k) (fun e he=>⟨(qgx hV e he).1,(qgx hV e he).2.1⟩) (fun e he=>(qgx hV e he).2.2) hk
  have h0:=h.nn k
  unfold qR at hb
  omega
 ·have:qo m k=0:=by
   unfold qo
   have:vQ k m=none:=by
    rw[<-h.keys]at hk
    exact qoE hk
   rw[this];rfl
  omega
theorem qia(l:List qf)(hc:(qQ l).1=0):∃fuel R,jm l fuel (l.foldl jc [])=some R /\
  ((R=none/\zH l=none)\/∃m q,R=some m/\zH l=some q/\uW l m/\uW l q/\∀k,qo m k=qo q k):=by
 have hg:=qil hc
 have hk:∀c∈l,∀x∈c.body,1<=x.kind:=fun c hc x hx=>(hg.kind c hc x hx).1
 obtain⟨i1,i2,i3,i4⟩:=qkT l [] fun _=>rfl
 have i5:=hg.initLen
 obtain⟨m0,hm0⟩:∃m0,l.foldl jc []=m0:=⟨_,rfl⟩
 rw[hm0]at i1 i2 i3 i5 ⊢
 have hV:∀c∈l,∀k∈vx c,k∈qA m0:=fun c hc k hkc=>(i3 k).2 (.inr ⟨c,hc,hkc⟩)
 have hz:∀k,qR m0 k=0:=fun k=>by unfold qR;rw[i1 k];rfl
 obtain⟨R,hR,hE⟩:=qyO hV ((qA m0).length*(qA m0).length) m0 rfl (fun k=>by rw[i1 k];omega) (fun g _ k=>by rw[hz k];omega) (Nat.le_add_left _ _)
 have hW:∀c∈l,∀k∈vx c,k∈qA (wu l):=(qkj hk).has
 have hN:=qwx l
 have hE2:qgS l (qA (wu l)) (zH l):=qvb hW hN (wu l) rfl (qkj hk).zero ((wu l).length+1) (by rw[vV];omega)
 have hPl:(qA (wu l)).length<=240:=by
  rw[qkr,List.length_map]
  have h1:=(qlc (vp l) []).1
  have h2:=hg.allLen
  unfold qbb
  simp only[List.length_nil,Nat.zero_add]at h1
  omega
 refine⟨_,R,hR,?_⟩
 rcases quK hE hE2 with h|⟨m,q,h1,h2,h3,h4,h5⟩
 ·exact .inl h
 ·exact .inr ⟨m,q,h1,h2,qpd hg (i2 .nil) hV (by rw[vV];exact i5) h3,qpd hg hN hW hPl h4,h5⟩
theorem uW.max{l:List qf}{m:List (PK×Int)}(h:uW l m):0<=ub 0 (m.map (·.2))/\ub 0 (m.map (·.2))<=240/\∀k∈qA m,qo m k<=ub 0 (m.map (·.2)):=by
 obtain⟨h1,h2,h3⟩:=qoP (m.map (·.2)) 0
 have hl:=h.len
 refine⟨h1,h3 240 (by omega) fun x hx=>?_,fun k hk=>?_⟩
 ·obtain⟨e,he,rfl⟩:=List.mem_map.1 hx
  have:=h.bd e.1
  rw[qhH h.nd e he]at this
  omega
 ·obtain⟨e,he,rfl⟩:=List.mem_map.1 hk
  rw[qhH h.nd e he]
  exact h2 _ (List.mem_map.2 ⟨e,he,rfl⟩)
theorem qol{l:List qf}(hc:(qQ l).1=0){q:List (PK×Int)}(hq:zH l=some q):uW l q:=by
 obtain⟨fuel,R,_,h⟩:=qia l hc
 rcases h with⟨_,h⟩|⟨m,q',_,h2,_,h4,_⟩
 ·rw[hq]at h;cases h
 ·rw[hq]at h2;cases h2;exact h4
theorem uW.lits{l:List qf}{m:List (PK×Int)}(h:uW l m){c:qf}(hc:c∈l){x:Lit}(hx:x∈c.body):(x.kind=1->qo m (ofA x.atom)<=qo m (ofA c.head))/\(x.kind=2->qo m (ofA x.atom)<qo m (ofA c.head)):=by
 have hn1:=h.nn (ofA x.atom)
 have hn2:=h.nn (ofA c.head)
 constructor
 ·intro hk
  have he:wY (ofA c.head) x=some (ofA c.head,ofA x.atom,0):=by unfold wY;rw[if_pos hk]
  have:=h.sol _ (List.mem_flatMap.2 ⟨c,hc,List.mem_filterMap.2 ⟨x,hx,he⟩⟩)
  simp only[qR]at this
  omega
 ·intro hk
  have he:wY (ofA c.head) x=some (ofA c.head,ofA x.atom,1):=by unfold wY;rw[if_neg (by omega),if_pos hk]
  have:=h.sol _ (List.mem_flatMap.2 ⟨c,hc,List.mem_filterMap.2 ⟨x,hx,he⟩⟩)
  simp only[qR]at this
  omega
end Go.Abs.Tz
namespace Go.Abs.Tz
open Go Go.Abs Go.Proofs
section
variable(l:List qf)(m:List (PK×Int))(v:Int)
def qfv(T:qd->Prop):Prop:=∀c∈l,qo m (ofA c.head)=v->∀h,wn T c h->T h
structure LowS(S0 T:qd->Prop):Prop where
 sup:∀a,S0 a->T a
 low:∀a,T a->qo m (ofA a)<v->S0 a
 good:∀a,T a->qD a
structure Mid(S0 P:qd->Prop):Prop where
 lo:LowS m v S0 P
 least:∀T,LowS m v S0 T->qfv l m v T->∀a,P a->T a
end
section
variable{l:List qf}{m:List (PK×Int)}{v:Int}{S0 P Q T:qd->Prop}
theorem wn.mono(hm:uW l m){c:qf}(hc:c∈l)(hv:qo m (ofA c.head)=v)(hP:LowS m v S0 P)(hT:LowS m v S0 T)(hPT:∀a,P a->T a){h:qd}(hh:wn P c h):wn T c h:=by
 obtain⟨R,h1,h2,h3⟩:=hh
 refine⟨R,h1.mono hPT,fun x hx=>⟨fun hk ht=>(h2 x hx).1 hk (hP.sup _ (hT.low _ ht ?_)),(h2 x hx).2⟩,h3⟩
 rw[qhN,<-hv]
 exact(hm.lits hc hx).2 hk
theorem Mid.grow(hm:uW l m)(hP:Mid l m v S0 P){c:qf}(hc:c∈l)(hg:zq c)(hv:qo m (ofA c.head)=v)(hQ:∀a,Q a->P a\/wn P c a)(hPQ:∀a,P a->Q a):Mid l m v S0 Q where
 lo:=⟨fun a h=>hPQ a (hP.lo.sup a h),fun a h hl=>(hQ a h).elim (fun h=>hP.lo.low a h hl) (fun h=>absurd hl (by
  obtain⟨R,_,_,rfl⟩:=h
  rw[qhN,hv]
  exact Int.lt_irrefl _)),fun a h=>(hQ a h).elim (hP.lo.good a) fun h=>h.good hP.lo.good hg⟩
 least T hT hC a h:=(hQ a h).elim (hP.least T hT hC a) fun h=>hC c hc hv a (wn.mono hm hc hv hP.lo hT (hP.least T hT hC) h)
theorem Mid.base(hS:∀a,S0 a->qD a):Mid l m v S0 S0:=⟨⟨fun _ h=>h,fun _ h _=>h,hS⟩,fun _ hT _ a h=>hT.sup a h⟩
end
def qay(o:List qd):Prop:=o.Pairwise fun x y=>zk x y<0
theorem qjV(x:qd)(r:List qd)(a:qd):zx (x::r) a=if zk x a<0 then x::zx r a else if zk x a=0 then x::r else a::x::r:=by
 unfold zx
 by_cases h:zk x a<0
 ·rw[if_pos h]
  have e:ja (x::r) a=ja r a+1:=by rw[ja,if_pos h]
  rw[e,List.getElem?_cons_succ]
  cases r[ja r a]? with
  |none=>simp
  |some y=>
   simp only
   split<;>simp
 ·rw[if_neg h]
  have e:ja (x::r) a=0:=by rw[ja,if_neg h]
  rw[e]
  simp
theorem qjU:∀(o:List qd)(a:qd),a∈zx o a
 |[],a=>by simp[zx,ja]
 |x::r,a=>by
  rw[qjV]
  split
  ·exact List.mem_cons_of_mem _ (qjU r a)
  ·split
   ·rename_i h
    rw[qbI.zero.1 h]
    exact List.mem_cons_self
   ·exact List.mem_cons_self
theorem qjS:∀{o:List qd}{a x:qd},x∈o->x∈zx o a
 |y::r,a,x,h=>by
  rw[qjV]
  split
  ·rcases List.mem_cons.1 h with rfl|h
   ·exact List.mem_cons_self
   ·exact List.mem_cons_of_mem _ (qjS h)
  ·split
   ·exact h
   ·exact List.mem_cons_of_mem _ h
theorem qjT:∀{o:List qd}{a:qd},qay o->qay (zx o a)
 |[],a,_=>by simp[zx,ja,qay]
 |x::r,a,h=>by
  obtain⟨h1,h2⟩:=List.pairwise_cons.1 h
  rw[qjV]
  split
  ·rename_i hx
   refine List.pairwise_cons.2 ⟨fun y hy=>?_,qjT h2⟩
   rcases qey hy with hy|rfl
   ·exact h1 y hy
   ·exact hx
  ·rename_i hx
   split
   ·exact h
   ·rename_i hx2
    have ha:zk a x<0:=by rw[qbI.anti x a];omega
    refine List.pairwise_cons.2 ⟨fun y hy=>?_,h⟩
    rcases List.mem_cons.1 hy with rfl|hy
    ·exact ha
    ·exact qbI.lt_tr ha (h1 y hy)
theorem qvi{o:List qd}{a:qd}(h:(zx o a).length=o.length):zx o a=o:=by
 unfold zx at h ⊢
 have hp:=qhE o a
 have k:¬(o.take (ja o a)++[a]++o.drop (ja o a)).length=o.length:=by simp;omega
 split
 ·split
  ·rfl
  ·rename_i x hx hz
   rw[hx]at h
   simp only[if_neg hz]at h
   exact absurd h k
 ·rename_i hx
  rw[hx]at h
  exact absurd h k
theorem qay.nodup{o:List qd}(h:qay o):o.Nodup:=List.Pairwise.imp (fun{x y} hxy e=>by
 subst e
 have:=qbI.refl x
 omega) h
theorem qnZ:∀(more out:List qd),qay out->qay (vv out more)/\(∀x∈out,x∈vv out more)/\((vv out more).length<=300->∀x∈more,x∈vv out more)/\((vv out more).length=out.length->vv out more=out)
 |[],out,h=>⟨h,fun x hx=>hx,fun _ x hx=>(by cases hx),fun _=>rfl⟩
 |a::r,out,h=>by
  unfold vv
  split
  ·obtain⟨h1,h2,h3,h4⟩:=qnZ r (zx out a) (qjT h)
   refine⟨h1,fun x hx=>h2 x (qjS hx),fun hl x hx=>?_,fun hl=>?_⟩
   ·rcases List.mem_cons.1 hx with rfl|hx
    ·exact h2 x (qjU out x)
    ·exact h3 hl x hx
   ·have k1:=(qew r (zx out a)).1
    have k2:=qfM out a
    have k3:=qvi (o:=out) (a:=a) (by omega)
    rw[k3]at hl h4 ⊢
    exact h4 hl
  ·rename_i hl
   exact⟨h,fun x hx=>hx,fun hl2=>absurd hl2 hl,fun _=>rfl⟩
theorem qij{o:List qd}{a:qd}:yA o a=true↔a∈o:=by
 unfold yA
 rw[List.any_eq_true]
 constructor
 ·rintro⟨x,hx,h⟩
  rw[<-qbI.zero.1 (of_decide_eq_true h)]
  exact hx
 ·intro h
  exact⟨a,h,by simp[qbI.refl a]⟩
theorem qhx{o:List qd}{K:qm}:∀{b:List Lit},qaF o K b=true↔qaa (·∈o) K b
 |[]=>⟨fun _ x hx=>(by cases hx),fun _=>rfl⟩
 |x::r=>by
  have ih:=qhx (o:=o) (K:=K) (b:=r)
  have split:qaa (·∈o) K (x::r)↔((x.kind=2->¬qN K x.atom∈o)/\(x.kind≠1->x.kind≠2->qaO K x=true))/\qaa (·∈o) K r:=by
   constructor
   ·intro h
    exact⟨h x List.mem_cons_self,fun y hy=>h y (List.mem_cons_of_mem _ hy)⟩
   ·rintro⟨h1,h2⟩ y hy
    rcases List.mem_cons.1 hy with rfl|hy
    ·exact h1
    ·exact h2 y hy
  rw[split]
  unfold qaF
  by_cases h1:x.kind=1
  ·rw[if_pos h1,ih]
   exact⟨fun h=>⟨⟨fun h2=>by omega,fun h3=>absurd h1 h3⟩,h⟩,fun h=>h.2⟩
  ·rw[if_neg h1]
   by_cases h2:x.kind=2
   ·rw[if_pos h2,Bool.and_eq_true,ih]
    have e:(!yA o (qN K x.atom))=true↔¬qN K x.atom∈o:=by
     rw[<-qij]
     simp
    rw[e]
    exact⟨fun h=>⟨⟨fun _=>h.1,fun _ h3=>absurd h2 h3⟩,h.2⟩,fun h=>⟨h.1.1 h2,h.2⟩⟩
   ·rw[if_neg h2,Bool.and_eq_true,ih]
    exact⟨fun h=>⟨⟨fun h3=>absurd h3 h2,fun _ _=>h.1⟩,h.2⟩,fun h=>⟨h.1.2 h1 h2,h.2⟩⟩
theorem qhR{c:qf}{o:List qd}{h:qd}:∀{r:List Lit}{K:qm},h∈zy c o r K↔∃R,wd (·∈o) (qJ r) K R/\qaa (·∈o) R c.body/\h=qN R c.head
 |[],K=>by
  unfold zy
  constructor
  ·intro hh
   split at hh
   ·rename_i hr
    simp at hh
    exact⟨K,rfl,qhx.1 hr,hh⟩
   ·cases hh
  ·rintro⟨R,h1,h2,h3⟩
   have e:R=K:=h1
   subst e
   rw[qhx.2 h2,if_pos rfl,h3]
   exact List.mem_singleton.2 rfl
 |x::r,K=>by
  unfold zy
  rw[qdF]
  by_cases hk:x.kind=1
  ·rw[if_pos hk,if_pos hk,List.mem_flatMap]
   constructor
   ·rintro⟨a,ha,hh⟩
    split at hh
    ·rename_i R hR
     obtain⟨R2,g1,g2,g3⟩:=qhR.1 hh
     exact⟨R2,⟨a,R,ha,hR,g1⟩,g2,g3⟩
    ·cases hh
   ·rintro⟨R2,⟨a,R,ha,hR,g1⟩,g2,g3⟩
    refine⟨a,ha,?_⟩
    simp only[hR]
    exact qhR.2 ⟨R2,g1,g2,g3⟩
  ·rw[if_neg hk,if_neg hk]
   exact qhR
theorem qhQ{c:qf}{o:List qd}{h:qd}:h∈zy c o c.body []↔wn (·∈o) c h:=qhR
section
variable{l:List qf}{m q:List (PK×Int)}{v:Int}{S0:qd->Prop}
theorem qjJ(hm:uW l m)(hg:∀c∈l,zq c)(hq:∀k,qo q k=qo m k):∀(r:List qf),(∀c∈r,c∈l)->∀{out:List qd},Mid l m v S0 (·∈out)->qay out ->
  Mid l m v S0 (·∈ji q v r out)/\qay (ji q v r out)/\((ji q v r out).length=out.length->ji q v r out=out/\(out.length<=300->∀c∈r,qo m (ofA c.head)=v->∀h,wn (·∈out) c h->h∈out))
 |[],_,out,h1,h2=>⟨h1,h2,fun _=>⟨rfl,fun _ c hc=>(by cases hc)⟩⟩
 |c::r,hr,out,h1,h2=>by
  have hr':=fun d hd=>hr d (List.mem_cons_of_mem _ hd)
  have hc:=hr c List.mem_cons_self
  unfold ji
  rw[hq]
  by_cases hv:qo m (ofA c.head)=v
  ·rw[if_pos hv]
   obtain⟨p1,p2,p3,p4⟩:=qnZ (zy c out c.body []) out h2
   obtain⟨f1,_,f3⟩:=qew (zy c out c.body []) out
   have hM:Mid l m v S0 (·∈vv out (zy c out c.body [])):=h1.grow hm hc (hg c hc) hv (fun a ha=>(f3 a ha).imp id qhQ.1) p2
   obtain⟨g1,g2,g3⟩:=qjJ hm hg hq r hr' hM p1
   refine⟨g1,g2,fun hl=>?_⟩
   have hmono:=qfK q v r (vv out (zy c out c.body []))
   have e1:=p4 (by omega)
   rw[e1]at g3 p3 hl ⊢
   obtain⟨k1,k2⟩:=g3 hl
   refine⟨k1,fun h300 d hd hdv h hh=>?_⟩
   rcases List.mem_cons.1 hd with rfl|hd
   ·exact p3 h300 h (qhQ.2 hh)
   ·exact k2 h300 d hd hdv h hh
  ·rw[if_neg hv]
   obtain⟨g1,g2,g3⟩:=qjJ hm hg hq r hr' h1 h2
   refine⟨g1,g2,fun hl=>?_⟩
   obtain⟨k1,k2⟩:=g3 hl
   refine⟨k1,fun h300 d hd hdv h hh=>?_⟩
   rcases List.mem_cons.1 hd with rfl|hd
   ·exact absurd hdv hv
   ·exact k2 h300 d hd hdv h hh
theorem qoh(hm:uW l m)(hg:∀c∈l,zq c)(hq:∀k,qo q k=qo m k):∀(k:Nat){out:List qd},302<=k+out.length->Mid l m v S0 (·∈out)->qay out ->
  Mid l m v S0 (·∈u9 q v l k out)/\qay (u9 q v l k out)/\((u9 q v l k out).length<=300->qfv l m v (·∈u9 q v l k out))
 |0,out,hk,h1,h2=>⟨h1,h2,fun h=>by
  have:(u9 q v l 0 out)=out:=rfl
  rw[this]at h
  omega⟩
 |k+1,out,hk,h1,h2=>by
  unfold u9
  by_cases h300:out.length<=300
  ·rw[if_pos h300]
   obtain⟨g1,g2,g3⟩:=qjJ hm hg hq l (fun c hc=>hc) h1 h2
   have hmono:=qfK q v l out
   by_cases he:(ji q v l out).length=out.length
   ·rw[if_pos he]
    obtain⟨k1,k2⟩:=g3 he
    rw[k1]
    exact⟨h1,h2,fun _=>k2 h300⟩
   ·rw[if_neg he]
    exact qoh hm hg hq k (by omega) g1 g2
  ·rw[if_neg h300]
   exact⟨h1,h2,fun h=>absurd h h300⟩
end
end Go.Abs.Tz
namespace Go.Abs.Tz
open Go Go.Abs Go.Proofs
abbrev qw(F:List Stp):List qd:=F.map Stp.atom
theorem qfH(F:List Stp):wM F=(·∈qw F):=by
 funext a
 exact propext ⟨fun⟨s,hs,e⟩=>List.mem_map.2 ⟨s,hs,e⟩,fun h=>by
  obtain⟨s,hs,e⟩:=List.mem_map.1 h
  exact⟨s,hs,e⟩⟩
def uK(F:List Stp):Prop:=(F.map fun q=>qt q.atom).Nodup
theorem qoK{α β:Type}(f:α->β):∀{l:List α},(l.map f).Nodup->l.Nodup
 |[],_=>.nil
 |a::l,h=>by
  rw[List.map_cons,List.nodup_cons]at h
  exact List.nodup_cons.2 ⟨fun ha=>h.1 (List.mem_map.2 ⟨a,ha,rfl⟩),qoK f h.2⟩
theorem uK.nodup{F:List Stp}(h:uK F):(qw F).Nodup:=qoK qt (by
 unfold uK at h
 rw[List.map_map]
 exact h)
theorem uK.app{F G:List Stp}(h:uK F)(k:qcl F G):uK (F++G):=by
 unfold uK
 rw[List.map_append]
 refine List.nodup_append.2 ⟨h,k.1,fun x hx y hy e=>?_⟩
 obtain⟨p,hp,rfl⟩:=List.mem_map.1 hx
 obtain⟨q,hq,rfl⟩:=List.mem_map.1 hy
 have:=k.2 q hq
 rw[wf.2 ⟨p,hp,e⟩]at this
 cases this
theorem qrj{c:qf}(hg:zq c){F:List Stp}(hF:∀a,a∈qw F->qD a)(i:Int):(uJ F c i).foldl zh F=F++uJ F c i/\qcl F (uJ F c i)/\(∀s∈uJ F c i,wn (·∈qw F) c s.atom) /\
  ((uJ F c i).length<=300->∀h,wn (·∈qw F) c h->h∈qw (F++uJ F c i)):=by
 have hFs:∀s∈F,qD s.atom:=fun s hs=>hF _ (List.mem_map.2 ⟨s,hs,rfl⟩)
 have hFo:∀s∈F,qI s.atom=true:=fun s hs=>(hFs s hs).1
 have hS:∀a,wM F a->qD a:=fun a ⟨s,hs,e⟩=>e▸hFs s hs
 have e:uJ F c i=(qeN F c i).foldl (zK F) []:=by
  unfold uJ
  rw[qip]
  rfl
 have hd:qcl F (uJ F c i):=by
  rw[e]
  exact qpJ F _ _ (.nil F)
 have key:∀h,wn (·∈qw F) c h↔∃s∈qeN F c i,s.atom=h:=by
  intro h
  rw[<-qfH]
  have hrest:∀R,wd (wM F) (qJ c.body) [] R->(gd F R c.body=true↔qaa (wM F) R c.body):=fun R hR=>by
   obtain⟨g1,_,g3,_⟩:=qbJ hS .nil hR
   exact qbV hFo fun x hx hk=>((hg.leaf g1 g3).1 x hx hk).1
  constructor
  ·rintro⟨R,h1,h2,rfl⟩
   obtain⟨js,hjs⟩:=qhM h1
   exact⟨_,List.mem_map.2 ⟨(R,js),qca.2 ⟨js,hjs,(hrest R h1).2 h2,by simp⟩,rfl⟩,rfl⟩
  ·rintro⟨s,hs,rfl⟩
   obtain⟨x,hx,rfl⟩:=List.mem_map.1 hs
   obtain⟨js,h1,h2,_⟩:=qca.1 hx
   have h3:=qdX h1
   exact⟨x.1,h3,(hrest _ h3).1 h2,rfl⟩
 refine⟨qsb hd,hd,fun s hs=>?_,fun hl h hh=>?_⟩
 ·rw[e]at hs
  obtain⟨X,hX,hX2⟩:=qeT F (qeN F c i) []
  rw[hX]at hs
  exact(key _).2 ⟨s,hX2 s (by simpa using hs),rfl⟩
 ·have hhg:qD h:=by
   rw[<-qfH]at hh
   exact hh.good hS hg
  obtain⟨s,hs,rfl⟩:=(key h).1 hh
  have hin:∀{G:List Stp},(∀q∈G,qI q.atom=true)->qF (qt s.atom) G=true->s.atom∈qw G:=fun hG hx=>by
   obtain⟨q,hq,eq⟩:=wf.1 hx
   exact List.mem_map.2 ⟨q,hq,qlJ (hG q hq) hhg.1 eq⟩
  rw[e]at hl ⊢
  unfold qw
  rw[List.map_append]
  rcases qpI F _ _ hl s hs with h|h
  ·exact List.mem_append_left _ (hin hFo h)
  ·refine List.mem_append_right _ (hin (fun q hq=>?_) h)
   have hq2:wn (·∈qw F) c q.atom:=by
    obtain⟨X,hX,hX2⟩:=qeT F (qeN F c i) []
    rw[hX]at hq
    exact(key _).2 ⟨q,hX2 q (by simpa using hq),rfl⟩
   rw[<-qfH]at hq2
   exact(hq2.good hS hg).1
section
variable{l:List qf}{m:List (PK×Int)}{v:Int}{S0:qd->Prop}
def ResD(l:List qf)(m:List (PK×Int))(v:Int)(S0:qd->Prop):Option (List Stp)->Prop
 |none=>∃L:List qd,L.Nodup/\300<L.length/\Mid l m v S0 (·∈L)
 |some F=>Mid l m v S0 (·∈qw F)/\uK F/\F.length<=300
theorem qjK(hm:uW l m)(hg:∀c∈l,zq c):∀(r:List qf),(∀c∈r,c∈l)->∀(i:Nat){F:List Stp},Mid l m v S0 (·∈qw F)->uK F->F.length<=300 ->
  ResD l m v S0 (vN m v r i F)/\∀F',vN m v r i F=some F'->F.length<=F'.length/\(F'.length=F.length->F'=F/\∀c∈r,qo m (ofA c.head)=v->∀h,wn (·∈qw F) c h->h∈qw F)
 |[],_,i,F,h1,h2,h3=>⟨⟨h1,h2,h3⟩,fun F' h=>by
  cases h
  exact⟨Nat.le_refl _,fun _=>⟨rfl,fun c hc=>(by cases hc)⟩⟩⟩
 |c::r,hr,i,F,h1,h2,h3=>by
  have hr':=fun d hd=>hr d (List.mem_cons_of_mem _ hd)
  have hc:=hr c List.mem_cons_self
  unfold vN
  by_cases hv:qo m (ofA c.head)=v
  ·rw[if_pos hv]
   obtain⟨c1,c2,c3,c4⟩:=qrj (hg c hc) (F:=F) h1.lo.good i
   rw[c1]
   have hM:Mid l m v S0 (·∈qw (F++uJ F c i)):=h1.grow hm hc (hg c hc) hv (fun a ha=>by
    obtain⟨s,hs,rfl⟩:=List.mem_map.1 ha
    rcases List.mem_append.1 hs with hs|hs
    ·exact .inl (List.mem_map.2 ⟨s,hs,rfl⟩)
    ·exact .inr (c3 s hs)) fun a ha=>by
     obtain⟨s,hs,rfl⟩:=List.mem_map.1 ha
     exact List.mem_map.2 ⟨s,List.mem_append_left _ hs,rfl⟩
   have hN:=h2.app c2
   have hlen:(F++uJ F c i).length=F.length+(uJ F c i).length:=List.length_append
   by_cases h300:300<(F++uJ F c i).length
   ·rw[if_pos h300]
    exact⟨⟨_,hN.nodup,by simpa using h300,hM⟩,fun F' h=>by cases h⟩
   ·rw[if_neg h300]
    obtain⟨g1,g2⟩:=qjK hm hg r hr' (i+1) hM hN (by omega)
    refine⟨g1,fun F' hF'=>?_⟩
    obtain⟨k1,k2⟩:=g2 F' hF'
    refine⟨by omega,fun hl=>?_⟩
    have e0:uJ F c i=[]:=List.eq_nil_of_length_eq_zero (by omega)
    rw[e0,List.append_nil]at k1 k2 c4
    obtain⟨j1,j2⟩:=k2 hl
    refine⟨j1,fun d hd hdv h hh=>?_⟩
    rcases List.mem_cons.1 hd with rfl|hd
    ·exact c4 (by simp) h hh
    ·exact j2 d hd hdv h hh
  ·rw[if_neg hv]
   obtain⟨g1,g2⟩:=qjK hm hg r hr' (i+1) h1 h2 h3
   refine⟨g1,fun F' hF'=>?_⟩
   obtain⟨k1,k2⟩:=g2 F' hF'
   refine⟨k1,fun hl=>?_⟩
   obtain⟨j1,j2⟩:=k2 hl
   refine⟨j1,fun d hd hdv h hh=>?_⟩
   rcases List.mem_cons.1 hd with rfl|hd
   ·exact absurd hdv hv
   ·exact j2 d hd hdv h hh
theorem qkH(hm:uW l m)(hg:∀c∈l,zq c):∀(k:Nat){F:List Stp},302<=k+F.length->Mid l m v S0 (·∈qw F)->uK F->F.length<=300 ->
  ResD l m v S0 (vY m v l k F)/\∀F',vY m v l k F=some F'->qfv l m v (·∈qw F')
 |0,F,hk,h1,h2,h3=>by omega
 |k+1,F,hk,h1,h2,h3=>by
  unfold vY
  obtain⟨g1,g2⟩:=qjK hm hg l (fun c hc=>hc) 0 h1 h2 h3
  cases hr:vN m v l 0 F with
  |none=>
   rw[hr]at g1
   exact⟨g1,fun F' h=>by cases h⟩
  |some F2=>
   rw[hr]at g1
   obtain⟨k1,k2⟩:=g2 F2 hr
   obtain⟨m1,m2,m3⟩:=g1
   dsimp only
   by_cases he:F2.length=F.length
   ·rw[if_pos he]
    obtain⟨j1,j2⟩:=k2 he
    subst j1
    exact⟨⟨m1,m2,m3⟩,fun F' h=>by cases h;exact j2⟩
   ·rw[if_neg he]
    exact qkH hm hg k (by omega) m1 m2 m3
theorem qhO:∀{a b:List qd},a.Nodup->(∀x∈a,x∈b)->a.length<=b.length
 |[],_,_,_=>Nat.zero_le _
 |x::a,b,h,hs=>by
  obtain⟨h1,h2⟩:=List.nodup_cons.1 h
  obtain⟨s,t,rfl⟩:=List.append_of_mem (hs x List.mem_cons_self)
  have:=qhO (a:=a) (b:=s++t) h2 fun y hy=>by
   have hy2:=hs y (List.mem_cons_of_mem _ hy)
   have hne:y≠x:=fun e=>h1 (e▸hy)
   rcases List.mem_append.1 hy2 with g|g
   ·exact List.mem_append_left _ g
   ·rcases List.mem_cons.1 g with g|g
    ·exact absurd g hne
    ·exact List.mem_append_right _ g
  simp only[List.length_append,List.length_cons]at this ⊢
  omega
def qgP(o:Option (List Stp))(out:List qd):Prop:=match o with
 |none=>300<out.length
 |some F=>F.length<=300/\out.length<=300/\uK F/\qay out/\(∀a∈out,qD a)/\∀a,a∈qw F↔a∈out
theorem qwW(hm:uW l m)(hg:∀c∈l,zq c){q:List (PK×Int)}(hq:∀k,qo q k=qo m k){F:List Stp}{out:List qd}(h:qgP (some F) out):qgP (vY m v l 302 F) (u9 q v l 302 out):=by
 obtain⟨h1,h2,h3,h4,h5,h6⟩:=h
 have e0:(fun a=>a∈qw F)=fun a=>a∈out:=funext fun a=>propext (h6 a)
 have hb:Mid l m v (·∈out) (·∈out):=.base h5
 obtain⟨c1,c2⟩:=qkH (v:=v) (S0:=(·∈out)) hm hg 302 (F:=F) (by omega) (by
  rw[e0]
  exact hb) h3 h1
 obtain⟨r1,r2,r3⟩:=qoh hm hg hq 302 (out:=out) (by omega) hb h4
 cases hl:vY m v l 302 F with
 |none=>
  rw[hl]at c1
  obtain⟨L,l1,l2,l3⟩:=c1
  show 300<_
  by_cases h300:(u9 q v l 302 out).length<=300
  ·have:=qhO l1 (b:=u9 q v l 302 out) fun x hx=>l3.least _ r1.lo (r3 h300) x hx
   omega
  ·omega
 |some F'=>
  rw[hl]at c1
  obtain⟨m1,m2,m3⟩:=c1
  have hcl:=c2 F' hl
  have hle:=qhO r2.nodup (b:=qw F') fun x hx=>r1.least _ m1.lo hcl x hx
  rw[List.length_map]at hle
  have h300:(u9 q v l 302 out).length<=300:=by omega
  exact⟨m3,h300,m2,r2,r1.lo.good,fun a=>⟨m1.least _ r1.lo (r3 h300) a,r1.least _ m1.lo hcl a⟩⟩
theorem qwX(hn:∀c∈l,qo m (ofA c.head)<v)(k:Nat)(F:List Stp):vY m v l (k+1) F=some F:=by
 have:∀(r:List qf),(∀c∈r,qo m (ofA c.head)<v)->∀i,vN m v r i F=some F:=fun r=>by
  induction r with
  |nil=>intro _ i;rfl
  |cons c r ih=>
   intro hr i
   unfold vN
   have:=hr c List.mem_cons_self
   rw[if_neg (by omega)]
   exact ih (fun d hd=>hr d (List.mem_cons_of_mem _ hd)) _
 unfold vY
 rw[this l hn]
 simp
theorem quX{q:List (PK×Int)}(hn:∀c∈l,qo q (ofA c.head)<v)(k:Nat)(out:List qd):u9 q v l (k+1) out=out:=by
 have:∀(r:List qf),(∀c∈r,qo q (ofA c.head)<v)->ji q v r out=out:=fun r=>by
  induction r with
  |nil=>intro _;rfl
  |cons c r ih=>
   intro hr
   unfold ji
   have:=hr c List.mem_cons_self
   rw[if_neg (by omega)]
   exact ih (fun d hd=>hr d (List.mem_cons_of_mem _ hd))
 unfold u9
 rw[this l hn]
 simp
theorem qog{q:List (PK×Int)}:∀(k v:Nat){out:List qd},300<out.length->qaD q l k v out=out
 |0,_,_,_=>rfl
 |k+1,v,out,h=>by
  unfold qaD
  have e:u9 q v l 302 out=out:=by
   unfold u9
   rw[if_neg (by omega)]
  rw[e]
  exact qog k (v+1) h
theorem qoZ:∀(k w:Nat),(∀c∈l,qo m (ofA c.head)<(w:Int))->∀F,wE m l k w F=some F
 |0,_,_,_=>rfl
 |k+1,w,h,F=>by
  unfold wE
  rw[qwX h]
  exact qoZ k (w+1) (fun c hc=>by have:=h c hc;omega) F
theorem qof{q:List (PK×Int)}:∀(k w:Nat),(∀c∈l,qo q (ofA c.head)<(w:Int))->∀out,qaD q l k w out=out
 |0,_,_,_=>rfl
 |k+1,w,h,out=>by
  unfold qaD
  rw[quX h]
  exact qof k (w+1) (fun c hc=>by have:=h c hc;omega) out
theorem qoY(hm:uW l m)(hg:∀c∈l,zq c){q:List (PK×Int)}(hq:∀k,qo q k=qo m k):∀(k j w:Nat),(∀c∈l,qo m (ofA c.head)<(w+k:Nat))->(∀c∈l,qo m (ofA c.head)<(w+j:Nat))->∀{F:List Stp}{out:List qd},qgP (some F) out->qgP (wE m l k w F) (qaD q l j w out)
 |0,j,w,h1,h2,F,out,h=>by
  rw[qof j w (fun c hc=>by rw[hq];simpa using h1 c hc)]
  exact h
 |k+1,0,w,h1,h2,F,out,h=>by
  rw[qoZ (k+1) w (fun c hc=>by simpa using h2 c hc)]
  exact h
 |k+1,j+1,w,h1,h2,F,out,h=>by
  unfold wE qaD
  have hs:=qwW (v:=w) hm hg hq h
  cases hl:vY m w l 302 F with
  |none=>
   rw[hl]at hs
   show 300<_
   rw[qog j (w+1) hs]
   exact hs
  |some F'=>
   rw[hl]at hs
   exact qoY hm hg hq k j (w+1) (fun c hc=>by have:=h1 c hc;omega) (fun c hc=>by have:=h2 c hc;omega) hs
end
theorem qeg:∀(S F:List Stp),(∀s∈F,qI s.atom=true)->(∀s∈S,qI s.atom=true)->uK F->uK (S.foldl zh F)/\∀a,a∈qw (S.foldl zh F)↔(a∈qw F\/a∈qw S)
 |[],F,_,_,h=>⟨h,fun a=>by simp⟩
 |s::S,F,hF,hS,h=>by
  have hs:=hS s List.mem_cons_self
  have hS':=fun q hq=>hS q (List.mem_cons_of_mem _ hq)
  rw[List.foldl_cons]
  cases hh:qF (qt s.atom) F
  ·have e:zh F s=F++[s]:=by unfold zh;rw[hh,if_neg (by simp)]
   have hF2:∀q∈F++[s],qI q.atom=true:=fun q hq=>by
    rcases List.mem_append.1 hq with hq|hq
    ·exact hF q hq
    ·simp at hq;rw[hq];exact hs
   have hN:uK (F++[s]):=h.app ⟨by simp,fun q hq=>by simp at hq;rw[hq];exact hh⟩
   rw[e]
   obtain⟨g1,g2⟩:=qeg S _ hF2 hS' hN
   refine⟨g1,fun a=>?_⟩
   rw[g2 a]
   simp[qw,or_assoc,eq_comm]
  ·have e:zh F s=F:=by unfold zh;rw[hh,if_pos rfl]
   rw[e]
   obtain⟨g1,g2⟩:=qeg S F hF hS' h
   refine⟨g1,fun a=>?_⟩
   rw[g2 a]
   have hin:s.atom∈qw F:=by
    obtain⟨q,hq,eq⟩:=wf.1 hh
    exact List.mem_map.2 ⟨q,hq,qlJ (hF q hq) hs eq⟩
   constructor
   ·rintro(h|h)
    ·exact .inl h
    ·exact .inr (List.mem_cons_of_mem _ h)
   ·rintro(h|h)
    ·exact .inl h
    ·rcases List.mem_cons.1 h with rfl|h
     ·exact .inl hin
     ·exact .inr h
theorem qpU:∀(base out:List qd),qay out->qay (base.foldl zx out)/\∀a,a∈base.foldl zx out↔(a∈out\/a∈base)
 |[],out,h=>⟨h,fun a=>by simp⟩
 |x::r,out,h=>by
  obtain⟨h1,h2⟩:=qpU r (zx out x) (qjT h)
  rw[List.foldl_cons]
  refine⟨h1,fun a=>?_⟩
  rw[h2 a]
  constructor
  ·rintro(h|h)
   ·rcases qey h with h|rfl
    ·exact .inl h
    ·exact .inr List.mem_cons_self
   ·exact .inr (List.mem_cons_of_mem _ h)
  ·rintro(h|h)
   ·exact .inl (qjS h)
   ·rcases List.mem_cons.1 h with rfl|h
    ·exact .inl (qjU out a)
    ·exact .inr h
theorem qwA{l:List qf}{m q:List (PK×Int)}(hm:uW l m)(hlq:uW l q)(hg:∀c∈l,zq c)(hq:∀k,qo m k=qo q k){base:List qd}(hb:∀a∈base,qD a)(hbl:base.length<=300):qgP (qar m l base) (qbx q l base):=by
 unfold qar qbx
 have hhas:∀c∈l,qo m (ofA c.head)<=ub 0 (m.map (·.2))/\qo m (ofA c.head)<=q.length:=fun c hc=>by
  have hk:ofA c.head∈vx c:=by simp[vx]
  refine⟨hm.max.2.2 _ (hm.has c hc _ hk),?_⟩
  rw[hq]
  exact hlq.bd _
 have h0:=hm.max.1
 refine qoY hm hg (fun k=>(hq k).symm) _ _ 0 (fun c hc=>?_) (fun c hc=>?_) ?_
 ·have:=(hhas c hc).1
  omega
 ·have:=(hhas c hc).2
  omega
 ·have hS:∀s∈base.map (fun a=>(⟨a,-1,[]⟩:Stp)),qI s.atom=true:=fun s hs=>by
   obtain⟨a,ha,rfl⟩:=List.mem_map.1 hs
   exact(hb a ha).1
  obtain⟨a1,a2⟩:=qeg (base.map fun a=>(⟨a,-1,[]⟩:Stp)) [] (fun s hs=>by cases hs) hS .nil
  obtain⟨b1,b2⟩:=qpU base [] .nil
  have hl1:=(qfo (base.map fun a=>(⟨a,-1,[]⟩:Stp)) []).2
  have e:∀a,a∈qw (zj base)↔a∈base:=fun a=>by
   rw[show qw (zj base)=qw ((base.map fun a=>(⟨a,-1,[]⟩:Stp)).foldl zh []) from rfl,a2 a]
   simp[qw,Function.comp_def]
  have e2:∀a,a∈base.foldl zx []↔a∈base:=fun a=>by rw[b2 a];simp
  have hl2:=qhO b1.nodup (b:=base) fun x hx=>(e2 x).1 hx
  refine⟨?_,by omega,a1,b1,fun a ha=>hb a ((e2 a).1 ha),fun a=>by rw[e a,e2 a]⟩
  rw[List.length_map,List.length_nil]at hl1
  unfold zj
  omega
end Go.Abs.Tz
namespace Go.Abs.Tz
open Go Go.Abs Go.Proofs
set_option maxRecDepth 20000
set_option linter.unusedSimpArgs false
attribute [local simp ↓] yC yB jT jS yf uO zu zG jR uB vl vm yD yF yG yE jY j6 j9 jZ ga gc j7 j8 j0 jW jU jX jV vj vh vk vi yy yw yz yx yK yI yJ jj z8 ge zw zU yi vn vo yN yP yO yL yM yZ gh gq gv gp gt gu g7 g6 gC gE jB jy jM jP jz jH jL jK jJ jI jF ju jv jw jx jN jD jE jq jO jQ jA jC jG jr gI gD gY ya gF gS gW gV gU gT gO gz g0 gM gN gw g9 yb gG gK gQ gx yd g8 gy yc gL gH gJ gA gZ gi gk gj yT yW yS yU yV qq uG
attribute [local simp] faL fdL iaL ixL qS zm ze eqK eqL qX zE uA yQ vg y5 y7 y9 vc ve vf y6 vb y8 vd zM LV.cells LV.whole qq uQ gg gf stL zN ui uI qa.alloc yg ye yh yu yt yr yq yp yo yn ym yk yj qe uD
theorem qfJ{q:List (PK×Int)}{lev:Int}:∀{l:List qf}{out:List qd},(∀c∈l,zq c)->out.length<=301->(∀a∈out,qD a)->(ji q lev l out).length<=301/\∀a∈ji q lev l out,qD a
 |[],_,_,h1,h2=>⟨h1,h2⟩
 |c::r,out,hc,h1,h2=>by
  unfold ji
  have hcr:=fun d hd=>hc d (List.mem_cons_of_mem _ hd)
  split
  ·obtain⟨p1,p2,p3⟩:=qew (zy c out c.body []) out
   refine qfJ hcr (by omega) fun a ha=>(p3 a ha).elim (h2 a) ?_
   exact qgp (hc c List.mem_cons_self) h2 c.body [] [] rfl .nil (fun x hx=>by cases hx) a
  ·exact qfJ hcr h1 h2
theorem qoi{q:List (PK×Int)}{lev:Int}{l:List qf}(hc:∀c∈l,zq c):∀(k:Nat){out:List qd},out.length<=301->(∀a∈out,qD a)->(u9 q lev l k out).length<=301/\∀a∈u9 q lev l k out,qD a
 |0,_,h1,h2=>⟨h1,h2⟩
 |k+1,out,h1,h2=>by
  unfold u9
  split
  ·split
   ·exact qfJ hc h1 h2
   ·obtain⟨g1,g2⟩:=qfJ (q:=q) (lev:=lev) hc h1 h2
    exact qoi hc k g1 g2
  ·exact⟨h1,h2⟩
structure NNRb where
 k:Nat
 bf:Int
 n:Nat
 out:List qd
section
variable{S:List qv}{owS:Own}{q:List (PK×Int)}{l:List qf}{ob:List (Nat×qc)}{s6:Nat}
theorem qtE(hI:RmIn S owS q l ob s6)(lev:Nat)(out:List qd)(hog:∀a∈out,qD a)(hol:out.length<=301)(m:Nat)(v4:LV){KX:XP}
  (hk:∀n' z10 z42 z43 z44 z45 z46 z47 z48 z49 z50,m<=n'->KX (.exit 4) ((.nd (qz l) (.nd .bot (.nd .bot (.nd (.sl ((u9 q lev l 302 out).map qg) .no) (.nd .bot .nil (.nd (z47) .nil .nil)) .nil) (.nd .bot .nil (.nd .bot (.nd (z43) .nil .nil) .nil))) (.nd .bot (.nd (.int lev) (.nd .bot .nil (.nd (z49) .nil .nil)) .nil) (.nd .bot .nil (.nd .bot (.nd (z45) .nil .nil) .nil)))) (.nd .bot (.nd (v4) (.nd .bot (.nd .bot .nil (.nd (z48) .nil .nil)) .nil) (.nd .bot .nil (.nd .bot (.nd (z44) .nil .nil) .nil))) (.nd (.ptr s6 0) (.nd (z10) (.nd .bot .nil (.nd (z50) .nil .nil)) (.nd .bot (.nd (z42) .nil .nil) .nil)) (.nd .bot .nil (.nd .bot (.nd (z46) .nil .nil) .nil)))))) ⟨ob,n'⟩):
  lP E0 F0 qoe ((.nd (qz l) (.nd .bot (.nd .bot (.nd (.sl (out.map qg) .no) .nil .nil) .nil) (.nd .bot (.nd (.int lev) .nil .nil) .nil)) (.nd .bot (.nd (v4) .nil .nil) (.nd (.ptr s6 0) (.nd (.int (-1)) .nil .nil) .nil)))) ⟨ob,m⟩ KX:=by
 obtain⟨A,hA⟩:∃A,u9 q lev l 302 out=A:=⟨_,rfl⟩
 rw[hA]at hk
 refine qB (σ:=NNRb) (fun p=>(.nd (qz l) (.nd .bot (.nd .bot (.nd (.sl (p.out.map qg) .no) .nil .nil) .nil) (.nd .bot (.nd (.int lev) .nil .nil) .nil)) (.nd .bot (.nd (v4) .nil .nil) (.nd (.ptr s6 0) (.nd (.int p.bf) .nil .nil) .nil)))) (fun p=>⟨ob,p.n⟩) (fun p=>p.k)
  (fun p=>m<=p.n/\(∀a∈p.out,qD a)/\p.out.length<=301/\((p.k=0/\p.bf=(p.out.length:Int)/\p.out=A)\/(0<p.k/\p.bf≠(p.out.length:Int)/\u9 q lev l p.k p.out=A/\302<=p.k+p.out.length)))
  ⟨302,-1,m,out⟩ ⟨Nat.le_refl _,hog,hol,.inr ⟨by dsimp only;omega,by dsimp only;omega,hA,by dsimp only;omega⟩⟩ (by simp[FT.Le,Wk]) ⟨HWk.refl _,fun h=>h⟩ ?_
 rintro⟨k,bf,n,o⟩ ⟨hn,hg,hl,hcase⟩ hok
 dsimp only at hn hg hl hcase hok
 have hll:=hI.hl
 rcases hcase with⟨rfl,rfl,rfl⟩|⟨hk0,hbf,hlv,hfu⟩
 ·simp(disch:=omega)
  exact hk n _ _ _ _ _ _ _ _ _ _ hn
 obtain⟨k',rfl⟩:∃k',k=k'+1:=⟨k - 1,by omega⟩
 simp only[u9]at hlv
 by_cases h300:o.length<=300
 case neg=>
  rw[if_neg h300]at hlv
  subst hlv
  have h300':¬(o.length:Int)<=300:=by omega
  simp(disch:=omega)[hbf,h300']
  exact hk n _ _ _ _ _ _ _ _ _ _ hn
 rw[if_pos h300]at hlv
 have h300':(o.length:Int)<=300:=by omega
 simp(disch:=omega)[hbf,h300']
 refine vA (t':=(.nd (qz l) (.nd .bot (.nd .bot (.nd (.sl (o.map qg) .no) .nil .nil) (.nd (.int 0) .nil .nil)) (.nd .bot (.nd (.int lev) .nil .nil) .nil)) (.nd .bot (.nd (v4) .nil .nil) (.nd (.ptr s6 0) (.nd (.int o.length) .nil .nil) .nil)))) (fun l h=>by cases h) (by simp[FT.Le,Wk]) (HWk.refl _) (fun h=>h) ?_
 refine qtC hI lev o hg hl n _ _ fun n2 hn2=>?_
 obtain⟨g1,g2⟩:=qfJ (q:=q) (lev:=lev) hI.hc hl hg
 have g3:=qfK q lev l o
 obtain⟨o2,ho2⟩:∃o2,ji q lev l o=o2:=⟨_,rfl⟩
 rw[ho2]at hlv g1 g2 g3 ⊢
 simp(disch:=omega)
 by_cases he:o2.length=o.length
 ·rw[if_pos he]at hlv
  exact⟨⟨0,o.length,n2,o2⟩,by dsimp only;omega,⟨by dsimp only;omega,g2,g1,.inl ⟨rfl,by dsimp only;rw[he],hlv⟩⟩,by simp[FT.Le,Wk],HWk.refl _,fun h=>h⟩
 ·rw[if_neg he]at hlv
  by_cases h3:o2.length<=300
  ·exact⟨⟨k',o.length,n2,o2⟩,by dsimp only;omega,⟨by dsimp only;omega,g2,g1,.inr ⟨by dsimp only;omega,by dsimp only;omega,hlv,by dsimp only;omega⟩⟩,by simp[FT.Le,Wk],HWk.refl _,fun h=>h⟩
  ·exact⟨⟨k',o.length,n2,o2⟩,by dsimp only;omega,⟨by dsimp only;omega,g2,g1,.inr ⟨by dsimp only;omega,by dsimp only;omega,hlv,by dsimp only;omega⟩⟩,by simp[FT.Le,Wk],HWk.refl _,fun h=>h⟩
theorem qtq(hI:RmIn S owS q l ob s6)(out:List qd)(hog:∀a∈out,qD a)(hol:out.length<=301)(m:Nat)(v4:LV){KX:XP}
  (hk:∀n' z9 z35 z36 z37 z38 z39,m<=n'->KX (.exit 2) ((.nd (qz l) (.nd .bot (.nd .bot (.nd (.sl ((qaD q l (S.length+1) 0 out).map qg) .no) .nil (.nd .bot (.nd (z39) .nil .nil) .nil)) (.nd .bot (.nd .bot (.nd (z35) .nil .nil) .nil) .nil)) (.nd .bot (.nd (z9) .nil .nil) (.nd .bot (.nd .bot (.nd (z37) .nil .nil) .nil) .nil))) (.nd .bot (.nd (v4) .nil (.nd .bot (.nd .bot (.nd (z36) .nil .nil) .nil) .nil)) (.nd (.ptr s6 0) .nil (.nd .bot (.nd .bot (.nd (z38) .nil .nil) .nil) .nil))))) ⟨ob,n'⟩):
  lP E0 F0 qod ((.nd (qz l) (.nd .bot (.nd .bot (.nd (.sl (out.map qg) .no) .nil .nil) .nil) (.nd .bot (.nd (.int 0) .nil .nil) .nil)) (.nd .bot (.nd (v4) .nil .nil) (.nd (.ptr s6 0) .nil .nil)))) ⟨ob,m⟩ KX:=by
 obtain⟨A,hA⟩:∃A,qaD q l (S.length+1) 0 out=A:=⟨_,rfl⟩
 rw[hA]at hk
 refine qB (σ:=NNRm) (fun p=>(.nd (qz l) (.nd .bot (.nd .bot (.nd (.sl (p.out.map qg) .no) .nil .nil) .nil) (.nd .bot (.nd (.int p.i) .nil .nil) .nil)) (.nd .bot (.nd (v4) .nil .nil) (.nd (.ptr s6 0) .nil .nil)))) (fun p=>⟨ob,p.n⟩) (fun p=>S.length+1 - p.i)
  (fun p=>m<=p.n/\p.i<=S.length+1/\qaD q l (S.length+1 - p.i) p.i p.out=A/\(∀a∈p.out,qD a)/\p.out.length<=301) ⟨0,m,out⟩ ⟨Nat.le_refl _,Nat.zero_le _,hA,hog,hol⟩ (by simp[FT.Le,Wk]) ⟨HWk.refl _,fun h=>h⟩ ?_
 rintro⟨i,n,o⟩ ⟨hn,hi,hf,hg,hl⟩ hok
 dsimp only at hn hi hf hg hl hok
 have hc6:=hI.c6
 have hSl:=hI.hS
 by_cases hlt:i<=S.length
 case neg=>
  rw[show S.length+1 - i=0 by omega]at hf
  have hA2:o=A:=hf
  subst hA2
  simp(disch:=omega)[hc6,hlt]
  exact hk n _ _ _ _ _ _ hn
 obtain⟨d,hd⟩:∃d,S.length+1 - i=d+1:=⟨S.length - i,by omega⟩
 rw[hd]at hf
 simp only[qaD]at hf
 simp(disch:=omega)[hc6,hlt]
 refine vA (t':=(.nd (qz l) (.nd .bot (.nd .bot (.nd (.sl (o.map qg) .no) .nil .nil) .nil) (.nd .bot (.nd (.int i) .nil .nil) .nil)) (.nd .bot (.nd (v4) .nil .nil) (.nd (.ptr s6 0) (.nd (.int (-1)) .nil .nil) .nil)))) (fun l h=>by cases h) (by simp[FT.Le,Wk]) (HWk.refl _) (fun h=>h) ?_
 refine qtE hI i o hg hl n _ fun n2 z10 z42 z43 z44 z45 z46 z47 z48 z49 z50 hn2=>?_
 obtain⟨g1,g2⟩:=qoi (q:=q) (lev:=i) hI.hc 302 hl hg
 simp(disch:=omega)[qk (show i<2^62 by omega)]
 exact⟨⟨i+1,n2,u9 q i l 302 o⟩,by dsimp only;omega,⟨by dsimp only;omega,by dsimp only;omega,by dsimp only;rw[show S.length+1 - (i+1)=d by omega];exact hf,g2,g1⟩,by simp[FT.Le,Wk],HWk.refl _,fun h=>h⟩
end
theorem qpT:∀(base out:List qd),(base.foldl zx out).length<=out.length+base.length/\∀x∈base.foldl zx out,x∈out\/x∈base
 |[],out=>⟨by simp,fun x hx=>.inl hx⟩
 |a::r,out=>by
  obtain⟨h1,h2⟩:=qpT r (zx out a)
  have hp:=qfM out a
  rw[List.foldl_cons,List.length_cons]
  refine⟨by omega,fun x hx=>?_⟩
  rcases h2 x hx with h|h
  ·rcases qey h with h|h
   ·exact .inl h
   ·exact .inr (by rw[h];exact List.mem_cons_self)
  ·exact .inr (List.mem_cons_of_mem _ h)
def vO(l:List qf)(base:List qd):Int:=if zb l (zH l) base≠0 then zb l (zH l) base else match zH l with
 |none=>81
 |some q=>if 300<(qbx q l base).length then 2 else 0
def wt(l:List qf)(base:List qd):List qd:=if vO l base≠0 then [] else match zH l with
 |none=>[]
 |some q=>qbx q l base
theorem qtG(l:List qf)(hl:qcJ l)(h3:(qQ l).1=0->∀c∈l,(qJ c.body).length<=3)(base:List qd)(ow:Own)(hb:base.length<2^63)(hok:base.length<=100->∀a∈base,a.ok)
  (hfind:(qQ l).1=0->∀q,zH l=some q->∀c∈l,ofA c.head∈qA q) (H:qa) {kv kp:HP} (hk:∀n,H.next<=n->kv (.agg [.sl ((wt l base).map qg) .no,.int (vO l base)]) ⟨H.objs,n⟩):
  cP E0 F0 11 [qz l,.sl (base.map qg) ow] H kv kp:=by
 refine qdZ c11 fun hH=>⟨Nat.le_of_ble_eq_true rfl,?_⟩
 obtain⟨owS,hS⟩:=qmL l hl
 obtain⟨N0,hN0⟩:∃N0,H.next=N0:=⟨_,rfl⟩
 obtain⟨ob,nx⟩:=H
 dsimp only at hN0 hk
 subst hN0
 have fin:∀(v:LV)(ob':List (Nat×qc))(m:Nat),nx<=m->(∀i,i<nx->look i ob'=look i ob)->Wk v (.agg [.sl ((wt l base).map qg) .no,.int (vO l base)])->∃v',Wk v v'/\∃H'',HWk ⟨ob',m⟩ H''/\(qa.Ok ⟨ob',m⟩->H''.Ok)/\kv v' H'':=fun v ob' m hm hold hw=>⟨_,hw,⟨ob,m⟩,qbC hH hold (Nat.le_refl _),fun _=>qx.mono hH hm,hk m hm⟩
 have hgv:=qmS l hl base ow hb hok
 simp(disch:=omega)[b11]
 refine hgv.go fun n1 hn1=>?_
 obtain⟨e,he0⟩:∃e,zb l (zH l) base=e:=⟨_,rfl⟩
 rw[he0]
 by_cases he:e=0
 case neg=>
  have eE:vO l base=e:=by unfold vO;rw[he0,if_pos he]
  have eL:wt l base=[]:=by unfold wt;rw[eE,if_pos he]
  rw[eE,eL]at fin
  simp(disch:=omega)[he,zU]
  exact fin _ _ _ (by omega) (fun i hi=>qe (by omega) _ _) (.inr (.inl rfl))
 subst he
 have hbz:=qrM l base
 have hc0:(qQ l).1=0:=by
  unfold zb at he0
  by_cases h:(qQ l).1=0
  ·exact h
  ·rw[if_pos h]at he0;exact he0
 obtain⟨q,hq⟩:∃q,zH l=some q:=by
  cases h:zH l with
  |none=>
   unfold zb at he0
   rw[if_neg (by omega),if_pos h]at he0
   cases he0
  |some q=>exact⟨q,rfl⟩
 have hSl:qdB l (zH l)=qP q:=by unfold qdB;rw[if_neg (by omega),hq];rfl
 have hSe:qbw l (zH l)=0:=by unfold qbw;rw[if_neg (by omega),if_neg (by rw[hq];simp)]
 rw[hSl,hSe]at hS
 have h100:base.length<=100:=by
  unfold zb at he0
  rw[if_neg (by omega),if_neg (by rw[hq];simp)]at he0
  by_cases h:100<base.length
  ·rw[if_pos h]at he0;cases he0
  ·omega
 have hall:base.all zr=true:=by
  unfold zb at he0
  rw[if_neg (by omega),if_neg (by rw[hq];simp),if_neg (by omega)]at he0
  cases h:base.all zr with
  |true=>rfl
  |false=>rw[h]at he0;simp at he0
 have hbg:∀a∈base,qD a:=fun a ha=>qec.1 (List.all_eq_true.1 hall a ha)
 simp(disch:=omega)
 refine hS.go fun n2 hn2=>?_
 simp(disch:=omega)
 obtain⟨S,hSS⟩:∃S,qP q=S:=⟨_,rfl⟩
 have hSlen:S.length=q.length:=by rw[<-hSS,qbr]
 rw[hSS]at hS ⊢
 obtain⟨obC,hobC⟩:∃obC,(n2,qc.cells [.sl (S.map qH) owS,.int 0])::(nx,.cells [Nl,Z 0])::ob=obC:=⟨_,rfl⟩
 have hold:∀i,i<nx->look i obC=look i ob:=fun i hi=>by rw[<-hobC,qe (by omega),qe (by omega)]
 have hc4:look nx obC=some (.cells [Nl,Z 0]):=by rw[<-hobC,qe (by omega)];exact qq _ _ _
 have hgl:=qil hc0
 have hpo:=qhD l
 have hql:q.length<2^40:=by
  have h1:=(qol hc0 hq).len
  omega
 have hI:RmIn S owS q l obC n2:=by
  refine⟨(qfg hc0).1,qdg hc0,h3 hc0,by omega,fun c hc=>?_,by rw[<-hobC];exact qq _ _ _⟩
  have hk:=hfind hc0 q hq c hc
  obtain⟨f1,f2,f3,_⟩:=qdL hk
  refine⟨uw (ofA c.head) q,⟨(ofA c.head).1,(ofA c.head).2,qo q (ofA c.head)⟩,by rw[<-hSS,f2];omega,?_,rfl⟩
  rw[<-hSS]
  unfold qP
  rw[List.getElem?_map,f3]
  rfl
 rw[hobC]
 obtain⟨out0,ho0⟩:∃out0,base.foldl zx []=out0:=⟨_,rfl⟩
 have hout0:=qpT base []
 rw[ho0]at hout0
 refine qB (σ:=NNRm) (fun p=>(.nd (qz l) (.nd (.sl (base.map qg) ow) (.nd .bot (.nd (.sl (p.out.map qg) .no) .nil .nil) .nil) .nil) (.nd .bot (.nd (.ptr nx 0) (.nd (.int p.i) .nil .nil) .nil) (.nd (.ptr n2 0) .nil .nil)))) (fun p=>⟨obC,p.n⟩) (fun p=>base.length - p.i)
  (fun p=>n2+1<=p.n/\p.i<=base.length/\(base.drop p.i).foldl zx p.out=out0/\(∀a∈p.out,qD a)/\p.out.length<=p.i) ⟨0,n2+1,[]⟩ ⟨Nat.le_refl _,Nat.zero_le _,ho0,(fun a ha=>by cases ha),Nat.le_refl _⟩ (by simp[FT.Le,Wk,LV.strip,stripL]) ⟨HWk.refl _,fun h=>h⟩ ?_
 rintro⟨i,n3,o⟩ ⟨hn3,hi,hf,hg,hlen⟩ hok3
 dsimp only at hn3 hi hf hg hlen hok3
 by_cases hlt:i<base.length
 case pos=>
  rw[List.drop_eq_getElem_cons hlt,List.foldl_cons]at hf
  have hbi:=hbg _ (List.getElem_mem hlt)
  simp(disch:=omega)[hlt]
  refine qmN o .no base[i] (by omega) (fun x hx=>jo (hg x hx).1) (jo hbi.1) _ fun n4 hn4=>?_
  dsimp only at hn4
  have hpl:=qfM o base[i]
  simp(disch:=omega)[qk (show i<2^62 by omega)]
  exact⟨⟨i+1,n4,zx o base[i]⟩,by dsimp only;omega,⟨by dsimp only;omega,by dsimp only;omega,hf,fun a ha=>by
   rcases qey ha with h|h
   ·exact hg a h
   ·rw[h];exact hbi,by dsimp only;omega⟩,by simp[FT.Le,Wk],HWk.refl _,fun h=>h⟩
 obtain rfl:i=base.length:=by omega
 rw[List.drop_eq_nil_of_le (Nat.le_refl _)]at hf
 have ho2:o=out0:=hf
 subst ho2
 simp(disch:=omega)
 refine vA (t':=(.nd (qz l) (.nd .bot (.nd .bot (.nd (.sl (o.map qg) .no) .nil .nil) .nil) (.nd .bot (.nd (.int 0) .nil .nil) .nil)) (.nd .bot (.nd (.ptr nx 0) .nil .nil) (.nd (.ptr n2 0) .nil .nil)))) (fun l h=>by cases h) (by simp[FT.Le,Wk]) (HWk.refl _) (fun h=>h) ?_
 refine qtq hI o hg (by omega) n3 _ fun n4 z9 z35 z36 z37 z38 z39 hn4=>?_
 obtain⟨M,hM⟩:∃M,qaD q l (S.length+1) 0 o=M:=⟨_,rfl⟩
 have hMr:qbx q l base=M:=by unfold qbx;rw[ho0,<-hSlen];exact hM
 rw[hM]
 by_cases h300:300<M.length
 ·have h300':(300:Int)<(M.length:Int):=by omega
  have eE:vO l base=2:=by
   unfold vO
   rw[he0,if_neg (by simp),hq]
   simp only
   rw[hMr,if_pos h300]
  have eL:wt l base=[]:=by unfold wt;rw[eE,if_pos (by decide)]
  rw[eE,eL]at fin
  simp(disch:=omega)[h300',hc4,zU]
  rw[jl hc4]
  simp(disch:=omega)
  exact fin _ _ _ (by omega) (fun i hi=>by rw[vR (by omega)];exact hold i hi) (.inr (.inl rfl))
 ·have h300':¬(300:Int)<(M.length:Int):=by omega
  have eE:vO l base=0:=by
   unfold vO
   rw[he0,if_neg (by simp),hq]
   simp only
   rw[hMr,if_neg h300]
  have eL:wt l base=M:=by unfold wt;rw[eE,if_neg (by simp),hq];exact hMr
  rw[eE,eL]at fin
  simp(disch:=omega)[h300',hc4,zU]
  rw[jl hc4]
  simp(disch:=omega)
  exact fin _ _ _ (by omega) (fun i hi=>by rw[vR (by omega)];exact hold i hi) (.inl rfl)
end Go.Abs.Tz
namespace Go.Abs.Tz
open Go Go.Abs Go.Proofs
structure Meet(l:List qf)(R:Option (List (PK×Int)))(base:List qd):Prop where
 err:ua l R base=vO l base
 row:ua l R base=0->∀B,qAa (vX l R base) B->B=wt l base
 has:ua l R base=0->∀a,qI a=true->qF (qt a) (vX l R base)=yA (wt l base) a
 good:∀a∈wt l base,qD a
 len:(wt l base).length<=300
theorem qlI{l:List qf}{R:Option (List (PK×Int))}{base:List qd}(h:(R=none↔zH l=none)\/(qQ l).1≠0):zb l R base=zb l (zH l) base:=by
 unfold zb
 by_cases hc:(qQ l).1≠0
 ·rw[if_pos hc,if_pos hc]
 ·rw[if_neg hc,if_neg hc]
  rcases h with h|h
  ·by_cases hR:R=none
   ·rw[if_pos hR,if_pos (h.1 hR)]
   ·rw[if_neg hR,if_neg (fun e=>hR (h.2 e))]
  ·exact absurd h hc
theorem qgJ{l:List qf}{R:Option (List (PK×Int))}{base:List qd}(h:zb l R base=0):(qQ l).1=0/\R≠none/\base.length<=100/\∀a∈base,qD a:=by
 unfold zb at h
 by_cases hc:(qQ l).1≠0
 ·rw[if_pos hc]at h;exact absurd h hc
 rw[if_neg hc]at h
 by_cases hR:R=none
 ·rw[if_pos hR]at h;cases h
 rw[if_neg hR]at h
 by_cases h1:100<base.length
 ·rw[if_pos h1]at h;cases h
 rw[if_neg h1]at h
 cases h2:base.all zr with
 |false=>rw[h2]at h;simp at h
 |true=>exact⟨by omega,hR,by omega,fun a ha=>qec.1 (List.all_eq_true.1 h2 a ha)⟩
theorem qhT{l:List qf}{R:Option (List (PK×Int))}{base:List qd}(h:ua l R base=vO l base)(hz:ua l R base≠0):Meet l R base:=by
 have e:wt l base=[]:=by unfold wt;rw[<-h,if_pos hz]
 exact⟨h,fun k=>absurd k hz,fun k=>absurd k hz,fun a ha=>(by rw[e]at ha;cases ha),by rw[e];simp⟩
theorem qwG(l:List qf)(base:List qd):∃fuel R,((qQ l).1=0->jm l fuel (l.foldl jc [])=some R)/\((qQ l).1=0->∀m,R=some m->0<=ub 0 (m.map (·.2))/\ub 0 (m.map (·.2))<=2^30)/\Meet l R base:=by
 by_cases hc:(qQ l).1=0
 case neg=>
  refine⟨0,none,fun h=>absurd h hc,fun h=>absurd h hc,?_⟩
  have e1:∀R:Option (List (PK×Int)),zb l R base=(qQ l).1:=fun R=>by unfold zb;rw[if_pos hc]
  have e2:ua l none base=(qQ l).1:=by unfold ua;rw[e1,if_pos hc]
  have e3:vO l base=(qQ l).1:=by unfold vO;rw[e1,if_pos hc]
  exact qhT (by rw[e2,e3]) (by rw[e2];exact hc)
 obtain⟨fuel,R,hR,h⟩:=qia l hc
 refine⟨fuel,R,fun _=>hR,fun _ m hm=>?_,?_⟩
 ·rcases h with⟨h,_⟩|⟨m',q,h1,_,h3,_⟩
  ·rw[h]at hm;cases hm
  ·rw[h1]at hm;cases hm
   have:=h3.max
   omega
 rcases h with⟨h1,h2⟩|⟨m,q,h1,h2,h3,h4,h5⟩
 ·have eb:zb l R base=zb l (zH l) base:=by rw[h1,h2]
  have e:ua l R base=vO l base:=by
   unfold ua vO
   rw[eb,h1,h2]
  refine qhT e ?_
  unfold ua
  by_cases hb:zb l R base≠0
  ·rw[if_pos hb];exact hb
  ·rw[if_neg hb,h1]
   show (81:Int)≠0
   decide
 ·have eb:zb l R base=zb l (zH l) base:=qlI (.inl ⟨fun e=>(by rw[h1]at e;cases e),fun e=>(by rw[h2]at e;cases e)⟩)
  by_cases hb:zb l R base≠0
  ·have e1:ua l R base=zb l R base:=by unfold ua;rw[if_pos hb]
   have e2:vO l base=zb l (zH l) base:=by unfold vO;rw[<-eb,if_pos hb]
   exact qhT (by rw[e1,e2,eb]) (by rw[e1];exact hb)
  have hb0:zb l R base=0:=by omega
  obtain⟨_,_,hbl,hbg⟩:=qgJ hb0
  have hS:=qwA h3 h4 (qdg hc) h5 hbg (by omega)
  have e2:vO l base=if 300<(qbx q l base).length then 2 else 0:=by
   unfold vO
   rw[<-eb,if_neg hb,h2]
  have e1:ua l R base=if (qar m l base).isNone then 2 else 0:=by
   unfold ua
   rw[if_neg hb,h1]
  cases hd:qar m l base with
  |none=>
   rw[hd]at hS e1
   have hS:300<(qbx q l base).length:=hS
   rw[if_pos hS]at e2
   have e1:ua l R base=2:=e1
   exact qhT (by rw[e1,e2]) (by rw[e1];decide)
  |some F=>
   rw[hd]at hS e1
   obtain⟨k1,k2,k3,k4,k5,k6⟩:=hS
   rw[if_neg (by omega)]at e2
   have e1:ua l R base=0:=e1
   have eF:vX l R base=F:=by unfold vX;rw[h1];simp[hd]
   have eL:wt l base=qbx q l base:=by
    unfold wt
    rw[e2,if_neg (by simp),h2]
   have hFo:∀s∈F,qI s.atom=true:=fun s hs=>(k5 _ ((k6 _).1 (List.mem_map.2 ⟨s,hs,rfl⟩))).1
   refine⟨by rw[e1,e2],fun _ B hB=>?_,fun _ a ha=>?_,fun a ha=>?_,by rw[eL];exact k2⟩
   ·rw[eF]at hB
    rw[eL]
    obtain⟨b1,b2⟩:=hB
    refine qkl (le:=fun x y=>¬zk y x<0) (b1.trans ((List.perm_ext_iff_of_nodup k3.nodup k4.nodup).2 k6)) b2 (List.Pairwise.imp (fun{x y} h=>?_) k4) fun a _ b _ h1 h2=>?_
    ·rw[qbI.anti x y];omega
    ·rw[qbI.anti a b]at h1
     exact qbI.zero.1 (by omega)
   ·rw[eF,eL]
    have h1:qF (qt a) F=true↔yA (qbx q l base) a=true:=by
     rw[qcC hFo ha,qfH,qij]
     exact k6 a
    cases h:qF (qt a) F
    ·cases h':yA (qbx q l base) a
     ·rfl
     ·rw[h1.2 h']at h;cases h
    ·rw[h1.1 h]
   ·rw[eL]at ha
    exact k5 a ha
end Go.Abs.Tz
namespace Go.Abs.Tz
open Go Go.Abs Go.Proofs
set_option maxRecDepth 20000
set_option linter.unusedSimpArgs false
attribute [local simp ↓] yC yB jT jS yf uO zu zG jR uB vl vm yD yF yG yE jY j6 j9 jZ ga gc j7 j8 j0 jW jU jX jV vj vh vk vi yy yw yz yx yK yI yJ jj z8 ge zw zU yi vn vo yN yP yO yL yM yZ gh gq gv gp gt gu g7 g6 gC gE jB jy jM jP jz jH jL jK jJ jI jF ju jv jw jx jN jD jE jq jO jQ jA jC jG jr gI gD gY ya gF gS gW gV gU gT gO gz g0 gM gN gw g9 yb gG gK gQ gx yd g8 gy yc gL gH gJ gA gZ gi gk gj yT yW yS yU yV qq uG
attribute [local simp] faL fdL iaL ixL qS zm ze eqK eqL qX zE uA yQ vg y5 y7 y9 vc ve vf y6 vb y8 vd zM LV.cells LV.whole qq uQ gg gf stL zN ui uI qa.alloc yg ye yh yu yt yr yq yp yo yn ym yk yj qe uD
structure RIn(l:List qf)(base:List qd):Prop where
 hl:qcJ l
 h3:(qQ l).1=0->∀c∈l,(qJ c.body).length<=3
 hb:base.length<2^63
 hok:base.length<=100->∀a∈base,a.ok
theorem qmW{l:List qf}{base:List qd}(hI:RIn l base)(ow:Own)(H:qa){kv kp:HP}(hk:∀n,H.next<=n->kv (.agg [.sl ((wt l base).map qg) .no,.int (vO l base)]) ⟨H.objs,n⟩):
  cP E0 F0 11 [qz l,.sl (base.map qg) ow] H kv kp:=
 qtG l hI.hl hI.h3 base ow hI.hb hI.hok (fun hc q hq c hcl=>(qol hc hq).has c hcl _ (by simp[vx])) H hk
end Go.Abs.Tz
