/- Part of the proof that the law CustomModelIsRight returns true for every input. Conditions: none. -/
import Derived.Test.YtghfbggphgpjgaaGreatDoorPartX
import Derived.Test.YtghfbggphgpjgaaGreatDoorPartG
import Derived.WalkKit
import Derived.RegionTactic
import Derived.Deep.RegionWith
import Derived.LoopN
import Derived.StillTailTactics
import Derived.Deep.LoopGhost
import Derived.Test.YtghfbggphgpjgaaGreatDoorPartD
import Derived.Test.YtghfbggphgpjgaaGreatDoorPartI
import Derived.Test.YtghfbggphgpjgaaGreatDoorPartW
import Derived.Test.YtghfbggphgpjgaaGreatDoorPartV
import Derived.Test.YtghfbggphgpjgaaGreatDoorPartT
import Derived.Test.YtghfbggphgpjgaaGreatDoorRunz
import Derived.Test.YtghfbggphgpjgaaGreatDoorRows
import Derived.ProofKit
import Derived.Deep.Slices
import Derived.Deep.Strs
import Derived.Lib.LaidTab
import Derived.LaidSub
namespace Go.Proofs
open Go Go.Shelf Go.RowKit Go.Lib Go.Sort
set_option maxHeartbeats 1000000
set_option maxRecDepth 100000
theorem Tz.nanS(s:ByteArray)(w:World):Calls Tryz.prog 97 #[.string s] w fun e w'=>e=.returned (.bool false)/\w'=w:=by
 go_enter Tryz.func97,Tryz.ntmps97
 go_wp2
 go_ret
 exact⟨rfl,rfl⟩
theorem Tz.nanI(s:Int)(w:World):Calls Tryz.prog 98 #[.int .i64 s] w fun e w'=>e=.returned (.bool false)/\w'=w:=by
 go_enter Tryz.func98,Tryz.ntmps98
 go_wp2
 go_ret
 exact⟨rfl,rfl⟩
theorem Tz.cmpS(s t:ByteArray)(w:World):Calls Tryz.prog 53 #[.string s,.string t] w fun e w'=>e=.returned (.int .i64 (Go.Abs.Tz.cmpB s t))/\w'=w:=by
 have hs:=Tz.nanS s
 have ht:=Tz.nanS t
 have hg:∀w:World,(binOp .gtr 9 (.string s) (.string t)).run Tryz.prog w=.ok (.bool (!(Op.bytesLess s.toList t.toList||s.toList==t.toList))) w:=fun w=>rfl
 go_enter Tryz.func53,Tryz.ntmps53
 go_wp2_with (go_at_call 97;first|(refine(hs _).mono ?_;rintro e w' ⟨rfl,rfl⟩)|(refine(ht _).mono ?_;rintro e w' ⟨rfl,rfl⟩))
 ·rename_i h
  go_ret
  exact⟨by simp[Go.Abs.Tz.cmpB,Go.Abs.Tz.lessB,h],rfl⟩
 ·rename_i h _ _ h2
  have h2':(s.toList==t.toList)=false:=by simpa using h2
  go_ret
  exact⟨by simp[Go.Abs.Tz.cmpB,Go.Abs.Tz.lessB,Go.Abs.Tz.eqBA,h,h2'],rfl⟩
 ·rename_i h h2
  have h2':(s.toList==t.toList)=true:=by simpa using h2
  go_ret
  exact⟨by simp[Go.Abs.Tz.cmpB,Go.Abs.Tz.lessB,Go.Abs.Tz.eqBA,h,h2'],rfl⟩
theorem Tz.cmpI(s t:Int)(w:World):Calls Tryz.prog 54 #[.int .i64 s,.int .i64 t] w fun e w'=>e=.returned (.int .i64 (Go.Abs.Tz.cmpI s t))/\w'=w:=by
 have hs:=Tz.nanI s
 have ht:=Tz.nanI t
 go_enter Tryz.func54,Tryz.ntmps54
 go_wp2_with (go_at_call 98;first|(refine(hs _).mono ?_;rintro e w' ⟨rfl,rfl⟩)|(refine(ht _).mono ?_;rintro e w' ⟨rfl,rfl⟩))
 ·rename_i h
  go_ret
  exact⟨by simp[Go.Abs.Tz.cmpI,h],rfl⟩
 ·rename_i h1 _ _ h2
  go_ret
  exact⟨by simp[Go.Abs.Tz.cmpI,h2,show ¬s<t by omega],rfl⟩
 ·rename_i h1 h2
  go_ret
  exact⟨by simp[Go.Abs.Tz.cmpI,show ¬s<t by omega,show ¬t<s by omega],rfl⟩
theorem Tz.cell_new1(W:World)(b:Obj)(cs:Array Value)(t:TypeId)(i:Nat):((W.alloc (.cells cs t)).alloc b).cell? ⟨W.heap.size,i,none⟩=cs[i]?:=by
 have h:((W.alloc (.cells cs t)).alloc b).heap[W.heap.size]? = some (.cells cs t):=by
  show ((W.heap.push (.cells cs t)).push b)[W.heap.size]? = _
  rw[Array.getElem?_push_lt (by simp)]
  simp
 unfold World.cell?
 rw[h]
 rfl
theorem Tz.cell_new2(W:World)(a:Obj)(cs:Array Value)(t:TypeId)(i:Nat):((W.alloc a).alloc (.cells cs t)).cell? ⟨W.heap.size+1,i,none⟩=cs[i]?:=by
 have h:((W.alloc a).alloc (.cells cs t)).heap[W.heap.size+1]? = some (.cells cs t):=by
  have h2:(W.alloc a).heap.size=W.heap.size+1:=by
   show (W.heap.push a).size=_
   simp
  rw[<-h2]
  exact Go.Abs.heap_alloc_new
 unfold World.cell?
 rw[h]
 rfl
theorem Tz.cell_new0(W:World)(cs:Array Value)(t:TypeId)(i:Nat):(W.alloc (.cells cs t)).cell? ⟨W.heap.size,i,none⟩=cs[i]?:=by
 have h:(W.alloc (.cells cs t)).heap[W.heap.size]? = some (.cells cs t):=Go.Abs.heap_alloc_new
 unfold World.cell?
 rw[h]
 rfl
theorem Tz.fin3b(W:World)(a b c:Obj):((W.alloc a).alloc b).drew.alloc c=grow (W.drewN 1) #[a,b,c]:=by
 rw[alloc_eq_grow,alloc_eq_grow,alloc_eq_grow,grow_grow,drew_grow,grow_grow]
 rfl
theorem Tz.or3(b:Nat)(x y z:Int)(w:World)(h0:w.cell? ⟨b,0,none⟩=some (.int .i64 x))(h1:w.cell? ⟨b,1,none⟩=some (.int .i64 y))(h2:w.cell? ⟨b,2,none⟩=some (.int .i64 z)):Calls Tryz.prog 52 #[.slice (some ⟨b,0,none⟩) 3 3] w fun e w'=>e=.returned (.int .i64 (Go.Abs.Tz.or3 x y z))/\w'=w:=by
 go_enter Tryz.func52,Tryz.ntmps52
 go_wp2
 refine wp_loop_rounds 4 ?_
 rw[rounds_succ]
 by_cases hx:x=0
 ·subst hx
  go_wp2
  rw[rounds_succ]
  by_cases hy:y=0
  ·subst hy
   go_wp2
   rw[rounds_succ]
   by_cases hz:z=0
   ·subst hz
    go_wp2
    rw[rounds_succ]
    go_wp2
    go_ret
    exact⟨rfl,rfl⟩
   ·go_wp2
    go_ret
    exact⟨by simp[Go.Abs.Tz.or3],rfl⟩
  ·go_wp2
   go_ret
   exact⟨by simp[Go.Abs.Tz.or3,hy],rfl⟩
 ·go_wp2
  go_ret
  exact⟨by simp[Go.Abs.Tz.or3,hx],rfl⟩
set_option maxHeartbeats 8000000 in
theorem Tz.cmpT(x y:Go.Abs.Tz.Term)(W:World):Calls Tryz.prog 56 #[.agg #[.int .i64 x.kind,.int .i64 x.n,.string x.s],.agg #[.int .i64 y.kind,.int .i64 y.n,.string y.s]] W fun e w'=>e=.returned (.int .i64 (Go.Abs.Tz.cmpT x y))/\∃q os',w'=grow (W.drewN q) os':=by
 have hk:=Tz.cmpI x.kind y.kind
 have hn:=Tz.cmpI x.n y.n
 have hs:=Tz.cmpS x.s y.s
 have ho:=fun b=>Tz.or3 b (Go.Abs.Tz.cmpI x.kind y.kind) (Go.Abs.Tz.cmpI x.n y.n) (Go.Abs.Tz.cmpB x.s y.s)
 have hr:Go.Abs.Tz.cmpT x y=Go.Abs.Tz.or3 (Go.Abs.Tz.cmpI x.kind y.kind) (Go.Abs.Tz.cmpI x.n y.n) (Go.Abs.Tz.cmpB x.s y.s):=rfl
 rw[hr]
 generalize Go.Abs.Tz.or3 (Go.Abs.Tz.cmpI x.kind y.kind) (Go.Abs.Tz.cmpI x.n y.n) (Go.Abs.Tz.cmpB x.s y.s)=r at ho ⊢
 generalize Go.Abs.Tz.cmpI x.kind y.kind=r1 at hk ho
 generalize Go.Abs.Tz.cmpI x.n y.n=r2 at hn ho
 generalize Go.Abs.Tz.cmpB x.s y.s=r3 at hs ho
 have c1:=fun i=>Tz.cell_new1 W (.cells #[.int .i64 y.kind,.int .i64 y.n,.string y.s] 60) #[.int .i64 x.kind,.int .i64 x.n,.string x.s] 60 i
 have c2:=fun i=>Tz.cell_new2 W (.cells #[.int .i64 x.kind,.int .i64 x.n,.string x.s] 60) #[.int .i64 y.kind,.int .i64 y.n,.string y.s] 60 i
 have d0:=c1 0
 have d1:=c1 1
 have d2:=c1 2
 have e0:=c2 0
 have e1:=c2 1
 have e2:=c2 2
 clear c1 c2
 obtain⟨W2,hW2⟩:∃W2,((W.alloc (.cells #[.int .i64 x.kind,.int .i64 x.n,.string x.s] 60)).alloc (.cells #[.int .i64 y.kind,.int .i64 y.n,.string y.s] 60)).drew=W2:=⟨_,rfl⟩
 change ((W.alloc (.cells #[.int .i64 x.kind,.int .i64 x.n,.string x.s] 60)).alloc (.cells #[.int .i64 y.kind,.int .i64 y.n,.string y.s] 60)).drew.cell? _=_ at d0 d1 d2 e0 e1 e2
 rw[hW2]at d0 d1 d2 e0 e1 e2
 go_enter Tryz.func56,Tryz.ntmps56
 go_wp2
 refine wp_region_still_tail 15 (by kernel_rfl) (by kernel_rfl) ?_
 change wpStill _ _ ((W.alloc (.cells #[.int .i64 x.kind,.int .i64 x.n,.string x.s] 60)).alloc (.cells #[.int .i64 y.kind,.int .i64 y.n,.string y.s] 60)).drew (fun a'=>wpList _ _ _ _ a' ((W.alloc (.cells #[.int .i64 x.kind,.int .i64 x.n,.string x.s] 60)).alloc (.cells #[.int .i64 y.kind,.int .i64 y.n,.string y.s] 60)).drew) _ _
 rw[hW2]
 simp only[List.take_succ_cons,List.take_zero,List.drop_succ_cons,List.drop_zero]
 still_step
 still_step
 still_step
 still_step
 still_call (hk _)
 still_step
 still_step
 still_step
 still_step
 still_call (hn _)
 still_step
 still_step
 still_step
 still_step
 still_call (hs _)
 refine wpStill_nil ?_
 clear d0 d1 d2 e0 e1 e2 hk hn hs
 go_wp2_with (go_at_call 52;refine(ho _ _ (Tz.cell_new0 _ _ _ _) (Tz.cell_new0 _ _ _ _) (Tz.cell_new0 _ _ _ _)).mono ?_;rintro e w' ⟨rfl,rfl⟩)
 go_ret
 refine⟨rfl,1,#[(.cells #[.int .i64 x.kind,.int .i64 x.n,.string x.s] 60),(.cells #[.int .i64 y.kind,.int .i64 y.n,.string y.s] 60),.cells #[.int .i64 r1,.int .i64 r2,.int .i64 r3] 3],?_⟩
 rw[<-hW2]
 exact Tz.fin3b _ _ _ _
end Go.Proofs
namespace Go.Proofs
open Go Go.Shelf Go.RowKit Go.Lib Go.Sort
set_option maxHeartbeats 1000000
set_option maxRecDepth 100000
def Tz.RowIn(W:World)(x:List Go.Abs.Tz.Term)(u:Value):Prop:=∃base cap,u=.slice base x.length cap/\(x=[]\/∃b off,base=some ⟨b,off,none⟩/\b<W.heap.size/\∀i t,x[i]? = some t ->
 W.cell? ⟨b,off+i*3,none⟩=some (.int .i64 t.kind)/\W.cell? ⟨b,off+i*3+1,none⟩=some (.int .i64 t.n)/\W.cell? ⟨b,off+i*3+2,none⟩=some (.string t.s))
set_option maxHeartbeats 8000000 in
theorem Tz.cmpTs(x y:List Go.Abs.Tz.Term)(hx:x.length<2^40)(hy:y.length<2^40)(u v:Value)(W:World)(hu:Tz.RowIn W x u)(hv:Tz.RowIn W y v):
  Calls Tryz.prog 55 #[u,v,.func (.func 56) #[] #[]] W fun e w'=>e=.returned (.int .i64 (Go.Abs.Tz.cmpTs x y))/\∃q os',w'=grow (W.drewN q) os':=by
 obtain⟨bu,cu,rfl,hbu⟩:=hu
 obtain⟨bv,cv,rfl,hbv⟩:=hv
 have hT:=Tz.cmpT
 go_enter Tryz.func55,Tryz.ntmps55
 go_wp2
 go_loopg [13] (x.length+1) (fun k s13 wr=>∃(i:Nat)(q:Nat)(os:Array Obj),s13=.int .i64 i/\i<=x.length/\x.length - i<k/\wr=grow (W.drewN q) os/\Go.Abs.Tz.cmpTs (x.drop i) (y.drop i)=Go.Abs.Tz.cmpTs x y)
 ·exact⟨0,0,#[],rfl,Nat.zero_le _,by omega,by rw[grow_empty];rfl,rfl⟩
 ·obtain⟨i,q,os,rfl,hi,hgk,hw,hrec⟩:=hrel
  have hwA:Aside (wr=grow (W.drewN q) os):=hw
  have hrA:Aside (Go.Abs.Tz.cmpTs (x.drop i) (y.drop i)=Go.Abs.Tz.cmpTs x y):=hrec
  have cg:∀(a:Addr)(v:Value),a.block<W.heap.size->W.cell? a=some v->wr.cell? a=some v:=fun a v hb hc=>by
   rw[hw,cell?_grow _ _ _ (by exact hb)];exact hc
  clear hw hrec
  by_cases hlt:i<x.length
  ·obtain⟨b,off,rfl,hb,hc⟩:∃b off,bu=some ⟨b,off,none⟩/\b<W.heap.size/\∀i t,x[i]? = some t ->
     W.cell? ⟨b,off+i*3,none⟩=some (.int .i64 t.kind)/\W.cell? ⟨b,off+i*3+1,none⟩=some (.int .i64 t.n)/\W.cell? ⟨b,off+i*3+2,none⟩=some (.string t.s):=by
    rcases hbu with h|h
    ·rw[h]at hlt;simp at hlt
    ·exact h
   obtain⟨f0,f1,f2⟩:=hc i x[i] (List.getElem?_eq_getElem hlt)
   have f0:=cg _ _ hb f0
   have f1:=cg _ _ hb f1
   have f2:=cg _ _ hb f2
   clear hc hbu
   have hlt':(i:Int)<(x.length:Int):=by omega
   have hgr:∀(o:Obj),wr.alloc o=grow (W.drewN q) (os++#[o]):=fun o=>by rw[hwA.out,alloc_eq_grow,grow_grow]
   have hgr2:∀(o p:Obj),(wr.alloc o).alloc p=grow (W.drewN q) (os++#[o,p]):=fun o p=>by rw[hgr,alloc_eq_grow,grow_grow,Array.append_assoc];rfl
   have hxd:x.drop i=x[i]::x.drop (i+1):=List.drop_eq_getElem_cons hlt
   by_cases hly:i<y.length
   ·obtain⟨b2,off2,rfl,hb2,hc2⟩:∃b off,bv=some ⟨b,off,none⟩/\b<W.heap.size/\∀i t,y[i]? = some t ->
      W.cell? ⟨b,off+i*3,none⟩=some (.int .i64 t.kind)/\W.cell? ⟨b,off+i*3+1,none⟩=some (.int .i64 t.n)/\W.cell? ⟨b,off+i*3+2,none⟩=some (.string t.s):=by
     rcases hbv with h|h
     ·rw[h]at hly;simp at hly
     ·exact h
    obtain⟨g0,g1,g2⟩:=hc2 i y[i] (List.getElem?_eq_getElem hly)
    have hyd:y.drop i=y[i]::y.drop (i+1):=List.drop_eq_getElem_cons hly
    have hstep:Go.Abs.Tz.cmpTs x y=if Go.Abs.Tz.cmpT x[i] y[i]≠0 then Go.Abs.Tz.cmpT x[i] y[i] else Go.Abs.Tz.cmpTs (x.drop (i+1)) (y.drop (i+1)):=by
     rw[<-hrA.out,hxd,hyd];rfl
    have hsA:Aside (Go.Abs.Tz.cmpTs x y=if Go.Abs.Tz.cmpT x[i] y[i]≠0 then Go.Abs.Tz.cmpT x[i] y[i] else Go.Abs.Tz.cmpTs (x.drop (i+1)) (y.drop (i+1))):=hstep
    have hT2:=hT x[i] y[i]
    have g0:=cg _ _ hb2 g0
    have g1:=cg _ _ hb2 g1
    have g2:=cg _ _ hb2 g2
    have hA1:Aside (∀(o p:Obj),(wr.alloc o).alloc p=grow (W.drewN q) (os++#[o,p])):=hgr2
    have hbw:b<wr.heap.size:=by rw[hwA.out,size_grow];exact Nat.lt_of_lt_of_le hb (Nat.le_add_right _ _)
    have hbw2:b2<wr.heap.size:=by rw[hwA.out,size_grow];exact Nat.lt_of_lt_of_le hb2 (Nat.le_add_right _ _)
    clear hc2 hbv hgr hgr2 hxd hyd hstep hT cg hrA hwA
    have hly':(i:Int)<(y.length:Int):=by omega
    generalize x[i]=xi at *
    generalize y[i]=yi at *
    generalize Go.Abs.Tz.cmpT xi yi=r at *
    by_cases hr:r=0
    ·subst hr
     go_wp2_with (go_at_call 56;refine(hT2 _).mono ?_;rintro e w' ⟨rfl,q',os',rfl⟩)
     go_roundg (x.length - (i+1)+1)
     case rel=>
      refine⟨i+1,q+q',(os++#[.cells #[.int .i64 xi.kind,.int .i64 xi.n,.string xi.s] 60,.cells #[.int .i64 yi.kind,.int .i64 yi.n,.string yi.s] 60])++os',by simp,by omega,by omega,?_,?_⟩
      ·rw[hA1.out]
       show grow (grow ((W.drewN q).drewN q') _) os'=_
       rw[grow_grow,World.drewN_drewN]
      ·rw[hsA.out,if_neg (by simp)]
     case measure=>omega
    ·go_wp2_with (go_at_call 56;refine(hT2 _).mono ?_;rintro e w' ⟨rfl,q',os',rfl⟩)
     go_ret
     refine⟨by rw[hsA.out,if_pos hr];rfl,q+q',(os++#[.cells #[.int .i64 xi.kind,.int .i64 xi.n,.string xi.s] 60,.cells #[.int .i64 yi.kind,.int .i64 yi.n,.string yi.s] 60])++os',?_⟩
     rw[hA1.out]
     show grow (grow ((W.drewN q).drewN q') _) os'=_
     rw[grow_grow,World.drewN_drewN]
   ·have hly':¬(i:Int)<(y.length:Int):=by omega
    have hyd:y.drop i=[]:=List.drop_eq_nil_of_le (by omega)
    have hres:Go.Abs.Tz.cmpTs x y=1:=by
     rw[<-hrA.out,hxd,hyd];rfl
    have hgA:Aside (∀(o:Obj),wr.alloc o=grow (W.drewN q) (os++#[o])):=hgr
    clear cg hbv hyd hxd hgr hgr2 hwA hrA
    generalize x[i]=xi at *
    go_wp2
    go_ret
    exact⟨rfl,q,_,hgA.out _⟩
  ·have hlt':¬(i:Int)<(x.length:Int):=by omega
   have hxd:x.drop i=[]:=List.drop_eq_nil_of_le (by omega)
   obtain rfl:i=x.length:=by omega
   have hres:Go.Abs.Tz.cmpTs x y=if x.length<y.length then -1 else 0:=by
    rw[<-hrA.out,hxd]
    by_cases h:x.length<y.length
    ·rw[if_pos h,List.drop_eq_getElem_cons h];rfl
    ·rw[if_neg h,List.drop_eq_nil_of_le (by omega)];rfl
   have hsA:Aside (Go.Abs.Tz.cmpTs x y=if x.length<y.length then -1 else 0):=hres
   clear cg hbu hbv hxd hrA hres
   go_wp2
   ·rename_i h
    go_ret
    exact⟨by rw[hsA.out,if_pos h];rfl,q,_,hwA.out⟩
   ·rename_i h
    go_ret
    exact⟨by rw[hsA.out,if_neg h];rfl,q,_,hwA.out⟩
end Go.Proofs
namespace Go.Proofs
open Go Go.Shelf Go.RowKit Go.Lib Go.Sort
set_option maxHeartbeats 1000000
set_option maxRecDepth 100000
theorem Tz.RowIn.grow{W:World}{x:List Go.Abs.Tz.Term}{u:Value}(h:Tz.RowIn W x u)(q:Nat)(os:Array Obj):Tz.RowIn (grow (W.drewN q) os) x u:=by
 obtain⟨base,cap,rfl,h⟩:=h
 refine⟨base,cap,rfl,?_⟩
 rcases h with h|⟨b,off,rfl,hb,hc⟩
 ·exact .inl h
 ·refine .inr ⟨b,off,rfl,by rw[size_grow];exact Nat.lt_of_lt_of_le hb (Nat.le_add_right _ _),fun i t ht=>?_⟩
  obtain⟨h0,h1,h2⟩:=hc i t ht
  exact⟨by rw[cell?_grow _ _ _ (by exact hb)];exact h0,by rw[cell?_grow _ _ _ (by exact hb)];exact h1,by rw[cell?_grow _ _ _ (by exact hb)];exact h2⟩
theorem Tz.cell_newE(W:World)(cs:Array Value)(t:TypeId)(i b:Nat)(hb:b=W.heap.size):(W.alloc (.cells cs t)).cell? ⟨b,i,none⟩=cs[i]?:=by
 subst hb
 exact Tz.cell_new0 W cs t i
set_option maxHeartbeats 8000000 in
theorem Tz.cmpA(x y:Go.Abs.Tz.Atom)(hx:x.args.length<2^40)(hy:y.args.length<2^40)(u v:Value)(W:World)(hu:Tz.RowIn W x.args u)(hv:Tz.RowIn W y.args v):
  Calls Tryz.prog 18 #[.agg #[.string x.pred,u],.agg #[.string y.pred,v]] W fun e w'=>e=.returned (.int .i64 (Go.Abs.Tz.cmpA x y))/\∃q os',w'=grow (W.drewN q) os':=by
 have hu0:=hu
 have hv0:=hv
 obtain⟨bu,cu,rfl,_⟩:=hu0
 obtain⟨bv,cv,rfl,_⟩:=hv0
 obtain⟨A,hA⟩:∃A,Obj.cells #[.string x.pred,.slice bu x.args.length cu] 27=A:=⟨_,rfl⟩
 obtain⟨B,hB⟩:∃B,Obj.cells #[.string y.pred,.slice bv y.args.length cv] 27=B:=⟨_,rfl⟩
 have hs:=Tz.cmpS x.pred y.pred
 have hi:=Tz.cmpI x.args.length y.args.length
 have ho:=fun b=>Tz.or3 b (Go.Abs.Tz.cmpB x.pred y.pred) (Go.Abs.Tz.cmpI x.args.length y.args.length) (Go.Abs.Tz.cmpTs x.args y.args)
 have hW2g:((W.alloc A).alloc B).drew=grow (W.drewN 1) #[A,B]:=by
  rw[alloc_eq_grow,alloc_eq_grow,grow_grow,drew_grow];rfl
 have hc:=Tz.cmpTs x.args y.args hx hy _ _ _ (hu.grow 1 #[A,B]) (hv.grow 1 #[A,B])
 rw[<-hW2g]at hc
 have hr:Go.Abs.Tz.cmpA x y=Go.Abs.Tz.or3 (Go.Abs.Tz.cmpB x.pred y.pred) (Go.Abs.Tz.cmpI x.args.length y.args.length) (Go.Abs.Tz.cmpTs x.args y.args):=rfl
 rw[hr]
 generalize Go.Abs.Tz.or3 (Go.Abs.Tz.cmpB x.pred y.pred) (Go.Abs.Tz.cmpI x.args.length y.args.length) (Go.Abs.Tz.cmpTs x.args y.args)=r at ho ⊢
 generalize Go.Abs.Tz.cmpB x.pred y.pred=r1 at hs ho
 generalize Go.Abs.Tz.cmpI x.args.length y.args.length=r2 at hi ho
 generalize Go.Abs.Tz.cmpTs x.args y.args=r3 at hc ho
 clear hu hv hr
 have c1:=fun i=>Tz.cell_new1 W B #[.string x.pred,.slice bu x.args.length cu] 27 i
 have c2:=fun i=>Tz.cell_new2 W A #[.string y.pred,.slice bv y.args.length cv] 27 i
 rw[hA]at c1
 rw[hB]at c2
 have d0:=c1 0
 have d1:=c1 1
 have e0:=c2 0
 have e1:=c2 1
 clear c1 c2
 obtain⟨W2,hW2⟩:∃W2,((W.alloc A).alloc B).drew=W2:=⟨_,rfl⟩
 change ((W.alloc A).alloc B).drew.cell? _=_ at d0 d1 e0 e1
 rw[hW2]at d0 d1 e0 e1 hc hW2g
 subst hA hB
 have hgA:Aside (W2=grow (W.drewN 1) #[Obj.cells #[.string x.pred,.slice bu x.args.length cu] 27,Obj.cells #[.string y.pred,.slice bv y.args.length cv] 27]):=hW2g
 clear hW2g
 go_enter Tryz.func18,Tryz.ntmps18
 go_wp2
 refine wp_region_still_tail 16 (by kernel_rfl) (by kernel_rfl) ?_
 change wpStill _ _ ((W.alloc (.cells #[.string x.pred,.slice bu x.args.length cu] 27)).alloc (.cells #[.string y.pred,.slice bv y.args.length cv] 27)).drew (fun a'=>wpList _ _ _ _ a' ((W.alloc (.cells #[.string x.pred,.slice bu x.args.length cu] 27)).alloc (.cells #[.string y.pred,.slice bv y.args.length cv] 27)).drew) _ _
 rw[hW2]
 clear hW2
 simp only[List.take_succ_cons,List.take_zero,List.drop_succ_cons,List.drop_zero]
 still_step
 still_step
 still_step
 still_step
 still_call (hs _)
 still_step
 still_step
 still_step
 still_step
 still_step
 still_step
 still_call (hi _)
 still_step
 still_step
 still_step
 still_step
 refine wpStill_nil ?_
 clear d0 d1 e0 e1 hi hs
 go_wp2_with (first|(go_at_call 55;refine hc.mono ?_;rintro e w' ⟨rfl,q',os',rfl⟩)|(go_at_call 52;refine(ho _ _ (Tz.cell_newE _ _ _ _ _ (size_grow _ _).symm) (Tz.cell_newE _ _ _ _ _ (size_grow _ _).symm) (Tz.cell_newE _ _ _ _ _ (size_grow _ _).symm)).mono ?_;rintro e w' ⟨rfl,rfl⟩))
 go_ret
 refine⟨rfl,1+q',(#[Obj.cells #[.string x.pred,.slice bu x.args.length cu] 27,Obj.cells #[.string y.pred,.slice bv y.args.length cv] 27]++os')++#[.cells #[.int .i64 r1,.int .i64 r2,.int .i64 r3] 3],?_⟩
 rw[hgA.out,alloc_eq_grow]
 show grow (grow (grow ((W.drewN 1).drewN q') _) os') _=_
 rw[grow_grow,grow_grow,World.drewN_drewN,Array.append_assoc]
end Go.Proofs
namespace Go.Abs.Tz
open Go Go.Abs Go.Proofs
structure CmpL{α:Type}(c:α->α->Int):Prop where
 anti:∀x y,c y x=- c x y
 tr:∀x y z,c x y<=0->c y z<=0->c x z<=0
 eq:∀x y,c x y=0->x=y
theorem CmpL.refl{α:Type}{c:α->α->Int}(h:CmpL c)(x:α):c x x=0:=by have:=h.anti x x;omega
theorem CmpL.zero{α:Type}{c:α->α->Int}(h:CmpL c){x y:α}:c x y=0↔x=y:=⟨h.eq x y,fun e=>e▸h.refl x⟩
theorem CmpL.lt_tr{α:Type}{c:α->α->Int}(h:CmpL c){x y z:α}(h1:c x y<0)(h2:c y z<0):c x z<0:=by
 have h3:=h.tr x y z (by omega) (by omega)
 have h4:c x z≠0:=fun e=>by
  have:=h.eq _ _ e
  subst this
  have:=h.anti x y
  omega
 omega
theorem CmpL.comap{α β:Type}{c:α->α->Int}(h:CmpL c)(f:β->α)(hf:∀x y,f x=f y->x=y):CmpL fun x y=>c (f x) (f y):=
 ⟨fun x y=>h.anti _ _,fun x y z=>h.tr _ _ _,fun x y e=>hf _ _ (h.eq _ _ e)⟩
def lexC(a b:Int):Int:=if a≠0 then a else b
theorem CmpL.lex{α β:Type}{c:α->α->Int}{d:β->β->Int}(h:CmpL c)(k:CmpL d):CmpL fun(x y:α×β)=>lexC (c x.1 y.1) (d x.2 y.2):=by
 refine⟨fun x y=>?_,fun x y z h1 h2=>?_,fun x y e=>?_⟩
 ·have h1:=h.anti x.1 y.1
  have h2:=k.anti x.2 y.2
  simp only[lexC]
  rw[h1,h2]
  split<;>split<;>omega
 ·simp only[lexC]at h1 h2 ⊢
  by_cases a:c x.1 y.1=0
  ·rw[if_neg (by omega)]at h1
   rw[h.eq _ _ a]
   by_cases b:c y.1 z.1=0
   ·rw[if_neg (by omega)]at h2 ⊢
    exact k.tr _ _ _ h1 h2
   ·rw[if_pos b]at h2 ⊢
    exact h2
  ·rw[if_pos a]at h1
   by_cases b:c y.1 z.1=0
   ·rw[<-h.eq _ _ b,if_pos a];exact h1
   ·rw[if_pos b]at h2
    have:=h.lt_tr (x:=x.1) (y:=y.1) (z:=z.1) (by omega) (by omega)
    rw[if_pos (by omega)]
    omega
 ·simp only[lexC]at e
  split at e
  ·rename_i h1;exact absurd e h1
  ·rename_i h1
   exact Prod.ext (h.eq _ _ (by omega)) (k.eq _ _ e)
theorem cmpI_L:CmpL cmpI:=by
 refine⟨fun x y=>?_,fun x y z h1 h2=>?_,fun x y e=>?_⟩
 ·unfold cmpI;split<;>split<;>(try split)<;>omega
 ·unfold cmpI at h1 h2 ⊢
  repeat' split at h1
  all_goals repeat' split at h2
  all_goals repeat' split
  all_goals omega
 ·unfold cmpI at e
  repeat' split at e
  all_goals omega
theorem lessB_tri{x y:ByteArray}(h1:lessB x y=false)(h2:lessB y x=false):x=y:=toList_inj (bl_tri _ _ h1 h2)
theorem lessB_irr(x:ByteArray):lessB x x=false:=bl_irr _
theorem lessB_tr{x y z:ByteArray}(h1:lessB x y=true)(h2:lessB y z=true):lessB x z=true:=bl_trans _ _ _ h1 h2
theorem lessB_asymm{x y:ByteArray}(h:lessB x y=true):lessB y x=false:=by
 cases h2:lessB y x with
 |false=>rfl
 |true=>
  have:=lessB_tr h h2
  rw[lessB_irr]at this
  cases this
theorem cmpB_of(a b:ByteArray):(lessB a b=true/\cmpB a b=-1)\/(a=b/\cmpB a b=0)\/(lessB b a=true/\cmpB a b=1):=by
 unfold cmpB
 cases h1:lessB a b with
 |true=>exact .inl ⟨rfl,if_pos rfl⟩
 |false=>
  rw[if_neg (by simp)]
  cases h2:eqBA a b with
  |true=>exact .inr (.inl ⟨eqBA_iff.1 h2,if_pos rfl⟩)
  |false=>
   refine .inr (.inr ⟨?_,if_neg (by simp)⟩)
   cases h3:lessB b a with
   |true=>rfl
   |false=>
    have:=lessB_tri h1 h3
    rw[eqBA_iff.2 this]at h2
    cases h2
theorem cmpB_L:CmpL cmpB:=by
 refine⟨fun x y=>?_,fun x y z h1 h2=>?_,fun x y e=>?_⟩
 ·rcases cmpB_of x y with⟨h,e⟩|⟨h,e⟩|⟨h,e⟩<;>rcases cmpB_of y x with⟨k,f⟩|⟨k,f⟩|⟨k,f⟩<;>rw[e,f]
  all_goals first
   |rfl
   |(exfalso;have:=lessB_asymm h;rw[k]at this;cases this)
   |(exfalso;subst h;rw[lessB_irr]at k;cases k)
   |(exfalso;subst k;rw[lessB_irr]at h;cases h)
 ·rcases cmpB_of x y with⟨h,e⟩|⟨h,e⟩|⟨h,e⟩
  ·rcases cmpB_of y z with⟨k,f⟩|⟨k,f⟩|⟨k,f⟩
   ·rcases cmpB_of x z with⟨_,g⟩|⟨_,g⟩|⟨l,g⟩
    ·rw[g];decide
    ·rw[g];decide
    ·have:=lessB_asymm (lessB_tr h k);rw[l]at this;cases this
   ·subst k;exact h1
   ·rw[f]at h2;exact absurd h2 (by decide)
  ·subst h;exact h2
  ·rw[e]at h1;exact absurd h1 (by decide)
 ·rcases cmpB_of x y with⟨h,g⟩|⟨h,g⟩|⟨h,g⟩
  ·rw[g]at e;exact absurd e (by decide)
  ·exact h
  ·rw[g]at e;exact absurd e (by decide)
theorem cmpT_L:CmpL cmpT:=by
 have h:=(cmpI_L.lex (cmpI_L.lex cmpB_L)).comap (fun t:Term=>(t.kind,t.n,t.s)) (fun x y e=>by
  cases x;cases y;simp only[Prod.mk.injEq]at e;obtain⟨rfl,rfl,rfl⟩:=e;rfl)
 exact h
theorem cmpTs_anti:∀x y:List Term,cmpTs y x=- cmpTs x y
 |[],[]=>rfl
 |[],_::_=>rfl
 |_::_,[]=>rfl
 |a::x,b::y=>by
  have ih:=cmpTs_anti x y
  have h:=cmpT_L.anti a b
  simp only[cmpTs]
  rw[h,ih]
  split<;>split<;>omega
theorem cmpTs_eq:∀x y:List Term,cmpTs x y=0->x=y
 |[],[],_=>rfl
 |[],_::_,h=>by simp[cmpTs]at h
 |_::_,[],h=>by simp[cmpTs]at h
 |a::x,b::y,h=>by
  simp only[cmpTs]at h
  split at h
  ·rename_i h1;exact absurd h h1
  ·rename_i h1
   rw[cmpT_L.eq a b (by omega),cmpTs_eq x y h]
theorem cmpTs_tr:∀x y z:List Term,cmpTs x y<=0->cmpTs y z<=0->cmpTs x z<=0
 |[],_,[],_,_=>by simp[cmpTs]
 |[],_,_::_,_,_=>by simp[cmpTs]
 |_::_,[],_,h,_=>by simp[cmpTs]at h
 |_::_,_::_,[],_,h=>by simp[cmpTs]at h
 |a::x,b::y,c::z,h,k=>by
  simp only[cmpTs]at h k ⊢
  by_cases h1:cmpT a b=0
  ·rw[if_neg (by omega)]at h
   rw[cmpT_L.eq _ _ h1]
   by_cases h2:cmpT b c=0
   ·rw[if_neg (by omega)]at k ⊢
    exact cmpTs_tr x y z h k
   ·rw[if_pos h2]at k ⊢
    exact k
  ·rw[if_pos h1]at h
   by_cases h2:cmpT b c=0
   ·rw[<-cmpT_L.eq _ _ h2,if_pos h1];exact h
   ·rw[if_pos h2]at k
    have:=cmpT_L.lt_tr (x:=a) (y:=b) (z:=c) (by omega) (by omega)
    rw[if_pos (by omega)]
    omega
theorem cmpTs_L:CmpL cmpTs:=⟨cmpTs_anti,cmpTs_tr,cmpTs_eq⟩
theorem cmpA_L:CmpL cmpA:=by
 have h:=(cmpB_L.lex (cmpI_L.lex cmpTs_L)).comap (fun a:Atom=>(a.pred,(a.args.length:Int),a.args)) (fun x y e=>by
  cases x;cases y;simp only[Prod.mk.injEq]at e;obtain⟨rfl,_,rfl⟩:=e;rfl)
 exact h
end Go.Abs.Tz
namespace Go.Abs
open Go
theorem Inv.arr_turn{G:Ghost}{w w':World}{H:LHeap}(hI:Inv G w H){o s:Nat}{cs cs':List LV}{vs vs':Array Value}{el:TypeId}{fz:Nat×Nat}(hl:look o H.objs=some (.arr s cs))(h0:w.heap[G.loc o]? = some (.cells vs el fz))
  (hos:w'.os=w.os) (htape:w'.tape=w.tape) (hout:w'.output=w.output) (hsize:w.heap.size<=w'.heap.size) (hkeep:∀k,k<w.heap.size->k≠G.loc o->w'.heap[k]? = w.heap[k]?)
  (h1:w'.heap[G.loc o]? = some (.cells vs' el fz)) (hsz:vs'.size=vs.size) (hlen:cs'.length=cs.length)
  (hnew:∀(i:Nat)(c:LV),cs'[i]? = some c->VR G w c (vs'.getD i undef)/\(vs'.getD i undef).oneCell'=true):Ext G w G w'/\Inv G w' (H.put o (.arr s cs')):=by
 obtain⟨hob,vs0,el0,fz0,a1,a2,a3,⟨b1,b2,b3⟩,a4,a5,a6⟩:=hI.objs o _ hl
 rw[h0]at a1
 cases a1
 have hlt:∀{k:Nat}{ob:Obj},w.heap[k]? = some ob->k<w.heap.size:=fun h=>(Array.getElem?_eq_some_iff.1 h).1
 have hx:Ext G w G w':=by
  refine⟨hos,htape,hout,hsize,rfl,fun k hk=>hkeep k (hI.hB k hk) (fun e=>a2 (e▸hk)),Nat.le_refl _,fun _ _=>rfl,fun _ _=>rfl,fun b x hc=>⟨hc,fun v hv=>?_⟩,fun t _ m b c h=>⟨m,b,c,h,Nat.le_refl _,fun _=>⟨rfl,rfl⟩⟩,rfl⟩
  have hb:b<w.heap.size:=by
   rcases Nat.lt_or_ge b w.heap.size with h|h
   ·exact h
   ·rw[hI.free b x h]at hc;cases hc
  have hne:b≠G.loc o:=fun e=>by rw[e,a4]at hc;cases hc
  rw[cell?_of_block (hkeep b hb hne)];exact hv
 refine⟨hx,?_⟩
 refine Inv.step (W:=fun k _=>k=G.loc o) (V:=fun _=>False) (fun i=>i=o) hI hx ⟨fun k us el' fz' h=>?_,fun k ob h hn _=>?_⟩ hI.n (fun b x h=>hI.free b x (Nat.le_trans hsize h)) (fun b x h=>hI.old b x h) (fun i x hi h=>?_)
  (fun i k x hi hk hw=>?_) (fun _ _ _ h=>h) (fun _ _ _ _=>⟨fun h=>h,fun h=>h⟩) (fun _ _ _=>rfl) ?_ ?_
 ·by_cases hk:k=G.loc o
  ·subst hk
   rw[h0]at h
   cases h
   exact⟨vs',h1,hsz,fun x hx=>absurd rfl hx⟩
  ·exact⟨us,by rw[hkeep k (hlt h) hk];exact h,rfl,fun _ _=>rfl⟩
 ·by_cases hk:k=G.loc o
  ·subst hk
   rw[h0]at h
   cases h
   exact absurd rfl (hn _ _ _)
  ·rw[hkeep k (hlt h) hk];exact h
 ·rw[look_put hl]at h
  rw[if_neg hi]at h
  exact h
 ·subst hw
  rw[a4]at hk
  cases hk
  exact hi rfl
 ·intro m es' hm he'
  rw[look_put hl]at he'
  split at he'
  ·cases he'
  ·refine⟨es',he',Nat.le_refl _,fun _ ents' clock' h'=>?_⟩
   obtain⟨_,hob⟩:=hI.objs m _ he'
   obtain⟨ents,clock,g1,_⟩:=hob
   have hne:G.loc m≠G.loc o:=fun e=>by rw[e,h0]at g1;cases g1
   rw[hkeep _ (hlt g1) hne,g1]at h'
   cases h'
   exact⟨_,_,g1,rfl,fun _=>rfl⟩
 ·intro i x hi h
  subst hi
  rw[look_put hl,if_pos rfl]at h
  cases h
  refine⟨hob,vs',el,fz,h1,a2,by rw[hlen,hsz];exact a3,⟨b1,by rw[hsz];exact b2,by rw[hlen];exact b3⟩,a4,fun x=>?_,fun j c hc=>⟨(hnew j c hc).1.mono hx,(hnew j c hc).2⟩⟩
  have:=a5 x
  unfold World.frozen? at this ⊢
  rw[show (at_ (G.loc i) x).block=G.loc i from rfl]at this ⊢
  rw[h0]at this
  rw[h1]
  exact this
end Go.Abs
set_option maxRecDepth 100000
namespace Go.Abs.Tz
open Go Go.Abs Go.Proofs Go.Shelf Go.RowKit Go.Lib Go.Sort
abbrev atomC(a:Atom):List LV:=[.str a.pred,argsL a.args]
abbrev arrA(A:List Atom):LObj:=.arr 2 (A.flatMap atomC)
abbrev EltA(G:Ghost)(w:World):Type:={p:Atom×Value // VR G w (argsL p.1.args) p.2/\p.1.args.length<2^40}
instance (G:Ghost) (w:World):Inhabited (EltA G w):=⟨⟨(⟨⟨#[]⟩,[]⟩,.slice none 0 0),.sln trivial,by simp⟩⟩
def encA{G:Ghost}{w:World}(p:EltA G w):List Value:=[.string p.1.1.pred,p.1.2]
def cmpE{G:Ghost}{w:World}(p q:EltA G w):Int:=cmpA p.1.1 q.1.1
theorem swoA(G:Ghost)(w:World):SWO (ltOf (cmpE (G:=G) (w:=w))):=by
 refine⟨fun x=>decide_eq_false ?_,fun x y z h k=>decide_eq_true ?_,fun x y z h k=>decide_eq_false ?_⟩
 ·have:=cmpA_L.refl x.1.1
  show ¬cmpA x.1.1 x.1.1<0
  omega
 ·have h':cmpA x.1.1 y.1.1<0:=of_decide_eq_true h
  have k':cmpA y.1.1 z.1.1<0:=of_decide_eq_true k
  exact cmpA_L.lt_tr h' k'
 ·have h':¬cmpA x.1.1 y.1.1<0:=of_decide_eq_false h
  have k':¬cmpA y.1.1 z.1.1<0:=of_decide_eq_false k
  have h1:=cmpA_L.anti x.1.1 y.1.1
  have h2:=cmpA_L.anti y.1.1 z.1.1
  have h3:=cmpA_L.anti x.1.1 z.1.1
  have:=cmpA_L.tr z.1.1 y.1.1 x.1.1 (by omega) (by omega)
  show ¬cmpA x.1.1 z.1.1<0
  omega
theorem flat2{α β:Type}(f:α->List β)(hf:∀a,(f a).length=2):∀(A:List α)(i:Nat),(A.flatMap f)[i]? = A[i / 2]?.bind fun x=>(f x)[i % 2]?
 |[],i=>by simp
 |x::A,i=>by
  rcases Nat.lt_or_ge i 2 with h|h
  ·rw[show i / 2=0 by omega,List.flatMap_cons,List.getElem?_append_left (by rw[hf];exact h),show i % 2=i by omega]
   rfl
  ·obtain⟨k,rfl⟩:∃k,i=k+2:=⟨i - 2,by omega⟩
   rw[List.flatMap_cons,List.getElem?_append_right (by rw[hf];omega),hf,show (k+2) / 2=k / 2+1 by omega,show (k+2) % 2=k % 2 by omega]
   simpa using flat2 f hf A k
theorem flatA_len(A:List Atom):(A.flatMap atomC).length=A.length*2:=flat_len (s:=2) (enc:=atomC) (fun _=>rfl) A
theorem oneCell_encA{G:Ghost}{w:World}(x:EltA G w):∀v∈encA x,v.oneCell'=true:=by
 intro v hv
 simp[encA]at hv
 rcases hv with rfl|rfl
 ·rfl
 ·obtain⟨base,cap,e,_⟩:=x.2.1.sl_inv
  rw[e];rfl
theorem row_off{G:Ghost}{w w':World}{H:LHeap}(hI:Inv G w H){x:List Term}{u:Value}(h:VR G w (argsL x) u){blk:Nat}(hB:¬(G.B blk).isSome)(hown:∀x,G.own blk x≠.cl)(hs:w.heap.size<=w'.heap.size)(hk:∀k,k<w.heap.size->k≠blk->w'.heap[k]? = w.heap[k]?):Go.Proofs.Tz.RowIn w' x u:=by
 obtain⟨base,cap,rfl,hcap,_,hc⟩:=h.sl_inv
 rw[List.length_map]at hcap ⊢
 refine⟨base,cap,rfl,?_⟩
 rcases hc with⟨h1,_⟩|⟨b,off,sz,xs,rfl,hsz,hx,hr⟩
 ·exact .inl (by simpa using h1)
 ·by_cases hx0:x=[]
  ·exact .inl hx0
  have hg:∀(i:Nat) t,x[i]? = some t->(x.map termL)[i]? = some (termL t):=fun i t h=>by rw[List.getElem?_map,h];rfl
  have key:∀i t,x[i]? = some t->sz=3/\b<w.heap.size/\b≠blk/\∀j v,(termC t)[j]? = some (.sc v)->w.cell? (at_ b (off+i*3+j))=some v:=by
   intro i t ht
   have h3:sz=3:=(hsz i _ (hg i t ht)).symm
   subst h3
   have hcell:∀j v,(termC t)[j]? = some (.sc v)->w.cell? (at_ b (off+i*3+j))=some v:=fun j v hj=>by
    obtain⟨_,h2,_⟩:=hx i _ j _ (hg i t ht) hj
    have h4:=hr i _ j _ (hg i t ht) hj
    cases h4
    exact h2
   have h0:=hcell 0 _ rfl
   have hbl:b<w.heap.size:=by
    rcases Nat.lt_or_ge b w.heap.size with h'|h'
    ·exact h'
    ·unfold World.cell? at h0
     rw[show (at_ b (off+i*3+0)).block=b from rfl,Array.getElem?_eq_none h']at h0
     cases h0
   refine⟨rfl,hbl,fun e=>?_,hcell⟩
   obtain⟨hcl,_,_⟩:=hx i _ 0 _ (hg i t ht) rfl
   subst e
   rcases hcl with hcl|hcl
   ·exact hB (by rw[hcl];rfl)
   ·exact hown _ hcl
  obtain⟨t0,r,rfl⟩:∃t0 r,x=t0::r:=by
   cases x with
   |nil=>exact absurd rfl hx0
   |cons t0 r=>exact⟨t0,r,rfl⟩
  obtain⟨_,hbl,hbb,_⟩:=key 0 t0 rfl
  refine .inr ⟨b,off,rfl,Nat.lt_of_lt_of_le hbl hs,fun i t ht=>?_⟩
  obtain⟨_,_,_,hc⟩:=key i t ht
  have hcw:∀y,w'.cell? (at_ b y)=w.cell? (at_ b y):=fun y=>by
   unfold World.cell?
   rw[show (at_ b y).block=b from rfl,hk b hbl hbb]
  exact⟨by have:=hc 0 _ rfl;rw[<-hcw]at this;exact this,by have:=hc 1 _ rfl;rw[<-hcw]at this;exact this,by have:=hc 2 _ rfl;rw[<-hcw]at this;exact this⟩
theorem t_sortA(A:List Atom)(hAr:∀a∈A,a.args.length<2^40)(o:Nat)(ob:List (Nat×LObj))(nx:Nat)(hlo:look o ob=some (arrA A))(hA:A.length<2^40){kv kp:HP}
  (hk:∀B:List Atom,B.Perm A->(B.Pairwise fun x y=>¬cmpA y x<0)->kv (.tup []) ⟨putO o (arrA B) ob,nx⟩):
  cP E0 F0 96 [.asl o 0 A.length,.fn (.func 18) [] []] ⟨ob,nx⟩ kv kp:=by
 intro hH
 refine .prim (show CallOk Tryz.prog E0 _ _ _ _ from ⟨enters_T _ c96,fun G w us hI hE ha=>?_⟩)
 obtain⟨hus,hua⟩:=ha
 have h0:=hua 0 _ rfl
 have h1:=hua 1 _ rfl
 obtain⟨u0,u1,rfl⟩:∃u0 u1,us=#[u0,u1]:=by
  obtain⟨l⟩:=us
  match l,hus with
  |[a,b],_=>exact⟨a,b,rfl⟩
 change VR G w (.asl o 0 A.length) u0 at h0
 change VR G w (.fn (.func 18) [] []) u1 at h1
 cases h0 with
 |@asl _ _ _ cap ho hlc hcap=>
 cases h1 with
 |@fn _ _ _ us0 vs0 hfo hu0 hv0 _ _=>
 obtain rfl:us0=#[]:=Array.eq_empty_of_size_eq_zero hu0
 obtain rfl:vs0=#[]:=Array.eq_empty_of_size_eq_zero hv0
 rw[Nat.zero_mul]
 obtain⟨hob,vs,el,fz,c1,c2,c3,⟨d1,d2,d3⟩,c4,c5,c6⟩:=hI.objs o _ hlo
 rw[flatA_len]at c3 d3
 have hlt:G.loc o<w.heap.size:=(Array.getElem?_eq_some_iff.1 c1).1
 have hcellA:∀i (hi:i<A.length),vs.getD (i*2) undef=.string A[i].pred/\VR G w (argsL A[i].args) (vs.getD (i*2+1) undef):=by
  intro i hi
  have e0:(A.flatMap atomC)[i*2]? = some (.str A[i].pred):=by
   rw[flat2 atomC (fun _=>rfl),show i*2 / 2=i by omega,show i*2 % 2=0 by omega,List.getElem?_eq_getElem hi];rfl
  have e1:(A.flatMap atomC)[i*2+1]? = some (argsL A[i].args):=by
   rw[flat2 atomC (fun _=>rfl),show (i*2+1) / 2=i by omega,show (i*2+1) % 2=1 by omega,List.getElem?_eq_getElem hi];rfl
  refine⟨?_,(c6 _ _ e1).1⟩
  have:=(c6 _ _ e0).1
  generalize vs.getD (i*2) undef=v at this
  cases this;rfl
 let D:List (EltA G w):=List.ofFn fun i:Fin A.length=>⟨(A[i.1],vs.getD (i.1*2+1) undef),(hcellA i.1 i.2).2,hAr _ (List.getElem_mem i.2)⟩
 have hDl:D.length=A.length:=List.length_ofFn
 have hDg:∀i (hi:i<A.length),D[i]'(by rw[hDl];exact hi)=⟨(A[i],vs.getD (i*2+1) undef),(hcellA i hi).2,hAr _ (List.getElem_mem hi)⟩:=fun i hi=>by simp[D]
 have hDm:D.map (fun p=>p.1.1)=A:=by
  apply List.ext_getElem
  ·rw[List.length_map,hDl]
  ·intro i h1 h2
   rw[List.getElem_map,hDg i h2]
 have hsz0:∀d:Array (EltA G w),(flatK encA 2 d).size=d.size*2:=fun d=>size_flatK _ _ _
 have hval:∀t,t<A.length*2->(encA (D.toArray[t / 2]!))[t % 2]! = vs.getD t undef:=by
  intro t ht
  have hi:t / 2<A.length:=by omega
  have e:D.toArray[t / 2]! = D[t / 2]'(by rw[hDl];exact hi):=by
   rw[getElem!_pos D.toArray (t / 2) (by simp[hDl,hi])]
   simp
  rw[e,hDg _ hi]
  obtain⟨h0,_⟩:=hcellA _ hi
  rcases Nat.mod_two_eq_zero_or_one t with hm|hm
  ·rw[hm]
   rw[show t / 2*2=t by omega]at h0
   rw[h0]
   rfl
  ·rw[hm]
   show vs.getD (t / 2*2+1) undef=_
   rw[show t / 2*2+1=t by omega]
 have hH0:HoldsK encA 2 w (G.loc o) 0 D.toArray:=by
  intro t ht
  rw[hsz0]at ht
  have ht':t<A.length*2:=by simpa [hDl] using ht
  refine⟨?_,c5 _⟩
  rw[Nat.zero_add,get_flatK _ _ _ _ ht,hval t ht']
  unfold World.cell?
  rw[c1]
  have ht2:t<vs.size:=by omega
  simp[Array.getD_eq_getD_getElem?,Array.getElem?_eq_getElem ht2]
 have hw0:∀(n:Nat)(d:Array (EltA G w))(os:Array Obj),(sortWorldK encA 2 w (G.loc o) 0 n d os).heap=(w.heap.modify (G.loc o) (onCells (putCells id 0 (flatK encA 2 d))))++os:=fun _ _ _=>rfl
 have hkeep:∀(n:Nat)(d:Array (EltA G w))(os:Array Obj) k,k<w.heap.size->k≠G.loc o->(sortWorldK encA 2 w (G.loc o) 0 n d os).heap[k]? = w.heap[k]?:=fun n d os k hk hne=>by
  rw[hw0,Array.getElem?_append_left (by simpa using hk),Array.getElem?_modify,if_neg (fun e=>hne e.symm)]
 have hcmp:CmpLays Tryz.prog 18 #[] (encA (G:=G) (w:=w)) 2 (cmpE (G:=G) (w:=w)) (G.loc o) 0 D.toArray.size w:=by
  intro m os dk _ x y
  have hx:=row_off hI x.2.1 (w':=sortWorldK encA 2 w (G.loc o) 0 m dk os) (by simpa using c2) (fun z hz=>by rw[c4]at hz;cases hz) (by rw[hw0];simp) (hkeep m dk os)
  have hy:=row_off hI y.2.1 (w':=sortWorldK encA 2 w (G.loc o) 0 m dk os) (by simpa using c2) (fun z hz=>by rw[c4]at hz;cases hz) (by rw[hw0];simp) (hkeep m dk os)
  exact Go.Proofs.Tz.cmpA x.1.1 y.1.1 x.2.2 y.2.2 x.1.2 y.1.2 _ hx hy
 have hcon:=AnyQ.slices_SortFunc Tryz.sortA 2 (fun w=>Tryz.isAgg27 w) (fun w=>Tryz.sizeOf27 w) encA (fun _=>rfl) oneCell_encA cmpE (swoA G w) 18 #[] (G.loc o) 0 cap D.toArray w (fun args w=>Go.Proofs.enters_of Tryz.func18 (by kernel_rfl) rfl args w) hcmp hH0 hlt (by simp[hDl];omega)
 have e0:(.slice (some ⟨G.loc o,0,none⟩) D.toArray.size cap:Value)=.slice (some (at_ (G.loc o) 0)) A.length cap:=by simp[hDl]
 rw[e0]at hcon
 refine Calls.mono hcon ?_
 rintro e w' ⟨rfl,d',n,os,⟨hp1,_,hp2⟩,hs,rfl⟩
 have hd:d'.size=A.length:=by simpa [hDl] using hp1
 have hperm:d'.toList.Perm D:=by
  have hd2:D.toArray.size=d'.size:=by simpa [hDl] using hd.symm
  rw[hd2]at hp2
  have e2:D.toArray.extract 0 d'.size=D.toArray:=by rw[<-hd2];exact Array.extract_size
  rw[e2,Array.extract_size]at hp2
  exact hp2
 have hsort:d'.toList.Pairwise fun x y=>¬cmpE y x<0:=by
  rw[List.pairwise_iff_getElem]
  intro i j hi hj hij
  have h:=hs i j (Nat.zero_le _) hij (by simp[hDl]at hj ⊢;omega)
  simp only[Array.length_toList]at hi hj
  rw[getElem!_pos d' i hi,getElem!_pos d' j hj]at h
  exact of_decide_eq_false h
 obtain⟨Bl,hBl⟩:∃Bl,d'.toList.map (fun p=>p.1.1)=Bl:=⟨_,rfl⟩
 have hBA:Bl.Perm A:=by rw[<-hBl,<-hDm];exact hperm.map _
 have hBs:Bl.Pairwise fun x y=>¬cmpA y x<0:=by rw[<-hBl];exact List.pairwise_map.2 hsort
 have hBlen:Bl.length=A.length:=hBA.length_eq
 have hF:(flatK encA 2 d').size=A.length*2:=by rw[hsz0,hd]
 have hq:=Inv.arr_turn (w':=sortWorldK encA 2 w (G.loc o) 0 n d' os) (cs':=Bl.flatMap atomC) (vs':=putCells id 0 (flatK encA 2 d') vs) hI hlo c1 rfl rfl rfl (by rw[hw0];simp) (hkeep n d' os) (by
   rw[hw0,Array.getElem?_append_left (by simpa using hlt),Array.getElem?_modify,if_pos rfl,c1];rfl) (by simp[putCells]) (by rw[flatA_len,flatA_len,hBlen]) (fun i c hc=>?_)
 ·exact⟨.tup [],_,G,.inl ⟨_,_,rfl,Desc.put hH,hk Bl hBA hBs⟩,.tup rfl (fun _ _ h=>by simp at h),hq.2,hq.1⟩
 ·have hi:i<Bl.length*2:=by
   have:=(List.getElem?_eq_some_iff.1 hc).1
   rw[flatA_len]at this;exact this
  have hi2:i<A.length*2:=by omega
  have hi3:i<vs.size:=by omega
  have e:(putCells id 0 (flatK encA 2 d') vs).getD i undef=(encA d'[i / 2]!)[i % 2]!:=by
   unfold putCells
   rw[Array.getD_eq_getD_getElem?,Array.getElem?_mapIdx,Array.getElem?_eq_getElem hi3]
   simp only[Option.map_some,Option.getD_some,Nat.zero_le,true_and,Nat.zero_add,Nat.sub_zero,hF,hi2,if_true,id]
   rw[get_flatK _ _ _ _ (by rw[hd];exact hi2)]
  have hi4:i / 2<d'.size:=by omega
  rw[e,getElem!_pos d' (i / 2) hi4]
  rw[flat2 atomC (fun _=>rfl),<-hBl,List.getElem?_map,Array.getElem?_toList,Array.getElem?_eq_getElem hi4]at hc
  obtain⟨p,hpe⟩:∃p,d'[i / 2]=p:=⟨_,rfl⟩
  rw[hpe]at hc ⊢
  rcases Nat.mod_two_eq_zero_or_one i with hm|hm
  ·rw[hm]at hc ⊢
   cases hc
   exact⟨.sc _,rfl⟩
  ·rw[hm]at hc ⊢
   cases hc
   exact⟨p.2.1,oneCell_encA p _ (by simp[encA])⟩
end Go.Abs.Tz
namespace Go.Abs.Tz
open Go Go.Abs Go.Proofs
def clauseD(F:List Stp)(c:Clause)(ci:Int):List Stp:=foldI (fun G a frm=>freshF F G ⟨a,ci,frm⟩) c (insts F c (posL c.body) [] []) []
def roundD(m:List (PK×Int))(lev:Int):List Clause->Nat->List Stp->Option (List Stp)
 |[],_,F=>some F
 |c::r,i,F=>if pVal m (ofA c.head)=lev then (if 300<((clauseD F c i).foldl addF F).length then none else roundD m lev r (i+1) ((clauseD F c i).foldl addF F)) else roundD m lev r (i+1) F
def levelD(m:List (PK×Int))(lev:Int)(l:List Clause):Nat->List Stp->Option (List Stp)
 |0,_=>none
 |k+1,F=>match roundD m lev l 0 F with
  |none=>none
  |some F'=>if F'.length=F.length then some F' else levelD m lev l k F'
def levelsD(m:List (PK×Int))(l:List Clause):Nat->Nat->List Stp->Option (List Stp)
 |0,_,F=>some F
 |k+1,v,F=>match levelD m v l 302 F with
  |none=>none
  |some F'=>levelsD m l k (v+1) F'
def baseD(base:List Atom):List Stp:=(base.map fun a=>(⟨a,-1,[]⟩:Stp)).foldl addF []
theorem addF_len(F:List Stp)(s:Stp):F.length<=(addF F s).length/\(addF F s).length<=F.length+1:=by
 unfold addF
 split
 ·omega
 ·simp
theorem addFs_len:∀(l F:List Stp),F.length<=(l.foldl addF F).length/\(l.foldl addF F).length<=F.length+l.length
 |[],F=>by simp
 |s::l,F=>by
  have h1:=addF_len F s
  have h2:=addFs_len l (addF F s)
  rw[List.foldl_cons,List.length_cons]
  omega
theorem addF_mem{F:List Stp}{s q:Stp}(h:q∈addF F s):q∈F\/q=s:=by
 unfold addF at h
 split at h
 ·exact .inl h
 ·rcases List.mem_append.1 h with h|h
  ·exact .inl h
  ·simp at h;exact .inr h
theorem clauseD_len(F:List Stp)(c:Clause)(ci:Int):(clauseD F c ci).length<=301:=by
 unfold clauseD
 rw[foldI_fresh]
 exact fresh_max F _ _ (by simp)
def statF(F:List Stp)(fo am:Nat)(own:Own):List (Nat×LObj):=(fo,.cells [.map am,.sl (F.map stepL) own])::(am,.map (encM (idxF F 0)))::(match own with
 |.tok t=>[(t,.tok F.length 4)]
 |_=>[])
theorem statF_ok{F:List Stp}{fo am:Nat}{own:Own}{ob:List (Nat×LObj)}(h:FactsAt ob fo am F own):StatOk (statF F fo am own) ob:=by
 unfold statF StatOk
 simp only[List.forall_mem_cons]
 refine⟨h.pair,h.map,?_⟩
 rcases h.row with⟨rfl,_⟩|⟨t,rfl,_,_,h4⟩
 ·intro p hp;cases hp
 ·intro p hp
  simp at hp
  subst hp
  exact h4
theorem of_statF{F:List Stp}{fo am:Nat}{own:Own}{ob ob0:List (Nat×LObj)}(h0:FactsAt ob0 fo am F own)(h:StatOk (statF F fo am own) ob):FactsAt ob fo am F own:=by
 unfold statF StatOk at h
 simp only[List.forall_mem_cons]at h
 refine⟨h.1,h.2.1,h0.ne,?_⟩
 rcases h0.row with h1|⟨t,rfl,h2,h3,_⟩
 ·exact .inl h1
 ·exact .inr ⟨t,rfl,h2,h3,h.2.2 (t,_) (by simp)⟩
theorem statF_plain(F:List Stp)(fo am:Nat)(own:Own):∀p∈statF F fo am own,plainO p.2=true:=by
 unfold statF
 simp only[List.forall_mem_cons]
 refine⟨rfl,rfl,?_⟩
 cases own with
 |tok t=>intro p hp;simp at hp;subst hp;rfl
 |no=>intro p hp;cases hp
 |full=>intro p hp;cases hp
theorem FactsAt.keep{F:List Stp}{fo am:Nat}{own:Own}{ob ob':List (Nat×LObj)}(h:FactsAt ob fo am F own)(hk:∀i,(i=fo\/i=am\/own=.tok i)->look i ob'=look i ob):FactsAt ob' fo am F own:=by
 refine⟨by rw[hk _ (.inl rfl)];exact h.pair,by rw[hk _ (.inr (.inl rfl))];exact h.map,h.ne,?_⟩
 rcases h.row with h1|⟨t,rfl,h2,h3,h4⟩
 ·exact .inl h1
 ·exact .inr ⟨t,rfl,h2,h3,by rw[hk _ (.inr (.inr rfl))];exact h4⟩
def doerD(F:List Stp)(ci:Int)(fo am:Nat)(ownF:Own)(go gm fw hv iv:Nat)(ob0:List (Nat×LObj))(h0:FactsAt ob0 fo am F ownF):Doer (List Stp) where
 fn:=71
 cap:=[.ptr fw 0,.ptr hv 0,.ptr iv 0]
 Stat:=(fw,.cells [.ptr fo 0])::(hv,.cells [.ptr go 0])::(iv,.cells [.int ci])::statF F fo am ownF
 At ob G S:=∃own,FactsAt ob go gm G own/\∀i,S i↔(i=go\/i=gm\/own=.tok i)
 step G a frm:=freshF F G ⟨a,ci,frm⟩
 lim G:=G.length<=301
 lim_step G a frm h:=freshF_max h
 at_look ob G S i h hi:=by
  obtain⟨own,h1,h2⟩:=h
  rcases (h2 i).1 hi with rfl|rfl|rfl
  ·exact⟨_,h1.pair,rfl⟩
  ·exact⟨_,h1.map,rfl⟩
  ·rcases h1.row with⟨e,_⟩|⟨t,e,_,_,h4⟩
   ·cases e
   ·cases e;exact⟨_,h4,rfl⟩
 at_keep ob ob' G S h hk:=by
  obtain⟨own,h1,h2⟩:=h
  exact⟨own,h1.keep fun i hi=>hk i ((h2 i).2 hi),h2⟩
 ok ob n G S a frm kv kp hlim ha hat hst hsep hni hk:=by
  obtain⟨own,h1,h2⟩:=hat
  unfold StatOk at hst
  simp only[List.forall_mem_cons]at hst
  refine t_do a ha frm fw hv iv ci fo am go gm F G (by omega) ownF own ob n (of_statF h0 hst.2.2.2) h1 hst.1 hst.2.1 hst.2.2.1 fun ob' n' own' hn hF' hnear hni' hsame=>?_
  refine hk ob' n' (fun i=>i=go\/i=gm\/own'=.tok i) hn ⟨own',hF',fun i=>Iff.rfl⟩ (fun i hi=>?_) (hni' hni) fun i hi hiS=>hsame i hi (fun e=>hiS ((h2 i).2 (.inl e))) (fun e=>hiS ((h2 i).2 (.inr (.inl e)))) fun t ht e=>hiS ((h2 i).2 (.inr (.inr (by rw[e];exact ht))))
  rcases hi with e|e|e
  ·exact .inl ((h2 i).2 (.inl e))
  ·exact .inl ((h2 i).2 (.inr (.inl e)))
  ·rcases hnear with e2|⟨t,e2,ht⟩
   ·exact .inl ((h2 i).2 (.inr (.inr (by rw[<-e2];exact e))))
   ·rw[e2]at e
    cases e
    exact .inr ht
end Go.Abs.Tz
namespace Go.Abs.Tz
open Go Go.Abs Go.Proofs
set_option maxRecDepth 20000
set_option linter.unusedSimpArgs false
attribute [local simp ↓] getP_nil getP_node setP_nil setP_node oneP_eq vP_map vP_some vP_none vP_bind eP_some bP_true bP_false gP_yes gP_tf gP_ft gP_tup runP_skip runP_ops runP_drw runP_seq runP_cond runP_blk runP_loop runP_exit runP_ret seqK_n seqK_r seqK_e seqK_p blkK_n blkK_r blkK_e blkK_p loopK_n loopK_r loopK_e loopK_p finK_n finK_r finK_p resP_one resP_two resP_three resP_nil resP_c nxP_nil argsP_nil argsP_cons evP_t evP_c evP_g evsP_nil evsP_cons clP_fn pnP_i opsP_nil opsP_d opsP_x opsP_gt opsP_gf opP_cf opP_cl opP_pn opP_nx valP_mv valP_pk valP_eq valP_bn valP_nt valP_ld valP_fa valP_fd valP_ia valP_ix valP_ln valP_srn valP_srl valP_srh valP_srb valP_cv valP_mi valP_mf valP_xt valP_bs valP_bd valP_nc valP_mn valP_lk valP_ta opP_mv opP_pk opP_eq opP_bn opP_nt opP_ld opP_fa opP_fd opP_ia opP_ix opP_ln opP_sr opP_cv opP_mi opP_mf opP_xt opP_bs opP_bd opP_nc opP_mn opP_lk opP_ta opP_al opP_bx opP_st opP_ap opP_mk opP_nb opP_mu opP_rg opP_en pendP_nil pendP_d pendP_g drwP_nil drwP_d drwP_x drwP_gt drwP_gf look_self natOf_nat
attribute [local simp] faL fdL iaL ixL loadL partL lenL eqK eqL natOf eqB_s eqB_i eqB_b bn_add bn_sub bn_lss bn_leq bn_gtr bn_geq bn_adds bn_lsss bn_gtrs bn_leqs bn_geqs sliceL LV.cells LV.whole look_self put_self putO_self put_eq stL fillL termC dopP LHeap.alloc oneI oneS oneB nth0 nth1 nth2 nth3 nth4 nth5 nth6 nth7 nth8 nth9 look_ne putO_ne
structure BasAt(n0:Nat)(ob0:List (Nat×LObj))(M:List (PK×Int))(fo am om:Nat)(ob:List (Nat×LObj))(F:List Stp)(own:Own):Prop where
 facts:FactsAt ob fo am F own
 lev:look om ob=some (.map (encP M))
 ne:om≠am
 ni:NoIt ob
 old:∀i,i<n0->look i ob=look i ob0
 lo:n0<=fo/\n0<=am/\∀t,own=.tok t->n0<=t
 g:∀s∈F,atomG s.atom
structure DerAt(n0:Nat)(ob0:List (Nat×LObj))(M:List (PK×Int))(fo am om f7:Nat)(ob:List (Nat×LObj))(F:List Stp)(own:Own):Prop extends BasAt n0 ob0 M fo am om ob F own where
 cell:look f7 ob=some (.cells [.ptr fo 0])
section
variable{n0:Nat}{ob0:List (Nat×LObj)}{M:List (PK×Int)}{fo am om f7:Nat}
theorem FactsAt.tokne{ob:List (Nat×LObj)}{F:List Stp}{own:Own}(h:FactsAt ob fo am F own):∀i x,look i ob=some x->(∀k sz,x≠.tok k sz)->∀t,own=.tok t->i≠t:=by
 intro i x hx hne t ht e
 subst e
 rcases h.row with⟨e1,_⟩|⟨t',e1,_,_,e2⟩
 ·rw[e1]at ht;cases ht
 ·rw[e1]at ht
  cases ht
  rw[hx]at e2
  exact hne _ _ (Option.some.inj e2)
theorem BasAt.turn{ob ob':List (Nat×LObj)}{F F':List Stp}{own own':Own}{m:Nat}(h:BasAt n0 ob0 M fo am om ob F own)(hok:LHeap.Ok ⟨ob,m⟩)(hn:n0<=m)(hF:FactsAt ob' fo am F' own')(hnear:OwnNear m own own')(hni:NoIt ob')(hg:∀s∈F',atomG s.atom)
  (hsame:∀i,i<m->i≠fo->i≠am->(∀t,own=.tok t->i≠t)->look i ob'=look i ob):BasAt n0 ob0 M fo am om ob' F' own'/\∀i v,look i ob=some (.cells [v])->look i ob'=some (.cells [v]):=by
 have cl:=h.lev
 refine⟨⟨hF,?_,h.ne,hni,fun i hi=>?_,⟨h.lo.1,h.lo.2.1,fun t ht=>?_⟩,hg⟩,fun i v hv=>?_⟩
 ·rw[hsame om (hok.look cl) (fun e=>?_) h.ne (h.facts.tokne _ _ cl (fun k sz e=>by cases e))]
  ·exact cl
  ·rw[e,h.facts.pair]at cl;cases cl
 ·rw[hsame i (by omega) (by have:=h.lo.1;omega) (by have:=h.lo.2.1;omega) (fun t ht=>by have:=h.lo.2.2 t ht;omega)]
  exact h.old i hi
 ·rcases hnear with e|⟨t',e,ht'⟩
  ·exact h.lo.2.2 t (by rw[<-e];exact ht)
  ·rw[e]at ht
   cases ht
   omega
 ·rw[hsame i (hok.look hv) (fun e=>?_) (fun e=>?_) (h.facts.tokne _ _ hv (fun k sz e=>by cases e))]
  ·exact hv
  ·rw[e,h.facts.pair]at hv;cases hv
  ·rw[e,h.facts.map]at hv;cases hv
theorem FactsAt.low{ob:List (Nat×LObj)}{F:List Stp}{own:Own}{m:Nat}(h:FactsAt ob fo am F own)(hok:LHeap.Ok ⟨ob,m⟩):∀i,(i=fo\/i=am\/own=.tok i)->i<m:=fun i hi=>by
 rcases hi with rfl|rfl|rfl
 ·exact hok.look h.pair
 ·exact hok.look h.map
 ·rcases h.row with⟨e1,_⟩|⟨t',e1,_,_,e2⟩
  ·cases e1
  ·cases e1;exact hok.look e2
theorem BasAt.keep{ob ob':List (Nat×LObj)}{F:List Stp}{own:Own}{m:Nat}(h:BasAt n0 ob0 M fo am om ob F own)(hok:LHeap.Ok ⟨ob,m⟩)(hn:n0<=m)(hni:NoIt ob')(hsame:∀i,i<m->look i ob'=look i ob):BasAt n0 ob0 M fo am om ob' F own:=
 (h.turn hok hn (h.facts.keep fun i hi=>hsame i (h.facts.low hok i hi)) (.inl rfl) hni h.g fun i hi _ _ _=>hsame i hi).1
theorem DerAt.keep{ob ob':List (Nat×LObj)}{F:List Stp}{own:Own}{m:Nat}(h:DerAt n0 ob0 M fo am om f7 ob F own)(hok:LHeap.Ok ⟨ob,m⟩)(hn:n0<=m)(hni:NoIt ob')(hsame:∀i,i<m->look i ob'=look i ob):DerAt n0 ob0 M fo am om f7 ob' F own:=
 ⟨h.toBasAt.keep hok hn hni hsame,by rw[hsame _ (hok.look h.cell)];exact h.cell⟩
theorem t_addB(s:Stp)(hs:atomG s.atom)(F:List Stp)(hF:F.length<=2^20)(ob:List (Nat×LObj))(m:Nat)(own:Own)(h:BasAt n0 ob0 M fo am om ob F own)(hm:n0<=m){kv kp:HP}
  (hk:∀ob' m' own',m<=m'->BasAt n0 ob0 M fo am om ob' (addF F s) own'->(∀i v,look i ob=some (.cells [v])->look i ob'=some (.cells [v]))->kv (.tup []) ⟨ob',m'⟩):cP E0 F0 46 [.ptr fo 0,stepL s] ⟨ob,m⟩ kv kp:=by
 intro hH
 refine t_add s hs.1 fo am F hF own ob m h.facts (fun hex n' hn'=>?_) (fun hno ob' n' own' hn' hF' hnear hni hsame=>?_) hH
 ·have e:addF F s=F:=by unfold addF;rw[if_pos (hasF_iff.2 hex)]
  exact hk ob n' own hn' (by rw[e];exact h) fun _ _ h=>h
 ·have e:addF F s=F++[s]:=by
   unfold addF
   rw[if_neg]
   intro hh
   obtain⟨q,hq,e⟩:=hasF_iff.1 hh
   exact hno q hq e
  have hg2:∀q∈F++[s],atomG q.atom:=fun q hq=>by
   rcases List.mem_append.1 hq with hq|hq
   ·exact h.g q hq
   ·simp at hq
    subst hq
    exact hs
  have h2:=h.turn hH hm hF' hnear (hni h.ni) hg2 hsame
  exact hk ob' n' own' hn' (by rw[e];exact h2.1) h2.2
theorem t_addD(s:Stp)(hs:atomG s.atom)(F:List Stp)(hF:F.length<=2^20)(ob:List (Nat×LObj))(m:Nat)(own:Own)(h:DerAt n0 ob0 M fo am om f7 ob F own)(hm:n0<=m){kv kp:HP}
  (hk:∀ob' m' own',m<=m'->DerAt n0 ob0 M fo am om f7 ob' (addF F s) own'->kv (.tup []) ⟨ob',m'⟩):cP E0 F0 46 [.ptr fo 0,stepL s] ⟨ob,m⟩ kv kp:=
 t_addB s hs F hF ob m own h.toBasAt hm fun ob' m' own' h1 h2 h3=>hk ob' m' own' h1 ⟨h2,h3 _ _ h.cell⟩
def lvlLoop:BCode:=match r42 with
 |.seq (.seq _ (.blk _ l)) _=>l
 |_=>.bad
def befLoop:BCode:=match lvlLoop with
 |.loop (.seq _ (.seq _ (.seq (.blk _ (.seq _ (.seq _ (.blk _ l)))) _)))=>l
 |_=>.bad
def clLoop:BCode:=match befLoop with
 |.loop (.seq _ (.blk _ (.seq _ (.seq _ (.blk _ l)))))=>l
 |_=>.bad
def addLoop:BCode:=match clLoop with
 |.loop (.seq _ (.seq _ (.seq (.blk _ (.seq _ (.seq _ (.seq _ (.seq _ (.seq (.seq _ (.blk _ l)) _)))))) _)))=>l
 |_=>.bad
structure NNAd where
 i:Nat
 n:Nat
 ob:List (Nat×LObj)
 F:List Stp
 own:Own
theorem t_addLoop(G:List Stp)(hG:∀s∈G,atomG s.atom)(ownG:Own)(F:List Stp)(hlen:F.length+G.length<=2^20)(ob:List (Nat×LObj))(m:Nat)(own:Own)(h:DerAt n0 ob0 M fo am om f7 ob F own)(hm:n0<=m)(v0 v12 v13 v39 v40 v55 v56 v57:LV){KX:XP}
  (hk:∀ob' m' own',m<=m'->DerAt n0 ob0 M fo am om f7 ob' (G.foldl addF F) own'->KX (.exit 8) ((.nd (v0) (.nd .bot (.nd .bot (.nd (.ptr f7 0) (.nd .bot .nil (.nd .bot (.nd (.sl (G.map stepL) ownG) .nil .nil) .nil)) (.nd .bot (.nd (v39) .nil .nil) (.nd (v55) .nil .nil))) .nil) (.nd .bot (.nd .bot (.nd .bot .nil (.nd .bot (.nd (.int G.length) .nil .nil) .nil)) (.nd .bot .nil (.nd (v57) .nil .nil))) (.nd (v13) .nil .nil))) (.nd .bot (.nd .bot (.nd .bot (.nd .bot .nil (.nd .bot (.nd (.int G.length) .nil .nil) .nil)) (.nd .bot (.nd (v40) .nil .nil) (.nd (v56) .nil .nil))) (.nd (v12) .nil .nil)) (.nd (.map om) (.nd .bot (.nd .bot .nil (.nd .bot (.nd (.sc (.bool false)) .nil .nil) .nil)) .nil) .nil)))) ⟨ob',m'⟩):
  lP E0 F0 addLoop ((.nd (v0) (.nd .bot (.nd .bot (.nd (.ptr f7 0) (.nd .bot .nil (.nd .bot (.nd (.sl (G.map stepL) ownG) .nil .nil) .nil)) (.nd .bot (.nd (v39) .nil .nil) (.nd (v55) .nil .nil))) .nil) (.nd .bot (.nd .bot (.nd .bot .nil (.nd .bot (.nd (.int 0) .nil .nil) .nil)) (.nd .bot .nil (.nd (v57) .nil .nil))) (.nd (v13) .nil .nil))) (.nd .bot (.nd .bot (.nd .bot (.nd .bot .nil (.nd .bot (.nd (.int G.length) .nil .nil) .nil)) (.nd .bot (.nd (v40) .nil .nil) (.nd (v56) .nil .nil))) (.nd (v12) .nil .nil)) (.nd (.map om) .nil .nil)))) ⟨ob,m⟩ KX:=by
 obtain⟨A,hA⟩:∃A,G.foldl addF F=A:=⟨_,rfl⟩
 rw[hA]at hk
 refine lP_enter (σ:=NNAd) (fun q=>(.nd (v0) (.nd .bot (.nd .bot (.nd (.ptr f7 0) (.nd .bot .nil (.nd .bot (.nd (.sl (G.map stepL) ownG) .nil .nil) .nil)) (.nd .bot (.nd (v39) .nil .nil) (.nd (v55) .nil .nil))) .nil) (.nd .bot (.nd .bot (.nd .bot .nil (.nd .bot (.nd (.int q.i) .nil .nil) .nil)) (.nd .bot .nil (.nd (v57) .nil .nil))) (.nd (v13) .nil .nil))) (.nd .bot (.nd .bot (.nd .bot (.nd .bot .nil (.nd .bot (.nd (.int G.length) .nil .nil) .nil)) (.nd .bot (.nd (v40) .nil .nil) (.nd (v56) .nil .nil))) (.nd (v12) .nil .nil)) (.nd (.map om) .nil .nil)))) (fun q=>⟨q.ob,q.n⟩) (fun q=>G.length - q.i)
  (fun q=>m<=q.n/\q.i<=G.length/\(G.drop q.i).foldl addF q.F=A/\q.F.length<=F.length+q.i/\DerAt n0 ob0 M fo am om f7 q.ob q.F q.own) ⟨0,m,ob,F,own⟩ ⟨Nat.le_refl _,Nat.zero_le _,hA,Nat.le_refl _,h⟩ (by simp[FT.Le,Wk]) ⟨HWk.refl _,fun h=>h⟩ ?_
 rintro⟨i,m1,ob1,F1,own1⟩ ⟨hm1,hi,hf,hl,h1⟩ hok
 dsimp only at hm1 hi hf hl h1 hok
 by_cases hlt:i<G.length
 case neg=>
  obtain rfl:i=G.length:=by omega
  rw[List.drop_eq_nil_of_le (Nat.le_refl _)]at hf
  obtain rfl:F1=A:=hf
  simp(disch:=omega)
  exact hk ob1 m1 own1 hm1 h1
 rw[List.drop_eq_getElem_cons hlt,List.foldl_cons]at hf
 have c7:=h1.cell
 have b7:f7<m1:=hok.look c7
 have hs:=hG _ (List.getElem_mem hlt)
 simp(disch:=omega)[hlt,c7]
 have ha:=addF_len F1 G[i]
 refine t_addD G[i] hs F1 (by omega) _ _ own1 (h1.keep hok (by omega) (h1.ni.cons _ rfl) fun j hj=>look_ne (by omega) _ _) (by omega) fun ob2 m2 own2 hm2 h2=>?_
 simp(disch:=omega)[wrap_nat (show i<2^62 by omega)]
 exact⟨⟨i+1,m2,ob2,addF F1 G[i],own2⟩,by dsimp only;omega,⟨by dsimp only;omega,by dsimp only;omega,hf,by dsimp only;omega,h2⟩,by simp[FT.Le,Wk],HWk.refl _,fun h=>h⟩
theorem clauseD_good{F:List Stp}(hF:∀s∈F,atomG s.atom){c:Clause}(hc:CGood c){ci:Int}:∀s∈clauseD F c ci,atomG s.atom:=by
 intro s hs
 unfold clauseD at hs
 rw[foldI_fresh]at hs
 obtain⟨X,hX,hX2⟩:=fresh_pre F ((insts F c (posL c.body) [] []).map fun x=>(⟨fillA x.1 c.head,ci,x.2⟩:Stp)) []
 rw[hX]at hs
 have:=hX2 s (by simpa using hs)
 obtain⟨x,hx,rfl⟩:=List.mem_map.1 this
 obtain⟨js,h1,h2,h3⟩:=mem_insts.1 hx
 obtain⟨g1,_,g3,_⟩:=chain_good (S:=SetF F) (fun a ⟨q,hq,e⟩=>e▸hF q hq) .nil (chain_of h1)
 exact(hc.leaf g1 g3).2
theorem t_clLoop(l:List Clause)(hl:l.length<=2^20)(hc:∀c∈l,CGood c)(lev:Nat)(bf:Nat)(F:List Stp)(hF:F.length<=300)(ob:List (Nat×LObj))(m:Nat)(own:Own)(h:DerAt n0 ob0 M fo am om f7 ob F own)(hm:n0<=m)(v39:LV){KX:XP}
  (hk1:∀F',roundD M lev l 0 F=some F'->∀ob' m' own',m<=m'->F'.length<=300->DerAt n0 ob0 M fo am om f7 ob' F' own'->KX (.exit 6) ((.nd (clausesL l) (.nd .bot (.nd .bot (.nd (.ptr f7 0) .nil (.nd .bot (.nd (v39) .nil .nil) (.nd (clausesL l) .nil .nil))) .nil) (.nd .bot (.nd .bot .nil (.nd .bot .nil (.nd (.int l.length) .nil .nil))) (.nd (.int bf) .nil .nil))) (.nd .bot (.nd .bot (.nd .bot .nil (.nd .bot (.nd (.int lev) .nil .nil) (.nd (.int l.length) .nil .nil))) (.nd (.int lev) .nil .nil)) (.nd (.map om) (.nd .bot .nil (.nd .bot .nil (.nd (.sc (.bool false)) .nil .nil))) .nil)))) ⟨ob',m'⟩)
  (hk2:roundD M lev l 0 F=none->∀t' ob' m',m<=m'->NoIt ob'->(∀i,i<n0->look i ob'=look i ob0)->t'.get 4=.sc (.pointer none)->t'.get 5=.int 2->KX .ret t' ⟨ob',m'⟩):
  lP E0 F0 clLoop ((.nd (clausesL l) (.nd .bot (.nd .bot (.nd (.ptr f7 0) .nil (.nd .bot (.nd (v39) .nil .nil) (.nd (clausesL l) .nil .nil))) .nil) (.nd .bot (.nd .bot .nil (.nd .bot .nil (.nd (.int 0) .nil .nil))) (.nd (.int bf) .nil .nil))) (.nd .bot (.nd .bot (.nd .bot .nil (.nd .bot (.nd (.int lev) .nil .nil) (.nd (.int l.length) .nil .nil))) (.nd (.int lev) .nil .nil)) (.nd (.map om) .nil .nil)))) ⟨ob,m⟩ KX:=by
 obtain⟨A,hA⟩:∃A,roundD M lev l 0 F=A:=⟨_,rfl⟩
 rw[hA]at hk1 hk2
 refine lP_enter (σ:=NNAd) (fun q=>(.nd (clausesL l) (.nd .bot (.nd .bot (.nd (.ptr f7 0) .nil (.nd .bot (.nd (v39) .nil .nil) (.nd (clausesL l) .nil .nil))) .nil) (.nd .bot (.nd .bot .nil (.nd .bot .nil (.nd (.int q.i) .nil .nil))) (.nd (.int bf) .nil .nil))) (.nd .bot (.nd .bot (.nd .bot .nil (.nd .bot (.nd (.int lev) .nil .nil) (.nd (.int l.length) .nil .nil))) (.nd (.int lev) .nil .nil)) (.nd (.map om) .nil .nil)))) (fun q=>⟨q.ob,q.n⟩) (fun q=>l.length - q.i)
  (fun q=>m<=q.n/\q.i<=l.length/\roundD M lev (l.drop q.i) q.i q.F=A/\q.F.length<=300/\DerAt n0 ob0 M fo am om f7 q.ob q.F q.own) ⟨0,m,ob,F,own⟩ ⟨Nat.le_refl _,Nat.zero_le _,hA,hF,h⟩ (by simp[FT.Le,Wk]) ⟨HWk.refl _,fun h=>h⟩ ?_
 rintro⟨i,m1,ob1,F1,own1⟩ ⟨hm1,hi,hf,hl1,h1⟩ hok
 dsimp only at hm1 hi hf hl1 h1 hok
 by_cases hlt:i<l.length
 case neg=>
  obtain rfl:i=l.length:=by omega
  rw[List.drop_eq_nil_of_le (Nat.le_refl _)]at hf
  simp(disch:=omega)
  exact hk1 F1 hf.symm ob1 m1 own1 hm1 hl1 h1
 rw[List.drop_eq_getElem_cons hlt]at hf
 simp only[roundD]at hf
 have c7:=h1.cell
 have cl:=h1.lev
 have b7:f7<m1:=hok.look c7
 have bl:om<m1:=hok.look cl
 have hcg:=hc _ (List.getElem_mem hlt)
 simp(disch:=omega)[hlt]
 refine(t_of l[i].head).go fun m2 hm2=>?_
 simp(disch:=omega)
 have hlk:=lkP (nx:=m2) (show look om ((m1+1,.cells (clauseC l[i]))::(m1,.cells [.int (i:Int)])::ob1)=some (.map (encP M)) by rw[look_ne (by omega),look_ne (by omega)];exact cl) (ofA l[i].head)
 unfold keyL at hlk
 obtain⟨PV,hPV⟩:∃PV,pVal M (ofA l[i].head)=PV:=⟨_,rfl⟩
 rw[hPV]at hlk hf
 unfold ofA at hlk
 rw[hlk]
 have hdrop:∀(x y:LObj)(mm:Nat),m1<=mm->HWk ⟨(m1+1,x)::(m1,y)::ob1,mm⟩ ⟨ob1,mm⟩/\LHeap.Ok ⟨ob1,mm⟩:=fun x y mm hmm=>⟨⟨Nat.le_refl _,fun j z hz=>by
  have:=hok.look hz
  dsimp only at this
  rw[look_ne (by omega),look_ne (by omega)]
  exact hz⟩,Desc.mono hok hmm⟩
 by_cases hlev:PV=(lev:Int)
 case neg=>
  rw[if_neg hlev]at hf
  simp(disch:=omega)[hlev,wrap_nat (show i<2^62 by omega)]
  exact⟨⟨i+1,m2,ob1,F1,own1⟩,by dsimp only;omega,⟨by dsimp only;omega,by dsimp only;omega,hf,hl1,h1⟩,by simp[FT.Le,Wk],(hdrop _ _ m2 (by omega)).1,fun _=>(hdrop (.cells []) (.cells []) m2 (by omega)).2⟩
 rw[if_pos hlev]at hf
 simp(disch:=omega)[hlev,c7]
 obtain⟨G,hGe⟩:∃G,clauseD F1 l[i] i=G:=⟨_,rfl⟩
 have hGg:∀s∈G,atomG s.atom:=by rw[<-hGe];exact clauseD_good h1.g hcg
 have hGl:G.length<=301:=by rw[<-hGe];exact clauseD_len _ _ _
 rw[hGe]at hf
 obtain⟨obE,hobE⟩:∃obE,(m2+1+1,LObj.cells [.ptr (m2+1) 0])::(m2+1,.cells [.map m2,Nl])::(m2,.map [])::(m1+1,.cells [.str l[i].head.pred,argsL l[i].head.args,bodyL l[i].body])::(m1,.cells [.int (i:Int)])::ob1=obE:=⟨_,rfl⟩
 have hE:∀j,j<m1->look j obE=look j ob1:=fun j hj=>by rw[<-hobE,look_ne (by omega),look_ne (by omega),look_ne (by omega),look_ne (by omega),look_ne (by omega)]
 have e0:look m1 obE=some (.cells [.int (i:Int)]):=by rw[<-hobE,look_ne (by omega),look_ne (by omega),look_ne (by omega),look_ne (by omega)];exact look_self _ _ _
 have e1:look m2 obE=some (.map []):=by rw[<-hobE,look_ne (by omega),look_ne (by omega)];exact look_self _ _ _
 have e2:look (m2+1) obE=some (.cells [.map m2,Nl]):=by rw[<-hobE,look_ne (by omega)];exact look_self _ _ _
 have e3:look (m2+1+1) obE=some (.cells [.ptr (m2+1) 0]):=by rw[<-hobE];exact look_self _ _ _
 have hniE:NoIt obE:=by rw[<-hobE];exact((((h1.ni.cons _ rfl).cons _ rfl).cons _ rfl).cons _ rfl).cons _ rfl
 rw[hobE]
 have hlowF:∀p∈statF F1 fo am own1,p.1<m1:=fun p hp=>hok.look (statF_ok h1.facts p hp)
 have hstE:StatOk (doerD F1 i fo am own1 (m2+1) m2 f7 (m2+1+1) m1 ob1 h1.facts).Stat obE:=by
  show StatOk (_::_::_::statF F1 fo am own1) obE
  unfold StatOk
  simp only[List.forall_mem_cons]
  exact⟨by rw[hE _ b7];exact c7,e3,e0,fun p hp=>by rw[hE _ (hlowF p hp)];exact statF_ok h1.facts p hp⟩
 refine t_instances (D:=doerD F1 i fo am own1 (m2+1) m2 f7 (m2+1+1) m1 ob1 h1.facts) l[i] hcg F1 fo am own1 (doerD F1 i fo am own1 (m2+1) m2 f7 (m2+1+1) m1 ob1 h1.facts).Stat (fun p hp=>hp) ?_ (fun ob h=>?_) h1.g (by omega) obE (m2+1+1+1) [] (fun j=>j=m2+1\/j=m2\/Own.full=.tok j) (by show ([]:List Stp).length<=301;simp) hstE ⟨.full,⟨e2,e1,by omega,.inl ⟨rfl,rfl⟩⟩,fun j=>Iff.rfl⟩ ?_ hniE fun ob2 n2 S2 hn2 hat2 hS2 hni2 hsame2=>?_
 ·show ∀p∈_::_::_::statF F1 fo am own1,_
  simp only[List.forall_mem_cons]
  exact⟨rfl,rfl,rfl,statF_plain _ _ _ _⟩
 ·have h':StatOk (_::_::_::statF F1 fo am own1) ob:=h
  unfold StatOk at h'
  simp only[List.forall_mem_cons]at h'
  exact of_statF h1.facts h'.2.2.2
 ·show ∀p∈_::_::_::statF F1 fo am own1,_
  simp only[List.forall_mem_cons]
  have hno:∀j,j<m2->¬(j=m2+1\/j=m2\/Own.full=.tok j):=fun j hj h=>by
   rcases h with h|h|h
   ·omega
   ·omega
   ·cases h
  have hno2:¬(m2+1+1=m2+1\/m2+1+1=m2\/Own.full=.tok (m2+1+1)):=fun h=>by
   rcases h with h|h|h
   ·omega
   ·omega
   ·cases h
  exact⟨hno _ (by omega),hno2,hno _ (by omega),fun p hp=>hno _ (by have:=hlowF p hp;omega)⟩
 have hsame3:∀j,j<m1\/j=m2+1+1->look j ob2=look j obE:=fun j hj=>hsame2 j (by omega) fun h=>by
  rcases h with h|h|h
  ·omega
  ·omega
  ·cases h
 obtain⟨ownG,hfG,_⟩:∃own,FactsAt ob2 (m2+1) m2 G own/\∀j,S2 j↔(j=m2+1\/j=m2\/own=.tok j):=by
  rw[<-hGe];exact hat2
 have f3:look (m2+1+1) ob2=some (.cells [.ptr (m2+1) 0]):=by rw[hsame3 _ (.inr rfl)];exact e3
 have h2:DerAt n0 ob0 M fo am om f7 ob2 F1 own1:=h1.keep hok (by omega) hni2 fun j hj=>by rw[hsame3 j (.inl hj),hE j hj]
 simp(disch:=omega)[f3,hfG.pair]
 refine lP_weak (t':=(.nd (clausesL l) (.nd .bot (.nd .bot (.nd (.ptr f7 0) (.nd .bot .nil (.nd .bot (.nd (.sl (G.map stepL) ownG) .nil .nil) .nil)) (.nd .bot (.nd (v39) .nil .nil) (.nd (clausesL l) .nil .nil))) .nil) (.nd .bot (.nd .bot (.nd .bot .nil (.nd .bot (.nd (.int 0) .nil .nil) .nil)) (.nd .bot .nil (.nd (.int i) .nil .nil))) (.nd (.int bf) .nil .nil))) (.nd .bot (.nd .bot (.nd .bot (.nd .bot .nil (.nd .bot (.nd (.int G.length) .nil .nil) .nil)) (.nd .bot (.nd (.int lev) .nil .nil) (.nd (.int l.length) .nil .nil))) (.nd (.int lev) .nil .nil)) (.nd (.map om) .nil .nil)))) (fun l h=>by cases h) (by simp[FT.Le,Wk]) (HWk.refl _) (fun h=>h) ?_
 refine t_addLoop G hGg ownG F1 (by omega) ob2 n2 own1 h2 (by omega) _ _ _ _ _ _ _ _ fun ob3 n3 own3 hn3 h3=>?_
 have c73:=h3.cell
 have hF2:=addFs_len G F1
 obtain⟨F2,hF2e⟩:∃F2,G.foldl addF F1=F2:=⟨_,rfl⟩
 rw[hF2e]at hf h3 hF2
 by_cases hbig:300<F2.length
 ·rw[if_pos hbig]at hf
  have hbig':(300:Int)<(F2.length:Int):=by omega
  simp(disch:=omega)[c73,h3.facts.pair,hbig']
  exact hk2 hf.symm _ ob3 n3 (by omega) h3.ni h3.old rfl rfl
 ·rw[if_neg hbig]at hf
  have hbig':¬(300:Int)<(F2.length:Int):=by omega
  simp(disch:=omega)[c73,h3.facts.pair,hbig',wrap_nat (show i<2^62 by omega)]
  exact⟨⟨i+1,n3,ob3,F2,own3⟩,by dsimp only;omega,⟨by dsimp only;omega,by dsimp only;omega,hf,by dsimp only;omega,h3⟩,by simp[FT.Le,Wk],HWk.refl _,fun h=>h⟩
end
section
variable{n0:Nat}{ob0:List (Nat×LObj)}{M:List (PK×Int)}{fo am om f7:Nat}
theorem roundD_len(M:List (PK×Int))(lev:Int):∀(l:List Clause)(i:Nat)(F F':List Stp),roundD M lev l i F=some F'->F.length<=F'.length
 |[],_,F,F',h=>by
  simp only[roundD,Option.some.injEq]at h
  rw[h];exact Nat.le_refl _
 |c::r,i,F,F',h=>by
  simp only[roundD]at h
  split at h
  ·split at h
   ·cases h
   ·have h1:=roundD_len M lev r _ _ _ h
    have h2:=addFs_len (clauseD F c i) F
    omega
  ·exact roundD_len M lev r _ _ _ h
structure NNBf where
 k:Nat
 bf:Int
 n:Nat
 ob:List (Nat×LObj)
 F:List Stp
 own:Own
theorem t_befLoop(l:List Clause)(hl:l.length<=2^20)(hc:∀c∈l,CGood c)(lev:Nat)(F:List Stp)(hF:F.length<=300)(ob:List (Nat×LObj))(m:Nat)(own:Own)(h:DerAt n0 ob0 M fo am om f7 ob F own)(hm:n0<=m)(v39:LV){KX:XP}
  (hk1:∀F',levelD M lev l 302 F=some F'->∀ob' m' own',m<=m'->F'.length<=300->DerAt n0 ob0 M fo am om f7 ob' F' own'->KX (.exit 4) ((.nd (clausesL l) (.nd .bot (.nd .bot (.nd (.ptr f7 0) (.nd .bot .nil (.nd (.sl (F'.map stepL) own') .nil .nil)) (.nd .bot (.nd (v39) .nil .nil) .nil)) (.nd .bot .nil (.nd .bot (.nd (.int F'.length) .nil .nil) .nil))) (.nd .bot (.nd .bot (.nd .bot .nil (.nd (.sc (.bool false)) .nil .nil)) .nil) (.nd (.int F'.length) .nil (.nd .bot (.nd (.ptr fo 0) .nil .nil) .nil)))) (.nd .bot (.nd .bot (.nd .bot (.nd .bot .nil (.nd (.int F'.length) .nil .nil)) (.nd .bot (.nd (.int lev) .nil .nil) .nil)) (.nd (.int lev) .nil (.nd .bot (.nd (.ptr fo 0) .nil .nil) .nil))) (.nd (.map om) .nil (.nd .bot .nil (.nd .bot (.nd (.ptr fo 1) .nil .nil) .nil)))))) ⟨ob',m'⟩)
  (hk2:levelD M lev l 302 F=none->∀t' ob' m',m<=m'->NoIt ob'->(∀i,i<n0->look i ob'=look i ob0)->t'.get 4=.sc (.pointer none)->t'.get 5=.int 2->KX .ret t' ⟨ob',m'⟩):
  lP E0 F0 befLoop ((.nd (clausesL l) (.nd .bot (.nd .bot (.nd (.ptr f7 0) .nil (.nd .bot (.nd (v39) .nil .nil) .nil)) .nil) (.nd .bot .nil (.nd (.int (-1)) .nil .nil))) (.nd .bot (.nd .bot (.nd .bot .nil (.nd .bot (.nd (.int lev) .nil .nil) .nil)) (.nd (.int lev) .nil .nil)) (.nd (.map om) .nil .nil)))) ⟨ob,m⟩ KX:=by
 obtain⟨A,hA⟩:∃A,levelD M lev l 302 F=A:=⟨_,rfl⟩
 rw[hA]at hk1 hk2
 refine lP_enter (σ:=NNBf) (fun q=>(.nd (clausesL l) (.nd .bot (.nd .bot (.nd (.ptr f7 0) .nil (.nd .bot (.nd (v39) .nil .nil) .nil)) .nil) (.nd .bot .nil (.nd (.int q.bf) .nil .nil))) (.nd .bot (.nd .bot (.nd .bot .nil (.nd .bot (.nd (.int lev) .nil .nil) .nil)) (.nd (.int lev) .nil .nil)) (.nd (.map om) .nil .nil)))) (fun q=>⟨q.ob,q.n⟩) (fun q=>q.k)
  (fun q=>m<=q.n/\q.F.length<=300/\DerAt n0 ob0 M fo am om f7 q.ob q.F q.own/\((q.k=0/\q.bf=(q.F.length:Int)/\A=some q.F)\/(0<q.k/\q.bf≠(q.F.length:Int)/\levelD M lev l q.k q.F=A/\302<=q.k+q.F.length)))
  ⟨302,-1,m,ob,F,own⟩ ⟨Nat.le_refl _,hF,h,   .inr ⟨by dsimp only;omega,by dsimp only;omega,hA,by dsimp only;omega⟩⟩ (by simp[FT.Le,Wk]) ⟨HWk.refl _,fun h=>h⟩ ?_
 rintro⟨k,bf,m1,ob1,F1,own1⟩ ⟨hm1,hl1,h1,hcase⟩ hok
 dsimp only at hm1 hl1 h1 hcase hok
 have c7:=h1.cell
 rcases hcase with⟨rfl,rfl,hA1⟩|⟨hk0,hbf,hlv,hfu⟩
 ·simp(disch:=omega)[c7,h1.facts.pair]
  exact hk1 F1 hA1 ob1 m1 own1 hm1 hl1 h1
 obtain⟨k',rfl⟩:∃k',k=k'+1:=⟨k - 1,by omega⟩
 simp only[levelD]at hlv
 simp(disch:=omega)[c7,h1.facts.pair,hbf]
 refine lP_weak (t':=(.nd (clausesL l) (.nd .bot (.nd .bot (.nd (.ptr f7 0) .nil (.nd .bot (.nd (v39) .nil .nil) (.nd (clausesL l) .nil .nil))) .nil) (.nd .bot (.nd .bot .nil (.nd .bot .nil (.nd (.int 0) .nil .nil))) (.nd (.int F1.length) .nil .nil))) (.nd .bot (.nd .bot (.nd .bot .nil (.nd .bot (.nd (.int lev) .nil .nil) (.nd (.int l.length) .nil .nil))) (.nd (.int lev) .nil .nil)) (.nd (.map om) .nil .nil)))) (fun l h=>by cases h) (by simp[FT.Le,Wk]) (HWk.refl _) (fun h=>h) ?_
 refine t_clLoop l hl hc lev F1.length F1 hl1 ob1 m1 own1 h1 (by omega) v39 (fun F' hr ob2 m2 own2 hm2 hl2 h2=>?_) (fun hr t' ob2 m2 hm2 hni hold h4 h5=>?_)
 ·rw[hr]at hlv
  simp only at hlv
  simp(disch:=omega)
  by_cases he:F'.length=F1.length
  ·rw[if_pos he]at hlv
   exact⟨⟨0,F1.length,m2,ob2,F',own2⟩,by dsimp only;omega,⟨by dsimp only;omega,hl2,h2,.inl ⟨rfl,by dsimp only;rw[he],hlv.symm⟩⟩,by simp[FT.Le,Wk],HWk.refl _,fun h=>h⟩
  ·rw[if_neg he]at hlv
   have:=roundD_len _ _ _ _ _ _ hr
   exact⟨⟨k',F1.length,m2,ob2,F',own2⟩,by dsimp only;omega,⟨by dsimp only;omega,hl2,h2,.inr ⟨by dsimp only;omega,by dsimp only;omega,hlv,by dsimp only;omega⟩⟩,by simp[FT.Le,Wk],HWk.refl _,fun h=>h⟩
 ·rw[hr]at hlv
  simp(disch:=omega)
  exact hk2 hlv.symm t' ob2 m2 (by omega) hni hold h4 h5
theorem t_lvlLoop(l:List Clause)(hl:l.length<=2^20)(hc:∀c∈l,CGood c)(N:Nat)(hN:N<=2^40)(F:List Stp)(hF:F.length<=300)(ob:List (Nat×LObj))(m:Nat)(own:Own)(h:DerAt n0 ob0 M fo am om f7 ob F own)(hm:n0<=m){KX:XP}
  (hk1:∀F',levelsD M l N 0 F=some F'->∀ob' m' own',m<=m'->F'.length<=300->DerAt n0 ob0 M fo am om f7 ob' F' own'->KX (.exit 2) ((.nd (clausesL l) (.nd .bot (.nd .bot (.nd (.ptr f7 0) .nil (.nd .bot (.nd (.int N) .nil .nil) .nil)) .nil) (.nd .bot (.nd .bot .nil (.nd .bot (.nd (.sc (.bool false)) .nil .nil) .nil)) .nil)) (.nd .bot (.nd .bot (.nd .bot .nil (.nd .bot (.nd (.int N) .nil .nil) .nil)) .nil) (.nd (.map om) .nil .nil)))) ⟨ob',m'⟩)
  (hk2:levelsD M l N 0 F=none->∀t' ob' m',m<=m'->NoIt ob'->(∀i,i<n0->look i ob'=look i ob0)->t'.get 4=.sc (.pointer none)->t'.get 5=.int 2->KX .ret t' ⟨ob',m'⟩):
  lP E0 F0 lvlLoop ((.nd (clausesL l) (.nd .bot (.nd .bot (.nd (.ptr f7 0) .nil (.nd .bot (.nd (.int N) .nil .nil) .nil)) .nil) .nil) (.nd .bot (.nd .bot (.nd .bot .nil (.nd .bot (.nd (.int 0) .nil .nil) .nil)) .nil) (.nd (.map om) .nil .nil)))) ⟨ob,m⟩ KX:=by
 obtain⟨A,hA⟩:∃A,levelsD M l N 0 F=A:=⟨_,rfl⟩
 rw[hA]at hk1 hk2
 refine lP_enter (σ:=NNAd) (fun q=>(.nd (clausesL l) (.nd .bot (.nd .bot (.nd (.ptr f7 0) .nil (.nd .bot (.nd (.int N) .nil .nil) .nil)) .nil) .nil) (.nd .bot (.nd .bot (.nd .bot .nil (.nd .bot (.nd (.int q.i) .nil .nil) .nil)) .nil) (.nd (.map om) .nil .nil)))) (fun q=>⟨q.ob,q.n⟩) (fun q=>N - q.i)
  (fun q=>m<=q.n/\q.i<=N/\levelsD M l (N - q.i) q.i q.F=A/\q.F.length<=300/\DerAt n0 ob0 M fo am om f7 q.ob q.F q.own)
  ⟨0,m,ob,F,own⟩ ⟨Nat.le_refl _,Nat.zero_le _,hA,hF,h⟩ (by simp[FT.Le,Wk]) ⟨HWk.refl _,fun h=>h⟩ ?_
 rintro⟨i,m1,ob1,F1,own1⟩ ⟨hm1,hi,hf,hl1,h1⟩ hok
 dsimp only at hm1 hi hf hl1 h1 hok
 by_cases hlt:i<N
 case neg=>
  obtain rfl:i=N:=by omega
  rw[Nat.sub_self]at hf
  simp(disch:=omega)
  exact hk1 F1 hf.symm ob1 m1 own1 hm1 hl1 h1
 obtain⟨d,hd⟩:∃d,N - i=d+1:=⟨N - i - 1,by omega⟩
 rw[hd]at hf
 simp only[levelsD]at hf
 simp(disch:=omega)[hlt]
 refine lP_weak (t':=(.nd (clausesL l) (.nd .bot (.nd .bot (.nd (.ptr f7 0) .nil (.nd .bot (.nd (.int N) .nil .nil) .nil)) .nil) (.nd .bot .nil (.nd (.int (-1)) .nil .nil))) (.nd .bot (.nd .bot (.nd .bot .nil (.nd .bot (.nd (.int i) .nil .nil) .nil)) (.nd (.int i) .nil .nil)) (.nd (.map om) .nil .nil)))) (fun l h=>by cases h) (by simp[FT.Le,Wk]) (HWk.refl _) (fun h=>h) ?_
 refine t_befLoop l hl hc i F1 hl1 ob1 m1 own1 h1 (by omega) (.int N) (fun F' hr ob2 m2 own2 hm2 hl2 h2=>?_) (fun hr t' ob2 m2 hm2 hni hold h4 h5=>?_)
 ·rw[hr]at hf
  simp only at hf
  simp(disch:=omega)[wrap_nat (show i<2^62 by omega)]
  exact⟨⟨i+1,m2,ob2,F',own2⟩,by dsimp only;omega,⟨by dsimp only;omega,by dsimp only;omega,by dsimp only;rw[show N - (i+1)=d by omega];exact hf,hl2,h2⟩,by simp[FT.Le,Wk],HWk.refl _,fun h=>h⟩
 ·rw[hr]at hf
  simp(disch:=omega)
  exact hk2 hf.symm t' ob2 m2 (by omega) hni hold h4 h5
end
theorem cP_stripA{f:FuncId}{args:List LV}{H:LHeap}{kv kp:HP}(h:cP E0 F0 f (stripL args) H kv kp):cP E0 F0 f args H kv kp:=fun hH=>by
 refine .weakArgs (args':=stripL args) (by rw[stripL_length]) (fun k=>?_) ⟨Nat.le_refl _,fun _ _ h=>h⟩ (h hH)
 simp only[frOf,List.getD_eq_getElem?_getD,stripL_get]
 cases args[k]? with
 |none=>exact .inl rfl
 |some v=>exact .inr (.inl rfl)
def basLoop:BCode:=match b43.body with
 |.seq _ (.seq _ (.seq _ (.seq _ (.seq _ (.seq (.seq _ (.blk _ l)) _)))))=>l
 |_=>.bad
def baseOk(a:Atom):Bool:=atomOk a&&a.args.all notVar
theorem baseOk_iff{a:Atom}:baseOk a=true↔atomG a:=by simp[baseOk,atomG]
section
variable{n0:Nat}{ob0:List (Nat×LObj)}{M:List (PK×Int)}{fo am om:Nat}
theorem t_basLoop(base:List Atom)(ownB:Own)(hb:base.length<=100)(hok:∀a∈base,a.ok)(ob:List (Nat×LObj))(m:Nat)(h:BasAt n0 ob0 M fo am om ob [] .full)(hm:n0<=m){KX:XP}
  (hk1:base.all baseOk=true->∀ob' m' own',m<=m'->BasAt n0 ob0 M fo am om ob' (baseD base) own'->KX (.exit 0) ((.nd .bot (.nd .bot (.nd .bot (.nd (.map om) .nil .nil) (.nd .bot .nil (.nd (.int base.length) .nil .nil))) (.nd .bot (.nd (.ptr fo 0) .nil .nil) (.nd .bot .nil (.nd (.sc (.bool false)) .nil .nil)))) (.nd .bot (.nd .bot .nil (.nd .bot .nil (.nd (.int base.length) .nil .nil))) (.nd .bot (.nd .bot .nil (.nd (.sl (base.map atomL) ownB) .nil .nil)) .nil)))) ⟨ob',m'⟩)
  (hk2:base.all baseOk=false->∀t' ob' m',m<=m'->NoIt ob'->(∀i,i<n0->look i ob'=look i ob0)->t'.get 4=.sc (.map none)->t'.get 5=.sc (.pointer none)->t'.get 6=.int 1->KX .ret t' ⟨ob',m'⟩):
  lP E0 F0 basLoop ((.nd .bot (.nd .bot (.nd .bot (.nd (.map om) .nil .nil) (.nd .bot .nil (.nd (.int base.length) .nil .nil))) (.nd .bot (.nd (.ptr fo 0) .nil .nil) .nil)) (.nd .bot (.nd .bot .nil (.nd .bot .nil (.nd (.int 0) .nil .nil))) (.nd .bot (.nd .bot .nil (.nd (.sl (base.map atomL) ownB) .nil .nil)) .nil)))) ⟨ob,m⟩ KX:=by
 obtain⟨A,hA⟩:∃A,base.all baseOk=A:=⟨_,rfl⟩
 obtain⟨B,hB⟩:∃B,baseD base=B:=⟨_,rfl⟩
 rw[hA]at hk1 hk2
 rw[hB]at hk1
 refine lP_enter (σ:=NNAd) (fun q=>(.nd .bot (.nd .bot (.nd .bot (.nd (.map om) .nil .nil) (.nd .bot .nil (.nd (.int base.length) .nil .nil))) (.nd .bot (.nd (.ptr fo 0) .nil .nil) .nil)) (.nd .bot (.nd .bot .nil (.nd .bot .nil (.nd (.int q.i) .nil .nil))) (.nd .bot (.nd .bot .nil (.nd (.sl (base.map atomL) ownB) .nil .nil)) .nil)))) (fun q=>⟨q.ob,q.n⟩) (fun q=>base.length - q.i)
  (fun q=>m<=q.n/\q.i<=base.length/\(base.drop q.i).all baseOk=A/\((base.map fun a=>(⟨a,-1,[]⟩:Stp)).drop q.i).foldl addF q.F=B/\q.F.length<=q.i/\BasAt n0 ob0 M fo am om q.ob q.F q.own)
  ⟨0,m,ob,[],.full⟩ ⟨Nat.le_refl _,Nat.zero_le _,hA,hB,Nat.le_refl _,h⟩ (by simp[FT.Le,Wk]) ⟨HWk.refl _,fun h=>h⟩ ?_
 rintro⟨i,m1,ob1,F1,own1⟩ ⟨hm1,hi,hf,hg,hl1,h1⟩ hok1
 dsimp only at hm1 hi hf hg hl1 h1 hok1
 by_cases hlt:i<base.length
 case neg=>
  obtain rfl:i=base.length:=by omega
  rw[List.drop_eq_nil_of_le (Nat.le_refl _)]at hf
  rw[List.drop_eq_nil_of_le (by simp)]at hg
  obtain rfl:F1=B:=hg
  simp(disch:=omega)
  exact hk1 hf.symm ob1 m1 own1 hm1 h1
 rw[all_drop _ hlt]at hf
 rw[List.drop_eq_getElem_cons (by simpa using hlt),List.foldl_cons,List.getElem_map]at hg
 have hao:=hok _ (List.getElem_mem hlt)
 simp(disch:=omega)[hlt]
 refine(t_formedAtom base[i] hao).go fun m2 hm2=>?_
 have hold2:∀(x:LObj) j,j<n0->look j ((m1,x)::ob1)=look j ob0:=fun x j hj=>by rw[look_ne (by omega)];exact h1.old j hj
 cases ha:atomOk base[i]
 ·have e:baseOk base[i]=false:=by simp[baseOk,ha]
  rw[e,Bool.false_and]at hf
  simp(disch:=omega)
  exact hk2 hf.symm _ _ m2 (by omega) (h1.ni.cons _ rfl) (hold2 _) rfl rfl rfl
 simp(disch:=omega)
 refine(t_ground base[i] hao).go fun m3 hm3=>?_
 cases hgr:base[i].args.all notVar
 ·have e:baseOk base[i]=false:=by simp[baseOk,hgr]
  rw[e,Bool.false_and]at hf
  simp(disch:=omega)
  exact hk2 hf.symm _ _ m3 (by omega) (h1.ni.cons _ rfl) (hold2 _) rfl rfl rfl
 have e:baseOk base[i]=true:=by simp[baseOk,ha,hgr]
 have hG:atomG base[i]:=baseOk_iff.1 e
 rw[e,Bool.true_and]at hf
 simp(disch:=omega)
 have hal:=(atom_args ha).1
 refine t_filledN base[i] (by omega) (fun t ht hk3=>by have:=List.all_eq_true.1 hgr t ht;simp[notVar,hk3]at this) _ fun m4 hm4=>?_
 dsimp only at hm4
 simp(disch:=omega)
 refine cP_stripA ?_
 have hstrip:stripL [.ptr fo 0,.agg [.str base[i].pred,argsL base[i].args,Z (-1),Nl]]=[.ptr fo 0,stepL ⟨base[i],-1,[]⟩]:=by
  simp[LV.strip,stripL,stripL_map,List.map_map,Function.comp_def]
 rw[hstrip]
 refine t_addB ⟨base[i],-1,[]⟩ hG F1 (by omega) ((m1,.cells [.str base[i].pred,argsL base[i].args])::ob1) m4 own1 (h1.keep hok1 (by omega) (h1.ni.cons _ rfl) fun j hj=>look_ne (by omega) _ _) (by omega) fun ob2 m5 own2 hm5 h2 _=>?_
 simp(disch:=omega)[wrap_nat (show i<2^62 by omega)]
 have:=addF_len F1 ⟨base[i],-1,[]⟩
 exact⟨⟨i+1,m5,ob2,addF F1 ⟨base[i],-1,[]⟩,own2⟩,by dsimp only;omega,⟨by dsimp only;omega,by dsimp only;omega,hf,hg,by dsimp only;omega,h2⟩,by simp[FT.Le,Wk],HWk.refl _,fun h=>h⟩
end
theorem t_based(l:List Clause)(hl:SmallL l)(fuel:Nat)(R:Option (List (PK×Int)))(hR:(checkB l).1=0->levN l fuel (l.foldl initCl [])=some R)(base:List Atom)(ownB:Own)(hb:base.length<2^63)(hok:base.length<=100->∀a∈base,a.ok)(ob:List (Nat×LObj))(n:Nat)(hni:NoIt ob){kv kp:HP}
  (he:∀e:Int,e≠0->((checkB l).1≠0/\e=(checkB l).1\/(checkB l).1=0/\R=none/\e=81\/(checkB l).1=0/\R≠none/\100<base.length/\e=2\/(checkB l).1=0/\R≠none/\base.length<=100/\base.all baseOk=false/\e=1)->∀n',n<=n'->kv (.tup [.sc (.map none),.sc (.pointer none),.int e]) ⟨ob,n'⟩)
  (hv:(checkB l).1=0->∀m,R=some m->base.length<=100->base.all baseOk=true->∀om fo am ob' n' own',n<=n'->BasAt n ob m fo am om ob' (baseD base) own'->kv (.tup [.map om,.ptr fo 0,.int 0]) ⟨ob',n'⟩):
  cP E0 F0 43 [clausesL l,.sl (base.map atomL) ownB] ⟨ob,n⟩ kv kp:=by
 refine cP_of_fn c43 fun hH=>⟨Nat.le_of_ble_eq_true rfl,?_⟩
 simp(disch:=omega)[b43]
 refine t_checked l hl fuel R hR _ (fun hc n2 hn2=>?_) (fun hc hRn n2 hn2=>?_) (fun hc m hRm o n2 ho hn2=>?_)
 ·dsimp only at hn2
  simp(disch:=omega)[hc]
  exact keep (he _ hc (.inl ⟨hc,rfl⟩) n2 hn2)
 ·dsimp only at hn2
  simp(disch:=omega)
  exact keep (he 81 (by decide) (.inr (.inl ⟨hc,hRn,rfl⟩)) n2 hn2)
 dsimp only at ho
 have hRs:R≠none:=by rw[hRm];simp
 by_cases h100:base.length<=100
 case neg=>
  have h100':(100:Int)<(base.length:Int):=by omega
  simp(disch:=omega)[h100']
  obtain⟨g1,g2⟩:=back (l:=(o,LObj.map (encP m))::ob) (n:=n2) hH (HExt.cons' hH ho (by dsimp only;omega) (HExt.refl' _))
  exact⟨_,g1,g2,he 2 (by decide) (.inr (.inr (.inl ⟨hc,hRs,by omega,rfl⟩))) n2 (by omega)⟩
 have h100':¬(100:Int)<(base.length:Int):=by omega
 simp(disch:=omega)[h100']
 refine lP_weak (t':=(.nd .bot (.nd .bot (.nd .bot (.nd (.map o) .nil .nil) (.nd .bot .nil (.nd (.int base.length) .nil .nil))) (.nd .bot (.nd (.ptr (n2+1) 0) .nil .nil) .nil)) (.nd .bot (.nd .bot .nil (.nd .bot .nil (.nd (.int 0) .nil .nil))) (.nd .bot (.nd .bot .nil (.nd (.sl (base.map atomL) ownB) .nil .nil)) .nil)))) (fun l h=>by cases h) (by simp[FT.Le,Wk]) (HWk.refl _) (fun h=>h) ?_
 have hold:∀i,i<n->look i ((n2+1,.cells [.map n2,Nl])::(n2,.map [])::(o,.map (encP m))::ob)=look i ob:=fun i hi=>by rw[look_ne (by omega),look_ne (by omega),look_ne (by omega)]
 have hB:BasAt n ob m (n2+1) n2 o ((n2+1,.cells [.map n2,Nl])::(n2,.map [])::(o,.map (encP m))::ob) [] .full:=by
  refine⟨⟨look_self _ _ _,by rw[look_ne (by omega)];exact look_self _ _ _,by omega,.inl ⟨rfl,rfl⟩⟩,by rw[look_ne (by omega),look_ne (by omega)];exact look_self _ _ _,by omega,((hni.cons _ rfl).cons _ rfl).cons _ rfl,hold,⟨by omega,by omega,fun t h=>by cases h⟩,fun s hs=>by cases hs⟩
 refine t_basLoop base ownB h100 (hok h100) _ (n2+1+1) hB (by omega) (fun hall ob2 m2 own2 hm2 h2=>?_) (fun hall t' ob2 m2 hm2 hni2 hold2 h4 h5 h6=>?_)
 ·simp(disch:=omega)
  exact keep (hv hc m hRm h100 hall o _ _ ob2 m2 own2 (by omega) h2)
 ·simp(disch:=omega)
  unfold getP
  rw[h4,h5,h6]
  exact⟨⟨ob,m2⟩,⟨Nat.le_refl _,fun i x hx=>by rw[hold2 i (hH.look hx)];exact hx⟩,fun _=>Desc.mono hH (by dsimp only;omega),he 1 (by decide) (.inr (.inr (.inr ⟨hc,hRs,h100,hall,rfl⟩))) m2 (by omega)⟩
theorem checkF_safe:∀(l:List Clause)(i:Nat),(checkF l i).1=0->∀c∈l,CGood c
 |[],_,_,c,hc=>by cases hc
 |d::l,i,h,c,hc=>by
  unfold checkF at h
  split at h
  ·cases h
  ·split at h
   ·cases h
   ·rename_i h1 h2
    rcases List.mem_cons.1 hc with rfl|hc
    ·exact⟨by simpa using h1,by simpa using h2⟩
    ·exact checkF_safe l _ h c hc
theorem check_good{l:List Clause}(h:(checkB l).1=0):∀c∈l,CGood c:=by
 unfold checkB at h
 split at h
 ·cases h
 ·exact checkF_safe l _ h
def derivedD(m:List (PK×Int))(l:List Clause)(base:List Atom):Option (List Stp):=levelsD m l ((maxI 0 (m.map (·.2))).toNat+1) 0 (baseD base)
def d24a:BCode:=match b30.body with
 |.seq a _=>a
 |_=>.bad
def d24b:BCode:=match b30.body with
 |.seq _ (.seq a _)=>a
 |_=>.bad
def d24c:BCode:=match b30.body with
 |.seq _ (.seq _ (.seq a _))=>a
 |_=>.bad
def d24d:BCode:=match b30.body with
 |.seq _ (.seq _ (.seq _ (.seq a _)))=>a
 |_=>.bad
theorem body24:b30.body=.seq d24a (.seq d24b (.seq d24c (.seq d24d (.seq l42 r42)))):=rfl
theorem oneN:(Value.pointer none).oneCell'=true:=rfl
def basedE(l:List Clause)(R:Option (List (PK×Int)))(base:List Atom):Int:=
 if (checkB l).1≠0 then (checkB l).1 else if R=none then 81 else if 100<base.length then 2 else if base.all baseOk then 0 else 1
theorem t_derived(l:List Clause)(hl:SmallL l)(fuel:Nat)(R:Option (List (PK×Int)))(hR:(checkB l).1=0->levN l fuel (l.foldl initCl [])=some R)(hRb:(checkB l).1=0->∀m,R=some m->0<=maxI 0 (m.map (·.2))/\maxI 0 (m.map (·.2))<=2^30)
  (base:List Atom) (ownB:Own) (hb:base.length<2^63) (hok:base.length<=100->∀a∈base,a.ok) (ob:List (Nat×LObj)) (n:Nat) (hni:NoIt ob) {kv kp:HP}
  (he:∀e:Int,e≠0->(e=basedE l R base\/basedE l R base=0/\(∃m,R=some m/\derivedD m l base=none)/\e=2)->∀n',n<=n'->kv (.tup [.sc (.pointer none),.int e]) ⟨ob,n'⟩)
  (hv:basedE l R base=0->∀m F,R=some m->derivedD m l base=some F->F.length<=300->∀om fo am ob' n' own',n<=n'->BasAt n ob m fo am om ob' F own'->kv (.tup [.ptr fo 0,.int 0]) ⟨ob',n'⟩):
  cP E0 F0 30 [clausesL l,.sl (base.map atomL) ownB] ⟨ob,n⟩ kv kp:=by
 refine cP_of_lP c30 (Nat.le_of_ble_eq_true rfl) fun hH=>?_
 rw[body24]
 simp(disch:=omega)
 refine lP_seq (lP_of_run ?_)
 simp(disch:=omega)[d24a,b30]
 refine lP_seq (lP_of_run ?_)
 simp(disch:=omega)[d24b,b30]
 refine t_based l hl fuel R hR base ownB hb hok ob n hni (fun e he0 hwhy n2 hn2=>?_) (fun hc m hRm h100 hall om fo am ob2 n2 own2 hn2 h2=>?_)
 ·have heE:e=basedE l R base:=by
   unfold basedE
   rcases hwhy with⟨h1,h2⟩|⟨h1,h2,h3⟩|⟨h1,h2,h3,h4⟩|⟨h1,h2,h3,h4,h5⟩
   ·rw[if_pos h1];exact h2
   ·rw[if_neg (by omega),if_pos h2];exact h3
   ·rw[if_neg (by omega),if_neg h2,if_pos h3];exact h4
   ·rw[if_neg (by omega),if_neg h2,if_neg (by omega),if_neg (by simp[h4])];exact h5
  simp(disch:=omega)[oneN]
  refine lP_seq (lP_of_run ?_)
  simp(disch:=omega)[d24c,b30,he0]
  obtain⟨g1,g2⟩:=back (l:=(n2,LObj.cells [.sc (.pointer none)])::ob) (n:=n2+1) hH (HExt.cons' hH hn2 (by dsimp only;omega) (HExt.refl' _))
  exact⟨_,g1,g2,he e he0 (.inl heE) (n2+1) (by omega)⟩
 ·have hbz:basedE l R base=0:=by
   unfold basedE
   rw[if_neg (by omega),if_neg (by rw[hRm];simp),if_neg (by omega),if_pos hall]
  obtain⟨hM0,hM1⟩:=hRb hc m hRm
  simp(disch:=omega)
  refine lP_seq (lP_of_run ?_)
  simp(disch:=omega)[d24c,b30]
  refine lP_seq (lP_of_run ?_)
  simp(disch:=omega)[d24d,b30]
  refine lP_okH fun hok2=>?_
  have hokB:LHeap.Ok ⟨ob2,n2⟩:=hok2.2
  have hlv:look om ((n2,LObj.cells [.ptr fo 0])::ob2)=some (.map ((m.map fun e=>(keyL e.1,e.2)).map fun e=>(e.1,.int e.2))):=by
   rw[List.map_map,look_ne]
   ·exact h2.lev
   ·have:=hokB.look h2.lev
    dsimp only at this
    omega
  refine lP_weak (t':=(.nd (clausesL l) (.nd .bot (.nd .bot (.nd (.ptr n2 0) .nil .nil) .nil) (.nd .bot (.nd (.int 0) .nil .nil) .nil)) (.nd .bot .nil (.nd (.map om) .nil .nil)))) (fun l h=>by cases h) (by simp[FT.Le,Wk]) (HWk.refl _) (fun h=>h) ?_
  refine lP_seq (lP_mono (maxLoop (clausesL l) (.ptr n2 0) om (m.map fun e=>(keyL e.1,e.2)) 0 ⟨(n2,LObj.cells [.ptr fo 0])::ob2,n2+1⟩ hlv) ?_)
  rintro e t' H' ⟨rfl,ht,hw,hokw⟩
  rw[List.map_map,show ((fun e:LV×Int=>e.2)∘fun e:PK×Int=>(keyL e.1,e.2))=fun e=>e.2 from rfl]at ht
  obtain⟨N,hN⟩:∃N:Nat,maxI 0 (m.map (·.2))=(N:Int):=⟨(maxI 0 (m.map (·.2))).toNat,by omega⟩
  have hdd:derivedD m l base=levelsD m l (N+1) 0 (baseD base):=by
   unfold derivedD
   rw[hN];rfl
  rw[hN]at ht hM1
  show lP E0 F0 r42 t' H' _
  refine lP_weak (fun l h=>by cases h) ht hw hokw ?_
  refine lP_of_run ?_
  simp(disch:=omega)[r42,b30,wrap_nat (show N<2^62 by omega)]
  refine lP_weak (t':=(.nd (clausesL l) (.nd .bot (.nd .bot (.nd (.ptr n2 0) .nil (.nd .bot (.nd (.int (N+1:Nat)) .nil .nil) .nil)) .nil) .nil) (.nd .bot (.nd .bot (.nd .bot .nil (.nd .bot (.nd (.int 0) .nil .nil) .nil)) .nil) (.nd (.map om) .nil .nil)))) (fun l h=>by cases h) (by simp[FT.Le,Wk]) (HWk.refl _) (fun h=>h) ?_
  have hcg:=check_good hc
  have hll:=(check_ok hc).1
  have hbl:(baseD base).length<=300:=by
   have:=addFs_len (base.map fun a=>(⟨a,-1,[]⟩:Stp)) []
   rw[List.length_map,List.length_nil]at this
   unfold baseD
   omega
  refine t_lvlLoop (n0:=n) (ob0:=ob) (M:=m) (am:=am) l (by omega) hcg (N+1) (by omega) (baseD base) hbl _ (n2+1+1) own2 ⟨?_,look_self _ _ _⟩ (by omega) (fun F' hF' ob3 m3 own3 hm3 hl3 h3=>?_) (fun hF' t' ob3 m3 hm3 hni3 hold3 h4 h5=>?_)
  ·exact h2.keep hokB (by omega) (h2.ni.cons _ rfl) fun j hj=>look_ne (by omega) _ _
  ·have c7:=h3.cell
   simp(disch:=omega)[c7]
   exact keep (hv hbz m F' hRm (by rw[hdd];exact hF') hl3 om fo am ob3 m3 own3 (by omega) h3.toBasAt)
  ·simp(disch:=omega)
   unfold getP
   rw[h4,h5]
   exact⟨⟨ob,m3⟩,⟨Nat.le_refl _,fun i x hx=>by rw[hold3 i (hH.look hx)];exact hx⟩,fun _=>Desc.mono hH (by dsimp only;omega),he 2 (by decide) (.inr ⟨hbz,⟨m,hRm,by rw[hdd];exact hF'⟩,rfl⟩) m3 (by omega)⟩
theorem ap2_nilA(l:List (Nat×LObj))(m:Nat)(x:Atom)(ow:Own):ap2L ⟨l,m⟩ 2 (.sl [] .full) (.sl [atomL x] ow)=some (.asl m 0 1,⟨(m,arrA [x])::l,m+1⟩):=rfl
theorem ap2_arrA{l:List (Nat×LObj)}{m o:Nat}{A:List Atom}(x:Atom)(ow:Own)(hl:look o l=some (arrA A))(hA:A.length<=2^20):
  ap2L ⟨l,m⟩ 2 (.asl o 0 A.length) (.sl [atomL x] ow)=some (.asl m 0 (A.length+1),⟨(m,arrA (A++[x]))::delO o l,m+1⟩):=by
 have h1:=flatA_len A
 have h2:srcL ⟨l,m⟩ 2 (.asl o 0 A.length)=some (A.flatMap atomC,⟨delO o l,m⟩,A.length):=by
  simp only[srcL,hl]
  rw[if_pos ⟨trivial,by rw[h1];exact Nat.le_refl _⟩,<-h1,List.take_length]
  rfl
 have h3:rowL ⟨l,m⟩ 2 (.sl [atomL x] ow)=some (atomC x,1):=rfl
 unfold ap2L
 rw[h2,h3]
 simp only
 rw[if_neg (by omega),if_pos ⟨by omega,by omega⟩]
 simp[LHeap.alloc,List.flatMap_append,LV.cells]
def atLoop:BCode:=match b51.body with
 |.seq _ (.seq _ (.seq (.seq _ (.blk _ l)) _))=>l
 |_=>.bad
structure NNAt where
 i:Nat
 n:Nat
 M:Nat
def atV(M:Nat):Nat->LV
 |0=>Nl
 |i+1=>.asl M 0 (i+1)
def atH(M:Nat)(A:List Atom)(ob:List (Nat×LObj)):List (Nat×LObj):=match A with
 |[]=>ob
 |A=>(M,arrA A)::ob
theorem atH_ne{M:Nat}{A:List Atom}{ob:List (Nat×LObj)}(h:A≠[]):atH M A ob=(M,arrA A)::ob:=by
 cases A with
 |nil=>exact absurd rfl h
 |cons a A=>rfl
theorem wrap_one:IntKind.wrap .i64 1=1:=by have:=wrap_nat (show 0<2^62 by omega);simpa using this
theorem t_atLoop(F:List Stp)(hF:F.length<=2^19)(own:Own)(ob:List (Nat×LObj))(n:Nat)(hOb:Desc ob n){KX:XP}
  (hk:∀M m,(F≠[]->n<=M/\M<m)->n<=m->KX (.exit 0) ((.nd .bot (.nd .bot (.nd (atV M F.length) .nil (.nd (.int F.length) .nil .nil)) (.nd .bot (.nd (.sl (F.map stepL) own) .nil .nil) .nil)) (.nd .bot (.nd .bot .nil (.nd (.sc (.bool false)) .nil .nil)) (.nd .bot (.nd (.int F.length) .nil .nil) .nil)))) ⟨atH M (F.map Stp.atom) ob,m⟩):
  lP E0 F0 atLoop ((.nd .bot (.nd .bot (.nd (Nl) .nil (.nd (.int 0) .nil .nil)) (.nd .bot (.nd (.sl (F.map stepL) own) .nil .nil) .nil)) (.nd .bot .nil (.nd .bot (.nd (.int F.length) .nil .nil) .nil)))) ⟨ob,n⟩ KX:=by
 obtain⟨L,hL⟩:∃L,F.map Stp.atom=L:=⟨_,rfl⟩
 have hLl:L.length=F.length:=by rw[<-hL,List.length_map]
 have hLg:∀i (h:i<F.length),L[i]? = some F[i].atom:=fun i h=>by rw[<-hL,List.getElem?_map,List.getElem?_eq_getElem h];rfl
 rw[hL]at hk
 refine lP_enter (σ:=NNAt) (fun q=>(.nd .bot (.nd .bot (.nd (atV q.M q.i) .nil (.nd (.int q.i) .nil .nil)) (.nd .bot (.nd (.sl (F.map stepL) own) .nil .nil) .nil)) (.nd .bot .nil (.nd .bot (.nd (.int F.length) .nil .nil) .nil)))) (fun q=>⟨atH q.M (L.take q.i) ob,q.n⟩) (fun q=>F.length - q.i)
  (fun q=>q.i<=F.length/\n<=q.n/\(0<q.i->n<=q.M/\q.M<q.n)) ⟨0,n,0⟩ ⟨Nat.zero_le _,Nat.le_refl _,fun h=>absurd h (by simp)⟩ (by simp[FT.Le,Wk,atV]) ⟨HWk.refl _,fun h=>h⟩ ?_
 rintro⟨i,m,M⟩ ⟨hi,hm,hM⟩ hok
 dsimp only at hi hm hM hok
 by_cases hlt:i<F.length
 case neg=>
  obtain rfl:i=F.length:=by omega
  have ht:L.take F.length=L:=by rw[<-hLl,List.take_length]
  dsimp only
  rw[ht]
  simp(disch:=omega)
  exact hk M m (fun hne=>hM (List.length_pos_iff.2 hne)) hm
 have htk:L.take (i+1)=L.take i++[F[i].atom]:=by
  rw[List.take_add_one,hLg i hlt]
  rfl
 by_cases hi0:i=0
 ·subst hi0
  dsimp only[atV,List.take_zero,atH]
  simp(disch:=omega)[hlt]
  refine effP_ap2 ?_
  simp(disch:=omega)[ap2_nilA]
  have h1:L.take 1=[F[0].atom]:=by rw[htk];simp
  refine⟨⟨1,m+1+1,m+1⟩,by dsimp only;omega,⟨by dsimp only;omega,by dsimp only;omega,fun _=>⟨by dsimp only;omega,by dsimp only;omega⟩⟩,by simp[FT.Le,Wk,atV,wrap_one],?_⟩
  dsimp only
  rw[h1]
  exact⟨hwk_mid (hOb.mono hm) fun _ _ h=>h,fun _=>⟨Nat.lt_succ_self _,hOb.mono (by omega)⟩⟩
 ·obtain⟨hM1,hM2⟩:=hM (by omega)
  obtain⟨A,hA⟩:∃A,L.take i=A:=⟨_,rfl⟩
  have hAl:A.length=i:=by rw[<-hA,List.length_take];omega
  have hAne:A≠[]:=fun e=>by rw[e]at hAl;simp at hAl;omega
  rw[hA]at htk
  have hv:atV M i=.asl M 0 A.length:=by
   rw[hAl]
   obtain⟨j,rfl⟩:∃j,i=j+1:=⟨i - 1,by omega⟩
   rfl
  rw[hv,hA,atH_ne hAne]
  simp(disch:=omega)[hlt]
  refine effP_ap2 ?_
  simp(disch:=omega)
  have hap:=ap2_arrA (l:=(m,.cells (stepC F[i]))::(M,arrA A)::ob) (m:=m+1) (o:=M) F[i].atom .full (by rw[look_ne (by omega)];exact look_self _ _ _) (by omega)
  have hdel:delO M ((m,.cells (stepC F[i]))::(M,arrA A)::ob)=(m,.cells (stepC F[i]))::ob:=by
   have hb:delO M ob=ob:=del_base (H:=⟨ob,n⟩) hOb hM1
   simp only[delO]
   rw[if_neg (by omega),if_pos trivial,hb]
  rw[hdel]at hap
  rw[hap]
  simp(disch:=omega)[wrap_nat (show i<2^62 by omega)]
  refine⟨⟨i+1,m+1+1,m+1⟩,by dsimp only;omega,⟨by dsimp only;omega,by dsimp only;omega,fun _=>⟨by dsimp only;omega,by dsimp only;omega⟩⟩,by simp[FT.Le,Wk,atV,hAl],?_⟩
  dsimp only
  rw[htk,atH_ne (by simp)]
  exact⟨hwk_mid (hOb.mono hm) fun _ _ h=>h,fun _=>⟨Nat.lt_succ_self _,hOb.mono (by omega)⟩⟩
theorem t_insNilA:PureT 156 [.sl [] .full,.int 0,.int 0,.fn (.func 18) [] []] (.tup []):=by
 refine PureT.of c156 fun H hH=>⟨Nat.le_of_ble_eq_true rfl,?_⟩
 simp(disch:=omega)[b156,wrap_id]
 refine lP_unroll ?_
 simp(disch:=omega)[resP_nil]
 exact doneK hH (by simp[])
theorem t_pdqNilA(lim:Int):PureT 130 [.sl [] .full,.int 0,.int 0,.int lim,.fn (.func 18) [] []] (.tup []):=by
 refine PureT.of c130 fun H hH=>⟨Nat.le_of_ble_eq_true rfl,?_⟩
 simp(disch:=omega)[b130,wrap_id]
 refine lP_unroll ?_
 simp(disch:=omega)[wrap_id]
 refine t_insNilA.go fun n hn=>?_
 simp(disch:=omega)[resP_nil]
 exact doneK hH (by simp[])
theorem t_sortNilA:PureT 96 [.sl [] .full,.fn (.func 18) [] []] (.tup []):=by
 refine PureT.of c96 fun H hH=>⟨Nat.le_of_ble_eq_true rfl,?_⟩
 have w0:IntKind.wrap .u64 0=0:=wrap_u (Nat.zero_le 12)
 simp(disch:=omega)[b96,wrap_id,w0]
 refine(t_bitsLen 0 (by omega) (by omega)).go fun n hn=>?_
 simp(disch:=omega)
 refine(t_pdqNilA _).go fun n hn=>?_
 simp(disch:=omega)[resP_nil]
 exact doneK hH (by simp[])
def at25a:BCode:=match b51.body with
 |.seq a _=>a
 |_=>.bad
def at25b:BCode:=match b51.body with
 |.seq _ (.seq a _)=>a
 |_=>.bad
def at25c:BCode:=match b51.body with
 |.seq _ (.seq _ (.seq a _))=>a
 |_=>.bad
def at25d:BCode:=match b51.body with
 |.seq _ (.seq _ (.seq _ r))=>r
 |_=>.bad
theorem body25:b51.body=.seq at25a (.seq at25b (.seq at25c at25d)):=rfl
theorem atomG.argsLen{a:Atom}(h:atomG a):a.args.length<2^40:=by have:=(atom_args h.1).1;omega
theorem t_atoms0(F:List Stp)(hF:F.length<=2^19)(hFg:∀s∈F,atomG s.atom)(fo am:Nat)(own:Own)(ob:List (Nat×LObj))(n:Nat)(h:FactsAt ob fo am F own){kv kp:HP}
  (hk0:F=[]->∀n',n<=n'->kv Nl ⟨ob,n'⟩)
  (hk1:F≠[]->∀(B:List Atom)(M n':Nat),B.Perm (F.map Stp.atom)->(B.Pairwise fun x y=>¬cmpA y x<0)->n<=M->M<n'->kv (.asl M 0 B.length) ⟨(M,arrA B)::ob,n'⟩):
  cP E0 F0 51 [.ptr fo 0] ⟨ob,n⟩ kv kp:=by
 refine cP_of_lP c51 (Nat.le_of_ble_eq_true rfl) fun hH=>?_
 rw[body25]
 simp(disch:=omega)
 refine lP_seq (lP_of_run ?_)
 simp(disch:=omega)[at25a,b51]
 refine lP_seq (lP_of_run ?_)
 simp(disch:=omega)[at25b,b51]
 refine lP_seq (lP_of_run ?_)
 simp(disch:=omega)[at25c,b51,h.pair]
 refine lP_weak (t':=(.nd .bot (.nd .bot (.nd (Nl) .nil (.nd (.int 0) .nil .nil)) (.nd .bot (.nd (.sl (F.map stepL) own) .nil .nil) .nil)) (.nd .bot .nil (.nd .bot (.nd (.int F.length) .nil .nil) .nil)))) (fun l h=>by cases h) (by simp[FT.Le,Wk]) (HWk.refl _) (fun h=>h) ?_
 refine t_atLoop F hF own ob n hH fun M m hM hm=>?_
 simp(disch:=omega)
 by_cases hne:F=[]
 ·subst hne
  refine lP_of_run ?_
  simp(disch:=omega)[at25d,b51,atV,atH]
  refine(t_sortNilA).go fun n2 hn2=>?_
  simp(disch:=omega)[resP_one]
  exact keep (hk0 rfl n2 (by omega))
 ·obtain⟨hM1,hM2⟩:=hM hne
  have hne2:F.map Stp.atom≠[]:=by simpa using hne
  have hl:(F.map Stp.atom).length=F.length:=List.length_map _
  have hv:atV M F.length=.asl M 0 (F.map Stp.atom).length:=by
   rw[hl]
   obtain⟨j,hj⟩:∃j,F.length=j+1:=⟨F.length - 1,by have:=List.length_pos_iff.2 hne;omega⟩
   rw[hj];rfl
  rw[hv,atH_ne hne2]
  obtain⟨L,hL⟩:∃L,F.map Stp.atom=L:=⟨_,rfl⟩
  rw[hL]at hk1 hl ⊢
  refine lP_of_run ?_
  simp(disch:=omega)[at25d,b51]
  refine t_sortA L (fun a ha=>?_) M _ _ (look_self _ _ _) (by omega) fun B hB hBs=>?_
  ·rw[<-hL]at ha
   obtain⟨s,hs,rfl⟩:=List.mem_map.1 ha
   exact(hFg s hs).argsLen
  ·rw[show L.length=B.length from hB.length_eq.symm]
   simp(disch:=omega)[resP_one]
   exact keep (hk1 hne B M m hB hBs hM1 hM2)
theorem chunksA:∀A:List Atom,chunks 2 A.length (A.flatMap atomC)=A.map atomL
 |[]=>rfl
 |x::A=>by
  have ih:=chunksA A
  rw[List.length_cons,List.flatMap_cons]
  show mkEl ((atomC x++A.flatMap atomC).take 2)::chunks 2 A.length ((atomC x++A.flatMap atomC).drop 2)=_
  rw[show (atomC x++A.flatMap atomC).take 2=atomC x from List.take_left (l₁:=atomC x),show (atomC x++A.flatMap atomC).drop 2=A.flatMap atomC from List.drop_left (l₁:=atomC x),ih]
  rfl
theorem frzAt{H:LHeap}{A:List Atom}{o:Nat}(hl:look o H.objs=some (arrA A)):frzA H [o] o 0 A.length=.sl (A.map atomL) .no:=by
 unfold frzA
 have h1:=flatA_len A
 simp only[List.contains_cons,BEq.rfl,Bool.true_or,if_true,hl]
 rw[if_pos (by rw[h1];omega)]
 rw[Nat.zero_mul,List.drop_zero,chunksA]
theorem t_atoms(F:List Stp)(hF:F.length<=2^19)(hFg:∀s∈F,atomG s.atom)(fo am:Nat)(own:Own)(ob:List (Nat×LObj))(n:Nat)(h:FactsAt ob fo am F own){kv kp:HP}
  (hk:∀(B:List Atom)(ow:Own)(n':Nat),B.Perm (F.map Stp.atom)->(B.Pairwise fun x y=>¬cmpA y x<0)->n<=n'->kv (.sl (B.map atomL) ow) ⟨ob,n'⟩):
  cP E0 F0 51 [.ptr fo 0] ⟨ob,n⟩ kv kp:=by
 intro hH
 have h1:=t_atoms0 (kv:=fun v H'=>(F=[]/\v=Nl/\∃n',n<=n'/\H'=⟨ob,n'⟩)\/∃B M n',B.Perm (F.map Stp.atom)/\(B.Pairwise fun x y=>¬cmpA y x<0)/\n<=M/\M<n'/\v=.asl M 0 B.length/\H'=⟨(M,arrA B)::ob,n'⟩) (kp:=fun _ _=>False)
  F hF hFg fo am own ob n h (fun he n' hn=>.inl ⟨he,rfl,n',hn,rfl⟩) (fun _ B M n' hB hBs hM hn=>.inr ⟨B,M,n',hB,hBs,hM,hn,rfl,rfl⟩) hH
 refine .frz (fun v _=>match v with|.asl o _ _=>[o]|_=>[]) h1 (fun v H' hT=>?_) (fun v H' hT=>?_)
 ·rcases hT with⟨u,H2,he,hok,hT⟩|⟨u,H2,he,hok,hf⟩
  ·cases he
   rcases hT with⟨rfl,rfl,n',hn,rfl⟩|⟨B,M,n',hB,hBs,hM,hn,rfl,rfl⟩
   ·exact⟨⟨ob,n'⟩,⟨Nat.le_refl _,fun i x hx=>(look_delsO (L:=[]) rfl).trans hx⟩,.inl ⟨_,_,rfl,Desc.mono hH hn,hk [] .full n' (.refl _) .nil hn⟩⟩
   ·refine⟨⟨ob,n'⟩,⟨Nat.le_refl _,fun i x hx=>?_⟩,.inl ⟨_,_,rfl,Desc.mono hH (by dsimp only;omega),?_⟩⟩
    ·have:=hH.look hx
     dsimp only at this
     have e1:look i (delsO [M] ((M,arrA B)::ob))=look i ((M,arrA B)::ob):=look_delsO (by simp;omega)
     show look i (delsO [M] ((M,arrA B)::ob))=some x
     rw[e1,look_ne (by omega)]
     exact hx
    ·have:=hk B .no n' hB hBs (by omega)
     have e:frzA ⟨(M,arrA B)::ob,n'⟩ [M] M 0 B.length=.sl (B.map atomL) .no:=frzAt (look_self _ _ _)
     simpa [frzV,e] using this
  ·cases he
 ·rcases hT with⟨u,H2,he,hok,hT⟩|⟨u,H2,he,hok,hf⟩
  ·cases he
  ·exact hf.elim
structure ModIn(l:List Clause)(fuel:Nat)(R:Option (List (PK×Int)))(base:List Atom):Prop where
 hl:SmallL l
 hR:(checkB l).1=0->levN l fuel (l.foldl initCl [])=some R
 hRb:(checkB l).1=0->∀m,R=some m->0<=maxI 0 (m.map (·.2))/\maxI 0 (m.map (·.2))<=2^30
 hb:base.length<2^63
 hok:base.length<=100->∀a∈base,a.ok
def modelE(l:List Clause)(R:Option (List (PK×Int)))(base:List Atom):Int:=if basedE l R base≠0 then basedE l R base else match R with
 |none=>81
 |some m=>if (derivedD m l base).isNone then 2 else 0
def modelF(l:List Clause)(R:Option (List (PK×Int)))(base:List Atom):List Stp:=match R with
 |none=>[]
 |some m=>(derivedD m l base).getD []
theorem t_derived2{l:List Clause}{fuel:Nat}{R:Option (List (PK×Int))}{base:List Atom}(hI:ModIn l fuel R base)(ownB:Own)(ob:List (Nat×LObj))(n:Nat)(hni:NoIt ob){kv kp:HP}
  (he:modelE l R base≠0->∀n',n<=n'->kv (.tup [.sc (.pointer none),.int (modelE l R base)]) ⟨ob,n'⟩)
  (hv:modelE l R base=0->(modelF l R base).length<=300->(∀s∈modelF l R base,atomG s.atom)->∀fo am ob' n' own',n<=n'->FactsAt ob' fo am (modelF l R base) own'->NoIt ob'->(∀i,i<n->look i ob'=look i ob)->kv (.tup [.ptr fo 0,.int 0]) ⟨ob',n'⟩):
  cP E0 F0 30 [clausesL l,.sl (base.map atomL) ownB] ⟨ob,n⟩ kv kp:=by
 refine t_derived l hI.hl fuel R hI.hR hI.hRb base ownB hI.hb hI.hok ob n hni (fun e he0 hwhy n' hn'=>?_) (fun hz m F hRm hd hFl om fo am ob' n' own' hn' hB=>?_)
 ·have:e=modelE l R base:=by
   unfold modelE
   rcases hwhy with h|⟨h1,⟨m,h2,h3⟩,h4⟩
   ·rw[if_pos (by rw[<-h];exact he0)];exact h
   ·rw[if_neg (by omega),h2]
    simp only[h3]
    exact h4
  subst this
  exact he he0 n' hn'
 ·have e1:modelE l R base=0:=by
   unfold modelE
   rw[if_neg (by omega),hRm]
   simp[hd]
  have e2:modelF l R base=F:=by
   unfold modelF
   rw[hRm]
   simp[hd]
  rw[e2]at hv
  exact hv e1 hFl hB.g fo am ob' n' own' hn' hB.facts hB.ni hB.old
theorem hwk_old{ob ob':List (Nat×LObj)}{n n' m:Nat}(hH:LHeap.Ok ⟨ob,n⟩)(h:∀i,i<n->look i ob'=look i ob)(hm:n'<=m):HWk ⟨ob',m⟩ ⟨ob,m⟩:=⟨Nat.le_refl _,fun i x hx=>by rw[h i (hH.look hx)];exact hx⟩
def SortedOf(F:List Stp)(B:List Atom):Prop:=B.Perm (F.map Stp.atom)/\B.Pairwise fun x y=>¬cmpA y x<0
theorem t_Model{l:List Clause}{fuel:Nat}{R:Option (List (PK×Int))}{base:List Atom}(hI:ModIn l fuel R base)(ownB:Own)(ob:List (Nat×LObj))(n:Nat)(hni:NoIt ob){kv kp:HP}
  (he:modelE l R base≠0->∀n',n<=n'->kv (.tup [Nl,.int (modelE l R base)]) ⟨ob,n'⟩)
  (hv:modelE l R base=0->∀(B:List Atom)(ow:Own) n',SortedOf (modelF l R base) B->n<=n'->kv (.tup [.sl (B.map atomL) ow,.int 0]) ⟨ob,n'⟩):
  cP E0 F0 17 [clausesL l,.sl (base.map atomL) ownB] ⟨ob,n⟩ kv kp:=by
 refine cP_of_fn c17 fun hH=>⟨Nat.le_of_ble_eq_true rfl,?_⟩
 simp(disch:=omega)[b17]
 refine t_derived2 hI ownB ob n hni (fun h0 n' hn'=>?_) (fun h0 hlen hg fo am ob' n' own' hn' hF hni' hold=>?_)
 ·simp(disch:=omega)[h0,resP_two]
  exact keep (he h0 n' hn')
 ·simp(disch:=omega)
  refine t_atoms _ (by omega) hg fo am own' ob' n' hF fun B ow n2 hB hBs hn2=>?_
  simp(disch:=omega)[resP_two]
  exact⟨⟨ob,n2⟩,hwk_old hH hold (Nat.le_refl _),fun _=>Desc.mono hH (by dsimp only;omega),hv h0 B ow n2 ⟨hB,hBs⟩ (by omega)⟩
def headsR(c:Clause)(l:List Atom):List Lit->Bind->List Atom
 |[],K=>if restR l K c.body then [fillA K c.head] else []
 |x::r,K=>if x.kind=1 then l.flatMap fun a=>match bindKA K x.atom a with
   |some R=>headsR c l r R
   |none=>[]
  else headsR c l r K
theorem posL_cons(x:Lit)(r:List Lit):posL (x::r)=if x.kind=1 then x.atom::posL r else posL r:=by
 unfold posL
 rw[List.filter_cons]
 by_cases h:x.kind=1<;>simp[h]
theorem row_apY{H:LHeap}{sz:Nat}{es Y:List LV}{own:Own}{ob:List (Nat×LObj)}{n:Nat}(hsz:0<sz/\sz<=2^10)(hes:(es.all fun e=>e.cells.length==sz)=true)(hY:(Y.all fun e=>e.cells.length==sz)=true)(hl:es.length+Y.length<=2^30)(h:RowT H sz es.length own ob n):
  ∃own' ob' n',(∀ow,apL ⟨ob,n⟩ sz (.sl es own) (.sl Y ow)=some (.sl (es++Y) own',⟨ob',n'⟩))/\RowT H sz (es.length+Y.length) own' ob' n'/\n<=n':=by
 rcases h with⟨rfl,rfl,h⟩|⟨t,rfl,h1,h2,rfl⟩
 ·refine⟨.tok n,(n,.tok (es.length+Y.length) sz)::H.objs,n+1,fun ow=>?_,.inr ⟨n,rfl,h,Nat.lt_succ_self _,rfl⟩,Nat.le_succ _⟩
  unfold apL
  simp only
  rw[hes,hY]
  simp only[Bool.and_self,if_true]
  rw[if_pos ⟨hl,hsz.2,rfl⟩]
  rfl
 ·refine⟨.tok t,(t,.tok (es.length+Y.length) sz)::H.objs,n,fun ow=>?_,.inr ⟨t,rfl,h1,h2,rfl⟩,Nat.le_refl _⟩
  have hcan:canApp ⟨(t,.tok es.length sz)::H.objs,n⟩ sz (.tok t) es.length=true:=by
   have:sz≠0:=by omega
   simp[canApp,look,this]
  unfold apL
  simp only
  rw[hes,hY]
  simp only[Bool.and_self,if_true]
  rw[if_pos ⟨hl,hsz.2,hcan⟩]
  simp[LHeap.put,putO]
theorem RowT.old{H:LHeap}{sz len:Nat}{own:Own}{ob:List (Nat×LObj)}{n:Nat}(h:RowT H sz len own ob n):H.next<=n/\∀i,i<H.next->look i ob=look i H.objs:=by
 rcases h with⟨_,rfl,h⟩|⟨t,_,h1,h2,rfl⟩
 ·exact⟨h,fun _ _=>rfl⟩
 ·exact⟨by omega,fun i hi=>look_ne (by omega) _ _⟩
def posP:List Atom->Atom->Nat
 |[],_=>0
 |x::r,a=>if cmpA x a<0 then posP r a+1 else 0
def putR(l:List Atom)(a:Atom):List Atom:=match l[posP l a]? with
 |some x=>if cmpA x a=0 then l else l.take (posP l a)++[a]++l.drop (posP l a)
 |none=>l.take (posP l a)++[a]++l.drop (posP l a)
def rputs:List Atom->List Atom->List Atom
 |out,[]=>out
 |out,a::r=>if out.length<=300 then rputs (putR out a) r else out
def rroundR(q:List (PK×Int))(lev:Int):List Clause->List Atom->List Atom
 |[],out=>out
 |c::r,out=>if pVal q (ofA c.head)=lev then rroundR q lev r (rputs out (headsR c out c.body [])) else rroundR q lev r out
def rlevelR(q:List (PK×Int))(lev:Int)(l:List Clause):Nat->List Atom->List Atom
 |0,out=>out
 |k+1,out=>if out.length<=300 then (if (rroundR q lev l out).length=out.length then rroundR q lev l out else rlevelR q lev l k (rroundR q lev l out)) else out
def rlevelsR(q:List (PK×Int))(l:List Clause):Nat->Nat->List Atom->List Atom
 |0,_,out=>out
 |k+1,v,out=>rlevelsR q l k (v+1) (rlevelR q v l 302 out)
def rmodelR(q:List (PK×Int))(l:List Clause)(base:List Atom):List Atom:=rlevelsR q l (q.length+1) 0 (base.foldl putR [])
structure NNRm where
 i:Nat
 n:Nat
 out:List Atom
section
variable{S:List Strat}{owS:Own}{q:List (PK×Int)}{l:List Clause}{ob:List (Nat×LObj)}{s6:Nat}
structure RmIn(S:List Strat)(owS:Own)(q:List (PK×Int))(l:List Clause)(ob:List (Nat×LObj))(s6:Nat):Prop where
 hl:l.length<=40
 hc:∀c∈l,CGood c
 h3:∀c∈l,(posL c.body).length<=3
 hS:S.length<2^40
 find:∀c∈l,∃(idx:Nat)(x:Strat),findSt S (ofA c.head) 0=(idx:Int)/\S[idx]? = some x/\x.level=pVal q (ofA c.head)
 c6:look s6 ob=some (.cells [.sl (S.map stratL) owS,.int 0])
end
end Go.Abs.Tz
namespace Go.Abs.Tz
open Go Go.Abs Go.Proofs
theorem maxI_facts:∀(l:List Int)(t:Int),t<=maxI t l/\(∀x∈l,x<=maxI t l)/\∀N,t<=N->(∀x∈l,x<=N)->maxI t l<=N
 |[],t=>⟨Int.le_refl _,fun x hx=>(by cases hx),fun N h _=>h⟩
 |a::l,t=>by
  obtain⟨h1,h2,h3⟩:=maxI_facts l (mx t a)
  have e:maxI t (a::l)=maxI (mx t a) l:=rfl
  have hm:t<=mx t a/\a<=mx t a/\∀N,t<=N->a<=N->mx t a<=N:=by
   unfold mx
   split<;>exact⟨by omega,by omega,fun N _ _=>by omega⟩
  rw[e]
  refine⟨Int.le_trans hm.1 h1,fun x hx=>?_,fun N h k=>h3 N (hm.2.2 N h (k a List.mem_cons_self)) fun x hx=>k x (List.mem_cons_of_mem _ hx)⟩
  rcases List.mem_cons.1 hx with rfl|hx
  ·exact Int.le_trans hm.2.1 h1
  ·exact h2 x hx
theorem pGet_none{k:PK}:∀{m:List (PK×Int)},k∉pKeys m->pGet k m=none
 |[],_=>rfl
 |(j,v)::r,h=>by
  have h1:¬j=k:=fun e=>h (by simp[pKeys,e])
  have h2:k∉pKeys r:=fun e=>h (by simp only[pKeys,List.map_cons];exact List.mem_cons_of_mem _ e)
  unfold pGet
  have ih:=pGet_none h2
  split
  ·rename_i he
   exact absurd (eqPK_iff.1 he).symm h1
  ·exact ih
structure LevOk(l:List Clause)(m:List (PK×Int)):Prop where
 nd:(pKeys m).Nodup
 has:∀c∈l,∀k∈predC c,k∈pKeys m
 nn:∀k,0<=pVal m k
 sol:SolL (edgesOf l) (valN m)
 len:m.length<=240
 bd:∀k,pVal m k<=m.length
theorem levOk_of{l:List Clause}(hg:GoodL l){V:List PK}(hN:V.Nodup)(hV:∀c∈l,∀k∈predC c,k∈V)(hVl:V.length<=240){m:List (PK×Int)}(h:LeastL l V m):LevOk l m:=by
 have hl:m.length=V.length:=by rw[<-h.keys,pKeys_len]
 refine⟨by rw[h.keys];exact hN,fun c hc k hk=>by rw[h.keys];exact hV c hc k hk,h.nn,h.sol,by omega,fun k=>?_⟩
 by_cases hk:k∈V
 ·have hb:=least_bound h.sol (V:=V) (fun g hg=>sumL_le fun k _=>h.le g hg k) (fun e he=>⟨(edge_in hV e he).1,(edge_in hV e he).2.1⟩) (fun e he=>(edge_in hV e he).2.2) hk
  have h0:=h.nn k
  unfold valN at hb
  omega
 ·have:pVal m k=0:=by
   unfold pVal
   have:pGet k m=none:=by
    rw[<-h.keys]at hk
    exact pGet_none hk
   rw[this];rfl
  omega
theorem LevOk.max{l:List Clause}{m:List (PK×Int)}(h:LevOk l m):0<=maxI 0 (m.map (·.2))/\maxI 0 (m.map (·.2))<=240/\∀k∈pKeys m,pVal m k<=maxI 0 (m.map (·.2)):=by
 obtain⟨h1,h2,h3⟩:=maxI_facts (m.map (·.2)) 0
 have hl:=h.len
 refine⟨h1,h3 240 (by omega) fun x hx=>?_,fun k hk=>?_⟩
 ·obtain⟨e,he,rfl⟩:=List.mem_map.1 hx
  have:=h.bd e.1
  rw[pVal_mem h.nd e he]at this
  omega
 ·obtain⟨e,he,rfl⟩:=List.mem_map.1 hk
  rw[pVal_mem h.nd e he]
  exact h2 _ (List.mem_map.2 ⟨e,he,rfl⟩)
theorem LevOk.lits{l:List Clause}{m:List (PK×Int)}(h:LevOk l m){c:Clause}(hc:c∈l){x:Lit}(hx:x∈c.body):(x.kind=1->pVal m (ofA x.atom)<=pVal m (ofA c.head))/\(x.kind=2->pVal m (ofA x.atom)<pVal m (ofA c.head)):=by
 have hn1:=h.nn (ofA x.atom)
 have hn2:=h.nn (ofA c.head)
 constructor
 ·intro hk
  have he:edgeL (ofA c.head) x=some (ofA c.head,ofA x.atom,0):=by unfold edgeL;rw[if_pos hk]
  have:=h.sol _ (List.mem_flatMap.2 ⟨c,hc,List.mem_filterMap.2 ⟨x,hx,he⟩⟩)
  simp only[valN]at this
  omega
 ·intro hk
  have he:edgeL (ofA c.head) x=some (ofA c.head,ofA x.atom,1):=by unfold edgeL;rw[if_neg (by omega),if_pos hk]
  have:=h.sol _ (List.mem_flatMap.2 ⟨c,hc,List.mem_filterMap.2 ⟨x,hx,he⟩⟩)
  simp only[valN]at this
  omega
end Go.Abs.Tz
namespace Go.Abs.Tz
open Go Go.Abs Go.Proofs
section
variable(l:List Clause)(m:List (PK×Int))(v:Int)
def ClosedS(T:Atom->Prop):Prop:=∀c∈l,pVal m (ofA c.head)=v->∀h,HeadOf T c h->T h
structure LowS(S0 T:Atom->Prop):Prop where
 sup:∀a,S0 a->T a
 low:∀a,T a->pVal m (ofA a)<v->S0 a
 good:∀a,T a->atomG a
structure Mid(S0 P:Atom->Prop):Prop where
 lo:LowS m v S0 P
 least:∀T,LowS m v S0 T->ClosedS l m v T->∀a,P a->T a
end
section
variable{l:List Clause}{m:List (PK×Int)}{v:Int}{S0 P Q T:Atom->Prop}
theorem HeadOf.mono(hm:LevOk l m){c:Clause}(hc:c∈l)(hv:pVal m (ofA c.head)=v)(hP:LowS m v S0 P)(hT:LowS m v S0 T)(hPT:∀a,P a->T a){h:Atom}(hh:HeadOf P c h):HeadOf T c h:=by
 obtain⟨R,h1,h2,h3⟩:=hh
 refine⟨R,h1.mono hPT,fun x hx=>⟨fun hk ht=>(h2 x hx).1 hk (hP.sup _ (hT.low _ ht ?_)),(h2 x hx).2⟩,h3⟩
 rw[ofA_fill,<-hv]
 exact(hm.lits hc hx).2 hk
theorem Mid.grow(hm:LevOk l m)(hP:Mid l m v S0 P){c:Clause}(hc:c∈l)(hg:CGood c)(hv:pVal m (ofA c.head)=v)(hQ:∀a,Q a->P a\/HeadOf P c a)(hPQ:∀a,P a->Q a):Mid l m v S0 Q where
 lo:=⟨fun a h=>hPQ a (hP.lo.sup a h),fun a h hl=>(hQ a h).elim (fun h=>hP.lo.low a h hl) (fun h=>absurd hl (by
  obtain⟨R,_,_,rfl⟩:=h
  rw[ofA_fill,hv]
  exact Int.lt_irrefl _)),fun a h=>(hQ a h).elim (hP.lo.good a) fun h=>h.good hP.lo.good hg⟩
 least T hT hC a h:=(hQ a h).elim (hP.least T hT hC a) fun h=>hC c hc hv a (HeadOf.mono hm hc hv hP.lo hT (hP.least T hT hC) h)
theorem Mid.base(hS:∀a,S0 a->atomG a):Mid l m v S0 S0:=⟨⟨fun _ h=>h,fun _ h _=>h,hS⟩,fun _ hT _ a h=>hT.sup a h⟩
end
section
variable{l:List Clause}{m q:List (PK×Int)}{v:Int}{S0:Atom->Prop}
end
end Go.Abs.Tz
namespace Go.Abs.Tz
open Go Go.Abs Go.Proofs
abbrev atomsF(F:List Stp):List Atom:=F.map Stp.atom
theorem setF_mem(F:List Stp):SetF F=(·∈atomsF F):=by
 funext a
 exact propext ⟨fun⟨s,hs,e⟩=>List.mem_map.2 ⟨s,hs,e⟩,fun h=>by
  obtain⟨s,hs,e⟩:=List.mem_map.1 h
  exact⟨s,hs,e⟩⟩
def NamesF(F:List Stp):Prop:=(F.map fun q=>atomX q.atom).Nodup
theorem nodup_of_map{α β:Type}(f:α->β):∀{l:List α},(l.map f).Nodup->l.Nodup
 |[],_=>.nil
 |a::l,h=>by
  rw[List.map_cons,List.nodup_cons]at h
  exact List.nodup_cons.2 ⟨fun ha=>h.1 (List.mem_map.2 ⟨a,ha,rfl⟩),nodup_of_map f h.2⟩
theorem NamesF.nodup{F:List Stp}(h:NamesF F):(atomsF F).Nodup:=nodup_of_map atomX (by
 unfold NamesF at h
 rw[List.map_map]
 exact h)
theorem NamesF.app{F G:List Stp}(h:NamesF F)(k:DistF F G):NamesF (F++G):=by
 unfold NamesF
 rw[List.map_append]
 refine List.nodup_append.2 ⟨h,k.1,fun x hx y hy e=>?_⟩
 obtain⟨p,hp,rfl⟩:=List.mem_map.1 hx
 obtain⟨q,hq,rfl⟩:=List.mem_map.1 hy
 have:=k.2 q hq
 rw[hasF_iff.2 ⟨p,hp,e⟩]at this
 cases this
theorem clauseD_spec{c:Clause}(hg:CGood c){F:List Stp}(hF:∀a,a∈atomsF F->atomG a)(i:Int):(clauseD F c i).foldl addF F=F++clauseD F c i/\DistF F (clauseD F c i)/\(∀s∈clauseD F c i,HeadOf (·∈atomsF F) c s.atom) /\
  ((clauseD F c i).length<=300->∀h,HeadOf (·∈atomsF F) c h->h∈atomsF (F++clauseD F c i)):=by
 have hFs:∀s∈F,atomG s.atom:=fun s hs=>hF _ (List.mem_map.2 ⟨s,hs,rfl⟩)
 have hFo:∀s∈F,atomOk s.atom=true:=fun s hs=>(hFs s hs).1
 have hS:∀a,SetF F a->atomG a:=fun a ⟨s,hs,e⟩=>e▸hFs s hs
 have e:clauseD F c i=(headsI F c i).foldl (freshF F) []:=by
  unfold clauseD
  rw[foldI_fresh]
  rfl
 have hd:DistF F (clauseD F c i):=by
  rw[e]
  exact fresh_dist F _ _ (.nil F)
 have key:∀h,HeadOf (·∈atomsF F) c h↔∃s∈headsI F c i,s.atom=h:=by
  intro h
  rw[<-setF_mem]
  have hrest:∀R,Chain (SetF F) (posL c.body) [] R->(restOk F R c.body=true↔RestP (SetF F) R c.body):=fun R hR=>by
   obtain⟨g1,_,g3,_⟩:=chain_good hS .nil hR
   exact restOk_iff hFo fun x hx hk=>((hg.leaf g1 g3).1 x hx hk).1
  constructor
  ·rintro⟨R,h1,h2,rfl⟩
   obtain⟨js,hjs⟩:=of_chain h1
   exact⟨_,List.mem_map.2 ⟨(R,js),mem_insts.2 ⟨js,hjs,(hrest R h1).2 h2,by simp⟩,rfl⟩,rfl⟩
  ·rintro⟨s,hs,rfl⟩
   obtain⟨x,hx,rfl⟩:=List.mem_map.1 hs
   obtain⟨js,h1,h2,_⟩:=mem_insts.1 hx
   have h3:=chain_of h1
   exact⟨x.1,h3,(hrest _ h3).1 h2,rfl⟩
 refine⟨addF_all hd,hd,fun s hs=>?_,fun hl h hh=>?_⟩
 ·rw[e]at hs
  obtain⟨X,hX,hX2⟩:=fresh_pre F (headsI F c i) []
  rw[hX]at hs
  exact(key _).2 ⟨s,hX2 s (by simpa using hs),rfl⟩
 ·have hhg:atomG h:=by
   rw[<-setF_mem]at hh
   exact hh.good hS hg
  obtain⟨s,hs,rfl⟩:=(key h).1 hh
  have hin:∀{G:List Stp},(∀q∈G,atomOk q.atom=true)->hasF (atomX s.atom) G=true->s.atom∈atomsF G:=fun hG hx=>by
   obtain⟨q,hq,eq⟩:=hasF_iff.1 hx
   exact List.mem_map.2 ⟨q,hq,atomX_inj (hG q hq) hhg.1 eq⟩
  rw[e]at hl ⊢
  unfold atomsF
  rw[List.map_append]
  rcases fresh_full F _ _ hl s hs with h|h
  ·exact List.mem_append_left _ (hin hFo h)
  ·refine List.mem_append_right _ (hin (fun q hq=>?_) h)
   have hq2:HeadOf (·∈atomsF F) c q.atom:=by
    obtain⟨X,hX,hX2⟩:=fresh_pre F (headsI F c i) []
    rw[hX]at hq
    exact(key _).2 ⟨q,hX2 q (by simpa using hq),rfl⟩
   rw[<-setF_mem]at hq2
   exact(hq2.good hS hg).1
section
variable{l:List Clause}{m:List (PK×Int)}{v:Int}{S0:Atom->Prop}
def ResD(l:List Clause)(m:List (PK×Int))(v:Int)(S0:Atom->Prop):Option (List Stp)->Prop
 |none=>∃L:List Atom,L.Nodup/\300<L.length/\Mid l m v S0 (·∈L)
 |some F=>Mid l m v S0 (·∈atomsF F)/\NamesF F/\F.length<=300
theorem round_spec(hm:LevOk l m)(hg:∀c∈l,CGood c):∀(r:List Clause),(∀c∈r,c∈l)->∀(i:Nat){F:List Stp},Mid l m v S0 (·∈atomsF F)->NamesF F->F.length<=300 ->
  ResD l m v S0 (roundD m v r i F)/\∀F',roundD m v r i F=some F'->F.length<=F'.length/\(F'.length=F.length->F'=F/\∀c∈r,pVal m (ofA c.head)=v->∀h,HeadOf (·∈atomsF F) c h->h∈atomsF F)
 |[],_,i,F,h1,h2,h3=>⟨⟨h1,h2,h3⟩,fun F' h=>by
  cases h
  exact⟨Nat.le_refl _,fun _=>⟨rfl,fun c hc=>(by cases hc)⟩⟩⟩
 |c::r,hr,i,F,h1,h2,h3=>by
  have hr':=fun d hd=>hr d (List.mem_cons_of_mem _ hd)
  have hc:=hr c List.mem_cons_self
  unfold roundD
  by_cases hv:pVal m (ofA c.head)=v
  ·rw[if_pos hv]
   obtain⟨c1,c2,c3,c4⟩:=clauseD_spec (hg c hc) (F:=F) h1.lo.good i
   rw[c1]
   have hM:Mid l m v S0 (·∈atomsF (F++clauseD F c i)):=h1.grow hm hc (hg c hc) hv (fun a ha=>by
    obtain⟨s,hs,rfl⟩:=List.mem_map.1 ha
    rcases List.mem_append.1 hs with hs|hs
    ·exact .inl (List.mem_map.2 ⟨s,hs,rfl⟩)
    ·exact .inr (c3 s hs)) fun a ha=>by
     obtain⟨s,hs,rfl⟩:=List.mem_map.1 ha
     exact List.mem_map.2 ⟨s,List.mem_append_left _ hs,rfl⟩
   have hN:=h2.app c2
   have hlen:(F++clauseD F c i).length=F.length+(clauseD F c i).length:=List.length_append
   by_cases h300:300<(F++clauseD F c i).length
   ·rw[if_pos h300]
    exact⟨⟨_,hN.nodup,by simpa using h300,hM⟩,fun F' h=>by cases h⟩
   ·rw[if_neg h300]
    obtain⟨g1,g2⟩:=round_spec hm hg r hr' (i+1) hM hN (by omega)
    refine⟨g1,fun F' hF'=>?_⟩
    obtain⟨k1,k2⟩:=g2 F' hF'
    refine⟨by omega,fun hl=>?_⟩
    have e0:clauseD F c i=[]:=List.eq_nil_of_length_eq_zero (by omega)
    rw[e0,List.append_nil]at k1 k2 c4
    obtain⟨j1,j2⟩:=k2 hl
    refine⟨j1,fun d hd hdv h hh=>?_⟩
    rcases List.mem_cons.1 hd with rfl|hd
    ·exact c4 (by simp) h hh
    ·exact j2 d hd hdv h hh
  ·rw[if_neg hv]
   obtain⟨g1,g2⟩:=round_spec hm hg r hr' (i+1) h1 h2 h3
   refine⟨g1,fun F' hF'=>?_⟩
   obtain⟨k1,k2⟩:=g2 F' hF'
   refine⟨k1,fun hl=>?_⟩
   obtain⟨j1,j2⟩:=k2 hl
   refine⟨j1,fun d hd hdv h hh=>?_⟩
   rcases List.mem_cons.1 hd with rfl|hd
   ·exact absurd hdv hv
   ·exact j2 d hd hdv h hh
theorem level_spec(hm:LevOk l m)(hg:∀c∈l,CGood c):∀(k:Nat){F:List Stp},302<=k+F.length->Mid l m v S0 (·∈atomsF F)->NamesF F->F.length<=300 ->
  ResD l m v S0 (levelD m v l k F)/\∀F',levelD m v l k F=some F'->ClosedS l m v (·∈atomsF F')
 |0,F,hk,h1,h2,h3=>by omega
 |k+1,F,hk,h1,h2,h3=>by
  unfold levelD
  obtain⟨g1,g2⟩:=round_spec hm hg l (fun c hc=>hc) 0 h1 h2 h3
  cases hr:roundD m v l 0 F with
  |none=>
   rw[hr]at g1
   exact⟨g1,fun F' h=>by cases h⟩
  |some F2=>
   rw[hr]at g1
   obtain⟨k1,k2⟩:=g2 F2 hr
   obtain⟨m1,m2,m3⟩:=g1
   dsimp only
   by_cases he:F2.length=F.length
   ·rw[if_pos he]
    obtain⟨j1,j2⟩:=k2 he
    subst j1
    exact⟨⟨m1,m2,m3⟩,fun F' h=>by cases h;exact j2⟩
   ·rw[if_neg he]
    exact level_spec hm hg k (by omega) m1 m2 m3
theorem nodup_le:∀{a b:List Atom},a.Nodup->(∀x∈a,x∈b)->a.length<=b.length
 |[],_,_,_=>Nat.zero_le _
 |x::a,b,h,hs=>by
  obtain⟨h1,h2⟩:=List.nodup_cons.1 h
  obtain⟨s,t,rfl⟩:=List.append_of_mem (hs x List.mem_cons_self)
  have:=nodup_le (a:=a) (b:=s++t) h2 fun y hy=>by
   have hy2:=hs y (List.mem_cons_of_mem _ hy)
   have hne:y≠x:=fun e=>h1 (e▸hy)
   rcases List.mem_append.1 hy2 with g|g
   ·exact List.mem_append_left _ g
   ·rcases List.mem_cons.1 g with g|g
    ·exact absurd g hne
    ·exact List.mem_append_right _ g
  simp only[List.length_append,List.length_cons]at this ⊢
  omega
theorem level_none(hn:∀c∈l,pVal m (ofA c.head)<v)(k:Nat)(F:List Stp):levelD m v l (k+1) F=some F:=by
 have:∀(r:List Clause),(∀c∈r,pVal m (ofA c.head)<v)->∀i,roundD m v r i F=some F:=fun r=>by
  induction r with
  |nil=>intro _ i;rfl
  |cons c r ih=>
   intro hr i
   unfold roundD
   have:=hr c List.mem_cons_self
   rw[if_neg (by omega)]
   exact ih (fun d hd=>hr d (List.mem_cons_of_mem _ hd)) _
 unfold levelD
 rw[this l hn]
 simp
theorem levels_id:∀(k w:Nat),(∀c∈l,pVal m (ofA c.head)<(w:Int))->∀F,levelsD m l k w F=some F
 |0,_,_,_=>rfl
 |k+1,w,h,F=>by
  unfold levelsD
  rw[level_none h]
  exact levels_id k (w+1) (fun c hc=>by have:=h c hc;omega) F
end
theorem addFs_has:∀(S F:List Stp),(∀s∈F,atomOk s.atom=true)->(∀s∈S,atomOk s.atom=true)->NamesF F->NamesF (S.foldl addF F)/\∀a,a∈atomsF (S.foldl addF F)↔(a∈atomsF F\/a∈atomsF S)
 |[],F,_,_,h=>⟨h,fun a=>by simp⟩
 |s::S,F,hF,hS,h=>by
  have hs:=hS s List.mem_cons_self
  have hS':=fun q hq=>hS q (List.mem_cons_of_mem _ hq)
  rw[List.foldl_cons]
  cases hh:hasF (atomX s.atom) F
  ·have e:addF F s=F++[s]:=by unfold addF;rw[hh,if_neg (by simp)]
   have hF2:∀q∈F++[s],atomOk q.atom=true:=fun q hq=>by
    rcases List.mem_append.1 hq with hq|hq
    ·exact hF q hq
    ·simp at hq;rw[hq];exact hs
   have hN:NamesF (F++[s]):=h.app ⟨by simp,fun q hq=>by simp at hq;rw[hq];exact hh⟩
   rw[e]
   obtain⟨g1,g2⟩:=addFs_has S _ hF2 hS' hN
   refine⟨g1,fun a=>?_⟩
   rw[g2 a]
   simp[atomsF,or_assoc,eq_comm]
  ·have e:addF F s=F:=by unfold addF;rw[hh,if_pos rfl]
   rw[e]
   obtain⟨g1,g2⟩:=addFs_has S F hF hS' h
   refine⟨g1,fun a=>?_⟩
   rw[g2 a]
   have hin:s.atom∈atomsF F:=by
    obtain⟨q,hq,eq⟩:=hasF_iff.1 hh
    exact List.mem_map.2 ⟨q,hq,atomX_inj (hF q hq) hs eq⟩
   constructor
   ·rintro(h|h)
    ·exact .inl h
    ·exact .inr (List.mem_cons_of_mem _ h)
   ·rintro(h|h)
    ·exact .inl h
    ·rcases List.mem_cons.1 h with rfl|h
     ·exact .inl hin
     ·exact .inr h
end Go.Abs.Tz
namespace Go.Abs.Tz
open Go Go.Abs Go.Proofs
set_option maxRecDepth 20000
set_option linter.unusedSimpArgs false
attribute [local simp ↓] getP_nil getP_node setP_nil setP_node oneP_eq vP_map vP_some vP_none vP_bind eP_some bP_true bP_false gP_yes gP_tf gP_ft gP_tup runP_skip runP_ops runP_drw runP_seq runP_cond runP_blk runP_loop runP_exit runP_ret seqK_n seqK_r seqK_e seqK_p blkK_n blkK_r blkK_e blkK_p loopK_n loopK_r loopK_e loopK_p finK_n finK_r finK_p resP_one resP_two resP_three resP_nil resP_c nxP_nil argsP_nil argsP_cons evP_t evP_c evP_g evsP_nil evsP_cons clP_fn pnP_i opsP_nil opsP_d opsP_x opsP_gt opsP_gf opP_cf opP_cl opP_pn opP_nx valP_mv valP_pk valP_eq valP_bn valP_nt valP_ld valP_fa valP_fd valP_ia valP_ix valP_ln valP_srn valP_srl valP_srh valP_srb valP_cv valP_mi valP_mf valP_xt valP_bs valP_bd valP_nc valP_mn valP_lk valP_ta opP_mv opP_pk opP_eq opP_bn opP_nt opP_ld opP_fa opP_fd opP_ia opP_ix opP_ln opP_sr opP_cv opP_mi opP_mf opP_xt opP_bs opP_bd opP_nc opP_mn opP_lk opP_ta opP_al opP_bx opP_st opP_ap opP_mk opP_nb opP_mu opP_rg opP_en pendP_nil pendP_d pendP_g drwP_nil drwP_d drwP_x drwP_gt drwP_gf look_self natOf_nat
attribute [local simp] faL fdL iaL ixL loadL partL lenL eqK eqL natOf eqB_s eqB_i eqB_b bn_add bn_sub bn_lss bn_leq bn_gtr bn_geq bn_adds bn_lsss bn_gtrs bn_leqs bn_geqs sliceL LV.cells LV.whole look_self put_self putO_self put_eq stL fillL termC dopP LHeap.alloc oneI oneS oneB nth0 nth1 nth2 nth3 nth4 nth5 nth6 nth7 nth8 nth9 look_ne putO_ne
structure NNRb where
 k:Nat
 bf:Int
 n:Nat
 out:List Atom
section
variable{S:List Strat}{owS:Own}{q:List (PK×Int)}{l:List Clause}{ob:List (Nat×LObj)}{s6:Nat}
end
def rModE(l:List Clause)(base:List Atom):Int:=if basedE l (refS l) base≠0 then basedE l (refS l) base else match refS l with
 |none=>81
 |some q=>if 300<(rmodelR q l base).length then 2 else 0
def rModL(l:List Clause)(base:List Atom):List Atom:=if rModE l base≠0 then [] else match refS l with
 |none=>[]
 |some q=>rmodelR q l base
end Go.Abs.Tz
namespace Go.Abs.Tz
open Go Go.Abs Go.Proofs
structure Meet(l:List Clause)(R:Option (List (PK×Int)))(base:List Atom):Prop where
 err:modelE l R base=rModE l base
 row:modelE l R base=0->∀B,SortedOf (modelF l R base) B->B=rModL l base
 has:modelE l R base=0->∀a,atomOk a=true->hasF (atomX a) (modelF l R base)=hasA (rModL l base) a
 good:∀a∈rModL l base,atomG a
 len:(rModL l base).length<=300
theorem basedE_z{l:List Clause}{R:Option (List (PK×Int))}{base:List Atom}(h:basedE l R base=0):(checkB l).1=0/\R≠none/\base.length<=100/\∀a∈base,atomG a:=by
 unfold basedE at h
 by_cases hc:(checkB l).1≠0
 ·rw[if_pos hc]at h;exact absurd h hc
 rw[if_neg hc]at h
 by_cases hR:R=none
 ·rw[if_pos hR]at h;cases h
 rw[if_neg hR]at h
 by_cases h1:100<base.length
 ·rw[if_pos h1]at h;cases h
 rw[if_neg h1]at h
 cases h2:base.all baseOk with
 |false=>rw[h2]at h;simp at h
 |true=>exact⟨by omega,hR,by omega,fun a ha=>baseOk_iff.1 (List.all_eq_true.1 h2 a ha)⟩
end Go.Abs.Tz
namespace Go.Abs.Tz
open Go Go.Abs Go.Proofs
set_option maxRecDepth 20000
set_option linter.unusedSimpArgs false
attribute [local simp ↓] getP_nil getP_node setP_nil setP_node oneP_eq vP_map vP_some vP_none vP_bind eP_some bP_true bP_false gP_yes gP_tf gP_ft gP_tup runP_skip runP_ops runP_drw runP_seq runP_cond runP_blk runP_loop runP_exit runP_ret seqK_n seqK_r seqK_e seqK_p blkK_n blkK_r blkK_e blkK_p loopK_n loopK_r loopK_e loopK_p finK_n finK_r finK_p resP_one resP_two resP_three resP_nil resP_c nxP_nil argsP_nil argsP_cons evP_t evP_c evP_g evsP_nil evsP_cons clP_fn pnP_i opsP_nil opsP_d opsP_x opsP_gt opsP_gf opP_cf opP_cl opP_pn opP_nx valP_mv valP_pk valP_eq valP_bn valP_nt valP_ld valP_fa valP_fd valP_ia valP_ix valP_ln valP_srn valP_srl valP_srh valP_srb valP_cv valP_mi valP_mf valP_xt valP_bs valP_bd valP_nc valP_mn valP_lk valP_ta opP_mv opP_pk opP_eq opP_bn opP_nt opP_ld opP_fa opP_fd opP_ia opP_ix opP_ln opP_sr opP_cv opP_mi opP_mf opP_xt opP_bs opP_bd opP_nc opP_mn opP_lk opP_ta opP_al opP_bx opP_st opP_ap opP_mk opP_nb opP_mu opP_rg opP_en pendP_nil pendP_d pendP_g drwP_nil drwP_d drwP_x drwP_gt drwP_gf look_self natOf_nat
attribute [local simp] faL fdL iaL ixL loadL partL lenL eqK eqL natOf eqB_s eqB_i eqB_b bn_add bn_sub bn_lss bn_leq bn_gtr bn_geq bn_adds bn_lsss bn_gtrs bn_leqs bn_geqs sliceL LV.cells LV.whole look_self put_self putO_self put_eq stL fillL termC dopP LHeap.alloc oneI oneS oneB nth0 nth1 nth2 nth3 nth4 nth5 nth6 nth7 nth8 nth9 look_ne putO_ne
structure RIn(l:List Clause)(base:List Atom):Prop where
 hl:SmallL l
 h3:(checkB l).1=0->∀c∈l,(posL c.body).length<=3
 hb:base.length<2^63
 hok:base.length<=100->∀a∈base,a.ok
theorem wrap_nat63{n:Nat}(h:n+1<2^63):IntKind.wrap .i64 ((n:Int)+1)=((n+1:Nat):Int):=by
 rw[wrap_id (by omega) (by omega)];omega
def litShort(x:Lit):Bool:=x.atom.small&&(decide (x.a.s.size<=40)&&decide (x.b.s.size<=40))
def cntB:List Lit->Nat
 |[]=>0
 |x::r=>(if x.kind=1 then 1 else 0)+cntB r
def clShort(c:Clause):Bool:=c.body.all litShort&&(c.head.small&&(decide (cntB c.body<=3)&&decide (c.body.length<=8)))
def shortB(mo:Nat)(l:List Clause):Bool:=if 40<l.length then true else if l.all clShort then decide (l.length<=mo) else false
theorem cntB_le:∀l:List Lit,cntB l<=l.length
 |[]=>Nat.le_refl _
 |x::r=>by
  have:=cntB_le r
  simp only[cntB,List.length_cons]
  split<;>omega
structure NNCq where
 i:Nat
 n:Nat
 c:Nat
theorem t_shortClauses(mo:Nat)(hmo:mo<=100)(l:List Clause)(hb:∀c∈l,c.body.length<2^63):PureT 5 [clausesL l,.int mo] (.bool (shortB mo l)):=by
 refine PureT.of c5 fun H hH=>⟨Nat.le_of_ble_eq_true rfl,?_⟩
 by_cases h1:(40:Int)<(l.length:Int)
 ·simp(disch:=omega)[b5,h1]
  exact doneK hH (by simp[shortB,show 40<l.length by omega])
 have hl40:l.length<=40:=by omega
 simp(disch:=omega)[b5,h1]
 obtain⟨A,hA⟩:∃A,l.all clShort=A:=⟨_,rfl⟩
 have hB:shortB mo l=if A then decide (l.length<=mo) else false:=by unfold shortB;rw[if_neg (by omega),hA]
 obtain⟨Vv,hVv⟩:∃Vv,(if A then decide (l.length<=mo) else false)=Vv:=⟨_,rfl⟩
 rw[hB,hVv]
 refine lP_enter (σ:=NN) (fun q=>(.nd (clausesL l) (.nd (.int mo) .nil (.nd (.int q.i) .nil .nil)) (.nd .bot (.nd (.bool false) .nil .nil) .nil))) (fun q=>⟨H.objs,q.n⟩) (fun q=>l.length - q.i)
  (fun q=>H.next<=q.n/\q.i<=l.length/\(l.drop q.i).all clShort=A) ⟨0,H.next⟩ ⟨Nat.le_refl _,Nat.zero_le _,hA⟩ (by simp[FT.Le,Wk]) ⟨HWk.refl _,fun h=>h⟩ ?_
 rintro⟨i,n⟩ ⟨hn,hi,he⟩ hok
 simp only at hn hi he
 by_cases hlt:i<l.length
 case neg=>
  obtain rfl:i=l.length:=by omega
  rw[List.drop_eq_nil_of_le (Nat.le_refl _),List.all_nil]at he
  simp(disch:=omega)
  refine pureK_i hH ?_ (by first|exact HExt.refl' _|(repeat (first|exact HExt.refl (by first|omega|(dsimp only;omega))|refine HExt.cons' hH (by first|omega|(dsimp only;omega)) (by first|omega|(dsimp only;omega)) ?_)))
  rw[<-hVv,<-he]
  simp
 rw[all_drop clShort hlt]at he
 have hbl:=hb _ (mem_at hlt)
 obtain⟨D,hD⟩:∃D,l[i].body.all litShort=D:=⟨_,rfl⟩
 obtain⟨M,hM⟩:∃M,cntB l[i].body=M:=⟨_,rfl⟩
 have hC:clShort l[i]=(D&&(l[i].head.small&&(decide (M<=3)&&decide (l[i].body.length<=8)))):=by unfold clShort;rw[hD,hM]
 rw[hC]at he
 have hML:M<=l[i].body.length:=by rw[<-hM];exact cntB_le _
 simp(disch:=omega)[hlt]
 refine lP_enter (σ:=NNCq) (fun q=>(.nd (clausesL l) (.nd (.int mo) (.nd .bot (.nd (.int q.i) .nil .nil) .nil) (.nd (.int i) .nil .nil)) (.nd .bot (.nd (.bool false) .nil .nil) (.nd (.int q.c) .nil .nil)))) (fun q=>⟨H.objs,q.n⟩) (fun q=>l[i].body.length - q.i)
  (fun q=>H.next<=q.n/\q.i<=l[i].body.length/\q.c+cntB (l[i].body.drop q.i)=M/\(l[i].body.drop q.i).all litShort=D) ⟨0,n,0⟩ ⟨hn,Nat.zero_le _,by simpa using hM,hD⟩ (by simp[FT.Le,Wk]) ⟨HWk.refl _,fun h=>h⟩ ?_
 rintro⟨j,n2,cn⟩ ⟨hn2,hj,hcn,he2⟩ hok2
 dsimp only at hn2 hj hcn he2
 by_cases hlt2:j<l[i].body.length
 case neg=>
  rw[List.drop_eq_nil_of_le (by omega)]at hcn he2
  simp only[cntB,List.all_nil,Nat.add_zero]at hcn he2
  subst hcn
  subst he2
  rw[Bool.true_and]at he
  simp(disch:=omega)[hlt,hlt2]
  refine(t_short l[i].head).go fun n3 hn3=>?_
  cases hs:l[i].head.small
  ·rw[hs,Bool.false_and,Bool.false_and]at he
   simp(disch:=omega)
   exact doneK hH (by simp[<-hVv,<-he])
  rw[hs,Bool.true_and]at he
  by_cases h3:cn<=3
  case neg=>
   have h3':(3:Int)<(cn:Int):=by omega
   have h3n:3<cn:=by omega
   simp only[h3,decide_false,Bool.false_and]at he
   simp(disch:=omega)[h3',h3n]
   exact doneK hH (by simp[<-hVv,<-he])
  have h3':¬(3:Int)<(cn:Int):=by omega
  have h3n:¬3<cn:=by omega
  by_cases h8:l[i].body.length<=8
  case neg=>
   have h8':(8:Int)<(l[i].body.length:Int):=by omega
   have h8n:8<l[i].body.length:=by omega
   simp only[h3,h8,decide_false,Bool.and_false,Bool.false_and]at he
   simp(disch:=omega)[h3',h3n,h8',h8n,hlt]
   exact doneK hH (by simp[<-hVv,<-he])
  have h8':¬(8:Int)<(l[i].body.length:Int):=by omega
  have h8n:¬8<l[i].body.length:=by omega
  simp only[h3,h8,decide_true,Bool.and_true,Bool.true_and]at he
  simp(disch:=omega)[h3',h3n,h8',h8n,hlt,wrap_nat (show i<2^62 by omega)]
  exact⟨⟨i+1,n3⟩,by dsimp only;omega,⟨by dsimp only;omega,by dsimp only;omega,he⟩,by simp[FT.Le,Wk],HWk.refl _,fun h=>h⟩
 rw[all_drop litShort hlt2]at he2
 rw[List.drop_eq_getElem_cons hlt2]at hcn
 simp only[cntB]at hcn
 have hdone:litShort l[i].body[j]=false->Vv=false:=by
  intro h
  rw[<-hVv]
  rw[h,Bool.false_and]at he2
  rw[<-he2,Bool.false_and,Bool.false_and]at he
  rw[<-he];rfl
 have hnext:litShort l[i].body[j]=true->(l[i].body.drop (j+1)).all litShort=D:=by
  intro h
  rw[h,Bool.true_and]at he2
  exact he2
 have hcnj:∃cn2:Nat,(if l[i].body[j].kind=1 then IntKind.wrap .i64 ((cn:Int)+1) else (cn:Int))=(cn2:Int)/\cn2+cntB (l[i].body.drop (j+1))=M:=by
  by_cases hk:l[i].body[j].kind=1
  ·rw[if_pos hk]at hcn ⊢
   exact⟨cn+1,wrap_nat63 (by omega),by omega⟩
  ·rw[if_neg hk]at hcn ⊢
   exact⟨cn,rfl,by omega⟩
 obtain⟨cn2,hc1,hc2⟩:=hcnj
 have hback:∀(x:LObj)(n':Nat),H.next<=n'->H.next<=n2->HWk ⟨(n2,x)::H.objs,n'⟩ ⟨H.objs,n'⟩/\(LHeap.Ok ⟨(n2,x)::H.objs,n'⟩->LHeap.Ok ⟨H.objs,n'⟩):=fun x n' h1 h2=>back hH (HExt.cons' hH h2 h1 (HExt.refl (Nat.le_refl _)))
 by_cases hk:l[i].body[j].kind=1
 all_goals
  first|rw[if_pos hk]at hc1|rw[if_neg hk]at hc1
  simp(disch:=omega)[hlt,hlt2,hk]
  refine(t_short l[i].body[j].atom).go fun n3 hn3=>?_
  cases hs:l[i].body[j].atom.small
  ·have:=hdone (by unfold litShort;rw[hs];rfl)
   simp(disch:=omega)
   exact doneK hH (by simp[this])
  by_cases ha:(40:Int)<(l[i].body[j].a.s.size:Int)
  ·have:=hdone (by
    unfold litShort
    rw[hs,show decide (l[i].body[j].a.s.size<=40)=false from decide_eq_false (by omega)];rfl)
   simp(disch:=omega)[ha]
   exact doneK hH (by simp[this])
  by_cases hb2:(40:Int)<(l[i].body[j].b.s.size:Int)
  ·have:=hdone (by
    unfold litShort
    rw[hs,show decide (l[i].body[j].b.s.size<=40)=false from decide_eq_false (by omega),Bool.and_false];rfl)
   simp(disch:=omega)[ha,hb2]
   exact doneK hH (by simp[this])
  have:=hnext (by
   unfold litShort
   rw[hs,show decide (l[i].body[j].a.s.size<=40)=true from decide_eq_true (by omega),show decide (l[i].body[j].b.s.size<=40)=true from decide_eq_true (by omega)];rfl)
  simp(disch:=omega)[ha,hb2,hc1,wrap_nat63 (show j+1<2^63 by omega)]
  exact⟨⟨j+1,n3,cn2⟩,by dsimp only;omega,⟨by dsimp only;omega,by dsimp only;omega,hc2,this⟩,by simp[FT.Le,Wk,hc1],hback _ _ (by first|omega|(dsimp only at hn3 ⊢;omega)) (by omega)⟩
theorem short_ok3{c:Clause}(h:clShort c=true):Clause.ok3 c:=by
 unfold clShort at h
 simp only[Bool.and_eq_true,decide_eq_true_iff,List.all_eq_true]at h
 obtain⟨h1,h2,h3,h4⟩:=h
 have hb:∀x∈c.body,x.atom.ok/\x.a.s.size<=40/\x.b.s.size<=40:=fun x hx=>by
  have:=h1 x hx
  unfold litShort at this
  simp only[Bool.and_eq_true,decide_eq_true_iff]at this
  exact⟨Atom.small_ok this.1,this.2.1,this.2.2⟩
 exact⟨⟨Atom.small_ok h2,by omega,fun x hx=>⟨(hb x hx).1,by have:=(hb x hx).2.1;unfold Term.ok;omega,by have:=(hb x hx).2.2;unfold Term.ok;omega⟩⟩,⟨Atom.small_ok h2,by omega,fun x hx=>(hb x hx).1⟩⟩
def shortAs(l:List Atom):Bool:=if 100<l.length then true else if l.all Atom.small then decide (l.length<=12) else false
theorem t_shortAtoms(l:List Atom)(hl:l.length<2^63):PureT 6 [.sl (l.map atomL) .no] (.bool (shortAs l)):=by
 refine PureT.of c6 fun H hH=>⟨Nat.le_of_ble_eq_true rfl,?_⟩
 by_cases h1:(100:Int)<(l.length:Int)
 ·simp(disch:=omega)[b6,h1]
  exact doneK hH (by simp[shortAs,show 100<l.length by omega])
 have hl100:l.length<=100:=by omega
 simp(disch:=omega)[b6,h1]
 obtain⟨A,hA⟩:∃A,l.all Atom.small=A:=⟨_,rfl⟩
 have hB:shortAs l=if A then decide (l.length<=12) else false:=by unfold shortAs;rw[if_neg (by omega),hA]
 obtain⟨Vv,hVv⟩:∃Vv,(if A then decide (l.length<=12) else false)=Vv:=⟨_,rfl⟩
 rw[hB,hVv]
 refine lP_enter (σ:=NN) (fun q=>(.nd (.sl (l.map atomL) .no) (.nd .bot (.nd (.int q.i) .nil .nil) .nil) (.nd (.bool false) .nil .nil))) (fun q=>⟨H.objs,q.n⟩) (fun q=>l.length - q.i)
  (fun q=>H.next<=q.n/\q.i<=l.length/\(l.drop q.i).all Atom.small=A) ⟨0,H.next⟩ ⟨Nat.le_refl _,Nat.zero_le _,hA⟩ (by simp[FT.Le,Wk]) ⟨HWk.refl _,fun h=>h⟩ ?_
 rintro⟨i,n⟩ ⟨hn,hi,he⟩ hok
 simp only at hn hi he
 by_cases hlt:i<l.length
 case neg=>
  obtain rfl:i=l.length:=by omega
  rw[List.drop_eq_nil_of_le (Nat.le_refl _),List.all_nil]at he
  simp(disch:=omega)
  refine pureK_i hH ?_ (by first|exact HExt.refl' _|(repeat (first|exact HExt.refl (by first|omega|(dsimp only;omega))|refine HExt.cons' hH (by first|omega|(dsimp only;omega)) (by first|omega|(dsimp only;omega)) ?_)))
  rw[<-hVv,<-he]
  simp
  try omega
 rw[all_drop Atom.small hlt]at he
 simp(disch:=omega)[hlt]
 refine(t_short l[i]).go fun n3 hn3=>?_
 cases hs:l[i].small
 ·rw[hs,Bool.false_and]at he
  simp(disch:=omega)
  exact doneK hH (by simp[<-hVv,<-he])
 rw[hs,Bool.true_and]at he
 simp(disch:=omega)[wrap_nat (show i<2^62 by omega)]
 exact⟨⟨i+1,n3⟩,by dsimp only;omega,⟨by dsimp only;omega,by dsimp only;omega,he⟩,by simp[FT.Le,Wk],HWk.refl _,fun h=>h⟩
section
variable{l:List Clause}{fuel:Nat}{R:Option (List (PK×Int))}{base:List Atom}
end
end Go.Abs.Tz
namespace Go.Abs.Tz
set_option maxRecDepth 20000
open Go Go.Abs Go.Proofs Go.ChangeShapes Go.WideShapes Go.RowKit Go.Proofs.YtghfbggphgpjgaaGreatDoor
noncomputable def gOf(W:World):Ghost:=⟨fun b=>if b<W.heap.size then some true else none,0,fun _=>0,fun _=>(0,0),fun _=>none,fun _ _=>.free,E0.rc⟩
theorem gOf_cl{W:World}{b x:Nat}{v:Value}(h:W.cell? (at_ b x)=some v):(gOf W).Cl b x:=by
 left
 have:b<W.heap.size:=by
  rcases Nat.lt_or_ge b W.heap.size with h'|h'
  ·exact h'
  ·unfold World.cell? at h
   rw[show (at_ b x).block=b from rfl,Array.getElem?_eq_none h']at h
   cases h
 simp[gOf,this]
theorem gOf_inv(W:World)(m:Nat):Inv (gOf W) W ⟨[],m⟩:=by
 refine⟨Nat.zero_le _,fun b hb=>?_,fun _ _ _=>rfl,fun _ _ _=>rfl,fun o x hx=>by simp[look]at hx⟩
 simp only[gOf]at hb
 split at hb
 ·assumption
 ·cases hb
abbrev powName:String:=(Rows.customModelIsRightRow.laid.map Prod.fst)[2]!
theorem pow_lies{W:World}(h:laidMetH Tryz.prog Rows.customModelIsRightRow.laid W):∃t fz,W.heap[(3:Nat)]? = some (.cells (Lib.pow10Tab.map fun z=>Value.int .u64 z).toArray t fz):=by
 have h1:=laidMetH.filter (fun x=>x.1==powName) h
 have e:Rows.customModelIsRightRow.laid.filter (fun x=>x.1==powName)=[(powName,Lib.tabData .u64 Lib.pow10Tab)]:=rfl
 rw[e]at h1
 change laidMet Tryz.prog [(powName,Lib.tabData .u64 Lib.pow10Tab)] W at h1
 have h2:=Lib.tabIs_of_head (g:=3) (t:=259) (e:=219) (n:=20) (by kernel_rfl) (by kernel_rfl) (by kernel_rfl) (by kernel_rfl) (by kernel_rfl) (by kernel_rfl) h1
 unfold Lib.TabIs World.var? at h2
 rw[show Tryz.prog.globalNamed powName=some 3 by kernel_rfl]at h2
 simp only[Option.bind_some]at h2
 split at h2
 ·rename_i cs t fz hh
  cases h2
  exact⟨t,fz,hh⟩
 ·cases h2
theorem gOf_env(W:World)(h:laidMetH Tryz.prog Rows.customModelIsRightRow.laid W):EnvR E0 (gOf W) W:=by
 refine⟨fun g=>.bot _,rfl,fun p hp=>?_⟩
 obtain⟨t,fz,hh⟩:=pow_lies h
 have hp':p=(3,(Lib.pow10Tab.map fun z=>Value.int .u64 z).toArray):=by simpa [E0,powT] using hp
 subst hp'
 have hlt:3<W.heap.size:=(Array.getElem?_eq_some_iff.1 hh).1
 exact⟨by simp[gOf,hlt],t,fz,hh⟩
theorem add_add{a:Addr}(h:a.spot=none)(x y:Nat):(a.add x).add y=at_ a.block (a.off+x+y):=by
 obtain⟨b,o,s⟩:=a
 simp only at h
 subst h
 unfold Addr.add
 by_cases hx:x=0<;>by_cases hy:y=0<;>simp[hx,hy,Nat.add_assoc]
theorem z9:Tryz.prog.cellsOf 9=1:=by kernel_rfl
theorem z3:Tryz.prog.cellsOf 3=1:=by kernel_rfl
theorem z25:Tryz.prog.cellsOf 25=1:=by kernel_rfl
theorem z56:Tryz.prog.cellsOf 56=1:=by kernel_rfl
theorem z27:Tryz.prog.cellsOf 27=2:=by kernel_rfl
theorem z60:Tryz.prog.cellsOf 60=3:=by kernel_rfl
theorem z62:Tryz.prog.cellsOf 62=9:=by kernel_rfl
theorem z58:Tryz.prog.cellsOf 58=3:=by kernel_rfl
def RowR(W:World)(cl:List LV)(cs:List Value):Prop:=cs.length=cl.length/\∀(j:Nat)(c:LV),cl[j]? = some c->∃v,cs[j]? = some v/\VR (gOf W) W c v/\v.oneCell'=true
theorem RowR.nil(W:World):RowR W [] []:=⟨rfl,fun j c h=>by simp at h⟩
theorem RowR.cons{W:World}{c:LV}{v:Value}{cl:List LV}{cs:List Value}(h:VR (gOf W) W c v)(h1:v.oneCell'=true)(hr:RowR W cl cs):RowR W (c::cl) (v::cs):=
 ⟨by simp[hr.1],fun j x hx=>by
  cases j with
  |zero=>simp at hx;subst hx;exact⟨v,rfl,h,h1⟩
  |succ j=>simp at hx;simpa using hr.2 j x hx⟩
theorem RowR.append{W:World}{cl dl:List LV}{cs ds:List Value}(h:RowR W cl cs)(k:RowR W dl ds):RowR W (cl++dl) (cs++ds):=by
 refine⟨by simp[h.1,k.1],fun j c hc=>?_⟩
 rcases Nat.lt_or_ge j cl.length with hj|hj
 ·rw[List.getElem?_append_left hj]at hc
  rw[List.getElem?_append_left (by rw[h.1];exact hj)]
  exact h.2 j c hc
 ·rw[List.getElem?_append_right hj]at hc
  rw[List.getElem?_append_right (by rw[h.1];exact hj),h.1]
  exact k.2 _ c hc
section
variable{H:Type}{enc:TypeId×Value->H}{W:World}{hd:Bool}
theorem fld{m:Nat}{cs:List Value}{f:Field}{t:TypeId}{off c:Nat}{r:Option (DataW H×List MemPlace)}(h:DataW.trod enc Tryz.prog W 0 (fun _=>true) hd m f.type ((cs.drop f.offset).take (Tryz.prog.cellsOf f.type))=r)
  (h1:f.type=t) (h2:f.offset=off) (h3:Tryz.prog.cellsOf t=c):DataW.trod enc Tryz.prog W 0 (fun _=>true) hd m t ((cs.drop off).take c)=r:=by
 subst h1;subst h2;subst h3;exact h
theorem open_row{α:Type}(ec:α->List LV){S E:TypeId}{k:Nat}(hu:Tryz.prog.underlying S=some (.slice E))(hk:Tryz.prog.cellsOf E=k)(hk0:0<k)
  (hec:∀a,(ec a).length=k) (a0:α)
  (hop:∀(n:Nat)(cs:List Value)(x:DataW H×List MemPlace),DataW.trod enc Tryz.prog W 0 (fun _=>true) hd n E cs=some x->∃a:α,RowR W (ec a) cs)
  {n:Nat} {u:Value} {x:DataW H×List MemPlace} (h:DataW.trod enc Tryz.prog W 0 (fun _=>true) hd n S [u]=some x):
  ∃l:List α,l.length<2^63/\VR (gOf W) W (.sl (l.map fun a=>.agg (ec a)) .no) u/\u.oneCell'=true:=by
 rcases Deep.open_slice hu h with⟨e1,_⟩|⟨a,len,cap,m,n',D,Pl,e1,_,hlc,hmax,hm,_,hel⟩
 ·simp only[List.cons.injEq,and_true]at e1
  subst e1
  exact⟨[],by simp,.sln trivial,rfl⟩
 ·simp only[List.cons.injEq,and_true]at e1
  subst e1
  simp only[if_true]at hm
  have hm:=hm.symm
  subst hm
  have hmax2:cap<2^63:=by unfold maxLen at hmax;omega
  by_cases hc0:cap=0
  ·subst hc0
   obtain rfl:len=0:=by omega
   exact⟨[],by simp,.sle a,rfl⟩
  have hspot:a.spot=none:=by
   obtain⟨cs',q1,_⟩:=hel 0 (by omega)
   rw[hk]at q1
   obtain⟨_,q2,q3⟩:=World.cells?_some q1
   have:=q3 0 hk0
   rw[List.getElem?_eq_getElem (by omega)]at this
   have:=World.cell?_spot this
   simpa [Addr.add] using this
  have ht:∀i,∃t:α,i<len->∃cs,RowR W (ec t) cs/\∀j,j<k->W.cell? (at_ a.block (a.off+i*k+j))=cs[j]?:=by
   intro i
   by_cases hi:i<len
   ·obtain⟨cs',q1,q2⟩:=hel i (by omega)
    rw[hk]at q1
    obtain⟨_,_,q3⟩:=World.cells?_some q1
    obtain⟨t,ht⟩:=hop _ _ _ q2
    refine⟨t,fun _=>⟨cs',ht,fun j hj=>?_⟩⟩
    rw[<-q3 j hj,add_add hspot]
   ·exact⟨a0,fun h=>absurd h hi⟩
  let T:Nat->α:=fun i=>Classical.choose (ht i)
  have hT:∀i,i<len->∃cs,RowR W (ec (T i)) cs/\∀j,j<k->W.cell? (at_ a.block (a.off+i*k+j))=cs[j]?:=fun i=>Classical.choose_spec (ht i)
  have hX:∀i j,∃v:Value,i<len->∀c,(ec (T i))[j]? = some c->W.cell? (at_ a.block (a.off+i*k+j))=some v/\VR (gOf W) W c v/\v.oneCell'=true:=by
   intro i j
   by_cases hi:i<len
   ·obtain⟨cs,h1,h2⟩:=hT i hi
    by_cases hj:j<k
    ·obtain⟨v,h3,h4,h5⟩:=h1.2 j _ (List.getElem?_eq_getElem (by rw[hec];exact hj))
     refine⟨v,fun _ c hc=>?_⟩
     rw[List.getElem?_eq_getElem (by rw[hec];exact hj)]at hc
     cases hc
     exact⟨by rw[h2 j hj,h3],h4,h5⟩
    ·exact⟨undef,fun _ c hc=>by rw[List.getElem?_eq_none (by rw[hec];omega)]at hc;cases hc⟩
   ·exact⟨undef,fun h=>absurd h hi⟩
  let V:Nat->Nat->Value:=fun i j=>Classical.choose (hX i j)
  have hV:∀i j,i<len->∀c,(ec (T i))[j]? = some c->W.cell? (at_ a.block (a.off+i*k+j))=some (V i j)/\VR (gOf W) W c (V i j)/\(V i j).oneCell'=true:=fun i j=>Classical.choose_spec (hX i j)
  have ha:a=at_ a.block a.off:=by
   obtain⟨b,o,sp⟩:=a
   simp only at hspot
   subst hspot
   rfl
  have hget:∀(i:Nat)(e:LV),(((List.range len).map T).map fun a=>LV.agg (ec a))[i]? = some e->i<len/\e=.agg (ec (T i)):=by
   intro i e he
   rw[List.getElem?_map,List.getElem?_map]at he
   cases hr:(List.range len)[i]? with
   |none=>rw[hr]at he;cases he
   |some q=>
    rw[hr]at he
    obtain⟨hlt,rfl⟩:=List.getElem?_eq_some_iff.1 hr
    simp at hlt he
    exact⟨hlt,he.symm⟩
  refine⟨(List.range len).map T,by simp;omega,?_,rfl⟩
  have hlen:(((List.range len).map T).map fun a=>LV.agg (ec a)).length=len:=by simp
  have hR:=VR.sl (G:=gOf W) (w:=W) (es:=((List.range len).map T).map fun a=>LV.agg (ec a)) (own:=.no) (b:=a.block) (off:=a.off) (sz:=k) (cap:=cap) (xs:=V) (by rw[hlen];exact hlc)
   (fun i e he=>by obtain⟨_,rfl⟩:=hget i e he;exact hec _)
   (fun i e j c he hc=>by
    obtain⟨hi,rfl⟩:=hget i e he
    obtain⟨g1,_,g3⟩:=hV i j hi c hc
    exact⟨gOf_cl g1,g1,g3⟩)
   (fun i e j c he hc=>by
    obtain⟨hi,rfl⟩:=hget i e he
    exact(hV i j hi c hc).2.1) trivial
  rw[hlen,<-ha]at hR
  exact hR
theorem open_int{n:Nat}{u:Value}{x:DataW H×List MemPlace}(h:DataW.trod enc Tryz.prog W 0 (fun _=>true) hd n 3 [u]=some x):∃k:Int,u=.int .i64 k:=by
 obtain⟨k,e,_⟩:=DataW.trod_int Tryz.underlying3 h
 simp only[List.cons.injEq,and_true]at e
 exact⟨k,e⟩
theorem open_str{n:Nat}{u:Value}{x:DataW H×List MemPlace}(h:DataW.trod enc Tryz.prog W 0 (fun _=>true) hd n 9 [u]=some x):∃s:ByteArray,u=.string s:=by
 obtain⟨s,e,_⟩:=DataW.trod_string Tryz.underlying9 h
 simp only[List.cons.injEq,and_true]at e
 exact⟨s,e⟩
theorem open_term{n:Nat}{cs:List Value}{x:DataW H×List MemPlace}(h:DataW.trod enc Tryz.prog W 0 (fun _=>true) hd n 60 cs=some x):∃t:Term,RowR W (termC t) cs:=by
 obtain⟨xs,m,_,rfl,hl,hlen,hf⟩:=DataW.trod_struct Tryz.underlying60 h
 rw[z60]at hl
 match xs,hlen,cs,hl with
 |[y0,y1,y2],_,[u0,u1,u2],_=>
  have h0:=fld (t:=3) (off:=0) (c:=1) (hf 0 _ rfl) rfl rfl z3
  have h1:=fld (t:=3) (off:=1) (c:=1) (hf 1 _ rfl) rfl rfl z3
  have h2:=fld (t:=9) (off:=2) (c:=1) (hf 2 _ rfl) rfl rfl z9
  obtain⟨k,rfl⟩:=open_int (show DataW.trod enc Tryz.prog W 0 (fun _=>true) hd m 3 [u0]=some y0 from h0)
  obtain⟨l,rfl⟩:=open_int (show DataW.trod enc Tryz.prog W 0 (fun _=>true) hd m 3 [u1]=some y1 from h1)
  obtain⟨s,rfl⟩:=open_str (show DataW.trod enc Tryz.prog W 0 (fun _=>true) hd m 9 [u2]=some y2 from h2)
  exact⟨⟨k,l,s⟩,.cons (.sc _) rfl (.cons (.sc _) rfl (.cons (.sc _) rfl (.nil W)))⟩
theorem open_atom{n:Nat}{cs:List Value}{x:DataW H×List MemPlace}(h:DataW.trod enc Tryz.prog W 0 (fun _=>true) hd n 27 cs=some x):∃a:Atom,RowR W [.str a.pred,argsL a.args] cs:=by
 obtain⟨xs,m,_,rfl,hl,hlen,hf⟩:=DataW.trod_struct Tryz.underlying27 h
 rw[z27]at hl
 match xs,hlen,cs,hl with
 |[y0,y1],_,[u0,u1],_=>
  have h0:=fld (t:=9) (off:=0) (c:=1) (hf 0 _ rfl) rfl rfl z9
  have h1:=fld (t:=25) (off:=1) (c:=1) (hf 1 _ rfl) rfl rfl z25
  obtain⟨s,rfl⟩:=open_str (show DataW.trod enc Tryz.prog W 0 (fun _=>true) hd m 9 [u0]=some y0 from h0)
  obtain⟨ts,_,hv,h1c⟩:=open_row termC Tryz.underlying25 z60 (by omega) (fun _=>rfl) ⟨0,0,⟨#[]⟩⟩ (fun n cs x h=>open_term h) (show DataW.trod enc Tryz.prog W 0 (fun _=>true) hd m 25 [u1]=some y1 from h1)
  exact⟨⟨s,ts⟩,.cons (.sc _) rfl (.cons hv h1c (.nil W))⟩
theorem open_lit{n:Nat}{cs:List Value}{x:DataW H×List MemPlace}(h:DataW.trod enc Tryz.prog W 0 (fun _=>true) hd n 62 cs=some x):∃l:Lit,RowR W (litC l) cs:=by
 obtain⟨xs,m,_,rfl,hl,hlen,hf⟩:=DataW.trod_struct Tryz.underlying62 h
 rw[z62]at hl
 match xs,hlen,cs,hl with
 |[y0,y1,y2,y3],_,[u0,u1,u2,u3,u4,u5,u6,u7,u8],_=>
  have h0:=fld (t:=3) (off:=0) (c:=1) (hf 0 _ rfl) rfl rfl z3
  have h1:=fld (t:=27) (off:=1) (c:=2) (hf 1 _ rfl) rfl rfl z27
  have h2:=fld (t:=60) (off:=3) (c:=3) (hf 2 _ rfl) rfl rfl z60
  have h3:=fld (t:=60) (off:=6) (c:=3) (hf 3 _ rfl) rfl rfl z60
  obtain⟨k,rfl⟩:=open_int (show DataW.trod enc Tryz.prog W 0 (fun _=>true) hd m 3 [u0]=some y0 from h0)
  obtain⟨a,ha⟩:=open_atom (show DataW.trod enc Tryz.prog W 0 (fun _=>true) hd m 27 [u1,u2]=some y1 from h1)
  obtain⟨s,hs⟩:=open_term (show DataW.trod enc Tryz.prog W 0 (fun _=>true) hd m 60 [u3,u4,u5]=some y2 from h2)
  obtain⟨t,ht⟩:=open_term (show DataW.trod enc Tryz.prog W 0 (fun _=>true) hd m 60 [u6,u7,u8]=some y3 from h3)
  exact⟨⟨k,a,s,t⟩,.cons (.sc _) rfl (ha.append (hs.append ht))⟩
theorem open_clause{n:Nat}{cs:List Value}{x:DataW H×List MemPlace}(h:DataW.trod enc Tryz.prog W 0 (fun _=>true) hd n 58 cs=some x):∃c:{c:Clause // c.body.length<2^63},RowR W (clauseC c.1) cs:=by
 obtain⟨xs,m,_,rfl,hl,hlen,hf⟩:=DataW.trod_struct Tryz.underlying58 h
 rw[z58]at hl
 match xs,hlen,cs,hl with
 |[y0,y1],_,[u0,u1,u2],_=>
  have h0:=fld (t:=27) (off:=0) (c:=2) (hf 0 _ rfl) rfl rfl z27
  have h1:=fld (t:=56) (off:=2) (c:=1) (hf 1 _ rfl) rfl rfl z56
  obtain⟨a,ha⟩:=open_atom (show DataW.trod enc Tryz.prog W 0 (fun _=>true) hd m 27 [u0,u1]=some y0 from h0)
  obtain⟨b,hb,hv,h1c⟩:=open_row litC Tryz.underlying56 z62 (by omega) (fun _=>rfl) ⟨0,⟨⟨#[]⟩,[]⟩,⟨0,0,⟨#[]⟩⟩,⟨0,0,⟨#[]⟩⟩⟩ (fun n cs x h=>open_lit h) (show DataW.trod enc Tryz.prog W 0 (fun _=>true) hd m 56 [u2]=some y1 from h1)
  exact⟨⟨⟨a,b⟩,hb⟩,ha.append (.cons hv h1c (.nil W))⟩
theorem open_clauses{base:Nat}{v:Value}{d:DataW H}{p:List MemPlace}(h:DataW.Trod enc Tryz.prog W 0 (fun _=>true) hd 22 v d p)(hv:Value.okWide Tryz.prog W .any base 22 v):∃l:List Clause,l.length<2^63/\(∀c∈l,c.body.length<2^63)/\VR (gOf W) W (clausesL l) v:=by
 have h1:v.cells=#[v]:=by
  unfold Value.okWide at hv
  rw[Tryz.underlying22]at hv
  simp only at hv
  unfold Cell.okWide at hv
  rw[Tryz.underlying22]at hv
  simp only at hv
  unfold Cell.ok at hv
  rw[Tryz.underlying22]at hv
  cases v<;>first|rfl|exact hv.elim
 obtain⟨fuel,h⟩:=h
 rw[h1]at h
 obtain⟨l,hl,hV,_⟩:=open_row (fun c:{c:Clause // c.body.length<2^63}=>clauseC c.1) Tryz.underlying22 z58 (by omega) (fun _=>rfl) ⟨⟨⟨⟨#[]⟩,[]⟩,[]⟩,by simp⟩ (fun n cs x h=>open_clause h) (show DataW.trod enc Tryz.prog W 0 (fun _=>true) hd fuel 22 [v]=some _ from h)
 refine⟨l.map (·.1),by rw[List.length_map];exact hl,fun c hc=>?_,?_⟩
 ·obtain⟨q,_,rfl⟩:=List.mem_map.1 hc
  exact q.2
 ·have e:(l.map (·.1)).map clauseL=l.map fun c=>LV.agg (clauseC c.1):=by rw[List.map_map];rfl
  show VR (gOf W) W (.sl ((l.map (·.1)).map clauseL) .no) v
  rw[e]
  exact hV
theorem open_atoms{base:Nat}{v:Value}{d:DataW H}{p:List MemPlace}(h:DataW.Trod enc Tryz.prog W 0 (fun _=>true) hd 23 v d p)(hv:Value.okWide Tryz.prog W .any base 23 v):∃l:List Atom,l.length<2^63/\VR (gOf W) W (.sl (l.map atomL) .no) v:=by
 have h1:v.cells=#[v]:=by
  unfold Value.okWide at hv
  rw[Tryz.underlying23]at hv
  simp only at hv
  unfold Cell.okWide at hv
  rw[Tryz.underlying23]at hv
  simp only at hv
  unfold Cell.ok at hv
  rw[Tryz.underlying23]at hv
  cases v<;>first|rfl|exact hv.elim
 obtain⟨fuel,h⟩:=h
 rw[h1]at h
 obtain⟨l,hl,hV,_⟩:=open_row (fun a:Atom=>[.str a.pred,argsL a.args]) Tryz.underlying23 z27 (by omega) (fun _=>rfl) ⟨⟨#[]⟩,[]⟩ (fun n cs x h=>open_atom h) (show DataW.trod enc Tryz.prog W 0 (fun _=>true) hd fuel 23 [v]=some _ from h)
 exact⟨l,hl,hV⟩
theorem open_u16P{base:Nat}{v:Value}(hv:Value.okWide Tryz.prog W .any base 48 v):∃n:Int,v=.int .u16 n/\0<=n/\n<65536:=by
 unfold Value.okWide at hv
 rw[Tryz.underlying48]at hv
 simp only at hv
 unfold Cell.okWide at hv
 rw[Tryz.underlying48]at hv
 simp only at hv
 unfold Cell.ok at hv
 rw[Tryz.underlying48]at hv
 cases v<;>first|(obtain⟨rfl,h1,h2⟩:=hv;exact⟨_,rfl,h1,Int.lt_of_le_of_lt h2 (by decide)⟩)|exact hv.elim
end
end Go.Abs.Tz
namespace Go.Abs.Tz
open Go Go.Abs Go.Proofs
def LevC(l:List Clause)(R:Option (List (PK×Int))):Prop:=(R=none->¬∃g,SolL (edgesOf l) g)/\∀m,R=some m->LevOk l m/\∀g,SolL (edgesOf l) g->∀k,valN m k<=g k
theorem levels_c(l:List Clause)(hc:(checkB l).1=0):∃fuel R,levN l fuel (l.foldl initCl [])=some R/\LevC l R:=by
 have hg:=good_of hc
 obtain⟨i1,i2,i3,i4⟩:=init_fold l [] fun _=>rfl
 have i5:=hg.initLen
 obtain⟨m0,hm0⟩:∃m0,l.foldl initCl []=m0:=⟨_,rfl⟩
 rw[hm0]at i1 i2 i3 i5 ⊢
 have hV:∀c∈l,∀k∈predC c,k∈pKeys m0:=fun c hc k hkc=>(i3 k).2 (.inr ⟨c,hc,hkc⟩)
 have hz:∀k,valN m0 k=0:=fun k=>by unfold valN;rw[i1 k];rfl
 obtain⟨R,hR,hE⟩:=cust_levels hV ((pKeys m0).length*(pKeys m0).length) m0 rfl (fun k=>by rw[i1 k];omega) (fun g _ k=>by rw[hz k];omega) (Nat.le_add_left _ _)
 refine⟨_,R,hR,fun hn=>?_,fun m hm=>?_⟩
 ·rw[hn]at hE;exact hE
 ·rw[hm]at hE
  have hE:LeastL l (pKeys m0) m:=hE
  exact⟨levOk_of hg (i2 .nil) hV (by rw[pKeys_len];exact i5) hE,hE.le⟩
structure ClosedM(l:List Clause)(base:List Atom)(T:Atom->Prop):Prop where
 base:∀a∈base,T a
 good:∀a,T a->atomG a
 step:∀c∈l,∀h,HeadOf T c h->T h
theorem LevC.bound{l:List Clause}{R:Option (List (PK×Int))}(h:LevC l R):∀m,R=some m->0<=maxI 0 (m.map (·.2))/\maxI 0 (m.map (·.2))<=2^30:=fun m hm=>by
 have:=(h.2 m hm).1.max
 omega
theorem lev_ex(l:List Clause):∃fuel R,((checkB l).1=0->levN l fuel (l.foldl initCl [])=some R)/\((checkB l).1=0->∀m,R=some m->0<=maxI 0 (m.map (·.2))/\maxI 0 (m.map (·.2))<=2^30)/\((checkB l).1=0->LevC l R):=by
 by_cases hc:(checkB l).1=0
 ·obtain⟨f,R,h1,h2⟩:=levels_c l hc
  exact⟨f,R,fun _=>h1,fun _=>h2.bound,fun _=>h2⟩
 ·exact⟨0,none,fun h=>absurd h hc,fun h=>absurd h hc,fun h=>absurd h hc⟩
end Go.Abs.Tz
