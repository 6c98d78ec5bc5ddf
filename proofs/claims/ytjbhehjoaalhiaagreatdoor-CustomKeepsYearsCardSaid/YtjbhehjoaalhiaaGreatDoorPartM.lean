/- Part of the proof that the law CustomKeepsYears holds. Conditions: none. -/
import Derived.Test.YtjbhehjoaalhiaaGreatDoorPartL
import Derived.Test.YtjbhehjoaalhiaaGreatDoorPartG
import Derived.WalkKit
import Derived.RegionTactic
import Derived.Deep.RegionWith
import Derived.LoopN
import Derived.StillTailTactics
import Derived.Deep.LoopGhost
import Derived.Lib.Builder
import Derived.Test.YtjbhehjoaalhiaaGreatDoorProg
import Derived.KernelRfl
import Derived.Lib.Walk
import Derived.Lib.AppendStr
import Derived.Lib.UnsafeStr
import Derived.Laws.Externs
import Derived.Lib.Hide
import Derived.Test.YtjbhehjoaalhiaaGreatDoorPartJ
import Derived.Test.YtjbhehjoaalhiaaGreatDoorPartK
import Derived.Test.YtjbhehjoaalhiaaGreatDoorPartH
import Derived.Test.YtjbhehjoaalhiaaGreatDoorPartA
set_option linter.unusedVariables false
set_option linter.unusedSimpArgs false
set_option linter.unusedSectionVars false
namespace Go.Proofs
open Go Go.Shelf Go.RowKit Go.Lib Go.Sort
set_option maxHeartbeats 1000000
set_option maxRecDepth 100000
theorem Tz.nanS(s:ByteArray)(w:World):Calls Tryz.prog 162 #[.string s] w fun e w'=>e=.returned (.bool false)/\w'=w:=by
 go_enter Tryz.func162,Tryz.ntmps162
 go_wp2
 go_ret
 exact⟨rfl,rfl⟩
theorem Tz.nanI(s:Int)(w:World):Calls Tryz.prog 152 #[.int .i64 s] w fun e w'=>e=.returned (.bool false)/\w'=w:=by
 go_enter Tryz.func152,Tryz.ntmps152
 go_wp2
 go_ret
 exact⟨rfl,rfl⟩
theorem Tz.cmpS(s t:ByteArray)(w:World):Calls Tryz.prog 104 #[.string s,.string t] w fun e w'=>e=.returned (.int .i64 (Go.Abs.Tz.cmpB s t))/\w'=w:=by
 have hs:=Tz.nanS s
 have ht:=Tz.nanS t
 have hg:∀w:World,(binOp .gtr 9 (.string s) (.string t)).run Tryz.prog w=.ok (.bool (!(Op.bytesLess s.toList t.toList||s.toList==t.toList))) w:=fun w=>rfl
 go_enter Tryz.func104,Tryz.ntmps104
 go_wp2_with (go_at_call 162;first|(refine(hs _).mono ?_;rintro e w' ⟨rfl,rfl⟩)|(refine(ht _).mono ?_;rintro e w' ⟨rfl,rfl⟩))
 ·rename_i h
  go_ret
  exact⟨by simp[Go.Abs.Tz.cmpB,Go.Abs.Tz.lessB,h],rfl⟩
 ·rename_i h _ _ h2
  have h2':(s.toList==t.toList)=false:=by simpa using h2
  go_ret
  exact⟨by simp[Go.Abs.Tz.cmpB,Go.Abs.Tz.lessB,Go.Abs.Tz.eqBA,h,h2'],rfl⟩
 ·rename_i h h2
  have h2':(s.toList==t.toList)=true:=by simpa using h2
  go_ret
  exact⟨by simp[Go.Abs.Tz.cmpB,Go.Abs.Tz.lessB,Go.Abs.Tz.eqBA,h,h2'],rfl⟩
theorem Tz.cmpI(s t:Int)(w:World):Calls Tryz.prog 94 #[.int .i64 s,.int .i64 t] w fun e w'=>e=.returned (.int .i64 (Go.Abs.Tz.cmpI s t))/\w'=w:=by
 have hs:=Tz.nanI s
 have ht:=Tz.nanI t
 go_enter Tryz.func94,Tryz.ntmps94
 go_wp2_with (go_at_call 152;first|(refine(hs _).mono ?_;rintro e w' ⟨rfl,rfl⟩)|(refine(ht _).mono ?_;rintro e w' ⟨rfl,rfl⟩))
 ·rename_i h
  go_ret
  exact⟨by simp[Go.Abs.Tz.cmpI,h],rfl⟩
 ·rename_i h1 _ _ h2
  go_ret
  exact⟨by simp[Go.Abs.Tz.cmpI,h2,show ¬s<t by omega],rfl⟩
 ·rename_i h1 h2
  go_ret
  exact⟨by simp[Go.Abs.Tz.cmpI,show ¬s<t by omega,show ¬t<s by omega],rfl⟩
theorem Tz.cell_new1(W:World)(b:Obj)(cs:Array Value)(t:TypeId)(i:Nat):((W.alloc (.cells cs t)).alloc b).cell? ⟨W.heap.size,i,none⟩=cs[i]?:=by
 have h:((W.alloc (.cells cs t)).alloc b).heap[W.heap.size]? = some (.cells cs t):=by
  show ((W.heap.push (.cells cs t)).push b)[W.heap.size]? = _
  rw[Array.getElem?_push_lt (by simp)]
  simp
 unfold World.cell?
 rw[h]
 rfl
theorem Tz.cell_new2(W:World)(a:Obj)(cs:Array Value)(t:TypeId)(i:Nat):((W.alloc a).alloc (.cells cs t)).cell? ⟨W.heap.size+1,i,none⟩=cs[i]?:=by
 have h:((W.alloc a).alloc (.cells cs t)).heap[W.heap.size+1]? = some (.cells cs t):=by
  have h2:(W.alloc a).heap.size=W.heap.size+1:=by
   show (W.heap.push a).size=_
   simp
  rw[<-h2]
  exact Go.Abs.heap_alloc_new
 unfold World.cell?
 rw[h]
 rfl
theorem Tz.cell_new0(W:World)(cs:Array Value)(t:TypeId)(i:Nat):(W.alloc (.cells cs t)).cell? ⟨W.heap.size,i,none⟩=cs[i]?:=by
 have h:(W.alloc (.cells cs t)).heap[W.heap.size]? = some (.cells cs t):=Go.Abs.heap_alloc_new
 unfold World.cell?
 rw[h]
 rfl
theorem Tz.fin3b(W:World)(a b c:Obj):((W.alloc a).alloc b).drew.alloc c=grow (W.drewN 1) #[a,b,c]:=by
 rw[alloc_eq_grow,alloc_eq_grow,alloc_eq_grow,grow_grow,drew_grow,grow_grow]
 rfl
theorem Tz.or3(b:Nat)(x y z:Int)(w:World)(h0:w.cell? ⟨b,0,none⟩=some (.int .i64 x))(h1:w.cell? ⟨b,1,none⟩=some (.int .i64 y))(h2:w.cell? ⟨b,2,none⟩=some (.int .i64 z)):Calls Tryz.prog 103 #[.slice (some ⟨b,0,none⟩) 3 3] w fun e w'=>e=.returned (.int .i64 (Go.Abs.Tz.or3 x y z))/\w'=w:=by
 go_enter Tryz.func103,Tryz.ntmps103
 go_wp2
 refine wp_loop_rounds 4 ?_
 rw[rounds_succ]
 by_cases hx:x=0
 ·subst hx
  go_wp2
  rw[rounds_succ]
  by_cases hy:y=0
  ·subst hy
   go_wp2
   rw[rounds_succ]
   by_cases hz:z=0
   ·subst hz
    go_wp2
    rw[rounds_succ]
    go_wp2
    go_ret
    exact⟨rfl,rfl⟩
   ·go_wp2
    go_ret
    exact⟨by simp[Go.Abs.Tz.or3],rfl⟩
  ·go_wp2
   go_ret
   exact⟨by simp[Go.Abs.Tz.or3,hy],rfl⟩
 ·go_wp2
  go_ret
  exact⟨by simp[Go.Abs.Tz.or3,hx],rfl⟩
set_option maxHeartbeats 8000000 in
theorem Tz.cmpT(x y:Go.Abs.Tz.Term)(W:World):Calls Tryz.prog 157 #[.agg #[.int .i64 x.kind,.int .i64 x.n,.string x.s],.agg #[.int .i64 y.kind,.int .i64 y.n,.string y.s]] W fun e w'=>e=.returned (.int .i64 (Go.Abs.Tz.cmpT x y))/\∃q os',w'=grow (W.drewN q) os':=by
 have hk:=Tz.cmpI x.kind y.kind
 have hn:=Tz.cmpI x.n y.n
 have hs:=Tz.cmpS x.s y.s
 have ho:=fun b=>Tz.or3 b (Go.Abs.Tz.cmpI x.kind y.kind) (Go.Abs.Tz.cmpI x.n y.n) (Go.Abs.Tz.cmpB x.s y.s)
 have hr:Go.Abs.Tz.cmpT x y=Go.Abs.Tz.or3 (Go.Abs.Tz.cmpI x.kind y.kind) (Go.Abs.Tz.cmpI x.n y.n) (Go.Abs.Tz.cmpB x.s y.s):=rfl
 rw[hr]
 generalize Go.Abs.Tz.or3 (Go.Abs.Tz.cmpI x.kind y.kind) (Go.Abs.Tz.cmpI x.n y.n) (Go.Abs.Tz.cmpB x.s y.s)=r at ho ⊢
 generalize Go.Abs.Tz.cmpI x.kind y.kind=r1 at hk ho
 generalize Go.Abs.Tz.cmpI x.n y.n=r2 at hn ho
 generalize Go.Abs.Tz.cmpB x.s y.s=r3 at hs ho
 have c1:=fun i=>Tz.cell_new1 W (.cells #[.int .i64 y.kind,.int .i64 y.n,.string y.s] 97) #[.int .i64 x.kind,.int .i64 x.n,.string x.s] 97 i
 have c2:=fun i=>Tz.cell_new2 W (.cells #[.int .i64 x.kind,.int .i64 x.n,.string x.s] 97) #[.int .i64 y.kind,.int .i64 y.n,.string y.s] 97 i
 have d0:=c1 0
 have d1:=c1 1
 have d2:=c1 2
 have e0:=c2 0
 have e1:=c2 1
 have e2:=c2 2
 clear c1 c2
 obtain⟨W2,hW2⟩:∃W2,((W.alloc (.cells #[.int .i64 x.kind,.int .i64 x.n,.string x.s] 97)).alloc (.cells #[.int .i64 y.kind,.int .i64 y.n,.string y.s] 97)).drew=W2:=⟨_,rfl⟩
 change ((W.alloc (.cells #[.int .i64 x.kind,.int .i64 x.n,.string x.s] 97)).alloc (.cells #[.int .i64 y.kind,.int .i64 y.n,.string y.s] 97)).drew.cell? _=_ at d0 d1 d2 e0 e1 e2
 rw[hW2]at d0 d1 d2 e0 e1 e2
 go_enter Tryz.func157,Tryz.ntmps157
 go_wp2
 refine wp_region_still_tail 15 (by kernel_rfl) (by kernel_rfl) ?_
 change wpStill _ _ ((W.alloc (.cells #[.int .i64 x.kind,.int .i64 x.n,.string x.s] 97)).alloc (.cells #[.int .i64 y.kind,.int .i64 y.n,.string y.s] 97)).drew (fun a'=>wpList _ _ _ _ a' ((W.alloc (.cells #[.int .i64 x.kind,.int .i64 x.n,.string x.s] 97)).alloc (.cells #[.int .i64 y.kind,.int .i64 y.n,.string y.s] 97)).drew) _ _
 rw[hW2]
 simp only[List.take_succ_cons,List.take_zero,List.drop_succ_cons,List.drop_zero]
 still_step
 still_step
 still_step
 still_step
 still_call (hk _)
 still_step
 still_step
 still_step
 still_step
 still_call (hn _)
 still_step
 still_step
 still_step
 still_step
 still_call (hs _)
 refine wpStill_nil ?_
 clear d0 d1 d2 e0 e1 e2 hk hn hs
 go_wp2_with (go_at_call 103;refine(ho _ _ (Tz.cell_new0 _ _ _ _) (Tz.cell_new0 _ _ _ _) (Tz.cell_new0 _ _ _ _)).mono ?_;rintro e w' ⟨rfl,rfl⟩)
 go_ret
 refine⟨rfl,1,#[(.cells #[.int .i64 x.kind,.int .i64 x.n,.string x.s] 97),(.cells #[.int .i64 y.kind,.int .i64 y.n,.string y.s] 97),.cells #[.int .i64 r1,.int .i64 r2,.int .i64 r3] 3],?_⟩
 rw[<-hW2]
 exact Tz.fin3b _ _ _ _
end Go.Proofs
namespace Go.Proofs
open Go Go.Shelf Go.RowKit Go.Lib Go.Sort
set_option maxHeartbeats 1000000
set_option maxRecDepth 100000
def Tz.RowIn(W:World)(x:List Go.Abs.Tz.Term)(u:Value):Prop:=∃base cap,u=.slice base x.length cap/\(x=[]\/∃b off,base=some ⟨b,off,none⟩/\b<W.heap.size/\∀i t,x[i]? = some t ->
 W.cell? ⟨b,off+i*3,none⟩=some (.int .i64 t.kind)/\W.cell? ⟨b,off+i*3+1,none⟩=some (.int .i64 t.n)/\W.cell? ⟨b,off+i*3+2,none⟩=some (.string t.s))
set_option maxHeartbeats 8000000 in
theorem Tz.cmpTs(x y:List Go.Abs.Tz.Term)(hx:x.length<2^40)(hy:y.length<2^40)(u v:Value)(W:World)(hu:Tz.RowIn W x u)(hv:Tz.RowIn W y v):
  Calls Tryz.prog 156 #[u,v,.func (.func 157) #[] #[]] W fun e w'=>e=.returned (.int .i64 (Go.Abs.Tz.cmpTs x y))/\∃q os',w'=grow (W.drewN q) os':=by
 obtain⟨bu,cu,rfl,hbu⟩:=hu
 obtain⟨bv,cv,rfl,hbv⟩:=hv
 have hT:=Tz.cmpT
 go_enter Tryz.func156,Tryz.ntmps156
 go_wp2
 go_loopg [13] (x.length+1) (fun k s13 wr=>∃(i:Nat)(q:Nat)(os:Array Obj),s13=.int .i64 i/\i<=x.length/\x.length - i<k/\wr=grow (W.drewN q) os/\Go.Abs.Tz.cmpTs (x.drop i) (y.drop i)=Go.Abs.Tz.cmpTs x y)
 ·exact⟨0,0,#[],rfl,Nat.zero_le _,by omega,by rw[grow_empty];rfl,rfl⟩
 ·obtain⟨i,q,os,rfl,hi,hgk,hw,hrec⟩:=hrel
  have hwA:Aside (wr=grow (W.drewN q) os):=hw
  have hrA:Aside (Go.Abs.Tz.cmpTs (x.drop i) (y.drop i)=Go.Abs.Tz.cmpTs x y):=hrec
  have cg:∀(a:Addr)(v:Value),a.block<W.heap.size->W.cell? a=some v->wr.cell? a=some v:=fun a v hb hc=>by
   rw[hw,cell?_grow _ _ _ (by exact hb)];exact hc
  clear hw hrec
  by_cases hlt:i<x.length
  ·obtain⟨b,off,rfl,hb,hc⟩:∃b off,bu=some ⟨b,off,none⟩/\b<W.heap.size/\∀i t,x[i]? = some t ->
     W.cell? ⟨b,off+i*3,none⟩=some (.int .i64 t.kind)/\W.cell? ⟨b,off+i*3+1,none⟩=some (.int .i64 t.n)/\W.cell? ⟨b,off+i*3+2,none⟩=some (.string t.s):=by
    rcases hbu with h|h
    ·rw[h]at hlt;simp at hlt
    ·exact h
   obtain⟨f0,f1,f2⟩:=hc i x[i] (List.getElem?_eq_getElem hlt)
   have f0:=cg _ _ hb f0
   have f1:=cg _ _ hb f1
   have f2:=cg _ _ hb f2
   clear hc hbu
   have hlt':(i:Int)<(x.length:Int):=by omega
   have hgr:∀(o:Obj),wr.alloc o=grow (W.drewN q) (os++#[o]):=fun o=>by rw[hwA.out,alloc_eq_grow,grow_grow]
   have hgr2:∀(o p:Obj),(wr.alloc o).alloc p=grow (W.drewN q) (os++#[o,p]):=fun o p=>by rw[hgr,alloc_eq_grow,grow_grow,Array.append_assoc];rfl
   have hxd:x.drop i=x[i]::x.drop (i+1):=List.drop_eq_getElem_cons hlt
   by_cases hly:i<y.length
   ·obtain⟨b2,off2,rfl,hb2,hc2⟩:∃b off,bv=some ⟨b,off,none⟩/\b<W.heap.size/\∀i t,y[i]? = some t ->
      W.cell? ⟨b,off+i*3,none⟩=some (.int .i64 t.kind)/\W.cell? ⟨b,off+i*3+1,none⟩=some (.int .i64 t.n)/\W.cell? ⟨b,off+i*3+2,none⟩=some (.string t.s):=by
     rcases hbv with h|h
     ·rw[h]at hly;simp at hly
     ·exact h
    obtain⟨g0,g1,g2⟩:=hc2 i y[i] (List.getElem?_eq_getElem hly)
    have hyd:y.drop i=y[i]::y.drop (i+1):=List.drop_eq_getElem_cons hly
    have hstep:Go.Abs.Tz.cmpTs x y=if Go.Abs.Tz.cmpT x[i] y[i]≠0 then Go.Abs.Tz.cmpT x[i] y[i] else Go.Abs.Tz.cmpTs (x.drop (i+1)) (y.drop (i+1)):=by
     rw[<-hrA.out,hxd,hyd];rfl
    have hsA:Aside (Go.Abs.Tz.cmpTs x y=if Go.Abs.Tz.cmpT x[i] y[i]≠0 then Go.Abs.Tz.cmpT x[i] y[i] else Go.Abs.Tz.cmpTs (x.drop (i+1)) (y.drop (i+1))):=hstep
    have hT2:=hT x[i] y[i]
    have g0:=cg _ _ hb2 g0
    have g1:=cg _ _ hb2 g1
    have g2:=cg _ _ hb2 g2
    have hA1:Aside (∀(o p:Obj),(wr.alloc o).alloc p=grow (W.drewN q) (os++#[o,p])):=hgr2
    have hbw:b<wr.heap.size:=by rw[hwA.out,size_grow];exact Nat.lt_of_lt_of_le hb (Nat.le_add_right _ _)
    have hbw2:b2<wr.heap.size:=by rw[hwA.out,size_grow];exact Nat.lt_of_lt_of_le hb2 (Nat.le_add_right _ _)
    clear hc2 hbv hgr hgr2 hxd hyd hstep hT cg hrA hwA
    have hly':(i:Int)<(y.length:Int):=by omega
    generalize x[i]=xi at *
    generalize y[i]=yi at *
    generalize Go.Abs.Tz.cmpT xi yi=r at *
    by_cases hr:r=0
    ·subst hr
     go_wp2_with (go_at_call 157;refine(hT2 _).mono ?_;rintro e w' ⟨rfl,q',os',rfl⟩)
     go_roundg (x.length - (i+1)+1)
     case rel=>
      refine⟨i+1,q+q',(os++#[.cells #[.int .i64 xi.kind,.int .i64 xi.n,.string xi.s] 97,.cells #[.int .i64 yi.kind,.int .i64 yi.n,.string yi.s] 97])++os',by simp,by omega,by omega,?_,?_⟩
      ·rw[hA1.out]
       show grow (grow ((W.drewN q).drewN q') _) os'=_
       rw[grow_grow,World.drewN_drewN]
      ·rw[hsA.out,if_neg (by simp)]
     case measure=>omega
    ·go_wp2_with (go_at_call 157;refine(hT2 _).mono ?_;rintro e w' ⟨rfl,q',os',rfl⟩)
     go_ret
     refine⟨by rw[hsA.out,if_pos hr];rfl,q+q',(os++#[.cells #[.int .i64 xi.kind,.int .i64 xi.n,.string xi.s] 97,.cells #[.int .i64 yi.kind,.int .i64 yi.n,.string yi.s] 97])++os',?_⟩
     rw[hA1.out]
     show grow (grow ((W.drewN q).drewN q') _) os'=_
     rw[grow_grow,World.drewN_drewN]
   ·have hly':¬(i:Int)<(y.length:Int):=by omega
    have hyd:y.drop i=[]:=List.drop_eq_nil_of_le (by omega)
    have hres:Go.Abs.Tz.cmpTs x y=1:=by
     rw[<-hrA.out,hxd,hyd];rfl
    have hgA:Aside (∀(o:Obj),wr.alloc o=grow (W.drewN q) (os++#[o])):=hgr
    clear cg hbv hyd hxd hgr hgr2 hwA hrA
    generalize x[i]=xi at *
    go_wp2
    go_ret
    exact⟨rfl,q,_,hgA.out _⟩
  ·have hlt':¬(i:Int)<(x.length:Int):=by omega
   have hxd:x.drop i=[]:=List.drop_eq_nil_of_le (by omega)
   obtain rfl:i=x.length:=by omega
   have hres:Go.Abs.Tz.cmpTs x y=if x.length<y.length then -1 else 0:=by
    rw[<-hrA.out,hxd]
    by_cases h:x.length<y.length
    ·rw[if_pos h,List.drop_eq_getElem_cons h];rfl
    ·rw[if_neg h,List.drop_eq_nil_of_le (by omega)];rfl
   have hsA:Aside (Go.Abs.Tz.cmpTs x y=if x.length<y.length then -1 else 0):=hres
   clear cg hbu hbv hxd hrA hres
   go_wp2
   ·rename_i h
    go_ret
    exact⟨by rw[hsA.out,if_pos h];rfl,q,_,hwA.out⟩
   ·rename_i h
    go_ret
    exact⟨by rw[hsA.out,if_neg h];rfl,q,_,hwA.out⟩
end Go.Proofs
namespace Go.Proofs
open Go Go.Shelf Go.RowKit Go.Lib Go.Sort
set_option maxHeartbeats 1000000
set_option maxRecDepth 100000
theorem Tz.RowIn.grow{W:World}{x:List Go.Abs.Tz.Term}{u:Value}(h:Tz.RowIn W x u)(q:Nat)(os:Array Obj):Tz.RowIn (grow (W.drewN q) os) x u:=by
 obtain⟨base,cap,rfl,h⟩:=h
 refine⟨base,cap,rfl,?_⟩
 rcases h with h|⟨b,off,rfl,hb,hc⟩
 ·exact .inl h
 ·refine .inr ⟨b,off,rfl,by rw[size_grow];exact Nat.lt_of_lt_of_le hb (Nat.le_add_right _ _),fun i t ht=>?_⟩
  obtain⟨h0,h1,h2⟩:=hc i t ht
  exact⟨by rw[cell?_grow _ _ _ (by exact hb)];exact h0,by rw[cell?_grow _ _ _ (by exact hb)];exact h1,by rw[cell?_grow _ _ _ (by exact hb)];exact h2⟩
theorem Tz.cell_newE(W:World)(cs:Array Value)(t:TypeId)(i b:Nat)(hb:b=W.heap.size):(W.alloc (.cells cs t)).cell? ⟨b,i,none⟩=cs[i]?:=by
 subst hb
 exact Tz.cell_new0 W cs t i
set_option maxHeartbeats 8000000 in
theorem Tz.cmpA(x y:Go.Abs.Tz.Atom)(hx:x.args.length<2^40)(hy:y.args.length<2^40)(u v:Value)(W:World)(hu:Tz.RowIn W x.args u)(hv:Tz.RowIn W y.args v):
  Calls Tryz.prog 96 #[.agg #[.string x.pred,u],.agg #[.string y.pred,v]] W fun e w'=>e=.returned (.int .i64 (Go.Abs.Tz.cmpA x y))/\∃q os',w'=grow (W.drewN q) os':=by
 have hu0:=hu
 have hv0:=hv
 obtain⟨bu,cu,rfl,_⟩:=hu0
 obtain⟨bv,cv,rfl,_⟩:=hv0
 obtain⟨A,hA⟩:∃A,Obj.cells #[.string x.pred,.slice bu x.args.length cu] 32=A:=⟨_,rfl⟩
 obtain⟨B,hB⟩:∃B,Obj.cells #[.string y.pred,.slice bv y.args.length cv] 32=B:=⟨_,rfl⟩
 have hs:=Tz.cmpS x.pred y.pred
 have hi:=Tz.cmpI x.args.length y.args.length
 have ho:=fun b=>Tz.or3 b (Go.Abs.Tz.cmpB x.pred y.pred) (Go.Abs.Tz.cmpI x.args.length y.args.length) (Go.Abs.Tz.cmpTs x.args y.args)
 have hW2g:((W.alloc A).alloc B).drew=grow (W.drewN 1) #[A,B]:=by
  rw[alloc_eq_grow,alloc_eq_grow,grow_grow,drew_grow];rfl
 have hc:=Tz.cmpTs x.args y.args hx hy _ _ _ (hu.grow 1 #[A,B]) (hv.grow 1 #[A,B])
 rw[<-hW2g]at hc
 have hr:Go.Abs.Tz.cmpA x y=Go.Abs.Tz.or3 (Go.Abs.Tz.cmpB x.pred y.pred) (Go.Abs.Tz.cmpI x.args.length y.args.length) (Go.Abs.Tz.cmpTs x.args y.args):=rfl
 rw[hr]
 generalize Go.Abs.Tz.or3 (Go.Abs.Tz.cmpB x.pred y.pred) (Go.Abs.Tz.cmpI x.args.length y.args.length) (Go.Abs.Tz.cmpTs x.args y.args)=r at ho ⊢
 generalize Go.Abs.Tz.cmpB x.pred y.pred=r1 at hs ho
 generalize Go.Abs.Tz.cmpI x.args.length y.args.length=r2 at hi ho
 generalize Go.Abs.Tz.cmpTs x.args y.args=r3 at hc ho
 clear hu hv hr
 have c1:=fun i=>Tz.cell_new1 W B #[.string x.pred,.slice bu x.args.length cu] 32 i
 have c2:=fun i=>Tz.cell_new2 W A #[.string y.pred,.slice bv y.args.length cv] 32 i
 rw[hA]at c1
 rw[hB]at c2
 have d0:=c1 0
 have d1:=c1 1
 have e0:=c2 0
 have e1:=c2 1
 clear c1 c2
 obtain⟨W2,hW2⟩:∃W2,((W.alloc A).alloc B).drew=W2:=⟨_,rfl⟩
 change ((W.alloc A).alloc B).drew.cell? _=_ at d0 d1 e0 e1
 rw[hW2]at d0 d1 e0 e1 hc hW2g
 subst hA hB
 have hgA:Aside (W2=grow (W.drewN 1) #[Obj.cells #[.string x.pred,.slice bu x.args.length cu] 32,Obj.cells #[.string y.pred,.slice bv y.args.length cv] 32]):=hW2g
 clear hW2g
 go_enter Tryz.func96,Tryz.ntmps96
 go_wp2
 refine wp_region_still_tail 16 (by kernel_rfl) (by kernel_rfl) ?_
 change wpStill _ _ ((W.alloc (.cells #[.string x.pred,.slice bu x.args.length cu] 32)).alloc (.cells #[.string y.pred,.slice bv y.args.length cv] 32)).drew (fun a'=>wpList _ _ _ _ a' ((W.alloc (.cells #[.string x.pred,.slice bu x.args.length cu] 32)).alloc (.cells #[.string y.pred,.slice bv y.args.length cv] 32)).drew) _ _
 rw[hW2]
 clear hW2
 simp only[List.take_succ_cons,List.take_zero,List.drop_succ_cons,List.drop_zero]
 still_step
 still_step
 still_step
 still_step
 still_call (hs _)
 still_step
 still_step
 still_step
 still_step
 still_step
 still_step
 still_call (hi _)
 still_step
 still_step
 still_step
 still_step
 refine wpStill_nil ?_
 clear d0 d1 e0 e1 hi hs
 go_wp2_with (first|(go_at_call 156;refine hc.mono ?_;rintro e w' ⟨rfl,q',os',rfl⟩)|(go_at_call 103;refine(ho _ _ (Tz.cell_newE _ _ _ _ _ (size_grow _ _).symm) (Tz.cell_newE _ _ _ _ _ (size_grow _ _).symm) (Tz.cell_newE _ _ _ _ _ (size_grow _ _).symm)).mono ?_;rintro e w' ⟨rfl,rfl⟩))
 go_ret
 refine⟨rfl,1+q',(#[Obj.cells #[.string x.pred,.slice bu x.args.length cu] 32,Obj.cells #[.string y.pred,.slice bv y.args.length cv] 32]++os')++#[.cells #[.int .i64 r1,.int .i64 r2,.int .i64 r3] 3],?_⟩
 rw[hgA.out,alloc_eq_grow]
 show grow (grow (grow ((W.drewN 1).drewN q') _) os') _=_
 rw[grow_grow,grow_grow,World.drewN_drewN,Array.append_assoc]
end Go.Proofs
namespace Go.Abs.Tz
open Go Go.Abs Go.Proofs
structure vD{α:Type}(c:α->α->Int):Prop where
 anti:∀x y,c y x=- c x y
 tr:∀x y z,c x y<=0->c y z<=0->c x z<=0
 eq:∀x y,c x y=0->x=y
theorem vD.refl{α:Type}{c:α->α->Int}(h:vD c)(x:α):c x x=0:=by have:=h.anti x x;omega
theorem vD.zero{α:Type}{c:α->α->Int}(h:vD c){x y:α}:c x y=0↔x=y:=⟨h.eq x y,fun e=>e▸h.refl x⟩
theorem vD.lt_tr{α:Type}{c:α->α->Int}(h:vD c){x y z:α}(h1:c x y<0)(h2:c y z<0):c x z<0:=by
 have h3:=h.tr x y z (by omega) (by omega)
 have h4:c x z≠0:=fun e=>by
  have:=h.eq _ _ e
  subst this
  have:=h.anti x y
  omega
 omega
theorem vD.comap{α β:Type}{c:α->α->Int}(h:vD c)(f:β->α)(hf:∀x y,f x=f y->x=y):vD fun x y=>c (f x) (f y):=
 ⟨fun x y=>h.anti _ _,fun x y z=>h.tr _ _ _,fun x y e=>hf _ _ (h.eq _ _ e)⟩
def lexC(a b:Int):Int:=if a≠0 then a else b
theorem vD.lex{α β:Type}{c:α->α->Int}{d:β->β->Int}(h:vD c)(k:vD d):vD fun(x y:α×β)=>lexC (c x.1 y.1) (d x.2 y.2):=by
 refine⟨fun x y=>?_,fun x y z h1 h2=>?_,fun x y e=>?_⟩
 ·have h1:=h.anti x.1 y.1
  have h2:=k.anti x.2 y.2
  simp only[lexC]
  rw[h1,h2]
  split<;>split<;>omega
 ·simp only[lexC]at h1 h2 ⊢
  by_cases a:c x.1 y.1=0
  ·rw[if_neg (by omega)]at h1
   rw[h.eq _ _ a]
   by_cases b:c y.1 z.1=0
   ·rw[if_neg (by omega)]at h2 ⊢
    exact k.tr _ _ _ h1 h2
   ·rw[if_pos b]at h2 ⊢
    exact h2
  ·rw[if_pos a]at h1
   by_cases b:c y.1 z.1=0
   ·rw[<-h.eq _ _ b,if_pos a];exact h1
   ·rw[if_pos b]at h2
    have:=h.lt_tr (x:=x.1) (y:=y.1) (z:=z.1) (by omega) (by omega)
    rw[if_pos (by omega)]
    omega
 ·simp only[lexC]at e
  split at e
  ·rename_i h1;exact absurd e h1
  ·rename_i h1
   exact Prod.ext (h.eq _ _ (by omega)) (k.eq _ _ e)
theorem qjm:vD cmpI:=by
 refine⟨fun x y=>?_,fun x y z h1 h2=>?_,fun x y e=>?_⟩
 ·unfold cmpI;split<;>split<;>(try split)<;>omega
 ·unfold cmpI at h1 h2 ⊢
  repeat' split at h1
  all_goals repeat' split at h2
  all_goals repeat' split
  all_goals omega
 ·unfold cmpI at e
  repeat' split at e
  all_goals omega
theorem qua{x y:ByteArray}(h1:lessB x y=false)(h2:lessB y x=false):x=y:=toList_inj (qjv _ _ h1 h2)
theorem qix(x:ByteArray):lessB x x=false:=qjx _
theorem qmV{x y z:ByteArray}(h1:lessB x y=true)(h2:lessB y z=true):lessB x z=true:=qjw _ _ _ h1 h2
theorem qmW{x y:ByteArray}(h:lessB x y=true):lessB y x=false:=by
 cases h2:lessB y x with
 |false=>rfl
 |true=>
  have:=qmV h h2
  rw[qix]at this
  cases this
theorem qee(a b:ByteArray):(lessB a b=true/\cmpB a b=-1)\/(a=b/\cmpB a b=0)\/(lessB b a=true/\cmpB a b=1):=by
 unfold cmpB
 cases h1:lessB a b with
 |true=>exact .inl ⟨rfl,if_pos rfl⟩
 |false=>
  rw[if_neg (by simp)]
  cases h2:eqBA a b with
  |true=>exact .inr (.inl ⟨wB.1 h2,if_pos rfl⟩)
  |false=>
   refine .inr (.inr ⟨?_,if_neg (by simp)⟩)
   cases h3:lessB b a with
   |true=>rfl
   |false=>
    have:=qua h1 h3
    rw[wB.2 this]at h2
    cases h2
theorem qoQ:vD cmpB:=by
 refine⟨fun x y=>?_,fun x y z h1 h2=>?_,fun x y e=>?_⟩
 ·rcases qee x y with⟨h,e⟩|⟨h,e⟩|⟨h,e⟩<;>rcases qee y x with⟨k,f⟩|⟨k,f⟩|⟨k,f⟩<;>rw[e,f]
  all_goals first
   |rfl
   |(exfalso;have:=qmW h;rw[k]at this;cases this)
   |(exfalso;subst h;rw[qix]at k;cases k)
   |(exfalso;subst k;rw[qix]at h;cases h)
 ·rcases qee x y with⟨h,e⟩|⟨h,e⟩|⟨h,e⟩
  ·rcases qee y z with⟨k,f⟩|⟨k,f⟩|⟨k,f⟩
   ·rcases qee x z with⟨_,g⟩|⟨_,g⟩|⟨l,g⟩
    ·rw[g];decide
    ·rw[g];decide
    ·have:=qmW (qmV h k);rw[l]at this;cases this
   ·subst k;exact h1
   ·rw[f]at h2;exact absurd h2 (by decide)
  ·subst h;exact h2
  ·rw[e]at h1;exact absurd h1 (by decide)
 ·rcases qee x y with⟨h,g⟩|⟨h,g⟩|⟨h,g⟩
  ·rw[g]at e;exact absurd e (by decide)
  ·exact h
  ·rw[g]at e;exact absurd e (by decide)
theorem qfu:vD cmpT:=by
 have h:=(qjm.lex (qjm.lex qoQ)).comap (fun t:Term=>(t.kind,t.n,t.s)) (fun x y e=>by
  cases x;cases y;simp only[Prod.mk.injEq]at e;obtain⟨rfl,rfl,rfl⟩:=e;rfl)
 exact h
theorem qoP:∀x y:List Term,cmpTs y x=- cmpTs x y
 |[],[]=>rfl
 |[],_::_=>rfl
 |_::_,[]=>rfl
 |a::x,b::y=>by
  have ih:=qoP x y
  have h:=qfu.anti a b
  simp only[cmpTs]
  rw[h,ih]
  split<;>split<;>omega
theorem qoO:∀x y:List Term,cmpTs x y=0->x=y
 |[],[],_=>rfl
 |[],_::_,h=>by simp[cmpTs]at h
 |_::_,[],h=>by simp[cmpTs]at h
 |a::x,b::y,h=>by
  simp only[cmpTs]at h
  split at h
  ·rename_i h1;exact absurd h h1
  ·rename_i h1
   rw[qfu.eq a b (by omega),qoO x y h]
theorem qoN:∀x y z:List Term,cmpTs x y<=0->cmpTs y z<=0->cmpTs x z<=0
 |[],_,[],_,_=>by simp[cmpTs]
 |[],_,_::_,_,_=>by simp[cmpTs]
 |_::_,[],_,h,_=>by simp[cmpTs]at h
 |_::_,_::_,[],_,h=>by simp[cmpTs]at h
 |a::x,b::y,c::z,h,k=>by
  simp only[cmpTs]at h k ⊢
  by_cases h1:cmpT a b=0
  ·rw[if_neg (by omega)]at h
   rw[qfu.eq _ _ h1]
   by_cases h2:cmpT b c=0
   ·rw[if_neg (by omega)]at k ⊢
    exact qoN x y z h k
   ·rw[if_pos h2]at k ⊢
    exact k
  ·rw[if_pos h1]at h
   by_cases h2:cmpT b c=0
   ·rw[<-qfu.eq _ _ h2,if_pos h1];exact h
   ·rw[if_pos h2]at k
    have:=qfu.lt_tr (x:=a) (y:=b) (z:=c) (by omega) (by omega)
    rw[if_pos (by omega)]
    omega
theorem qwd:vD cmpTs:=⟨qoP,qoN,qoO⟩
theorem y9:vD cmpA:=by
 have h:=(qoQ.lex (qjm.lex qwd)).comap (fun a:Atom=>(a.pred,(a.args.length:Int),a.args)) (fun x y e=>by
  cases x;cases y;simp only[Prod.mk.injEq]at e;obtain⟨rfl,_,rfl⟩:=e;rfl)
 exact h
end Go.Abs.Tz
namespace Go.Abs
open Go
section
variable{P:Program}{G:qb}{w w':World}{H:qa}
structure SameOut(w w':World):Prop where
 os:w'.os=w.os
 tape:w'.tape=w.tape
 output:w'.output=w.output
 size:w.heap.size<=w'.heap.size
end
end Go.Abs
namespace Go.Proofs
open Go Go.RowKit Go.Abs
set_option maxHeartbeats 1000000
set_option maxRecDepth 100000
end Go.Proofs
namespace Go.Abs.Tz
open Go Go.Abs Go.Proofs
theorem qjg(f:FuncId){b:BFn}(h:qi Tryz.prog f=some b):qcL Tryz.prog f:=by
 obtain⟨fn,h1,h2,h3⟩:=qbR.fn f b h
 obtain⟨c,h4,_⟩:=qeh h2
 exact⟨fn,h1,by rw[h4];rfl,h3⟩
end Go.Abs.Tz
namespace Go.Abs
open Go
theorem Inv.arr_turn{G:qb}{w w':World}{H:qa}(hI:Inv G w H){o s:Nat}{cs cs':List LV}{vs vs':Array Value}{el:TypeId}{fz:Nat×Nat}(hl:look o H.objs=some (.arr s cs))(h0:w.heap[G.loc o]? = some (.cells vs el fz))
  (hos:w'.os=w.os) (htape:w'.tape=w.tape) (hout:w'.output=w.output) (hsize:w.heap.size<=w'.heap.size) (hkeep:∀k,k<w.heap.size->k≠G.loc o->w'.heap[k]? = w.heap[k]?)
  (h1:w'.heap[G.loc o]? = some (.cells vs' el fz)) (hsz:vs'.size=vs.size) (hlen:cs'.length=cs.length)
  (hnew:∀(i:Nat)(c:LV),cs'[i]? = some c->VR G w c (vs'.getD i undef)/\(vs'.getD i undef).oneCell'=true):Ext G w G w'/\Inv G w' (H.put o (.arr s cs')):=by
 obtain⟨hob,vs0,el0,fz0,a1,a2,a3,⟨b1,b2,b3⟩,a4,a5,a6⟩:=hI.objs o _ hl
 rw[h0]at a1
 cases a1
 have hlt:∀{k:Nat}{ob:Obj},w.heap[k]? = some ob->k<w.heap.size:=fun h=>(Array.getElem?_eq_some_iff.1 h).1
 have hx:Ext G w G w':=by
  refine⟨hos,htape,hout,hsize,rfl,fun k hk=>hkeep k (hI.hB k hk) (fun e=>a2 (e▸hk)),Nat.le_refl _,fun _ _=>rfl,fun _ _=>rfl,fun b x hc=>⟨hc,fun v hv=>?_⟩,fun t _ m b c h=>⟨m,b,c,h,Nat.le_refl _,fun _=>⟨rfl,rfl⟩⟩,rfl⟩
  have hb:b<w.heap.size:=by
   rcases Nat.lt_or_ge b w.heap.size with h|h
   ·exact h
   ·rw[hI.free b x h]at hc;cases hc
  have hne:b≠G.loc o:=fun e=>by rw[e,a4]at hc;cases hc
  rw[qal (hkeep b hb hne)];exact hv
 refine⟨hx,?_⟩
 refine Inv.step (W:=fun k _=>k=G.loc o) (V:=fun _=>False) (fun i=>i=o) hI hx ⟨fun k us el' fz' h=>?_,fun k ob h hn _=>?_⟩ hI.n (fun b x h=>hI.free b x (Nat.le_trans hsize h)) (fun b x h=>hI.old b x h) (fun i x hi h=>?_)
  (fun i k x hi hk hw=>?_) (fun _ _ _ h=>h) (fun _ _ _ _=>⟨fun h=>h,fun h=>h⟩) (fun _ _ _=>rfl) ?_ ?_
 ·by_cases hk:k=G.loc o
  ·subst hk
   rw[h0]at h
   cases h
   exact⟨vs',h1,hsz,fun x hx=>absurd rfl hx⟩
  ·exact⟨us,by rw[hkeep k (hlt h) hk];exact h,rfl,fun _ _=>rfl⟩
 ·by_cases hk:k=G.loc o
  ·subst hk
   rw[h0]at h
   cases h
   exact absurd rfl (hn _ _ _)
  ·rw[hkeep k (hlt h) hk];exact h
 ·rw[vM hl]at h
  rw[if_neg hi]at h
  exact h
 ·subst hw
  rw[a4]at hk
  cases hk
  exact hi rfl
 ·intro m es' hm he'
  rw[vM hl]at he'
  split at he'
  ·cases he'
  ·refine⟨es',he',Nat.le_refl _,fun _ ents' clock' h'=>?_⟩
   obtain⟨_,hob⟩:=hI.objs m _ he'
   obtain⟨ents,clock,g1,_⟩:=hob
   have hne:G.loc m≠G.loc o:=fun e=>by rw[e,h0]at g1;cases g1
   rw[hkeep _ (hlt g1) hne,g1]at h'
   cases h'
   exact⟨_,_,g1,rfl,fun _=>rfl⟩
 ·intro i x hi h
  subst hi
  rw[vM hl,if_pos rfl]at h
  cases h
  refine⟨hob,vs',el,fz,h1,a2,by rw[hlen,hsz];exact a3,⟨b1,by rw[hsz];exact b2,by rw[hlen];exact b3⟩,a4,fun x=>?_,fun j c hc=>⟨(hnew j c hc).1.mono hx,(hnew j c hc).2⟩⟩
  have:=a5 x
  unfold World.frozen? at this ⊢
  rw[show (at_ (G.loc i) x).block=G.loc i from rfl]at this ⊢
  rw[h0]at this
  rw[h1]
  exact this
end Go.Abs
set_option maxRecDepth 100000
namespace Go.Abs.Tz
open Go Go.Abs Go.Proofs Go.Shelf Go.RowKit Go.Lib Go.Sort
abbrev yG(a:Atom):List LV:=[.str a.pred,qz a.args]
abbrev wj(A:List Atom):qc:=.arr 2 (A.flatMap yG)
abbrev qcM(G:qb)(w:World):Type:={p:Atom×Value // VR G w (qz p.1.args) p.2/\p.1.args.length<2^40}
instance (G:qb) (w:World):Inhabited (qcM G w):=⟨⟨(⟨⟨#[]⟩,[]⟩,.slice none 0 0),.sln trivial,by simp⟩⟩
def vw{G:qb}{w:World}(p:qcM G w):List Value:=[.string p.1.1.pred,p.1.2]
def cmpE{G:qb}{w:World}(p q:qcM G w):Int:=cmpA p.1.1 q.1.1
theorem swoA(G:qb)(w:World):SWO (ltOf (cmpE (G:=G) (w:=w))):=by
 refine⟨fun x=>decide_eq_false ?_,fun x y z h k=>decide_eq_true ?_,fun x y z h k=>decide_eq_false ?_⟩
 ·have:=y9.refl x.1.1
  show ¬cmpA x.1.1 x.1.1<0
  omega
 ·have h':cmpA x.1.1 y.1.1<0:=of_decide_eq_true h
  have k':cmpA y.1.1 z.1.1<0:=of_decide_eq_true k
  exact y9.lt_tr h' k'
 ·have h':¬cmpA x.1.1 y.1.1<0:=of_decide_eq_false h
  have k':¬cmpA y.1.1 z.1.1<0:=of_decide_eq_false k
  have h1:=y9.anti x.1.1 y.1.1
  have h2:=y9.anti y.1.1 z.1.1
  have h3:=y9.anti x.1.1 z.1.1
  have:=y9.tr z.1.1 y.1.1 x.1.1 (by omega) (by omega)
  show ¬cmpA x.1.1 z.1.1<0
  omega
theorem qgN{α β:Type}(f:α->List β)(hf:∀a,(f a).length=2):∀(A:List α)(i:Nat),(A.flatMap f)[i]? = A[i / 2]?.bind fun x=>(f x)[i % 2]?
 |[],i=>by simp
 |x::A,i=>by
  rcases Nat.lt_or_ge i 2 with h|h
  ·rw[show i / 2=0 by omega,List.flatMap_cons,List.getElem?_append_left (by rw[hf];exact h),show i % 2=i by omega]
   rfl
  ·obtain⟨k,rfl⟩:∃k,i=k+2:=⟨i - 2,by omega⟩
   rw[List.flatMap_cons,List.getElem?_append_right (by rw[hf];omega),hf,show (k+2) / 2=k / 2+1 by omega,show (k+2) % 2=k % 2 by omega]
   simpa using qgN f hf A k
theorem qdV(A:List Atom):(A.flatMap yG).length=A.length*2:=qdT (s:=2) (enc:=yG) (fun _=>rfl) A
theorem qmp{G:qb}{w:World}(x:qcM G w):∀v∈vw x,v.oneCell'=true:=by
 intro v hv
 simp[vw]at hv
 rcases hv with rfl|rfl
 ·rfl
 ·obtain⟨base,cap,e,_⟩:=x.2.1.sl_inv
  rw[e];rfl
theorem qlE{G:qb}{w w':World}{H:qa}(hI:Inv G w H){x:List Term}{u:Value}(h:VR G w (qz x) u){blk:Nat}(hB:¬(G.B blk).isSome)(hown:∀x,G.own blk x≠.cl)(hs:w.heap.size<=w'.heap.size)(hk:∀k,k<w.heap.size->k≠blk->w'.heap[k]? = w.heap[k]?):Go.Proofs.Tz.RowIn w' x u:=by
 obtain⟨base,cap,rfl,hcap,_,hc⟩:=h.sl_inv
 rw[List.length_map]at hcap ⊢
 refine⟨base,cap,rfl,?_⟩
 rcases hc with⟨h1,_⟩|⟨b,off,sz,xs,rfl,hsz,hx,hr⟩
 ·exact .inl (by simpa using h1)
 ·by_cases hx0:x=[]
  ·exact .inl hx0
  have hg:∀(i:Nat) t,x[i]? = some t->(x.map zl)[i]? = some (zl t):=fun i t h=>by rw[List.getElem?_map,h];rfl
  have key:∀i t,x[i]? = some t->sz=3/\b<w.heap.size/\b≠blk/\∀j v,(zF t)[j]? = some (.sc v)->w.cell? (at_ b (off+i*3+j))=some v:=by
   intro i t ht
   have h3:sz=3:=(hsz i _ (hg i t ht)).symm
   subst h3
   have hcell:∀j v,(zF t)[j]? = some (.sc v)->w.cell? (at_ b (off+i*3+j))=some v:=fun j v hj=>by
    obtain⟨_,h2,_⟩:=hx i _ j _ (hg i t ht) hj
    have h4:=hr i _ j _ (hg i t ht) hj
    cases h4
    exact h2
   have h0:=hcell 0 _ rfl
   have hbl:b<w.heap.size:=by
    rcases Nat.lt_or_ge b w.heap.size with h'|h'
    ·exact h'
    ·unfold World.cell? at h0
     rw[show (at_ b (off+i*3+0)).block=b from rfl,Array.getElem?_eq_none h']at h0
     cases h0
   refine⟨rfl,hbl,fun e=>?_,hcell⟩
   obtain⟨hcl,_,_⟩:=hx i _ 0 _ (hg i t ht) rfl
   subst e
   rcases hcl with hcl|hcl
   ·exact hB (by rw[hcl];rfl)
   ·exact hown _ hcl
  obtain⟨t0,r,rfl⟩:∃t0 r,x=t0::r:=by
   cases x with
   |nil=>exact absurd rfl hx0
   |cons t0 r=>exact⟨t0,r,rfl⟩
  obtain⟨_,hbl,hbb,_⟩:=key 0 t0 rfl
  refine .inr ⟨b,off,rfl,Nat.lt_of_lt_of_le hbl hs,fun i t ht=>?_⟩
  obtain⟨_,_,_,hc⟩:=key i t ht
  have hcw:∀y,w'.cell? (at_ b y)=w.cell? (at_ b y):=fun y=>by
   unfold World.cell?
   rw[show (at_ b y).block=b from rfl,hk b hbl hbb]
  exact⟨by have:=hc 0 _ rfl;rw[<-hcw]at this;exact this,by have:=hc 1 _ rfl;rw[<-hcw]at this;exact this,by have:=hc 2 _ rfl;rw[<-hcw]at this;exact this⟩
theorem qqG(A:List Atom)(hAr:∀a∈A,a.args.length<2^40)(o:Nat)(ob:List (Nat×qc))(nx:Nat)(hlo:look o ob=some (wj A))(hA:A.length<2^40){kv kp:HP}
  (hk:∀B:List Atom,B.Perm A->(B.Pairwise fun x y=>¬cmpA y x<0)->kv (.tup []) ⟨qx o (wj B) ob,nx⟩):
  cP E0 F0 158 [.asl o 0 A.length,.fn (.func 96) [] []] ⟨ob,nx⟩ kv kp:=by
 intro hH
 refine .prim (show qV Tryz.prog E0 _ _ _ _ from ⟨qjg _ c158,fun G w us hI hE ha=>?_⟩)
 obtain⟨hus,hua⟩:=ha
 have h0:=hua 0 _ rfl
 have h1:=hua 1 _ rfl
 obtain⟨u0,u1,rfl⟩:∃u0 u1,us=#[u0,u1]:=by
  obtain⟨l⟩:=us
  match l,hus with
  |[a,b],_=>exact⟨a,b,rfl⟩
 change VR G w (.asl o 0 A.length) u0 at h0
 change VR G w (.fn (.func 96) [] []) u1 at h1
 cases h0 with
 |@asl _ _ _ cap ho hlc hcap=>
 cases h1 with
 |@fn _ _ _ us0 vs0 hfo hu0 hv0 _ _=>
 obtain rfl:us0=#[]:=Array.eq_empty_of_size_eq_zero hu0
 obtain rfl:vs0=#[]:=Array.eq_empty_of_size_eq_zero hv0
 rw[Nat.zero_mul]
 obtain⟨hob,vs,el,fz,c1,c2,c3,⟨d1,d2,d3⟩,c4,c5,c6⟩:=hI.objs o _ hlo
 rw[qdV]at c3 d3
 have hlt:G.loc o<w.heap.size:=(Array.getElem?_eq_some_iff.1 c1).1
 have hcellA:∀i (hi:i<A.length),vs.getD (i*2) undef=.string A[i].pred/\VR G w (qz A[i].args) (vs.getD (i*2+1) undef):=by
  intro i hi
  have e0:(A.flatMap yG)[i*2]? = some (.str A[i].pred):=by
   rw[qgN yG (fun _=>rfl),show i*2 / 2=i by omega,show i*2 % 2=0 by omega,List.getElem?_eq_getElem hi];rfl
  have e1:(A.flatMap yG)[i*2+1]? = some (qz A[i].args):=by
   rw[qgN yG (fun _=>rfl),show (i*2+1) / 2=i by omega,show (i*2+1) % 2=1 by omega,List.getElem?_eq_getElem hi];rfl
  refine⟨?_,(c6 _ _ e1).1⟩
  have:=(c6 _ _ e0).1
  generalize vs.getD (i*2) undef=v at this
  cases this;rfl
 let D:List (qcM G w):=List.ofFn fun i:Fin A.length=>⟨(A[i.1],vs.getD (i.1*2+1) undef),(hcellA i.1 i.2).2,hAr _ (List.getElem_mem i.2)⟩
 have hDl:D.length=A.length:=List.length_ofFn
 have hDg:∀i (hi:i<A.length),D[i]'(by rw[hDl];exact hi)=⟨(A[i],vs.getD (i*2+1) undef),(hcellA i hi).2,hAr _ (List.getElem_mem hi)⟩:=fun i hi=>by simp[D]
 have hDm:D.map (fun p=>p.1.1)=A:=by
  apply List.ext_getElem
  ·rw[List.length_map,hDl]
  ·intro i h1 h2
   rw[List.getElem_map,hDg i h2]
 have hsz0:∀d:Array (qcM G w),(flatK vw 2 d).size=d.size*2:=fun d=>size_flatK _ _ _
 have hval:∀t,t<A.length*2->(vw (D.toArray[t / 2]!))[t % 2]! = vs.getD t undef:=by
  intro t ht
  have hi:t / 2<A.length:=by omega
  have e:D.toArray[t / 2]! = D[t / 2]'(by rw[hDl];exact hi):=by
   rw[getElem!_pos D.toArray (t / 2) (by simp[hDl,hi])]
   simp
  rw[e,hDg _ hi]
  obtain⟨h0,_⟩:=hcellA _ hi
  rcases Nat.mod_two_eq_zero_or_one t with hm|hm
  ·rw[hm]
   rw[show t / 2*2=t by omega]at h0
   rw[h0]
   rfl
  ·rw[hm]
   show vs.getD (t / 2*2+1) undef=_
   rw[show t / 2*2+1=t by omega]
 have hH0:HoldsK vw 2 w (G.loc o) 0 D.toArray:=by
  intro t ht
  rw[hsz0]at ht
  have ht':t<A.length*2:=by simpa [hDl] using ht
  refine⟨?_,c5 _⟩
  rw[Nat.zero_add,get_flatK _ _ _ _ ht,hval t ht']
  unfold World.cell?
  rw[c1]
  have ht2:t<vs.size:=by omega
  simp[Array.getD_eq_getD_getElem?,Array.getElem?_eq_getElem ht2]
 have hw0:∀(n:Nat)(d:Array (qcM G w))(os:Array Obj),(sortWorldK vw 2 w (G.loc o) 0 n d os).heap=(w.heap.modify (G.loc o) (onCells (putCells id 0 (flatK vw 2 d))))++os:=fun _ _ _=>rfl
 have hkeep:∀(n:Nat)(d:Array (qcM G w))(os:Array Obj) k,k<w.heap.size->k≠G.loc o->(sortWorldK vw 2 w (G.loc o) 0 n d os).heap[k]? = w.heap[k]?:=fun n d os k hk hne=>by
  rw[hw0,Array.getElem?_append_left (by simpa using hk),Array.getElem?_modify,if_neg (fun e=>hne e.symm)]
 have hcmp:CmpLays Tryz.prog 96 #[] (vw (G:=G) (w:=w)) 2 (cmpE (G:=G) (w:=w)) (G.loc o) 0 D.toArray.size w:=by
  intro m os dk _ x y
  have hx:=qlE hI x.2.1 (w':=sortWorldK vw 2 w (G.loc o) 0 m dk os) (by simpa using c2) (fun z hz=>by rw[c4]at hz;cases hz) (by rw[hw0];simp) (hkeep m dk os)
  have hy:=qlE hI y.2.1 (w':=sortWorldK vw 2 w (G.loc o) 0 m dk os) (by simpa using c2) (fun z hz=>by rw[c4]at hz;cases hz) (by rw[hw0];simp) (hkeep m dk os)
  exact Go.Proofs.Tz.cmpA x.1.1 y.1.1 x.2.2 y.2.2 x.1.2 y.1.2 _ hx hy
 have hcon:=AnyQ.slices_SortFunc Tryz.sortA 2 (fun w=>Tryz.isAgg32 w) (fun w=>Tryz.sizeOf32 w) vw (fun _=>rfl) qmp cmpE (swoA G w) 96 #[] (G.loc o) 0 cap D.toArray w (fun args w=>Go.Proofs.enters_of Tryz.func96 (by kernel_rfl) rfl args w) hcmp hH0 hlt (by simp[hDl];omega)
 have e0:(.slice (some ⟨G.loc o,0,none⟩) D.toArray.size cap:Value)=.slice (some (at_ (G.loc o) 0)) A.length cap:=by simp[hDl]
 rw[e0]at hcon
 refine Calls.mono hcon ?_
 rintro e w' ⟨rfl,d',n,os,⟨hp1,_,hp2⟩,hs,rfl⟩
 have hd:d'.size=A.length:=by simpa [hDl] using hp1
 have hperm:d'.toList.Perm D:=by
  have hd2:D.toArray.size=d'.size:=by simpa [hDl] using hd.symm
  rw[hd2]at hp2
  have e2:D.toArray.extract 0 d'.size=D.toArray:=by rw[<-hd2];exact Array.extract_size
  rw[e2,Array.extract_size]at hp2
  exact hp2
 have hsort:d'.toList.Pairwise fun x y=>¬cmpE y x<0:=by
  rw[List.pairwise_iff_getElem]
  intro i j hi hj hij
  have h:=hs i j (Nat.zero_le _) hij (by simp[hDl]at hj ⊢;omega)
  simp only[Array.length_toList]at hi hj
  rw[getElem!_pos d' i hi,getElem!_pos d' j hj]at h
  exact of_decide_eq_false h
 obtain⟨Bl,hBl⟩:∃Bl,d'.toList.map (fun p=>p.1.1)=Bl:=⟨_,rfl⟩
 have hBA:Bl.Perm A:=by rw[<-hBl,<-hDm];exact hperm.map _
 have hBs:Bl.Pairwise fun x y=>¬cmpA y x<0:=by rw[<-hBl];exact List.pairwise_map.2 hsort
 have hBlen:Bl.length=A.length:=hBA.length_eq
 have hF:(flatK vw 2 d').size=A.length*2:=by rw[hsz0,hd]
 have hq:=Inv.arr_turn (w':=sortWorldK vw 2 w (G.loc o) 0 n d' os) (cs':=Bl.flatMap yG) (vs':=putCells id 0 (flatK vw 2 d') vs) hI hlo c1 rfl rfl rfl (by rw[hw0];simp) (hkeep n d' os) (by
   rw[hw0,Array.getElem?_append_left (by simpa using hlt),Array.getElem?_modify,if_pos rfl,c1];rfl) (by simp[putCells]) (by rw[qdV,qdV,hBlen]) (fun i c hc=>?_)
 ·exact⟨.tup [],_,G,.inl ⟨_,_,rfl,qt.put hH,hk Bl hBA hBs⟩,.tup rfl (fun _ _ h=>by simp at h),hq.2,hq.1⟩
 ·have hi:i<Bl.length*2:=by
   have:=(List.getElem?_eq_some_iff.1 hc).1
   rw[qdV]at this;exact this
  have hi2:i<A.length*2:=by omega
  have hi3:i<vs.size:=by omega
  have e:(putCells id 0 (flatK vw 2 d') vs).getD i undef=(vw d'[i / 2]!)[i % 2]!:=by
   unfold putCells
   rw[Array.getD_eq_getD_getElem?,Array.getElem?_mapIdx,Array.getElem?_eq_getElem hi3]
   simp only[Option.map_some,Option.getD_some,Nat.zero_le,true_and,Nat.zero_add,Nat.sub_zero,hF,hi2,if_true,id]
   rw[get_flatK _ _ _ _ (by rw[hd];exact hi2)]
  have hi4:i / 2<d'.size:=by omega
  rw[e,getElem!_pos d' (i / 2) hi4]
  rw[qgN yG (fun _=>rfl),<-hBl,List.getElem?_map,Array.getElem?_toList,Array.getElem?_eq_getElem hi4]at hc
  obtain⟨p,hpe⟩:∃p,d'[i / 2]=p:=⟨_,rfl⟩
  rw[hpe]at hc ⊢
  rcases Nat.mod_two_eq_zero_or_one i with hm|hm
  ·rw[hm]at hc ⊢
   cases hc
   exact⟨.sc _,rfl⟩
  ·rw[hm]at hc ⊢
   cases hc
   exact⟨p.2.1,qmp p _ (by simp[vw])⟩
end Go.Abs.Tz
namespace Go.Abs.Tz
open Go Go.Abs Go.Proofs
def yV(F:List Stp)(c:qe)(ci:Int):List Stp:=vu (fun G a frm=>zE F G ⟨a,ci,frm⟩) c (vt F c (qT c.body) [] []) []
def vG(m:List (PK×Int))(lev:Int):List qe->Nat->List Stp->Option (List Stp)
 |[],_,F=>some F
 |c::r,i,F=>if qp m (ofA c.head)=lev then (if 300<((yV F c i).foldl zj F).length then none else vG m lev r (i+1) ((yV F c i).foldl zj F)) else vG m lev r (i+1) F
def wz(m:List (PK×Int))(lev:Int)(l:List qe):Nat->List Stp->Option (List Stp)
 |0,_=>none
 |k+1,F=>match vG m lev l 0 F with
  |none=>none
  |some F'=>if F'.length=F.length then some F' else wz m lev l k F'
def qay(m:List (PK×Int))(l:List qe):Nat->Nat->List Stp->Option (List Stp)
 |0,_,F=>some F
 |k+1,v,F=>match wz m v l 302 F with
  |none=>none
  |some F'=>qay m l k (v+1) F'
def qaX(base:List Atom):List Stp:=(base.map fun a=>(⟨a,-1,[]⟩:Stp)).foldl zj []
theorem qjN(F:List Stp)(s:Stp):F.length<=(zj F s).length/\(zj F s).length<=F.length+1:=by
 unfold zj
 split
 ·omega
 ·simp
theorem qfB:∀(l F:List Stp),F.length<=(l.foldl zj F).length/\(l.foldl zj F).length<=F.length+l.length
 |[],F=>by simp
 |s::l,F=>by
  have h1:=qjN F s
  have h2:=qfB l (zj F s)
  rw[List.foldl_cons,List.length_cons]
  omega
theorem qwf(F:List Stp)(c:qe)(ci:Int):(yV F c ci).length<=301:=by
 unfold yV
 rw[qiV]
 exact qnD F _ _ (by simp)
def qav(F:List Stp)(fo am:Nat)(own:Own):List (Nat×qc):=(fo,.cells [.map am,.sl (F.map ve) own])::(am,.map (qaC (y8 F 0)))::(match own with
 |.tok t=>[(t,.tok F.length 4)]
 |_=>[])
theorem qkW{F:List Stp}{fo am:Nat}{own:Own}{ob:List (Nat×qc)}(h:ud ob fo am F own):vz (qav F fo am own) ob:=by
 unfold qav vz
 simp only[List.forall_mem_cons]
 refine⟨h.pair,h.map,?_⟩
 rcases h.row with⟨rfl,_⟩|⟨t,rfl,_,_,h4⟩
 ·intro p hp;cases hp
 ·intro p hp
  simp at hp
  subst hp
  exact h4
theorem qmq{F:List Stp}{fo am:Nat}{own:Own}{ob ob0:List (Nat×qc)}(h0:ud ob0 fo am F own)(h:vz (qav F fo am own) ob):ud ob fo am F own:=by
 unfold qav vz at h
 simp only[List.forall_mem_cons]at h
 refine⟨h.1,h.2.1,h0.ne,?_⟩
 rcases h0.row with h1|⟨t,rfl,h2,h3,_⟩
 ·exact .inl h1
 ·exact .inr ⟨t,rfl,h2,h3,h.2.2 (t,_) (by simp)⟩
theorem qrY(F:List Stp)(fo am:Nat)(own:Own):∀p∈qav F fo am own,qco p.2=true:=by
 unfold qav
 simp only[List.forall_mem_cons]
 refine⟨rfl,rfl,?_⟩
 cases own with
 |tok t=>intro p hp;simp at hp;subst hp;rfl
 |no=>intro p hp;cases hp
 |full=>intro p hp;cases hp
theorem ud.keep{F:List Stp}{fo am:Nat}{own:Own}{ob ob':List (Nat×qc)}(h:ud ob fo am F own)(hk:∀i,(i=fo\/i=am\/own=.tok i)->look i ob'=look i ob):ud ob' fo am F own:=by
 refine⟨by rw[hk _ (.inl rfl)];exact h.pair,by rw[hk _ (.inr (.inl rfl))];exact h.map,h.ne,?_⟩
 rcases h.row with h1|⟨t,rfl,h2,h3,h4⟩
 ·exact .inl h1
 ·exact .inr ⟨t,rfl,h2,h3,by rw[hk _ (.inr (.inr rfl))];exact h4⟩
def qji(F:List Stp)(ci:Int)(fo am:Nat)(ownF:Own)(go gm fw hv iv:Nat)(ob0:List (Nat×qc))(h0:ud ob0 fo am F ownF):qeq (List Stp) where
 fn:=154
 cap:=[.ptr fw 0,.ptr hv 0,.ptr iv 0]
 Stat:=(fw,.cells [.ptr fo 0])::(hv,.cells [.ptr go 0])::(iv,.cells [.int ci])::qav F fo am ownF
 At ob G S:=∃own,ud ob go gm G own/\∀i,S i↔(i=go\/i=gm\/own=.tok i)
 step G a frm:=zE F G ⟨a,ci,frm⟩
 lim G:=G.length<=301
 lim_step G a frm h:=qnG h
 at_look ob G S i h hi:=by
  obtain⟨own,h1,h2⟩:=h
  rcases (h2 i).1 hi with rfl|rfl|rfl
  ·exact⟨_,h1.pair,rfl⟩
  ·exact⟨_,h1.map,rfl⟩
  ·rcases h1.row with⟨e,_⟩|⟨t,e,_,_,h4⟩
   ·cases e
   ·cases e;exact⟨_,h4,rfl⟩
 at_keep ob ob' G S h hk:=by
  obtain⟨own,h1,h2⟩:=h
  exact⟨own,h1.keep fun i hi=>hk i ((h2 i).2 hi),h2⟩
 ok ob n G S a frm kv kp hlim ha hat hst hsep hni hk:=by
  obtain⟨own,h1,h2⟩:=hat
  unfold vz at hst
  simp only[List.forall_mem_cons]at hst
  refine t_do a ha frm fw hv iv ci fo am go gm F G (by omega) ownF own ob n (qmq h0 hst.2.2.2) h1 hst.1 hst.2.1 hst.2.2.1 fun ob' n' own' hn hF' hnear hni' hsame=>?_
  refine hk ob' n' (fun i=>i=go\/i=gm\/own'=.tok i) hn ⟨own',hF',fun i=>Iff.rfl⟩ (fun i hi=>?_) (hni' hni) fun i hi hiS=>hsame i hi (fun e=>hiS ((h2 i).2 (.inl e))) (fun e=>hiS ((h2 i).2 (.inr (.inl e)))) fun t ht e=>hiS ((h2 i).2 (.inr (.inr (by rw[e];exact ht))))
  rcases hi with e|e|e
  ·exact .inl ((h2 i).2 (.inl e))
  ·exact .inl ((h2 i).2 (.inr (.inl e)))
  ·rcases hnear with e2|⟨t,e2,ht⟩
   ·exact .inl ((h2 i).2 (.inr (.inr (by rw[<-e2];exact e))))
   ·rw[e2]at e
    cases e
    exact .inr ht
end Go.Abs.Tz
namespace Go.Abs.Tz
open Go Go.Abs Go.Proofs
set_option maxRecDepth 20000
set_option linter.unusedSimpArgs false
attribute [local simp ↓] gF gD uZ uY gd zX qW zk uX zU yq yr gG gI gJ gH jd jg jj je jk jl jh ji jf jb u9 jc ja yo ym yp yn gA gy gC gz gM gK gL ue zz jm qS jn gg yt yu gQ gT gS gN gO g8 jp jw jz jv jx jy j5 j3 jF jH uH uE uS uV uF uN uR uQ uP uO uL uA uB uC uD uT uJ uK uy uU uW uG uI uM uz jL jG jY j8 jI jT jX jW jV jU jR jD j0 jP jQ jA j7 j9 jJ jN jS jB gb j6 jC ga jO jK jM jE jZ jq ju jr gY g7 gW gZ g6 qm uo
attribute [local simp] faL fdL iaL ixL za q9 qN eqK eqL qL ze ut gV yk g9 yb yd yf yh yj ya ye yc yg zr LV.cells LV.whole qm uf zK jo stL zw zF zV qa.alloc ge gc gf gw gv gu gt gq gp gk gj gi gh qd ug
structure BasAt(n0:Nat)(ob0:List (Nat×qc))(M:List (PK×Int))(fo am om:Nat)(ob:List (Nat×qc))(F:List Stp)(own:Own):Prop where
 facts:ud ob fo am F own
 lev:look om ob=some (.map (qO M))
 ne:om≠am
 ni:qK ob
 old:∀i,i<n0->look i ob=look i ob0
 lo:n0<=fo/\n0<=am/\∀t,own=.tok t->n0<=t
 g:∀s∈F,zf s.atom
structure vB(n0:Nat)(ob0:List (Nat×qc))(M:List (PK×Int))(fo am om f7:Nat)(ob:List (Nat×qc))(F:List Stp)(own:Own):Prop extends BasAt n0 ob0 M fo am om ob F own where
 cell:look f7 ob=some (.cells [.ptr fo 0])
section
variable{n0:Nat}{ob0:List (Nat×qc)}{M:List (PK×Int)}{fo am om f7:Nat}
theorem ud.tokne{ob:List (Nat×qc)}{F:List Stp}{own:Own}(h:ud ob fo am F own):∀i x,look i ob=some x->(∀k sz,x≠.tok k sz)->∀t,own=.tok t->i≠t:=by
 intro i x hx hne t ht e
 subst e
 rcases h.row with⟨e1,_⟩|⟨t',e1,_,_,e2⟩
 ·rw[e1]at ht;cases ht
 ·rw[e1]at ht
  cases ht
  rw[hx]at e2
  exact hne _ _ (Option.some.inj e2)
theorem BasAt.turn{ob ob':List (Nat×qc)}{F F':List Stp}{own own':Own}{m:Nat}(h:BasAt n0 ob0 M fo am om ob F own)(hok:qa.Ok ⟨ob,m⟩)(hn:n0<=m)(hF:ud ob' fo am F' own')(hnear:qjO m own own')(hni:qK ob')(hg:∀s∈F',zf s.atom)
  (hsame:∀i,i<m->i≠fo->i≠am->(∀t,own=.tok t->i≠t)->look i ob'=look i ob):BasAt n0 ob0 M fo am om ob' F' own'/\∀i v,look i ob=some (.cells [v])->look i ob'=some (.cells [v]):=by
 have cl:=h.lev
 refine⟨⟨hF,?_,h.ne,hni,fun i hi=>?_,⟨h.lo.1,h.lo.2.1,fun t ht=>?_⟩,hg⟩,fun i v hv=>?_⟩
 ·rw[hsame om (hok.look cl) (fun e=>?_) h.ne (h.facts.tokne _ _ cl (fun k sz e=>by cases e))]
  ·exact cl
  ·rw[e,h.facts.pair]at cl;cases cl
 ·rw[hsame i (by omega) (by have:=h.lo.1;omega) (by have:=h.lo.2.1;omega) (fun t ht=>by have:=h.lo.2.2 t ht;omega)]
  exact h.old i hi
 ·rcases hnear with e|⟨t',e,ht'⟩
  ·exact h.lo.2.2 t (by rw[<-e];exact ht)
  ·rw[e]at ht
   cases ht
   omega
 ·rw[hsame i (hok.look hv) (fun e=>?_) (fun e=>?_) (h.facts.tokne _ _ hv (fun k sz e=>by cases e))]
  ·exact hv
  ·rw[e,h.facts.pair]at hv;cases hv
  ·rw[e,h.facts.map]at hv;cases hv
theorem ud.low{ob:List (Nat×qc)}{F:List Stp}{own:Own}{m:Nat}(h:ud ob fo am F own)(hok:qa.Ok ⟨ob,m⟩):∀i,(i=fo\/i=am\/own=.tok i)->i<m:=fun i hi=>by
 rcases hi with rfl|rfl|rfl
 ·exact hok.look h.pair
 ·exact hok.look h.map
 ·rcases h.row with⟨e1,_⟩|⟨t',e1,_,_,e2⟩
  ·cases e1
  ·cases e1;exact hok.look e2
theorem BasAt.keep{ob ob':List (Nat×qc)}{F:List Stp}{own:Own}{m:Nat}(h:BasAt n0 ob0 M fo am om ob F own)(hok:qa.Ok ⟨ob,m⟩)(hn:n0<=m)(hni:qK ob')(hsame:∀i,i<m->look i ob'=look i ob):BasAt n0 ob0 M fo am om ob' F own:=
 (h.turn hok hn (h.facts.keep fun i hi=>hsame i (h.facts.low hok i hi)) (.inl rfl) hni h.g fun i hi _ _ _=>hsame i hi).1
theorem vB.keep{ob ob':List (Nat×qc)}{F:List Stp}{own:Own}{m:Nat}(h:vB n0 ob0 M fo am om f7 ob F own)(hok:qa.Ok ⟨ob,m⟩)(hn:n0<=m)(hni:qK ob')(hsame:∀i,i<m->look i ob'=look i ob):vB n0 ob0 M fo am om f7 ob' F own:=
 ⟨h.toBasAt.keep hok hn hni hsame,by rw[hsame _ (hok.look h.cell)];exact h.cell⟩
theorem qkK(s:Stp)(hs:zf s.atom)(F:List Stp)(hF:F.length<=2^20)(ob:List (Nat×qc))(m:Nat)(own:Own)(h:BasAt n0 ob0 M fo am om ob F own)(hm:n0<=m){kv kp:HP}
  (hk:∀ob' m' own',m<=m'->BasAt n0 ob0 M fo am om ob' (zj F s) own'->(∀i v,look i ob=some (.cells [v])->look i ob'=some (.cells [v]))->kv (.tup []) ⟨ob',m'⟩):cP E0 F0 155 [.ptr fo 0,ve s] ⟨ob,m⟩ kv kp:=by
 intro hH
 refine qkL s hs.1 fo am F hF own ob m h.facts (fun hex n' hn'=>?_) (fun hno ob' n' own' hn' hF' hnear hni hsame=>?_) hH
 ·have e:zj F s=F:=by unfold zj;rw[if_pos (wW.2 hex)]
  exact hk ob n' own hn' (by rw[e];exact h) fun _ _ h=>h
 ·have e:zj F s=F++[s]:=by
   unfold zj
   rw[if_neg]
   intro hh
   obtain⟨q,hq,e⟩:=wW.1 hh
   exact hno q hq e
  have hg2:∀q∈F++[s],zf q.atom:=fun q hq=>by
   rcases List.mem_append.1 hq with hq|hq
   ·exact h.g q hq
   ·simp at hq
    subst hq
    exact hs
  have h2:=h.turn hH hm hF' hnear (hni h.ni) hg2 hsame
  exact hk ob' n' own' hn' (by rw[e];exact h2.1) h2.2
theorem qrP(s:Stp)(hs:zf s.atom)(F:List Stp)(hF:F.length<=2^20)(ob:List (Nat×qc))(m:Nat)(own:Own)(h:vB n0 ob0 M fo am om f7 ob F own)(hm:n0<=m){kv kp:HP}
  (hk:∀ob' m' own',m<=m'->vB n0 ob0 M fo am om f7 ob' (zj F s) own'->kv (.tup []) ⟨ob',m'⟩):cP E0 F0 155 [.ptr fo 0,ve s] ⟨ob,m⟩ kv kp:=
 qkK s hs F hF ob m own h.toBasAt hm fun ob' m' own' h1 h2 h3=>hk ob' m' own' h1 ⟨h2,h3 _ _ h.cell⟩
def qmI:qk:=match r42 with
 |.seq (.seq _ (.blk _ l)) _=>l
 |_=>.bad
def qpt:qk:=match qmI with
 |.loop (.seq _ (.seq _ (.seq (.blk _ (.seq _ (.seq _ (.blk _ l)))) _)))=>l
 |_=>.bad
def qoT:qk:=match qpt with
 |.loop (.seq _ (.blk _ (.seq _ (.seq _ (.blk _ l)))))=>l
 |_=>.bad
def qxi:qk:=match qoT with
 |.loop (.seq _ (.seq _ (.seq (.blk _ (.seq _ (.seq _ (.seq _ (.seq _ (.seq (.seq _ (.blk _ l)) _)))))) _)))=>l
 |_=>.bad
structure NNAd where
 i:Nat
 n:Nat
 ob:List (Nat×qc)
 F:List Stp
 own:Own
theorem qrO(G:List Stp)(hG:∀s∈G,zf s.atom)(ownG:Own)(F:List Stp)(hlen:F.length+G.length<=2^20)(ob:List (Nat×qc))(m:Nat)(own:Own)(h:vB n0 ob0 M fo am om f7 ob F own)(hm:n0<=m)(v0 v12 v13 v39 v40 v55 v56 v57:LV){KX:XP}
  (hk:∀ob' m' own',m<=m'->vB n0 ob0 M fo am om f7 ob' (G.foldl zj F) own'->KX (.exit 8) ((.nd (v0) (.nd .bot (.nd .bot (.nd (.ptr f7 0) (.nd .bot .nil (.nd .bot (.nd (.sl (G.map ve) ownG) .nil .nil) .nil)) (.nd .bot (.nd (v39) .nil .nil) (.nd (v55) .nil .nil))) .nil) (.nd .bot (.nd .bot (.nd .bot .nil (.nd .bot (.nd (.int G.length) .nil .nil) .nil)) (.nd .bot .nil (.nd (v57) .nil .nil))) (.nd (v13) .nil .nil))) (.nd .bot (.nd .bot (.nd .bot (.nd .bot .nil (.nd .bot (.nd (.int G.length) .nil .nil) .nil)) (.nd .bot (.nd (v40) .nil .nil) (.nd (v56) .nil .nil))) (.nd (v12) .nil .nil)) (.nd (.map om) (.nd .bot (.nd .bot .nil (.nd .bot (.nd (.sc (.bool false)) .nil .nil) .nil)) .nil) .nil)))) ⟨ob',m'⟩):
  lP E0 F0 qxi ((.nd (v0) (.nd .bot (.nd .bot (.nd (.ptr f7 0) (.nd .bot .nil (.nd .bot (.nd (.sl (G.map ve) ownG) .nil .nil) .nil)) (.nd .bot (.nd (v39) .nil .nil) (.nd (v55) .nil .nil))) .nil) (.nd .bot (.nd .bot (.nd .bot .nil (.nd .bot (.nd (.int 0) .nil .nil) .nil)) (.nd .bot .nil (.nd (v57) .nil .nil))) (.nd (v13) .nil .nil))) (.nd .bot (.nd .bot (.nd .bot (.nd .bot .nil (.nd .bot (.nd (.int G.length) .nil .nil) .nil)) (.nd .bot (.nd (v40) .nil .nil) (.nd (v56) .nil .nil))) (.nd (v12) .nil .nil)) (.nd (.map om) .nil .nil)))) ⟨ob,m⟩ KX:=by
 obtain⟨A,hA⟩:∃A,G.foldl zj F=A:=⟨_,rfl⟩
 rw[hA]at hk
 refine qE (σ:=NNAd) (fun q=>(.nd (v0) (.nd .bot (.nd .bot (.nd (.ptr f7 0) (.nd .bot .nil (.nd .bot (.nd (.sl (G.map ve) ownG) .nil .nil) .nil)) (.nd .bot (.nd (v39) .nil .nil) (.nd (v55) .nil .nil))) .nil) (.nd .bot (.nd .bot (.nd .bot .nil (.nd .bot (.nd (.int q.i) .nil .nil) .nil)) (.nd .bot .nil (.nd (v57) .nil .nil))) (.nd (v13) .nil .nil))) (.nd .bot (.nd .bot (.nd .bot (.nd .bot .nil (.nd .bot (.nd (.int G.length) .nil .nil) .nil)) (.nd .bot (.nd (v40) .nil .nil) (.nd (v56) .nil .nil))) (.nd (v12) .nil .nil)) (.nd (.map om) .nil .nil)))) (fun q=>⟨q.ob,q.n⟩) (fun q=>G.length - q.i)
  (fun q=>m<=q.n/\q.i<=G.length/\(G.drop q.i).foldl zj q.F=A/\q.F.length<=F.length+q.i/\vB n0 ob0 M fo am om f7 q.ob q.F q.own) ⟨0,m,ob,F,own⟩ ⟨Nat.le_refl _,Nat.zero_le _,hA,Nat.le_refl _,h⟩ (by simp[FT.Le,Wk]) ⟨HWk.refl _,fun h=>h⟩ ?_
 rintro⟨i,m1,ob1,F1,own1⟩ ⟨hm1,hi,hf,hl,h1⟩ hok
 dsimp only at hm1 hi hf hl h1 hok
 by_cases hlt:i<G.length
 case neg=>
  obtain rfl:i=G.length:=by omega
  rw[List.drop_eq_nil_of_le (Nat.le_refl _)]at hf
  obtain rfl:F1=A:=hf
  simp(disch:=omega)
  exact hk ob1 m1 own1 hm1 h1
 rw[List.drop_eq_getElem_cons hlt,List.foldl_cons]at hf
 have c7:=h1.cell
 have b7:f7<m1:=hok.look c7
 have hs:=hG _ (List.getElem_mem hlt)
 simp(disch:=omega)[hlt,c7]
 have ha:=qjN F1 G[i]
 refine qrP G[i] hs F1 (by omega) _ _ own1 (h1.keep hok (by omega) (h1.ni.cons _ rfl) fun j hj=>qd (by omega) _ _) (by omega) fun ob2 m2 own2 hm2 h2=>?_
 simp(disch:=omega)[qw (show i<2^62 by omega)]
 exact⟨⟨i+1,m2,ob2,zj F1 G[i],own2⟩,by dsimp only;omega,⟨by dsimp only;omega,by dsimp only;omega,hf,by dsimp only;omega,h2⟩,by simp[FT.Le,Wk],HWk.refl _,fun h=>h⟩
theorem qwg{F:List Stp}(hF:∀s∈F,zf s.atom){c:qe}(hc:yv c){ci:Int}:∀s∈yV F c ci,zf s.atom:=by
 intro s hs
 unfold yV at hs
 rw[qiV]at hs
 obtain⟨X,hX,hX2⟩:=qfl F ((vt F c (qT c.body) [] []).map fun x=>(⟨zm x.1 c.head,ci,x.2⟩:Stp)) []
 rw[hX]at hs
 have:=hX2 s (by simpa using hs)
 obtain⟨x,hx,rfl⟩:=List.mem_map.1 this
 obtain⟨js,h1,h2,h3⟩:=qeS.1 hx
 obtain⟨g1,_,g3,_⟩:=qgY (S:=qap F) (fun a ⟨q,hq,e⟩=>e▸hF q hq) .nil (qjo h1)
 exact(hc.leaf g1 g3).2
theorem qrB(l:List qe)(hl:l.length<=2^20)(hc:∀c∈l,yv c)(lev:Nat)(bf:Nat)(F:List Stp)(hF:F.length<=300)(ob:List (Nat×qc))(m:Nat)(own:Own)(h:vB n0 ob0 M fo am om f7 ob F own)(hm:n0<=m)(v39:LV){KX:XP}
  (hk1:∀F',vG M lev l 0 F=some F'->∀ob' m' own',m<=m'->F'.length<=300->vB n0 ob0 M fo am om f7 ob' F' own'->KX (.exit 6) ((.nd (qF l) (.nd .bot (.nd .bot (.nd (.ptr f7 0) .nil (.nd .bot (.nd (v39) .nil .nil) (.nd (qF l) .nil .nil))) .nil) (.nd .bot (.nd .bot .nil (.nd .bot .nil (.nd (.int l.length) .nil .nil))) (.nd (.int bf) .nil .nil))) (.nd .bot (.nd .bot (.nd .bot .nil (.nd .bot (.nd (.int lev) .nil .nil) (.nd (.int l.length) .nil .nil))) (.nd (.int lev) .nil .nil)) (.nd (.map om) (.nd .bot .nil (.nd .bot .nil (.nd (.sc (.bool false)) .nil .nil))) .nil)))) ⟨ob',m'⟩)
  (hk2:vG M lev l 0 F=none->∀t' ob' m',m<=m'->qK ob'->(∀i,i<n0->look i ob'=look i ob0)->t'.get 4=.sc (.pointer none)->t'.get 5=.int 2->KX .ret t' ⟨ob',m'⟩):
  lP E0 F0 qoT ((.nd (qF l) (.nd .bot (.nd .bot (.nd (.ptr f7 0) .nil (.nd .bot (.nd (v39) .nil .nil) (.nd (qF l) .nil .nil))) .nil) (.nd .bot (.nd .bot .nil (.nd .bot .nil (.nd (.int 0) .nil .nil))) (.nd (.int bf) .nil .nil))) (.nd .bot (.nd .bot (.nd .bot .nil (.nd .bot (.nd (.int lev) .nil .nil) (.nd (.int l.length) .nil .nil))) (.nd (.int lev) .nil .nil)) (.nd (.map om) .nil .nil)))) ⟨ob,m⟩ KX:=by
 obtain⟨A,hA⟩:∃A,vG M lev l 0 F=A:=⟨_,rfl⟩
 rw[hA]at hk1 hk2
 refine qE (σ:=NNAd) (fun q=>(.nd (qF l) (.nd .bot (.nd .bot (.nd (.ptr f7 0) .nil (.nd .bot (.nd (v39) .nil .nil) (.nd (qF l) .nil .nil))) .nil) (.nd .bot (.nd .bot .nil (.nd .bot .nil (.nd (.int q.i) .nil .nil))) (.nd (.int bf) .nil .nil))) (.nd .bot (.nd .bot (.nd .bot .nil (.nd .bot (.nd (.int lev) .nil .nil) (.nd (.int l.length) .nil .nil))) (.nd (.int lev) .nil .nil)) (.nd (.map om) .nil .nil)))) (fun q=>⟨q.ob,q.n⟩) (fun q=>l.length - q.i)
  (fun q=>m<=q.n/\q.i<=l.length/\vG M lev (l.drop q.i) q.i q.F=A/\q.F.length<=300/\vB n0 ob0 M fo am om f7 q.ob q.F q.own) ⟨0,m,ob,F,own⟩ ⟨Nat.le_refl _,Nat.zero_le _,hA,hF,h⟩ (by simp[FT.Le,Wk]) ⟨HWk.refl _,fun h=>h⟩ ?_
 rintro⟨i,m1,ob1,F1,own1⟩ ⟨hm1,hi,hf,hl1,h1⟩ hok
 dsimp only at hm1 hi hf hl1 h1 hok
 by_cases hlt:i<l.length
 case neg=>
  obtain rfl:i=l.length:=by omega
  rw[List.drop_eq_nil_of_le (Nat.le_refl _)]at hf
  simp(disch:=omega)
  exact hk1 F1 hf.symm ob1 m1 own1 hm1 hl1 h1
 rw[List.drop_eq_getElem_cons hlt]at hf
 simp only[vG]at hf
 have c7:=h1.cell
 have cl:=h1.lev
 have b7:f7<m1:=hok.look c7
 have bl:om<m1:=hok.look cl
 have hcg:=hc _ (List.getElem_mem hlt)
 simp(disch:=omega)[hlt]
 refine(qch l[i].head).go fun m2 hm2=>?_
 simp(disch:=omega)
 have hlk:=lkP (nx:=m2) (show look om ((m1+1,.cells (vT l[i]))::(m1,.cells [.int (i:Int)])::ob1)=some (.map (qO M)) by rw[qd (by omega),qd (by omega)];exact cl) (ofA l[i].head)
 unfold ur at hlk
 obtain⟨PV,hPV⟩:∃PV,qp M (ofA l[i].head)=PV:=⟨_,rfl⟩
 rw[hPV]at hlk hf
 unfold ofA at hlk
 rw[hlk]
 have hdrop:∀(x y:qc)(mm:Nat),m1<=mm->HWk ⟨(m1+1,x)::(m1,y)::ob1,mm⟩ ⟨ob1,mm⟩/\qa.Ok ⟨ob1,mm⟩:=fun x y mm hmm=>⟨⟨Nat.le_refl _,fun j z hz=>by
  have:=hok.look hz
  dsimp only at this
  rw[qd (by omega),qd (by omega)]
  exact hz⟩,qt.mono hok hmm⟩
 by_cases hlev:PV=(lev:Int)
 case neg=>
  rw[if_neg hlev]at hf
  simp(disch:=omega)[hlev,qw (show i<2^62 by omega)]
  exact⟨⟨i+1,m2,ob1,F1,own1⟩,by dsimp only;omega,⟨by dsimp only;omega,by dsimp only;omega,hf,hl1,h1⟩,by simp[FT.Le,Wk],(hdrop _ _ m2 (by omega)).1,fun _=>(hdrop (.cells []) (.cells []) m2 (by omega)).2⟩
 rw[if_pos hlev]at hf
 simp(disch:=omega)[hlev,c7]
 obtain⟨G,hGe⟩:∃G,yV F1 l[i] i=G:=⟨_,rfl⟩
 have hGg:∀s∈G,zf s.atom:=by rw[<-hGe];exact qwg h1.g hcg
 have hGl:G.length<=301:=by rw[<-hGe];exact qwf _ _ _
 rw[hGe]at hf
 obtain⟨obE,hobE⟩:∃obE,(m2+1+1,qc.cells [.ptr (m2+1) 0])::(m2+1,.cells [.map m2,Nl])::(m2,.map [])::(m1+1,.cells [.str l[i].head.pred,qz l[i].head.args,wi l[i].body])::(m1,.cells [.int (i:Int)])::ob1=obE:=⟨_,rfl⟩
 have hE:∀j,j<m1->look j obE=look j ob1:=fun j hj=>by rw[<-hobE,qd (by omega),qd (by omega),qd (by omega),qd (by omega),qd (by omega)]
 have e0:look m1 obE=some (.cells [.int (i:Int)]):=by rw[<-hobE,qd (by omega),qd (by omega),qd (by omega),qd (by omega)];exact qm _ _ _
 have e1:look m2 obE=some (.map []):=by rw[<-hobE,qd (by omega),qd (by omega)];exact qm _ _ _
 have e2:look (m2+1) obE=some (.cells [.map m2,Nl]):=by rw[<-hobE,qd (by omega)];exact qm _ _ _
 have e3:look (m2+1+1) obE=some (.cells [.ptr (m2+1) 0]):=by rw[<-hobE];exact qm _ _ _
 have hniE:qK obE:=by rw[<-hobE];exact((((h1.ni.cons _ rfl).cons _ rfl).cons _ rfl).cons _ rfl).cons _ rfl
 rw[hobE]
 have hlowF:∀p∈qav F1 fo am own1,p.1<m1:=fun p hp=>hok.look (qkW h1.facts p hp)
 have hstE:vz (qji F1 i fo am own1 (m2+1) m2 f7 (m2+1+1) m1 ob1 h1.facts).Stat obE:=by
  show vz (_::_::_::qav F1 fo am own1) obE
  unfold vz
  simp only[List.forall_mem_cons]
  exact⟨by rw[hE _ b7];exact c7,e3,e0,fun p hp=>by rw[hE _ (hlowF p hp)];exact qkW h1.facts p hp⟩
 refine qqY (D:=qji F1 i fo am own1 (m2+1) m2 f7 (m2+1+1) m1 ob1 h1.facts) l[i] hcg F1 fo am own1 (qji F1 i fo am own1 (m2+1) m2 f7 (m2+1+1) m1 ob1 h1.facts).Stat (fun p hp=>hp) ?_ (fun ob h=>?_) h1.g (by omega) obE (m2+1+1+1) [] (fun j=>j=m2+1\/j=m2\/Own.full=.tok j) (by show ([]:List Stp).length<=301;simp) hstE ⟨.full,⟨e2,e1,by omega,.inl ⟨rfl,rfl⟩⟩,fun j=>Iff.rfl⟩ ?_ hniE fun ob2 n2 S2 hn2 hat2 hS2 hni2 hsame2=>?_
 ·show ∀p∈_::_::_::qav F1 fo am own1,_
  simp only[List.forall_mem_cons]
  exact⟨rfl,rfl,rfl,qrY _ _ _ _⟩
 ·have h':vz (_::_::_::qav F1 fo am own1) ob:=h
  unfold vz at h'
  simp only[List.forall_mem_cons]at h'
  exact qmq h1.facts h'.2.2.2
 ·show ∀p∈_::_::_::qav F1 fo am own1,_
  simp only[List.forall_mem_cons]
  have hno:∀j,j<m2->¬(j=m2+1\/j=m2\/Own.full=.tok j):=fun j hj h=>by
   rcases h with h|h|h
   ·omega
   ·omega
   ·cases h
  have hno2:¬(m2+1+1=m2+1\/m2+1+1=m2\/Own.full=.tok (m2+1+1)):=fun h=>by
   rcases h with h|h|h
   ·omega
   ·omega
   ·cases h
  exact⟨hno _ (by omega),hno2,hno _ (by omega),fun p hp=>hno _ (by have:=hlowF p hp;omega)⟩
 have hsame3:∀j,j<m1\/j=m2+1+1->look j ob2=look j obE:=fun j hj=>hsame2 j (by omega) fun h=>by
  rcases h with h|h|h
  ·omega
  ·omega
  ·cases h
 obtain⟨ownG,hfG,_⟩:∃own,ud ob2 (m2+1) m2 G own/\∀j,S2 j↔(j=m2+1\/j=m2\/own=.tok j):=by
  rw[<-hGe];exact hat2
 have f3:look (m2+1+1) ob2=some (.cells [.ptr (m2+1) 0]):=by rw[hsame3 _ (.inr rfl)];exact e3
 have h2:vB n0 ob0 M fo am om f7 ob2 F1 own1:=h1.keep hok (by omega) hni2 fun j hj=>by rw[hsame3 j (.inl hj),hE j hj]
 simp(disch:=omega)[f3,hfG.pair]
 refine wc (t':=(.nd (qF l) (.nd .bot (.nd .bot (.nd (.ptr f7 0) (.nd .bot .nil (.nd .bot (.nd (.sl (G.map ve) ownG) .nil .nil) .nil)) (.nd .bot (.nd (v39) .nil .nil) (.nd (qF l) .nil .nil))) .nil) (.nd .bot (.nd .bot (.nd .bot .nil (.nd .bot (.nd (.int 0) .nil .nil) .nil)) (.nd .bot .nil (.nd (.int i) .nil .nil))) (.nd (.int bf) .nil .nil))) (.nd .bot (.nd .bot (.nd .bot (.nd .bot .nil (.nd .bot (.nd (.int G.length) .nil .nil) .nil)) (.nd .bot (.nd (.int lev) .nil .nil) (.nd (.int l.length) .nil .nil))) (.nd (.int lev) .nil .nil)) (.nd (.map om) .nil .nil)))) (fun l h=>by cases h) (by simp[FT.Le,Wk]) (HWk.refl _) (fun h=>h) ?_
 refine qrO G hGg ownG F1 (by omega) ob2 n2 own1 h2 (by omega) _ _ _ _ _ _ _ _ fun ob3 n3 own3 hn3 h3=>?_
 have c73:=h3.cell
 have hF2:=qfB G F1
 obtain⟨F2,hF2e⟩:∃F2,G.foldl zj F1=F2:=⟨_,rfl⟩
 rw[hF2e]at hf h3 hF2
 by_cases hbig:300<F2.length
 ·rw[if_pos hbig]at hf
  have hbig':(300:Int)<(F2.length:Int):=by omega
  simp(disch:=omega)[c73,h3.facts.pair,hbig']
  exact hk2 hf.symm _ ob3 n3 (by omega) h3.ni h3.old rfl rfl
 ·rw[if_neg hbig]at hf
  have hbig':¬(300:Int)<(F2.length:Int):=by omega
  simp(disch:=omega)[c73,h3.facts.pair,hbig',qw (show i<2^62 by omega)]
  exact⟨⟨i+1,n3,ob3,F2,own3⟩,by dsimp only;omega,⟨by dsimp only;omega,by dsimp only;omega,hf,by dsimp only;omega,h3⟩,by simp[FT.Le,Wk],HWk.refl _,fun h=>h⟩
end
section
variable{n0:Nat}{ob0:List (Nat×qc)}{M:List (PK×Int)}{fo am om f7:Nat}
theorem qhN(M:List (PK×Int))(lev:Int):∀(l:List qe)(i:Nat)(F F':List Stp),vG M lev l i F=some F'->F.length<=F'.length
 |[],_,F,F',h=>by
  simp only[vG,Option.some.injEq]at h
  rw[h];exact Nat.le_refl _
 |c::r,i,F,F',h=>by
  simp only[vG]at h
  split at h
  ·split at h
   ·cases h
   ·have h1:=qhN M lev r _ _ _ h
    have h2:=qfB (yV F c i) F
    omega
  ·exact qhN M lev r _ _ _ h
structure NNBf where
 k:Nat
 bf:Int
 n:Nat
 ob:List (Nat×qc)
 F:List Stp
 own:Own
theorem qrH(l:List qe)(hl:l.length<=2^20)(hc:∀c∈l,yv c)(lev:Nat)(F:List Stp)(hF:F.length<=300)(ob:List (Nat×qc))(m:Nat)(own:Own)(h:vB n0 ob0 M fo am om f7 ob F own)(hm:n0<=m)(v39:LV){KX:XP}
  (hk1:∀F',wz M lev l 302 F=some F'->∀ob' m' own',m<=m'->F'.length<=300->vB n0 ob0 M fo am om f7 ob' F' own'->KX (.exit 4) ((.nd (qF l) (.nd .bot (.nd .bot (.nd (.ptr f7 0) (.nd .bot .nil (.nd (.sl (F'.map ve) own') .nil .nil)) (.nd .bot (.nd (v39) .nil .nil) .nil)) (.nd .bot .nil (.nd .bot (.nd (.int F'.length) .nil .nil) .nil))) (.nd .bot (.nd .bot (.nd .bot .nil (.nd (.sc (.bool false)) .nil .nil)) .nil) (.nd (.int F'.length) .nil (.nd .bot (.nd (.ptr fo 0) .nil .nil) .nil)))) (.nd .bot (.nd .bot (.nd .bot (.nd .bot .nil (.nd (.int F'.length) .nil .nil)) (.nd .bot (.nd (.int lev) .nil .nil) .nil)) (.nd (.int lev) .nil (.nd .bot (.nd (.ptr fo 0) .nil .nil) .nil))) (.nd (.map om) .nil (.nd .bot .nil (.nd .bot (.nd (.ptr fo 1) .nil .nil) .nil)))))) ⟨ob',m'⟩)
  (hk2:wz M lev l 302 F=none->∀t' ob' m',m<=m'->qK ob'->(∀i,i<n0->look i ob'=look i ob0)->t'.get 4=.sc (.pointer none)->t'.get 5=.int 2->KX .ret t' ⟨ob',m'⟩):
  lP E0 F0 qpt ((.nd (qF l) (.nd .bot (.nd .bot (.nd (.ptr f7 0) .nil (.nd .bot (.nd (v39) .nil .nil) .nil)) .nil) (.nd .bot .nil (.nd (.int (-1)) .nil .nil))) (.nd .bot (.nd .bot (.nd .bot .nil (.nd .bot (.nd (.int lev) .nil .nil) .nil)) (.nd (.int lev) .nil .nil)) (.nd (.map om) .nil .nil)))) ⟨ob,m⟩ KX:=by
 obtain⟨A,hA⟩:∃A,wz M lev l 302 F=A:=⟨_,rfl⟩
 rw[hA]at hk1 hk2
 refine qE (σ:=NNBf) (fun q=>(.nd (qF l) (.nd .bot (.nd .bot (.nd (.ptr f7 0) .nil (.nd .bot (.nd (v39) .nil .nil) .nil)) .nil) (.nd .bot .nil (.nd (.int q.bf) .nil .nil))) (.nd .bot (.nd .bot (.nd .bot .nil (.nd .bot (.nd (.int lev) .nil .nil) .nil)) (.nd (.int lev) .nil .nil)) (.nd (.map om) .nil .nil)))) (fun q=>⟨q.ob,q.n⟩) (fun q=>q.k)
  (fun q=>m<=q.n/\q.F.length<=300/\vB n0 ob0 M fo am om f7 q.ob q.F q.own/\((q.k=0/\q.bf=(q.F.length:Int)/\A=some q.F)\/(0<q.k/\q.bf≠(q.F.length:Int)/\wz M lev l q.k q.F=A/\302<=q.k+q.F.length)))
  ⟨302,-1,m,ob,F,own⟩ ⟨Nat.le_refl _,hF,h,   .inr ⟨by dsimp only;omega,by dsimp only;omega,hA,by dsimp only;omega⟩⟩ (by simp[FT.Le,Wk]) ⟨HWk.refl _,fun h=>h⟩ ?_
 rintro⟨k,bf,m1,ob1,F1,own1⟩ ⟨hm1,hl1,h1,hcase⟩ hok
 dsimp only at hm1 hl1 h1 hcase hok
 have c7:=h1.cell
 rcases hcase with⟨rfl,rfl,hA1⟩|⟨hk0,hbf,hlv,hfu⟩
 ·simp(disch:=omega)[c7,h1.facts.pair]
  exact hk1 F1 hA1 ob1 m1 own1 hm1 hl1 h1
 obtain⟨k',rfl⟩:∃k',k=k'+1:=⟨k - 1,by omega⟩
 simp only[wz]at hlv
 simp(disch:=omega)[c7,h1.facts.pair,hbf]
 refine wc (t':=(.nd (qF l) (.nd .bot (.nd .bot (.nd (.ptr f7 0) .nil (.nd .bot (.nd (v39) .nil .nil) (.nd (qF l) .nil .nil))) .nil) (.nd .bot (.nd .bot .nil (.nd .bot .nil (.nd (.int 0) .nil .nil))) (.nd (.int F1.length) .nil .nil))) (.nd .bot (.nd .bot (.nd .bot .nil (.nd .bot (.nd (.int lev) .nil .nil) (.nd (.int l.length) .nil .nil))) (.nd (.int lev) .nil .nil)) (.nd (.map om) .nil .nil)))) (fun l h=>by cases h) (by simp[FT.Le,Wk]) (HWk.refl _) (fun h=>h) ?_
 refine qrB l hl hc lev F1.length F1 hl1 ob1 m1 own1 h1 (by omega) v39 (fun F' hr ob2 m2 own2 hm2 hl2 h2=>?_) (fun hr t' ob2 m2 hm2 hni hold h4 h5=>?_)
 ·rw[hr]at hlv
  simp only at hlv
  simp(disch:=omega)
  by_cases he:F'.length=F1.length
  ·rw[if_pos he]at hlv
   exact⟨⟨0,F1.length,m2,ob2,F',own2⟩,by dsimp only;omega,⟨by dsimp only;omega,hl2,h2,.inl ⟨rfl,by dsimp only;rw[he],hlv.symm⟩⟩,by simp[FT.Le,Wk],HWk.refl _,fun h=>h⟩
  ·rw[if_neg he]at hlv
   have:=qhN _ _ _ _ _ _ hr
   exact⟨⟨k',F1.length,m2,ob2,F',own2⟩,by dsimp only;omega,⟨by dsimp only;omega,hl2,h2,.inr ⟨by dsimp only;omega,by dsimp only;omega,hlv,by dsimp only;omega⟩⟩,by simp[FT.Le,Wk],HWk.refl _,fun h=>h⟩
 ·rw[hr]at hlv
  simp(disch:=omega)
  exact hk2 hlv.symm t' ob2 m2 (by omega) hni hold h4 h5
theorem qqT(l:List qe)(hl:l.length<=2^20)(hc:∀c∈l,yv c)(N:Nat)(hN:N<=2^40)(F:List Stp)(hF:F.length<=300)(ob:List (Nat×qc))(m:Nat)(own:Own)(h:vB n0 ob0 M fo am om f7 ob F own)(hm:n0<=m){KX:XP}
  (hk1:∀F',qay M l N 0 F=some F'->∀ob' m' own',m<=m'->F'.length<=300->vB n0 ob0 M fo am om f7 ob' F' own'->KX (.exit 2) ((.nd (qF l) (.nd .bot (.nd .bot (.nd (.ptr f7 0) .nil (.nd .bot (.nd (.int N) .nil .nil) .nil)) .nil) (.nd .bot (.nd .bot .nil (.nd .bot (.nd (.sc (.bool false)) .nil .nil) .nil)) .nil)) (.nd .bot (.nd .bot (.nd .bot .nil (.nd .bot (.nd (.int N) .nil .nil) .nil)) .nil) (.nd (.map om) .nil .nil)))) ⟨ob',m'⟩)
  (hk2:qay M l N 0 F=none->∀t' ob' m',m<=m'->qK ob'->(∀i,i<n0->look i ob'=look i ob0)->t'.get 4=.sc (.pointer none)->t'.get 5=.int 2->KX .ret t' ⟨ob',m'⟩):
  lP E0 F0 qmI ((.nd (qF l) (.nd .bot (.nd .bot (.nd (.ptr f7 0) .nil (.nd .bot (.nd (.int N) .nil .nil) .nil)) .nil) .nil) (.nd .bot (.nd .bot (.nd .bot .nil (.nd .bot (.nd (.int 0) .nil .nil) .nil)) .nil) (.nd (.map om) .nil .nil)))) ⟨ob,m⟩ KX:=by
 obtain⟨A,hA⟩:∃A,qay M l N 0 F=A:=⟨_,rfl⟩
 rw[hA]at hk1 hk2
 refine qE (σ:=NNAd) (fun q=>(.nd (qF l) (.nd .bot (.nd .bot (.nd (.ptr f7 0) .nil (.nd .bot (.nd (.int N) .nil .nil) .nil)) .nil) .nil) (.nd .bot (.nd .bot (.nd .bot .nil (.nd .bot (.nd (.int q.i) .nil .nil) .nil)) .nil) (.nd (.map om) .nil .nil)))) (fun q=>⟨q.ob,q.n⟩) (fun q=>N - q.i)
  (fun q=>m<=q.n/\q.i<=N/\qay M l (N - q.i) q.i q.F=A/\q.F.length<=300/\vB n0 ob0 M fo am om f7 q.ob q.F q.own)
  ⟨0,m,ob,F,own⟩ ⟨Nat.le_refl _,Nat.zero_le _,hA,hF,h⟩ (by simp[FT.Le,Wk]) ⟨HWk.refl _,fun h=>h⟩ ?_
 rintro⟨i,m1,ob1,F1,own1⟩ ⟨hm1,hi,hf,hl1,h1⟩ hok
 dsimp only at hm1 hi hf hl1 h1 hok
 by_cases hlt:i<N
 case neg=>
  obtain rfl:i=N:=by omega
  rw[Nat.sub_self]at hf
  simp(disch:=omega)
  exact hk1 F1 hf.symm ob1 m1 own1 hm1 hl1 h1
 obtain⟨d,hd⟩:∃d,N - i=d+1:=⟨N - i - 1,by omega⟩
 rw[hd]at hf
 simp only[qay]at hf
 simp(disch:=omega)[hlt]
 refine wc (t':=(.nd (qF l) (.nd .bot (.nd .bot (.nd (.ptr f7 0) .nil (.nd .bot (.nd (.int N) .nil .nil) .nil)) .nil) (.nd .bot .nil (.nd (.int (-1)) .nil .nil))) (.nd .bot (.nd .bot (.nd .bot .nil (.nd .bot (.nd (.int i) .nil .nil) .nil)) (.nd (.int i) .nil .nil)) (.nd (.map om) .nil .nil)))) (fun l h=>by cases h) (by simp[FT.Le,Wk]) (HWk.refl _) (fun h=>h) ?_
 refine qrH l hl hc i F1 hl1 ob1 m1 own1 h1 (by omega) (.int N) (fun F' hr ob2 m2 own2 hm2 hl2 h2=>?_) (fun hr t' ob2 m2 hm2 hni hold h4 h5=>?_)
 ·rw[hr]at hf
  simp only at hf
  simp(disch:=omega)[qw (show i<2^62 by omega)]
  exact⟨⟨i+1,m2,ob2,F',own2⟩,by dsimp only;omega,⟨by dsimp only;omega,by dsimp only;omega,by dsimp only;rw[show N - (i+1)=d by omega];exact hf,hl2,h2⟩,by simp[FT.Le,Wk],HWk.refl _,fun h=>h⟩
 ·rw[hr]at hf
  simp(disch:=omega)
  exact hk2 hf.symm t' ob2 m2 (by omega) hni hold h4 h5
end
theorem qwp{f:FuncId}{args:List LV}{H:qa}{kv kp:HP}(h:cP E0 F0 f (stripL args) H kv kp):cP E0 F0 f args H kv kp:=fun hH=>by
 refine .weakArgs (args':=stripL args) (by rw[qci]) (fun k=>?_) ⟨Nat.le_refl _,fun _ _ h=>h⟩ (h hH)
 simp only[zu,List.getD_eq_getElem?_getD,qaM]
 cases args[k]? with
 |none=>exact .inl rfl
 |some v=>exact .inr (.inl rfl)
def qwO:qk:=match b133.body with
 |.seq _ (.seq _ (.seq _ (.seq _ (.seq _ (.seq (.seq _ (.blk _ l)) _)))))=>l
 |_=>.bad
def zn(a:Atom):Bool:=qR a&&a.args.all ww
theorem qpu{a:Atom}:zn a=true↔zf a:=by simp[zn,zf]
section
variable{n0:Nat}{ob0:List (Nat×qc)}{M:List (PK×Int)}{fo am om:Nat}
theorem qrI(base:List Atom)(ownB:Own)(hb:base.length<=100)(hok:∀a∈base,a.ok)(ob:List (Nat×qc))(m:Nat)(h:BasAt n0 ob0 M fo am om ob [] .full)(hm:n0<=m){KX:XP}
  (hk1:base.all zn=true->∀ob' m' own',m<=m'->BasAt n0 ob0 M fo am om ob' (qaX base) own'->KX (.exit 0) ((.nd .bot (.nd .bot (.nd .bot (.nd (.map om) .nil .nil) (.nd .bot .nil (.nd (.int base.length) .nil .nil))) (.nd .bot (.nd (.ptr fo 0) .nil .nil) (.nd .bot .nil (.nd (.sc (.bool false)) .nil .nil)))) (.nd .bot (.nd .bot .nil (.nd .bot .nil (.nd (.int base.length) .nil .nil))) (.nd .bot (.nd .bot .nil (.nd (.sl (base.map qh) ownB) .nil .nil)) .nil)))) ⟨ob',m'⟩)
  (hk2:base.all zn=false->∀t' ob' m',m<=m'->qK ob'->(∀i,i<n0->look i ob'=look i ob0)->t'.get 4=.sc (.map none)->t'.get 5=.sc (.pointer none)->t'.get 6=.int 1->KX .ret t' ⟨ob',m'⟩):
  lP E0 F0 qwO ((.nd .bot (.nd .bot (.nd .bot (.nd (.map om) .nil .nil) (.nd .bot .nil (.nd (.int base.length) .nil .nil))) (.nd .bot (.nd (.ptr fo 0) .nil .nil) .nil)) (.nd .bot (.nd .bot .nil (.nd .bot .nil (.nd (.int 0) .nil .nil))) (.nd .bot (.nd .bot .nil (.nd (.sl (base.map qh) ownB) .nil .nil)) .nil)))) ⟨ob,m⟩ KX:=by
 obtain⟨A,hA⟩:∃A,base.all zn=A:=⟨_,rfl⟩
 obtain⟨B,hB⟩:∃B,qaX base=B:=⟨_,rfl⟩
 rw[hA]at hk1 hk2
 rw[hB]at hk1
 refine qE (σ:=NNAd) (fun q=>(.nd .bot (.nd .bot (.nd .bot (.nd (.map om) .nil .nil) (.nd .bot .nil (.nd (.int base.length) .nil .nil))) (.nd .bot (.nd (.ptr fo 0) .nil .nil) .nil)) (.nd .bot (.nd .bot .nil (.nd .bot .nil (.nd (.int q.i) .nil .nil))) (.nd .bot (.nd .bot .nil (.nd (.sl (base.map qh) ownB) .nil .nil)) .nil)))) (fun q=>⟨q.ob,q.n⟩) (fun q=>base.length - q.i)
  (fun q=>m<=q.n/\q.i<=base.length/\(base.drop q.i).all zn=A/\((base.map fun a=>(⟨a,-1,[]⟩:Stp)).drop q.i).foldl zj q.F=B/\q.F.length<=q.i/\BasAt n0 ob0 M fo am om q.ob q.F q.own)
  ⟨0,m,ob,[],.full⟩ ⟨Nat.le_refl _,Nat.zero_le _,hA,hB,Nat.le_refl _,h⟩ (by simp[FT.Le,Wk]) ⟨HWk.refl _,fun h=>h⟩ ?_
 rintro⟨i,m1,ob1,F1,own1⟩ ⟨hm1,hi,hf,hg,hl1,h1⟩ hok1
 dsimp only at hm1 hi hf hg hl1 h1 hok1
 by_cases hlt:i<base.length
 case neg=>
  obtain rfl:i=base.length:=by omega
  rw[List.drop_eq_nil_of_le (Nat.le_refl _)]at hf
  rw[List.drop_eq_nil_of_le (by simp)]at hg
  obtain rfl:F1=B:=hg
  simp(disch:=omega)
  exact hk1 hf.symm ob1 m1 own1 hm1 h1
 rw[qbY _ hlt]at hf
 rw[List.drop_eq_getElem_cons (by simpa using hlt),List.foldl_cons,List.getElem_map]at hg
 have hao:=hok _ (List.getElem_mem hlt)
 simp(disch:=omega)[hlt]
 refine(qeA base[i] hao).go fun m2 hm2=>?_
 have hold2:∀(x:qc) j,j<n0->look j ((m1,x)::ob1)=look j ob0:=fun x j hj=>by rw[qd (by omega)];exact h1.old j hj
 cases ha:qR base[i]
 ·have e:zn base[i]=false:=by simp[zn,ha]
  rw[e,Bool.false_and]at hf
  simp(disch:=omega)
  exact hk2 hf.symm _ _ m2 (by omega) (h1.ni.cons _ rfl) (hold2 _) rfl rfl rfl
 simp(disch:=omega)
 refine(qhr base[i] hao).go fun m3 hm3=>?_
 cases hgr:base[i].args.all ww
 ·have e:zn base[i]=false:=by simp[zn,hgr]
  rw[e,Bool.false_and]at hf
  simp(disch:=omega)
  exact hk2 hf.symm _ _ m3 (by omega) (h1.ni.cons _ rfl) (hold2 _) rfl rfl rfl
 have e:zn base[i]=true:=by simp[zn,ha,hgr]
 have hG:zf base[i]:=qpu.1 e
 rw[e,Bool.true_and]at hf
 simp(disch:=omega)
 have hal:=(qdq ha).1
 refine qrk base[i] (by omega) (fun t ht hk3=>by have:=List.all_eq_true.1 hgr t ht;simp[ww,hk3]at this) _ fun m4 hm4=>?_
 dsimp only at hm4
 simp(disch:=omega)
 refine qwp ?_
 have hstrip:stripL [.ptr fo 0,.agg [.str base[i].pred,qz base[i].args,Z (-1),Nl]]=[.ptr fo 0,ve ⟨base[i],-1,[]⟩]:=by
  simp[LV.strip,stripL,qdC,List.map_map,Function.comp_def]
 rw[hstrip]
 refine qkK ⟨base[i],-1,[]⟩ hG F1 (by omega) ((m1,.cells [.str base[i].pred,qz base[i].args])::ob1) m4 own1 (h1.keep hok1 (by omega) (h1.ni.cons _ rfl) fun j hj=>qd (by omega) _ _) (by omega) fun ob2 m5 own2 hm5 h2 _=>?_
 simp(disch:=omega)[qw (show i<2^62 by omega)]
 have:=qjN F1 ⟨base[i],-1,[]⟩
 exact⟨⟨i+1,m5,ob2,zj F1 ⟨base[i],-1,[]⟩,own2⟩,by dsimp only;omega,⟨by dsimp only;omega,by dsimp only;omega,hf,hg,by dsimp only;omega,h2⟩,by simp[FT.Le,Wk],HWk.refl _,fun h=>h⟩
end
theorem qkJ(l:List qe)(hl:qbb l)(fuel:Nat)(R:Option (List (PK×Int)))(hR:(qQ l).1=0->vN l fuel (l.foldl yN [])=some R)(base:List Atom)(ownB:Own)(hb:base.length<2^63)(hok:base.length<=100->∀a∈base,a.ok)(ob:List (Nat×qc))(n:Nat)(hni:qK ob){kv kp:HP}
  (he:∀e:Int,e≠0->((qQ l).1≠0/\e=(qQ l).1\/(qQ l).1=0/\R=none/\e=81\/(qQ l).1=0/\R≠none/\100<base.length/\e=2\/(qQ l).1=0/\R≠none/\base.length<=100/\base.all zn=false/\e=1)->∀n',n<=n'->kv (.tup [.sc (.map none),.sc (.pointer none),.int e]) ⟨ob,n'⟩)
  (hv:(qQ l).1=0->∀m,R=some m->base.length<=100->base.all zn=true->∀om fo am ob' n' own',n<=n'->BasAt n ob m fo am om ob' (qaX base) own'->kv (.tup [.map om,.ptr fo 0,.int 0]) ⟨ob',n'⟩):
  cP E0 F0 133 [qF l,.sl (base.map qh) ownB] ⟨ob,n⟩ kv kp:=by
 refine ub c133 fun hH=>⟨Nat.le_of_ble_eq_true rfl,?_⟩
 simp(disch:=omega)[b133]
 refine qrD l hl fuel R hR _ (fun hc n2 hn2=>?_) (fun hc hRn n2 hn2=>?_) (fun hc m hRm o n2 ho hn2=>?_)
 ·dsimp only at hn2
  simp(disch:=omega)[hc]
  exact keep (he _ hc (.inl ⟨hc,rfl⟩) n2 hn2)
 ·dsimp only at hn2
  simp(disch:=omega)
  exact keep (he 81 (by decide) (.inr (.inl ⟨hc,hRn,rfl⟩)) n2 hn2)
 dsimp only at ho
 have hRs:R≠none:=by rw[hRm];simp
 by_cases h100:base.length<=100
 case neg=>
  have h100':(100:Int)<(base.length:Int):=by omega
  simp(disch:=omega)[h100']
  obtain⟨g1,g2⟩:=zO (l:=(o,qc.map (qO m))::ob) (n:=n2) hH (qj.cons' hH ho (by dsimp only;omega) (qj.refl' _))
  exact⟨_,g1,g2,he 2 (by decide) (.inr (.inr (.inl ⟨hc,hRs,by omega,rfl⟩))) n2 (by omega)⟩
 have h100':¬(100:Int)<(base.length:Int):=by omega
 simp(disch:=omega)[h100']
 refine wc (t':=(.nd .bot (.nd .bot (.nd .bot (.nd (.map o) .nil .nil) (.nd .bot .nil (.nd (.int base.length) .nil .nil))) (.nd .bot (.nd (.ptr (n2+1) 0) .nil .nil) .nil)) (.nd .bot (.nd .bot .nil (.nd .bot .nil (.nd (.int 0) .nil .nil))) (.nd .bot (.nd .bot .nil (.nd (.sl (base.map qh) ownB) .nil .nil)) .nil)))) (fun l h=>by cases h) (by simp[FT.Le,Wk]) (HWk.refl _) (fun h=>h) ?_
 have hold:∀i,i<n->look i ((n2+1,.cells [.map n2,Nl])::(n2,.map [])::(o,.map (qO m))::ob)=look i ob:=fun i hi=>by rw[qd (by omega),qd (by omega),qd (by omega)]
 have hB:BasAt n ob m (n2+1) n2 o ((n2+1,.cells [.map n2,Nl])::(n2,.map [])::(o,.map (qO m))::ob) [] .full:=by
  refine⟨⟨qm _ _ _,by rw[qd (by omega)];exact qm _ _ _,by omega,.inl ⟨rfl,rfl⟩⟩,by rw[qd (by omega),qd (by omega)];exact qm _ _ _,by omega,((hni.cons _ rfl).cons _ rfl).cons _ rfl,hold,⟨by omega,by omega,fun t h=>by cases h⟩,fun s hs=>by cases hs⟩
 refine qrI base ownB h100 (hok h100) _ (n2+1+1) hB (by omega) (fun hall ob2 m2 own2 hm2 h2=>?_) (fun hall t' ob2 m2 hm2 hni2 hold2 h4 h5 h6=>?_)
 ·simp(disch:=omega)
  exact keep (hv hc m hRm h100 hall o _ _ ob2 m2 own2 (by omega) h2)
 ·simp(disch:=omega)
  unfold zA
  rw[h4,h5,h6]
  exact⟨⟨ob,m2⟩,⟨Nat.le_refl _,fun i x hx=>by rw[hold2 i (hH.look hx)];exact hx⟩,fun _=>qt.mono hH (by dsimp only;omega),he 1 (by decide) (.inr (.inr (.inr ⟨hc,hRs,h100,hall,rfl⟩))) m2 (by omega)⟩
theorem qpc:∀(l:List qe)(i:Nat),(wh l i).1=0->∀c∈l,yv c
 |[],_,_,c,hc=>by cases hc
 |d::l,i,h,c,hc=>by
  unfold wh at h
  split at h
  ·cases h
  ·split at h
   ·cases h
   ·rename_i h1 h2
    rcases List.mem_cons.1 hc with rfl|hc
    ·exact⟨by simpa using h1,by simpa using h2⟩
    ·exact qpc l _ h c hc
theorem qjn{l:List qe}(h:(qQ l).1=0):∀c∈l,yv c:=by
 unfold qQ at h
 split at h
 ·cases h
 ·exact qpc l _ h
def qbx(m:List (PK×Int))(l:List qe)(base:List Atom):Option (List Stp):=qay m l ((gx 0 (m.map (·.2))).toNat+1) 0 (qaX base)
def d24a:qk:=match b95.body with
 |.seq a _=>a
 |_=>.bad
def d24b:qk:=match b95.body with
 |.seq _ (.seq a _)=>a
 |_=>.bad
def d24c:qk:=match b95.body with
 |.seq _ (.seq _ (.seq a _))=>a
 |_=>.bad
def d24d:qk:=match b95.body with
 |.seq _ (.seq _ (.seq _ (.seq a _)))=>a
 |_=>.bad
theorem qwD:b95.body=.seq d24a (.seq d24b (.seq d24c (.seq d24d (.seq l42 r42)))):=rfl
theorem oneN:(Value.pointer none).oneCell'=true:=rfl
def zW(l:List qe)(R:Option (List (PK×Int)))(base:List Atom):Int:=
 if (qQ l).1≠0 then (qQ l).1 else if R=none then 81 else if 100<base.length then 2 else if base.all zn then 0 else 1
theorem qro(l:List qe)(hl:qbb l)(fuel:Nat)(R:Option (List (PK×Int)))(hR:(qQ l).1=0->vN l fuel (l.foldl yN [])=some R)(hRb:(qQ l).1=0->∀m,R=some m->0<=gx 0 (m.map (·.2))/\gx 0 (m.map (·.2))<=2^30)
  (base:List Atom) (ownB:Own) (hb:base.length<2^63) (hok:base.length<=100->∀a∈base,a.ok) (ob:List (Nat×qc)) (n:Nat) (hni:qK ob) {kv kp:HP}
  (he:∀e:Int,e≠0->(e=zW l R base\/zW l R base=0/\(∃m,R=some m/\qbx m l base=none)/\e=2)->∀n',n<=n'->kv (.tup [.sc (.pointer none),.int e]) ⟨ob,n'⟩)
  (hv:zW l R base=0->∀m F,R=some m->qbx m l base=some F->F.length<=300->∀om fo am ob' n' own',n<=n'->BasAt n ob m fo am om ob' F own'->kv (.tup [.ptr fo 0,.int 0]) ⟨ob',n'⟩):
  cP E0 F0 95 [qF l,.sl (base.map qh) ownB] ⟨ob,n⟩ kv kp:=by
 refine qdn c95 (Nat.le_of_ble_eq_true rfl) fun hH=>?_
 rw[qwD]
 simp(disch:=omega)
 refine yA (zD ?_)
 simp(disch:=omega)[d24a,b95]
 refine yA (zD ?_)
 simp(disch:=omega)[d24b,b95]
 refine qkJ l hl fuel R hR base ownB hb hok ob n hni (fun e he0 hwhy n2 hn2=>?_) (fun hc m hRm h100 hall om fo am ob2 n2 own2 hn2 h2=>?_)
 ·have heE:e=zW l R base:=by
   unfold zW
   rcases hwhy with⟨h1,h2⟩|⟨h1,h2,h3⟩|⟨h1,h2,h3,h4⟩|⟨h1,h2,h3,h4,h5⟩
   ·rw[if_pos h1];exact h2
   ·rw[if_neg (by omega),if_pos h2];exact h3
   ·rw[if_neg (by omega),if_neg h2,if_pos h3];exact h4
   ·rw[if_neg (by omega),if_neg h2,if_neg (by omega),if_neg (by simp[h4])];exact h5
  simp(disch:=omega)[oneN]
  refine yA (zD ?_)
  simp(disch:=omega)[d24c,b95,he0]
  obtain⟨g1,g2⟩:=zO (l:=(n2,qc.cells [.sc (.pointer none)])::ob) (n:=n2+1) hH (qj.cons' hH hn2 (by dsimp only;omega) (qj.refl' _))
  exact⟨_,g1,g2,he e he0 (.inl heE) (n2+1) (by omega)⟩
 ·have hbz:zW l R base=0:=by
   unfold zW
   rw[if_neg (by omega),if_neg (by rw[hRm];simp),if_neg (by omega),if_pos hall]
  obtain⟨hM0,hM1⟩:=hRb hc m hRm
  simp(disch:=omega)
  refine yA (zD ?_)
  simp(disch:=omega)[d24c,b95]
  refine yA (zD ?_)
  simp(disch:=omega)[d24d,b95]
  refine qnb fun hok2=>?_
  have hokB:qa.Ok ⟨ob2,n2⟩:=hok2.2
  have hlv:look om ((n2,qc.cells [.ptr fo 0])::ob2)=some (.map ((m.map fun e=>(ur e.1,e.2)).map fun e=>(e.1,.int e.2))):=by
   rw[List.map_map,qd]
   ·exact h2.lev
   ·have:=hokB.look h2.lev
    dsimp only at this
    omega
  refine wc (t':=(.nd (qF l) (.nd .bot (.nd .bot (.nd (.ptr n2 0) .nil .nil) .nil) (.nd .bot (.nd (.int 0) .nil .nil) .nil)) (.nd .bot .nil (.nd (.map om) .nil .nil)))) (fun l h=>by cases h) (by simp[FT.Le,Wk]) (HWk.refl _) (fun h=>h) ?_
  refine yA (qiA (qtN (qF l) (.ptr n2 0) om (m.map fun e=>(ur e.1,e.2)) 0 ⟨(n2,qc.cells [.ptr fo 0])::ob2,n2+1⟩ hlv) ?_)
  rintro e t' H' ⟨rfl,ht,hw,hokw⟩
  rw[List.map_map,show ((fun e:LV×Int=>e.2)∘fun e:PK×Int=>(ur e.1,e.2))=fun e=>e.2 from rfl]at ht
  obtain⟨N,hN⟩:∃N:Nat,gx 0 (m.map (·.2))=(N:Int):=⟨(gx 0 (m.map (·.2))).toNat,by omega⟩
  have hdd:qbx m l base=qay m l (N+1) 0 (qaX base):=by
   unfold qbx
   rw[hN];rfl
  rw[hN]at ht hM1
  show lP E0 F0 r42 t' H' _
  refine wc (fun l h=>by cases h) ht hw hokw ?_
  refine zD ?_
  simp(disch:=omega)[r42,b95,qw (show N<2^62 by omega)]
  refine wc (t':=(.nd (qF l) (.nd .bot (.nd .bot (.nd (.ptr n2 0) .nil (.nd .bot (.nd (.int (N+1:Nat)) .nil .nil) .nil)) .nil) .nil) (.nd .bot (.nd .bot (.nd .bot .nil (.nd .bot (.nd (.int 0) .nil .nil) .nil)) .nil) (.nd (.map om) .nil .nil)))) (fun l h=>by cases h) (by simp[FT.Le,Wk]) (HWk.refl _) (fun h=>h) ?_
  have hcg:=qjn hc
  have hll:=(qfv hc).1
  have hbl:(qaX base).length<=300:=by
   have:=qfB (base.map fun a=>(⟨a,-1,[]⟩:Stp)) []
   rw[List.length_map,List.length_nil]at this
   unfold qaX
   omega
  refine qqT (n0:=n) (ob0:=ob) (M:=m) (am:=am) l (by omega) hcg (N+1) (by omega) (qaX base) hbl _ (n2+1+1) own2 ⟨?_,qm _ _ _⟩ (by omega) (fun F' hF' ob3 m3 own3 hm3 hl3 h3=>?_) (fun hF' t' ob3 m3 hm3 hni3 hold3 h4 h5=>?_)
  ·exact h2.keep hokB (by omega) (h2.ni.cons _ rfl) fun j hj=>qd (by omega) _ _
  ·have c7:=h3.cell
   simp(disch:=omega)[c7]
   exact keep (hv hbz m F' hRm (by rw[hdd];exact hF') hl3 om fo am ob3 m3 own3 (by omega) h3.toBasAt)
  ·simp(disch:=omega)
   unfold zA
   rw[h4,h5]
   exact⟨⟨ob,m3⟩,⟨Nat.le_refl _,fun i x hx=>by rw[hold3 i (hH.look hx)];exact hx⟩,fun _=>qt.mono hH (by dsimp only;omega),he 2 (by decide) (.inr ⟨hbz,⟨m,hRm,by rw[hdd];exact hF'⟩,rfl⟩) m3 (by omega)⟩
theorem qwY(l:List (Nat×qc))(m:Nat)(x:Atom)(ow:Own):wl ⟨l,m⟩ 2 (.sl [] .full) (.sl [qh x] ow)=some (.asl m 0 1,⟨(m,wj [x])::l,m+1⟩):=rfl
theorem qxb{l:List (Nat×qc)}{m o:Nat}{A:List Atom}(x:Atom)(ow:Own)(hl:look o l=some (wj A))(hA:A.length<=2^20):
  wl ⟨l,m⟩ 2 (.asl o 0 A.length) (.sl [qh x] ow)=some (.asl m 0 (A.length+1),⟨(m,wj (A++[x]))::zB o l,m+1⟩):=by
 have h1:=qdV A
 have h2:wK ⟨l,m⟩ 2 (.asl o 0 A.length)=some (A.flatMap yG,⟨zB o l,m⟩,A.length):=by
  simp only[wK,hl]
  rw[if_pos ⟨trivial,by rw[h1];exact Nat.le_refl _⟩,<-h1,List.take_length]
  rfl
 have h3:qbn ⟨l,m⟩ 2 (.sl [qh x] ow)=some (yG x,1):=rfl
 unfold wl
 rw[h2,h3]
 simp only
 rw[if_neg (by omega),if_pos ⟨by omega,by omega⟩]
 simp[qa.alloc,List.flatMap_append,LV.cells]
def qwR:qk:=match b97.body with
 |.seq _ (.seq _ (.seq (.seq _ (.blk _ l)) _))=>l
 |_=>.bad
structure NNAt where
 i:Nat
 n:Nat
 M:Nat
def atV(M:Nat):Nat->LV
 |0=>Nl
 |i+1=>.asl M 0 (i+1)
def atH(M:Nat)(A:List Atom)(ob:List (Nat×qc)):List (Nat×qc):=match A with
 |[]=>ob
 |A=>(M,wj A)::ob
theorem qjC{M:Nat}{A:List Atom}{ob:List (Nat×qc)}(h:A≠[]):atH M A ob=(M,wj A)::ob:=by
 cases A with
 |nil=>exact absurd rfl h
 |cons a A=>rfl
theorem qpS:IntKind.wrap .i64 1=1:=by have:=qw (show 0<2^62 by omega);simpa using this
theorem qrM(F:List Stp)(hF:F.length<=2^19)(own:Own)(ob:List (Nat×qc))(n:Nat)(hOb:qt ob n){KX:XP}
  (hk:∀M m,(F≠[]->n<=M/\M<m)->n<=m->KX (.exit 0) ((.nd .bot (.nd .bot (.nd (atV M F.length) .nil (.nd (.int F.length) .nil .nil)) (.nd .bot (.nd (.sl (F.map ve) own) .nil .nil) .nil)) (.nd .bot (.nd .bot .nil (.nd (.sc (.bool false)) .nil .nil)) (.nd .bot (.nd (.int F.length) .nil .nil) .nil)))) ⟨atH M (F.map Stp.atom) ob,m⟩):
  lP E0 F0 qwR ((.nd .bot (.nd .bot (.nd (Nl) .nil (.nd (.int 0) .nil .nil)) (.nd .bot (.nd (.sl (F.map ve) own) .nil .nil) .nil)) (.nd .bot .nil (.nd .bot (.nd (.int F.length) .nil .nil) .nil)))) ⟨ob,n⟩ KX:=by
 obtain⟨L,hL⟩:∃L,F.map Stp.atom=L:=⟨_,rfl⟩
 have hLl:L.length=F.length:=by rw[<-hL,List.length_map]
 have hLg:∀i (h:i<F.length),L[i]? = some F[i].atom:=fun i h=>by rw[<-hL,List.getElem?_map,List.getElem?_eq_getElem h];rfl
 rw[hL]at hk
 refine qE (σ:=NNAt) (fun q=>(.nd .bot (.nd .bot (.nd (atV q.M q.i) .nil (.nd (.int q.i) .nil .nil)) (.nd .bot (.nd (.sl (F.map ve) own) .nil .nil) .nil)) (.nd .bot .nil (.nd .bot (.nd (.int F.length) .nil .nil) .nil)))) (fun q=>⟨atH q.M (L.take q.i) ob,q.n⟩) (fun q=>F.length - q.i)
  (fun q=>q.i<=F.length/\n<=q.n/\(0<q.i->n<=q.M/\q.M<q.n)) ⟨0,n,0⟩ ⟨Nat.zero_le _,Nat.le_refl _,fun h=>absurd h (by simp)⟩ (by simp[FT.Le,Wk,atV]) ⟨HWk.refl _,fun h=>h⟩ ?_
 rintro⟨i,m,M⟩ ⟨hi,hm,hM⟩ hok
 dsimp only at hi hm hM hok
 by_cases hlt:i<F.length
 case neg=>
  obtain rfl:i=F.length:=by omega
  have ht:L.take F.length=L:=by rw[<-hLl,List.take_length]
  dsimp only
  rw[ht]
  simp(disch:=omega)
  exact hk M m (fun hne=>hM (List.length_pos_iff.2 hne)) hm
 have htk:L.take (i+1)=L.take i++[F[i].atom]:=by
  rw[List.take_add_one,hLg i hlt]
  rfl
 by_cases hi0:i=0
 ·subst hi0
  dsimp only[atV,List.take_zero,atH]
  simp(disch:=omega)[hlt]
  refine qcA ?_
  simp(disch:=omega)[qwY]
  have h1:L.take 1=[F[0].atom]:=by rw[htk];simp
  refine⟨⟨1,m+1+1,m+1⟩,by dsimp only;omega,⟨by dsimp only;omega,by dsimp only;omega,fun _=>⟨by dsimp only;omega,by dsimp only;omega⟩⟩,by simp[FT.Le,Wk,atV,qpS],?_⟩
  dsimp only
  rw[h1]
  exact⟨qbu (hOb.mono hm) fun _ _ h=>h,fun _=>⟨Nat.lt_succ_self _,hOb.mono (by omega)⟩⟩
 ·obtain⟨hM1,hM2⟩:=hM (by omega)
  obtain⟨A,hA⟩:∃A,L.take i=A:=⟨_,rfl⟩
  have hAl:A.length=i:=by rw[<-hA,List.length_take];omega
  have hAne:A≠[]:=fun e=>by rw[e]at hAl;simp at hAl;omega
  rw[hA]at htk
  have hv:atV M i=.asl M 0 A.length:=by
   rw[hAl]
   obtain⟨j,rfl⟩:∃j,i=j+1:=⟨i - 1,by omega⟩
   rfl
  rw[hv,hA,qjC hAne]
  simp(disch:=omega)[hlt]
  refine qcA ?_
  simp(disch:=omega)
  have hap:=qxb (l:=(m,.cells (qeC F[i]))::(M,wj A)::ob) (m:=m+1) (o:=M) F[i].atom .full (by rw[qd (by omega)];exact qm _ _ _) (by omega)
  have hdel:zB M ((m,.cells (qeC F[i]))::(M,wj A)::ob)=(m,.cells (qeC F[i]))::ob:=by
   have hb:zB M ob=ob:=qgU (H:=⟨ob,n⟩) hOb hM1
   simp only[zB]
   rw[if_neg (by omega),if_pos trivial,hb]
  rw[hdel]at hap
  rw[hap]
  simp(disch:=omega)[qw (show i<2^62 by omega)]
  refine⟨⟨i+1,m+1+1,m+1⟩,by dsimp only;omega,⟨by dsimp only;omega,by dsimp only;omega,fun _=>⟨by dsimp only;omega,by dsimp only;omega⟩⟩,by simp[FT.Le,Wk,atV,hAl],?_⟩
  dsimp only
  rw[htk,qjC (by simp)]
  exact⟨qbu (hOb.mono hm) fun _ _ h=>h,fun _=>⟨Nat.lt_succ_self _,hOb.mono (by omega)⟩⟩
theorem qra:qg 224 [.sl [] .full,.int 0,.int 0,.fn (.func 96) [] []] (.tup []):=by
 refine qg.of c224 fun H hH=>⟨Nat.le_of_ble_eq_true rfl,?_⟩
 simp(disch:=omega)[b224,yX]
 refine qbr ?_
 simp(disch:=omega)[qS]
 exact qq hH (by simp[])
theorem qqP(lim:Int):qg 195 [.sl [] .full,.int 0,.int 0,.int lim,.fn (.func 96) [] []] (.tup []):=by
 refine qg.of c195 fun H hH=>⟨Nat.le_of_ble_eq_true rfl,?_⟩
 simp(disch:=omega)[b195,yX]
 refine qbr ?_
 simp(disch:=omega)[yX]
 refine qra.go fun n hn=>?_
 simp(disch:=omega)[qS]
 exact qq hH (by simp[])
theorem qqD:qg 158 [.sl [] .full,.fn (.func 96) [] []] (.tup []):=by
 refine qg.of c158 fun H hH=>⟨Nat.le_of_ble_eq_true rfl,?_⟩
 have w0:IntKind.wrap .u64 0=0:=qjV (Nat.zero_le 12)
 simp(disch:=omega)[b158,yX,w0]
 refine(qkI 0 (by omega) (by omega)).go fun n hn=>?_
 simp(disch:=omega)
 refine(qqP _).go fun n hn=>?_
 simp(disch:=omega)[qS]
 exact qq hH (by simp[])
def qpC:qk:=match b97.body with
 |.seq a _=>a
 |_=>.bad
def qpB:qk:=match b97.body with
 |.seq _ (.seq a _)=>a
 |_=>.bad
def qpA:qk:=match b97.body with
 |.seq _ (.seq _ (.seq a _))=>a
 |_=>.bad
def qjD:qk:=match b97.body with
 |.seq _ (.seq _ (.seq _ r))=>r
 |_=>.bad
theorem qwC:b97.body=.seq qpC (.seq qpB (.seq qpA qjD)):=rfl
theorem zf.argsLen{a:Atom}(h:zf a):a.args.length<2^40:=by have:=(qdq h.1).1;omega
theorem qrJ(F:List Stp)(hF:F.length<=2^19)(hFg:∀s∈F,zf s.atom)(fo am:Nat)(own:Own)(ob:List (Nat×qc))(n:Nat)(h:ud ob fo am F own){kv kp:HP}
  (hk0:F=[]->∀n',n<=n'->kv Nl ⟨ob,n'⟩)
  (hk1:F≠[]->∀(B:List Atom)(M n':Nat),B.Perm (F.map Stp.atom)->(B.Pairwise fun x y=>¬cmpA y x<0)->n<=M->M<n'->kv (.asl M 0 B.length) ⟨(M,wj B)::ob,n'⟩):
  cP E0 F0 97 [.ptr fo 0] ⟨ob,n⟩ kv kp:=by
 refine qdn c97 (Nat.le_of_ble_eq_true rfl) fun hH=>?_
 rw[qwC]
 simp(disch:=omega)
 refine yA (zD ?_)
 simp(disch:=omega)[qpC,b97]
 refine yA (zD ?_)
 simp(disch:=omega)[qpB,b97]
 refine yA (zD ?_)
 simp(disch:=omega)[qpA,b97,h.pair]
 refine wc (t':=(.nd .bot (.nd .bot (.nd (Nl) .nil (.nd (.int 0) .nil .nil)) (.nd .bot (.nd (.sl (F.map ve) own) .nil .nil) .nil)) (.nd .bot .nil (.nd .bot (.nd (.int F.length) .nil .nil) .nil)))) (fun l h=>by cases h) (by simp[FT.Le,Wk]) (HWk.refl _) (fun h=>h) ?_
 refine qrM F hF own ob n hH fun M m hM hm=>?_
 simp(disch:=omega)
 by_cases hne:F=[]
 ·subst hne
  refine zD ?_
  simp(disch:=omega)[qjD,b97,atV,atH]
  refine(qqD).go fun n2 hn2=>?_
  simp(disch:=omega)[ue]
  exact keep (hk0 rfl n2 (by omega))
 ·obtain⟨hM1,hM2⟩:=hM hne
  have hne2:F.map Stp.atom≠[]:=by simpa using hne
  have hl:(F.map Stp.atom).length=F.length:=List.length_map _
  have hv:atV M F.length=.asl M 0 (F.map Stp.atom).length:=by
   rw[hl]
   obtain⟨j,hj⟩:∃j,F.length=j+1:=⟨F.length - 1,by have:=List.length_pos_iff.2 hne;omega⟩
   rw[hj];rfl
  rw[hv,qjC hne2]
  obtain⟨L,hL⟩:∃L,F.map Stp.atom=L:=⟨_,rfl⟩
  rw[hL]at hk1 hl ⊢
  refine zD ?_
  simp(disch:=omega)[qjD,b97]
  refine qqG L (fun a ha=>?_) M _ _ (qm _ _ _) (by omega) fun B hB hBs=>?_
  ·rw[<-hL]at ha
   obtain⟨s,hs,rfl⟩:=List.mem_map.1 ha
   exact(hFg s hs).argsLen
  ·rw[show L.length=B.length from hB.length_eq.symm]
   simp(disch:=omega)[ue]
   exact keep (hk1 hne B M m hB hBs hM1 hM2)
theorem qoY:∀A:List Atom,wg 2 A.length (A.flatMap yG)=A.map qh
 |[]=>rfl
 |x::A=>by
  have ih:=qoY A
  rw[List.length_cons,List.flatMap_cons]
  show qdL ((yG x++A.flatMap yG).take 2)::wg 2 A.length ((yG x++A.flatMap yG).drop 2)=_
  rw[show (yG x++A.flatMap yG).take 2=yG x from List.take_left (l₁:=yG x),show (yG x++A.flatMap yG).drop 2=A.flatMap yG from List.drop_left (l₁:=yG x),ih]
  rfl
theorem frzAt{H:qa}{A:List Atom}{o:Nat}(hl:look o H.objs=some (wj A)):qah H [o] o 0 A.length=.sl (A.map qh) .no:=by
 unfold qah
 have h1:=qdV A
 simp only[List.contains_cons,BEq.rfl,Bool.true_or,if_true,hl]
 rw[if_pos (by rw[h1];omega)]
 rw[Nat.zero_mul,List.drop_zero,qoY]
theorem qrK(F:List Stp)(hF:F.length<=2^19)(hFg:∀s∈F,zf s.atom)(fo am:Nat)(own:Own)(ob:List (Nat×qc))(n:Nat)(h:ud ob fo am F own){kv kp:HP}
  (hk:∀(B:List Atom)(ow:Own)(n':Nat),B.Perm (F.map Stp.atom)->(B.Pairwise fun x y=>¬cmpA y x<0)->n<=n'->kv (.sl (B.map qh) ow) ⟨ob,n'⟩):
  cP E0 F0 97 [.ptr fo 0] ⟨ob,n⟩ kv kp:=by
 intro hH
 have h1:=qrJ (kv:=fun v H'=>(F=[]/\v=Nl/\∃n',n<=n'/\H'=⟨ob,n'⟩)\/∃B M n',B.Perm (F.map Stp.atom)/\(B.Pairwise fun x y=>¬cmpA y x<0)/\n<=M/\M<n'/\v=.asl M 0 B.length/\H'=⟨(M,wj B)::ob,n'⟩) (kp:=fun _ _=>False)
  F hF hFg fo am own ob n h (fun he n' hn=>.inl ⟨he,rfl,n',hn,rfl⟩) (fun _ B M n' hB hBs hM hn=>.inr ⟨B,M,n',hB,hBs,hM,hn,rfl,rfl⟩) hH
 refine .frz (fun v _=>match v with|.asl o _ _=>[o]|_=>[]) h1 (fun v H' hT=>?_) (fun v H' hT=>?_)
 ·rcases hT with⟨u,H2,he,hok,hT⟩|⟨u,H2,he,hok,hf⟩
  ·cases he
   rcases hT with⟨rfl,rfl,n',hn,rfl⟩|⟨B,M,n',hB,hBs,hM,hn,rfl,rfl⟩
   ·exact⟨⟨ob,n'⟩,⟨Nat.le_refl _,fun i x hx=>(qcs (L:=[]) rfl).trans hx⟩,.inl ⟨_,_,rfl,qt.mono hH hn,hk [] .full n' (.refl _) .nil hn⟩⟩
   ·refine⟨⟨ob,n'⟩,⟨Nat.le_refl _,fun i x hx=>?_⟩,.inl ⟨_,_,rfl,qt.mono hH (by dsimp only;omega),?_⟩⟩
    ·have:=hH.look hx
     dsimp only at this
     have e1:look i (vx [M] ((M,wj B)::ob))=look i ((M,wj B)::ob):=qcs (by simp;omega)
     show look i (vx [M] ((M,wj B)::ob))=some x
     rw[e1,qd (by omega)]
     exact hx
    ·have:=hk B .no n' hB hBs (by omega)
     have e:qah ⟨(M,wj B)::ob,n'⟩ [M] M 0 B.length=.sl (B.map qh) .no:=frzAt (qm _ _ _)
     simpa [zL,e] using this
  ·cases he
 ·rcases hT with⟨u,H2,he,hok,hT⟩|⟨u,H2,he,hok,hf⟩
  ·cases he
  ·exact hf.elim
end Go.Abs.Tz
namespace Go.Abs.Tz
open Go Go.Abs Go.Proofs
end Go.Abs.Tz
namespace Go.Abs.Tz
open Go Go.Abs Go.Proofs
set_option maxRecDepth 20000
set_option linter.unusedSimpArgs false
attribute [local simp ↓] gF gD uZ uY gd zX qW zk uX zU yq yr gG gI gJ gH jd jg jj je jk jl jh ji jf jb u9 jc ja yo ym yp yn gA gy gC gz gM gK gL ue zz jm qS jn gg yt yu gQ gT gS gN gO g8 jp jw jz jv jx jy j5 j3 jF jH uH uE uS uV uF uN uR uQ uP uO uL uA uB uC uD uT uJ uK uy uU uW uG uI uM uz jL jG jY j8 jI jT jX jW jV jU jR jD j0 jP jQ jA j7 j9 jJ jN jS jB gb j6 jC ga jO jK jM jE jZ jq ju jr gY g7 gW gZ g6 qm uo
attribute [local simp] faL fdL iaL ixL za q9 qN eqK eqL qL ze ut gV yk g9 yb yd yf yh yj ya ye yc yg zr LV.cells LV.whole qm uf zK jo stL zw zF zV qa.alloc ge gc gf gw gv gu gt gq gp gk gj gi gh qd ug
structure qem(l:List qe)(fuel:Nat)(R:Option (List (PK×Int)))(base:List Atom):Prop where
 hl:qbb l
 hR:(qQ l).1=0->vN l fuel (l.foldl yN [])=some R
 hRb:(qQ l).1=0->∀m,R=some m->0<=gx 0 (m.map (·.2))/\gx 0 (m.map (·.2))<=2^30
 hb:base.length<2^63
 hok:base.length<=100->∀a∈base,a.ok
def zQ(l:List qe)(R:Option (List (PK×Int)))(base:List Atom):Int:=if zW l R base≠0 then zW l R base else match R with
 |none=>81
 |some m=>if (qbx m l base).isNone then 2 else 0
def wS(l:List qe)(R:Option (List (PK×Int)))(base:List Atom):List Stp:=match R with
 |none=>[]
 |some m=>(qbx m l base).getD []
theorem qkD{l:List qe}{fuel:Nat}{R:Option (List (PK×Int))}{base:List Atom}(hI:qem l fuel R base)(ownB:Own)(ob:List (Nat×qc))(n:Nat)(hni:qK ob){kv kp:HP}
  (he:zQ l R base≠0->∀n',n<=n'->kv (.tup [.sc (.pointer none),.int (zQ l R base)]) ⟨ob,n'⟩)
  (hv:zQ l R base=0->(wS l R base).length<=300->(∀s∈wS l R base,zf s.atom)->∀fo am ob' n' own',n<=n'->ud ob' fo am (wS l R base) own'->qK ob'->(∀i,i<n->look i ob'=look i ob)->kv (.tup [.ptr fo 0,.int 0]) ⟨ob',n'⟩):
  cP E0 F0 95 [qF l,.sl (base.map qh) ownB] ⟨ob,n⟩ kv kp:=by
 refine qro l hI.hl fuel R hI.hR hI.hRb base ownB hI.hb hI.hok ob n hni (fun e he0 hwhy n' hn'=>?_) (fun hz m F hRm hd hFl om fo am ob' n' own' hn' hB=>?_)
 ·have:e=zQ l R base:=by
   unfold zQ
   rcases hwhy with h|⟨h1,⟨m,h2,h3⟩,h4⟩
   ·rw[if_pos (by rw[<-h];exact he0)];exact h
   ·rw[if_neg (by omega),h2]
    simp only[h3]
    exact h4
  subst this
  exact he he0 n' hn'
 ·have e1:zQ l R base=0:=by
   unfold zQ
   rw[if_neg (by omega),hRm]
   simp[hd]
  have e2:wS l R base=F:=by
   unfold wS
   rw[hRm]
   simp[hd]
  rw[e2]at hv
  exact hv e1 hFl hB.g fo am ob' n' own' hn' hB.facts hB.ni hB.old
theorem qde{ob ob':List (Nat×qc)}{n n' m:Nat}(hH:qa.Ok ⟨ob,n⟩)(h:∀i,i<n->look i ob'=look i ob)(hm:n'<=m):HWk ⟨ob',m⟩ ⟨ob,m⟩:=⟨Nat.le_refl _,fun i x hx=>by rw[h i (hH.look hx)];exact hx⟩
def qpL(F:List Stp)(B:List Atom):Prop:=B.Perm (F.map Stp.atom)/\B.Pairwise fun x y=>¬cmpA y x<0
theorem qrR{l:List qe}{fuel:Nat}{R:Option (List (PK×Int))}{base:List Atom}(hI:qem l fuel R base)(ownB:Own)(ob:List (Nat×qc))(n:Nat)(hni:qK ob){kv kp:HP}
  (he:zQ l R base≠0->∀n',n<=n'->kv (.tup [Nl,.int (zQ l R base)]) ⟨ob,n'⟩)
  (hv:zQ l R base=0->∀(B:List Atom)(ow:Own) n',qpL (wS l R base) B->n<=n'->kv (.tup [.sl (B.map qh) ow,.int 0]) ⟨ob,n'⟩):
  cP E0 F0 79 [qF l,.sl (base.map qh) ownB] ⟨ob,n⟩ kv kp:=by
 refine ub c79 fun hH=>⟨Nat.le_of_ble_eq_true rfl,?_⟩
 simp(disch:=omega)[b79]
 refine qkD hI ownB ob n hni (fun h0 n' hn'=>?_) (fun h0 hlen hg fo am ob' n' own' hn' hF hni' hold=>?_)
 ·simp(disch:=omega)[h0,zz]
  exact keep (he h0 n' hn')
 ·simp(disch:=omega)
  refine qrK _ (by omega) hg fo am own' ob' n' hF fun B ow n2 hB hBs hn2=>?_
  simp(disch:=omega)[zz]
  exact⟨⟨ob,n2⟩,qde hH hold (Nat.le_refl _),fun _=>qt.mono hH (by dsimp only;omega),hv h0 B ow n2 ⟨hB,hBs⟩ (by omega)⟩
theorem qrS{l:List qe}{fuel:Nat}{R:Option (List (PK×Int))}{base:List Atom}(hI:qem l fuel R base)(ownB:Own)(a:Atom)(ha:a.ok)(ob:List (Nat×qc))(n:Nat)(hni:qK ob){kv kp:HP}
  (he:zQ l R base≠0->∀n',n<=n'->kv (.tup [.bool false,.int (zQ l R base)]) ⟨ob,n'⟩)
  (hb:zQ l R base=0->zn a=false->∀n',n<=n'->kv (.tup [.bool false,.int 1]) ⟨ob,n'⟩)
  (hv:zQ l R base=0->zn a=true->∀n',n<=n'->kv (.tup [.bool (zh (qG a) (wS l R base)),.int 0]) ⟨ob,n'⟩):
  cP E0 F0 38 [qF l,.sl (base.map qh) ownB,qh a] ⟨ob,n⟩ kv kp:=by
 refine ub c38 fun hH=>⟨Nat.le_of_ble_eq_true rfl,?_⟩
 simp(disch:=omega)[b38]
 have hold0:∀(x:qc) i,i<n->look i ((n,x)::ob)=look i ob:=fun x i hi=>qd (by omega) _ _
 refine qkD hI ownB _ _ (hni.cons _ rfl) (fun h0 n' hn'=>?_) (fun h0 hlen hg fo am ob' n' own' hn' hF hni' hold=>?_)
 ·simp(disch:=omega)[h0,zz]
  exact⟨⟨ob,n'⟩,qde hH (hold0 _) (Nat.le_refl _),fun _=>qt.mono hH (by dsimp only;omega),he h0 n' (by omega)⟩
 have hl0:look n ob'=some (.cells [.str a.pred,qz a.args]):=by rw[hold n (by omega)];exact qm _ _ _
 have hold2:∀i,i<n->look i ob'=look i ob:=fun i hi=>by rw[hold i (by omega),hold0 _ i hi]
 have fin:∀(m:Nat)(v:LV),n<=m->kv v ⟨ob,m⟩->∃H'',HWk ⟨ob',m⟩ H''/\(qa.Ok ⟨ob',m⟩->H''.Ok)/\kv v H'':=fun m v hm hk=>⟨⟨ob,m⟩,qde hH hold2 (Nat.le_refl _),fun _=>qt.mono hH hm,hk⟩
 simp(disch:=omega)[hl0]
 refine(qeA a ha).go fun n1 hn1=>?_
 cases hf:qR a
 ·have e:zn a=false:=by simp[zn,hf]
  simp(disch:=omega)[hl0,zz]
  exact fin n1 _ (by omega) (hb h0 e n1 (by omega))
 simp(disch:=omega)[hl0]
 refine(qhr a ha).go fun n2 hn2=>?_
 cases hg2:a.args.all ww
 ·have e:zn a=false:=by simp[zn,hg2]
  simp(disch:=omega)[hl0,zz]
  exact fin n2 _ (by omega) (hb h0 e n2 (by omega))
 have e:zn a=true:=by simp[zn,hf,hg2]
 simp(disch:=omega)[hl0,hF.pair]
 refine(qfQ a hf).go fun n3 hn3=>?_
 simp(disch:=omega)[hl0,hF.pair]
 rw[lkM hF.map]
 have hh:zh (qG a) (wS l R base)=(vj (qG a) (y8 (wS l R base) 0)).isSome:=rfl
 cases hl:vj (qG a) (y8 (wS l R base) 0) with
 |some v=>
  rw[hh,hl]at hv
  simp(disch:=omega)[hl0,hF.pair,zz]
  exact fin n3 _ (by omega) (hv h0 e n3 (by omega))
 |none=>
  rw[hh,hl]at hv
  simp(disch:=omega)[hl0,hF.pair,zz]
  exact fin n3 _ (by omega) (hv h0 e n3 (by omega))
def qaT(c:qe)(l:List Atom):List Lit->qv->List Atom
 |[],K=>if qdD l K c.body then [zm K c.head] else []
 |x::r,K=>if x.kind=1 then l.flatMap fun a=>match vy K x.atom a with
   |some R=>qaT c l r R
   |none=>[]
  else qaT c l r K
theorem qmc(x:Lit)(r:List Lit):qT (x::r)=if x.kind=1 then x.atom::qT r else qT r:=by
 unfold qT
 rw[List.filter_cons]
 by_cases h:x.kind=1<;>simp[h]
theorem qnU{α β:Type}(f:α->List β)(M:Nat):∀(l:List α),(∀a∈l,(f a).length<=M)->(l.flatMap f).length<=l.length*M
 |[],_=>by simp
 |a::l,h=>by
  have h1:=h a List.mem_cons_self
  have h2:=qnU f M l fun b hb=>h b (List.mem_cons_of_mem _ hb)
  rw[List.flatMap_cons,List.length_append,List.length_cons,Nat.add_mul]
  omega
theorem vA.old{H:qa}{sz len:Nat}{own:Own}{ob:List (Nat×qc)}{n:Nat}(h:vA H sz len own ob n):H.next<=n/\∀i,i<H.next->look i ob=look i H.objs:=by
 rcases h with⟨_,rfl,h⟩|⟨t,_,h1,h2,rfl⟩
 ·exact⟨h,fun _ _=>rfl⟩
 ·exact⟨by omega,fun i hi=>qd (by omega) _ _⟩
theorem qrV(l:List Atom)(ow:Own):Wk (.sl (l.map qh) ow) (.sl (l.map qh) .no):=by
 refine .inr (.inl ?_)
 simp[LV.strip,stripL,qdC,List.map_map,Function.comp_def]
def vq:List Atom->Atom->Nat
 |[],_=>0
 |x::r,a=>if cmpA x a<0 then vq r a+1 else 0
theorem qid:∀(l:List Atom)(a:Atom),vq l a<=l.length
 |[],_=>Nat.le_refl _
 |x::r,a=>by
  unfold vq
  have:=qid r a
  split<;>simp<;>omega
def yy(l:List Atom)(a:Atom):List Atom:=match l[vq l a]? with
 |some x=>if cmpA x a=0 then l else l.take (vq l a)++[a]++l.drop (vq l a)
 |none=>l.take (vq l a)++[a]++l.drop (vq l a)
def vY:List Atom->List Atom->List Atom
 |out,[]=>out
 |out,a::r=>if out.length<=300 then vY (yy out a) r else out
def wq(q:List (PK×Int))(lev:Int):List qe->List Atom->List Atom
 |[],out=>out
 |c::r,out=>if qp q (ofA c.head)=lev then wq q lev r (vY out (qaT c out c.body [])) else wq q lev r out
def vZ(q:List (PK×Int))(lev:Int)(l:List qe):Nat->List Atom->List Atom
 |0,out=>out
 |k+1,out=>if out.length<=300 then (if (wq q lev l out).length=out.length then wq q lev l out else vZ q lev l k (wq q lev l out)) else out
def qck(q:List (PK×Int))(l:List qe):Nat->Nat->List Atom->List Atom
 |0,_,out=>out
 |k+1,v,out=>qck q l k (v+1) (vZ q v l 302 out)
def qbF(q:List (PK×Int))(l:List qe)(base:List Atom):List Atom:=qck q l (q.length+1) 0 (base.foldl yy [])
theorem qlV(l:List Atom)(a:Atom):l.length<=(yy l a).length/\(yy l a).length<=l.length+1:=by
 unfold yy
 have h:=qid l a
 split
 ·split
  ·omega
  ·simp;omega
 ·simp;omega
theorem qhX{l:List Atom}{a x:Atom}(h:x∈yy l a):x∈l\/x=a:=by
 unfold yy at h
 have key:∀P:Nat,x∈l.take P++[a]++l.drop P->x∈l\/x=a:=fun P h=>by
  rcases List.mem_append.1 h with h|h
  ·rcases List.mem_append.1 h with h|h
   ·exact .inl (List.mem_of_mem_take h)
   ·simp at h;exact .inr h
  ·exact .inl (List.mem_of_mem_drop h)
 split at h
 ·split at h
  ·exact .inl h
  ·exact key _ h
 ·exact key _ h
theorem qgg:∀(more out:List Atom),out.length<=(vY out more).length/\((vY out more).length<=301\/(vY out more).length<=out.length)/\∀x∈vY out more,x∈out\/x∈more
 |[],out=>⟨Nat.le_refl _,.inr (Nat.le_refl _),fun x hx=>.inl hx⟩
 |a::r,out=>by
  unfold vY
  split
  ·rename_i h
   obtain⟨h1,h2,h3⟩:=qgg r (yy out a)
   have hp:=qlV out a
   refine⟨by omega,by omega,fun x hx=>?_⟩
   rcases h3 x hx with h|h
   ·rcases qhX h with h|h
    ·exact .inl h
    ·exact .inr (by rw[h];exact List.mem_cons_self)
   ·exact .inr (List.mem_cons_of_mem _ h)
  ·exact⟨Nat.le_refl _,.inr (Nat.le_refl _),fun x hx=>.inl hx⟩
structure NNRm where
 i:Nat
 n:Nat
 out:List Atom
theorem qgf(q:List (PK×Int))(lev:Int):∀(l:List qe)(out:List Atom),out.length<=(wq q lev l out).length
 |[],_=>Nat.le_refl _
 |c::r,out=>by
  unfold wq
  split
  ·exact Nat.le_trans (qgg _ out).1 (qgf q lev r _)
  ·exact qgf q lev r out
section
variable{S:List qX}{owS:Own}{q:List (PK×Int)}{l:List qe}{ob:List (Nat×qc)}{s6:Nat}
structure RmIn(S:List qX)(owS:Own)(q:List (PK×Int))(l:List qe)(ob:List (Nat×qc))(s6:Nat):Prop where
 hl:l.length<=40
 hc:∀c∈l,yv c
 h3:∀c∈l,(qT c.body).length<=3
 hS:S.length<2^40
 find:∀c∈l,∃(idx:Nat)(x:qX),qdW S (ofA c.head) 0=(idx:Int)/\S[idx]? = some x/\x.level=qp q (ofA c.head)
 c6:look s6 ob=some (.cells [.sl (S.map qkU) owS,.int 0])
end
end Go.Abs.Tz
namespace Go.Abs.Tz
open Go Go.Abs Go.Proofs
section
variable(l:List qe)(m:List (PK×Int))(v:Int)
def qjR(T:Atom->Prop):Prop:=∀c∈l,qp m (ofA c.head)=v->∀h,wm T c h->T h
structure LowS(S0 T:Atom->Prop):Prop where
 sup:∀a,S0 a->T a
 low:∀a,T a->qp m (ofA a)<v->S0 a
 good:∀a,T a->zf a
structure Mid(S0 P:Atom->Prop):Prop where
 lo:LowS m v S0 P
 least:∀T,LowS m v S0 T->qjR l m v T->∀a,P a->T a
end
section
variable{l:List qe}{m:List (PK×Int)}{v:Int}{S0 P Q T:Atom->Prop}
theorem wm.mono(hm:vU l m){c:qe}(hc:c∈l)(hv:qp m (ofA c.head)=v)(hP:LowS m v S0 P)(hT:LowS m v S0 T)(hPT:∀a,P a->T a){h:Atom}(hh:wm P c h):wm T c h:=by
 obtain⟨R,h1,h2,h3⟩:=hh
 refine⟨R,h1.mono hPT,fun x hx=>⟨fun hk ht=>(h2 x hx).1 hk (hP.sup _ (hT.low _ ht ?_)),(h2 x hx).2⟩,h3⟩
 rw[qms,<-hv]
 exact(hm.lits hc hx).2 hk
theorem Mid.grow(hm:vU l m)(hP:Mid l m v S0 P){c:qe}(hc:c∈l)(hg:yv c)(hv:qp m (ofA c.head)=v)(hQ:∀a,Q a->P a\/wm P c a)(hPQ:∀a,P a->Q a):Mid l m v S0 Q where
 lo:=⟨fun a h=>hPQ a (hP.lo.sup a h),fun a h hl=>(hQ a h).elim (fun h=>hP.lo.low a h hl) (fun h=>absurd hl (by
  obtain⟨R,_,_,rfl⟩:=h
  rw[qms,hv]
  exact Int.lt_irrefl _)),fun a h=>(hQ a h).elim (hP.lo.good a) fun h=>h.good hP.lo.good hg⟩
 least T hT hC a h:=(hQ a h).elim (hP.least T hT hC a) fun h=>hC c hc hv a (wm.mono hm hc hv hP.lo hT (hP.least T hT hC) h)
theorem Mid.base(hS:∀a,S0 a->zf a):Mid l m v S0 S0:=⟨⟨fun _ h=>h,fun _ h _=>h,hS⟩,fun _ hT _ a h=>hT.sup a h⟩
end
def wZ(o:List Atom):Prop:=o.Pairwise fun x y=>cmpA x y<0
theorem qhZ(x:Atom)(r:List Atom)(a:Atom):yy (x::r) a=if cmpA x a<0 then x::yy r a else if cmpA x a=0 then x::r else a::x::r:=by
 unfold yy
 by_cases h:cmpA x a<0
 ·rw[if_pos h]
  have e:vq (x::r) a=vq r a+1:=by rw[vq,if_pos h]
  rw[e,List.getElem?_cons_succ]
  cases r[vq r a]? with
  |none=>simp
  |some y=>
   simp only
   split<;>simp
 ·rw[if_neg h]
  have e:vq (x::r) a=0:=by rw[vq,if_neg h]
  rw[e]
  simp
theorem qhY:∀(o:List Atom)(a:Atom),a∈yy o a
 |[],a=>by simp[yy,vq]
 |x::r,a=>by
  rw[qhZ]
  split
  ·exact List.mem_cons_of_mem _ (qhY r a)
  ·split
   ·rename_i h
    rw[y9.zero.1 h]
    exact List.mem_cons_self
   ·exact List.mem_cons_self
theorem qhV:∀{o:List Atom}{a x:Atom},x∈o->x∈yy o a
 |y::r,a,x,h=>by
  rw[qhZ]
  split
  ·rcases List.mem_cons.1 h with rfl|h
   ·exact List.mem_cons_self
   ·exact List.mem_cons_of_mem _ (qhV h)
  ·split
   ·exact h
   ·exact List.mem_cons_of_mem _ h
theorem qhW:∀{o:List Atom}{a:Atom},wZ o->wZ (yy o a)
 |[],a,_=>by simp[yy,vq,wZ]
 |x::r,a,h=>by
  obtain⟨h1,h2⟩:=List.pairwise_cons.1 h
  rw[qhZ]
  split
  ·rename_i hx
   refine List.pairwise_cons.2 ⟨fun y hy=>?_,qhW h2⟩
   rcases qhX hy with hy|rfl
   ·exact h1 y hy
   ·exact hx
  ·rename_i hx
   split
   ·exact h
   ·rename_i hx2
    have ha:cmpA a x<0:=by rw[y9.anti x a];omega
    refine List.pairwise_cons.2 ⟨fun y hy=>?_,h⟩
    rcases List.mem_cons.1 hy with rfl|hy
    ·exact ha
    ·exact y9.lt_tr ha (h1 y hy)
theorem qsA{o:List Atom}{a:Atom}(h:(yy o a).length=o.length):yy o a=o:=by
 unfold yy at h ⊢
 have hp:=qid o a
 have k:¬(o.take (vq o a)++[a]++o.drop (vq o a)).length=o.length:=by simp;omega
 split
 ·split
  ·rfl
  ·rename_i x hx hz
   rw[hx]at h
   simp only[if_neg hz]at h
   exact absurd h k
 ·rename_i hx
  rw[hx]at h
  exact absurd h k
theorem wZ.nodup{o:List Atom}(h:wZ o):o.Nodup:=List.Pairwise.imp (fun{x y} hxy e=>by
 subst e
 have:=y9.refl x
 omega) h
theorem qlD:∀(more out:List Atom),wZ out->wZ (vY out more)/\(∀x∈out,x∈vY out more)/\((vY out more).length<=300->∀x∈more,x∈vY out more)/\((vY out more).length=out.length->vY out more=out)
 |[],out,h=>⟨h,fun x hx=>hx,fun _ x hx=>(by cases hx),fun _=>rfl⟩
 |a::r,out,h=>by
  unfold vY
  split
  ·obtain⟨h1,h2,h3,h4⟩:=qlD r (yy out a) (qhW h)
   refine⟨h1,fun x hx=>h2 x (qhV hx),fun hl x hx=>?_,fun hl=>?_⟩
   ·rcases List.mem_cons.1 hx with rfl|hx
    ·exact h2 x (qhY out x)
    ·exact h3 hl x hx
   ·have k1:=(qgg r (yy out a)).1
    have k2:=qlV out a
    have k3:=qsA (o:=out) (a:=a) (by omega)
    rw[k3]at hl h4 ⊢
    exact h4 hl
  ·rename_i hl
   exact⟨h,fun x hx=>hx,fun hl2=>absurd hl2 hl,fun _=>rfl⟩
theorem qfh{o:List Atom}{a:Atom}:qC o a=true↔a∈o:=by
 unfold qC
 rw[List.any_eq_true]
 constructor
 ·rintro⟨x,hx,h⟩
  rw[<-y9.zero.1 (of_decide_eq_true h)]
  exact hx
 ·intro h
  exact⟨a,h,by simp[y9.refl a]⟩
theorem qhS{o:List Atom}{K:qv}:∀{b:List Lit},qdD o K b=true↔qca (·∈o) K b
 |[]=>⟨fun _ x hx=>(by cases hx),fun _=>rfl⟩
 |x::r=>by
  have ih:=qhS (o:=o) (K:=K) (b:=r)
  have split:qca (·∈o) K (x::r)↔((x.kind=2->¬zm K x.atom∈o)/\(x.kind≠1->x.kind≠2->qbU K x=true))/\qca (·∈o) K r:=by
   constructor
   ·intro h
    exact⟨h x List.mem_cons_self,fun y hy=>h y (List.mem_cons_of_mem _ hy)⟩
   ·rintro⟨h1,h2⟩ y hy
    rcases List.mem_cons.1 hy with rfl|hy
    ·exact h1
    ·exact h2 y hy
  rw[split]
  unfold qdD
  by_cases h1:x.kind=1
  ·rw[if_pos h1,ih]
   exact⟨fun h=>⟨⟨fun h2=>by omega,fun h3=>absurd h1 h3⟩,h⟩,fun h=>h.2⟩
  ·rw[if_neg h1]
   by_cases h2:x.kind=2
   ·rw[if_pos h2,Bool.and_eq_true,ih]
    have e:(!qC o (zm K x.atom))=true↔¬zm K x.atom∈o:=by
     rw[<-qfh]
     simp
    rw[e]
    exact⟨fun h=>⟨⟨fun _=>h.1,fun _ h3=>absurd h2 h3⟩,h.2⟩,fun h=>⟨h.1.1 h2,h.2⟩⟩
   ·rw[if_neg h2,Bool.and_eq_true,ih]
    exact⟨fun h=>⟨⟨fun h3=>absurd h3 h2,fun _ _=>h.1⟩,h.2⟩,fun h=>⟨h.1.2 h1 h2,h.2⟩⟩
theorem qgt{c:qe}{o:List Atom}{h:Atom}:∀{r:List Lit}{K:qv},h∈qaT c o r K↔∃R,qbe (·∈o) (qT r) K R/\qca (·∈o) R c.body/\h=zm R c.head
 |[],K=>by
  unfold qaT
  constructor
  ·intro hh
   split at hh
   ·rename_i hr
    simp at hh
    exact⟨K,rfl,qhS.1 hr,hh⟩
   ·cases hh
  ·rintro⟨R,h1,h2,h3⟩
   have e:R=K:=h1
   subst e
   rw[qhS.2 h2,if_pos rfl,h3]
   exact List.mem_singleton.2 rfl
 |x::r,K=>by
  unfold qaT
  rw[qmc]
  by_cases hk:x.kind=1
  ·rw[if_pos hk,if_pos hk,List.mem_flatMap]
   constructor
   ·rintro⟨a,ha,hh⟩
    split at hh
    ·rename_i R hR
     obtain⟨R2,g1,g2,g3⟩:=qgt.1 hh
     exact⟨R2,⟨a,R,ha,hR,g1⟩,g2,g3⟩
    ·cases hh
   ·rintro⟨R2,⟨a,R,ha,hR,g1⟩,g2,g3⟩
    refine⟨a,ha,?_⟩
    simp only[hR]
    exact qgt.2 ⟨R2,g1,g2,g3⟩
  ·rw[if_neg hk,if_neg hk]
   exact qgt
theorem qmB{c:qe}{o:List Atom}{h:Atom}:h∈qaT c o c.body []↔wm (·∈o) c h:=qgt
section
variable{l:List qe}{m q:List (PK×Int)}{v:Int}{S0:Atom->Prop}
theorem qhJ(hm:vU l m)(hg:∀c∈l,yv c)(hq:∀k,qp q k=qp m k):∀(r:List qe),(∀c∈r,c∈l)->∀{out:List Atom},Mid l m v S0 (·∈out)->wZ out ->
  Mid l m v S0 (·∈wq q v r out)/\wZ (wq q v r out)/\((wq q v r out).length=out.length->wq q v r out=out/\(out.length<=300->∀c∈r,qp m (ofA c.head)=v->∀h,wm (·∈out) c h->h∈out))
 |[],_,out,h1,h2=>⟨h1,h2,fun _=>⟨rfl,fun _ c hc=>(by cases hc)⟩⟩
 |c::r,hr,out,h1,h2=>by
  have hr':=fun d hd=>hr d (List.mem_cons_of_mem _ hd)
  have hc:=hr c List.mem_cons_self
  unfold wq
  rw[hq]
  by_cases hv:qp m (ofA c.head)=v
  ·rw[if_pos hv]
   obtain⟨p1,p2,p3,p4⟩:=qlD (qaT c out c.body []) out h2
   obtain⟨f1,_,f3⟩:=qgg (qaT c out c.body []) out
   have hM:Mid l m v S0 (·∈vY out (qaT c out c.body [])):=h1.grow hm hc (hg c hc) hv (fun a ha=>(f3 a ha).imp id qmB.1) p2
   obtain⟨g1,g2,g3⟩:=qhJ hm hg hq r hr' hM p1
   refine⟨g1,g2,fun hl=>?_⟩
   have hmono:=qgf q v r (vY out (qaT c out c.body []))
   have e1:=p4 (by omega)
   rw[e1]at g3 p3 hl ⊢
   obtain⟨k1,k2⟩:=g3 hl
   refine⟨k1,fun h300 d hd hdv h hh=>?_⟩
   rcases List.mem_cons.1 hd with rfl|hd
   ·exact p3 h300 h (qmB.2 hh)
   ·exact k2 h300 d hd hdv h hh
  ·rw[if_neg hv]
   obtain⟨g1,g2,g3⟩:=qhJ hm hg hq r hr' h1 h2
   refine⟨g1,g2,fun hl=>?_⟩
   obtain⟨k1,k2⟩:=g3 hl
   refine⟨k1,fun h300 d hd hdv h hh=>?_⟩
   rcases List.mem_cons.1 hd with rfl|hd
   ·exact absurd hdv hv
   ·exact k2 h300 d hd hdv h hh
theorem qlK(hm:vU l m)(hg:∀c∈l,yv c)(hq:∀k,qp q k=qp m k):∀(k:Nat){out:List Atom},302<=k+out.length->Mid l m v S0 (·∈out)->wZ out ->
  Mid l m v S0 (·∈vZ q v l k out)/\wZ (vZ q v l k out)/\((vZ q v l k out).length<=300->qjR l m v (·∈vZ q v l k out))
 |0,out,hk,h1,h2=>⟨h1,h2,fun h=>by
  have:(vZ q v l 0 out)=out:=rfl
  rw[this]at h
  omega⟩
 |k+1,out,hk,h1,h2=>by
  unfold vZ
  by_cases h300:out.length<=300
  ·rw[if_pos h300]
   obtain⟨g1,g2,g3⟩:=qhJ hm hg hq l (fun c hc=>hc) h1 h2
   have hmono:=qgf q v l out
   by_cases he:(wq q v l out).length=out.length
   ·rw[if_pos he]
    obtain⟨k1,k2⟩:=g3 he
    rw[k1]
    exact⟨h1,h2,fun _=>k2 h300⟩
   ·rw[if_neg he]
    exact qlK hm hg hq k (by omega) g1 g2
  ·rw[if_neg h300]
   exact⟨h1,h2,fun h=>absurd h h300⟩
end
end Go.Abs.Tz
namespace Go.Abs.Tz
open Go Go.Abs Go.Proofs
abbrev uc(F:List Stp):List Atom:=F.map Stp.atom
theorem qfZ(F:List Stp):qap F=(·∈uc F):=by
 funext a
 exact propext ⟨fun⟨s,hs,e⟩=>List.mem_map.2 ⟨s,hs,e⟩,fun h=>by
  obtain⟨s,hs,e⟩:=List.mem_map.1 h
  exact⟨s,hs,e⟩⟩
def w8(F:List Stp):Prop:=(F.map fun q=>qG q.atom).Nodup
theorem qmv{α β:Type}(f:α->β):∀{l:List α},(l.map f).Nodup->l.Nodup
 |[],_=>.nil
 |a::l,h=>by
  rw[List.map_cons,List.nodup_cons]at h
  exact List.nodup_cons.2 ⟨fun ha=>h.1 (List.mem_map.2 ⟨a,ha,rfl⟩),qmv f h.2⟩
theorem w8.nodup{F:List Stp}(h:w8 F):(uc F).Nodup:=qmv qG (by
 unfold w8 at h
 rw[List.map_map]
 exact h)
theorem w8.app{F G:List Stp}(h:w8 F)(k:qbz F G):w8 (F++G):=by
 unfold w8
 rw[List.map_append]
 refine List.nodup_append.2 ⟨h,k.1,fun x hx y hy e=>?_⟩
 obtain⟨p,hp,rfl⟩:=List.mem_map.1 hx
 obtain⟨q,hq,rfl⟩:=List.mem_map.1 hy
 have:=k.2 q hq
 rw[wW.2 ⟨p,hp,e⟩]at this
 cases this
theorem qwe{c:qe}(hg:yv c){F:List Stp}(hF:∀a,a∈uc F->zf a)(i:Int):(yV F c i).foldl zj F=F++yV F c i/\qbz F (yV F c i)/\(∀s∈yV F c i,wm (·∈uc F) c s.atom) /\
  ((yV F c i).length<=300->∀h,wm (·∈uc F) c h->h∈uc (F++yV F c i)):=by
 have hFs:∀s∈F,zf s.atom:=fun s hs=>hF _ (List.mem_map.2 ⟨s,hs,rfl⟩)
 have hFo:∀s∈F,qR s.atom=true:=fun s hs=>(hFs s hs).1
 have hS:∀a,qap F a->zf a:=fun a ⟨s,hs,e⟩=>e▸hFs s hs
 have e:yV F c i=(qgF F c i).foldl (zE F) []:=by
  unfold yV
  rw[qiV]
  rfl
 have hd:qbz F (yV F c i):=by
  rw[e]
  exact qnF F _ _ (.nil F)
 have key:∀h,wm (·∈uc F) c h↔∃s∈qgF F c i,s.atom=h:=by
  intro h
  rw[<-qfZ]
  have hrest:∀R,qbe (qap F) (qT c.body) [] R->(qad F R c.body=true↔qca (qap F) R c.body):=fun R hR=>by
   obtain⟨g1,_,g3,_⟩:=qgY hS .nil hR
   exact qlL hFo fun x hx hk=>((hg.leaf g1 g3).1 x hx hk).1
  constructor
  ·rintro⟨R,h1,h2,rfl⟩
   obtain⟨js,hjs⟩:=qmr h1
   exact⟨_,List.mem_map.2 ⟨(R,js),qeS.2 ⟨js,hjs,(hrest R h1).2 h2,by simp⟩,rfl⟩,rfl⟩
  ·rintro⟨s,hs,rfl⟩
   obtain⟨x,hx,rfl⟩:=List.mem_map.1 hs
   obtain⟨js,h1,h2,_⟩:=qeS.1 hx
   have h3:=qjo h1
   exact⟨x.1,h3,(hrest _ h3).1 h2,rfl⟩
 refine⟨qpK hd,hd,fun s hs=>?_,fun hl h hh=>?_⟩
 ·rw[e]at hs
  obtain⟨X,hX,hX2⟩:=qfl F (qgF F c i) []
  rw[hX]at hs
  exact(key _).2 ⟨s,hX2 s (by simpa using hs),rfl⟩
 ·have hhg:zf h:=by
   rw[<-qfZ]at hh
   exact hh.good hS hg
  obtain⟨s,hs,rfl⟩:=(key h).1 hh
  have hin:∀{G:List Stp},(∀q∈G,qR q.atom=true)->zh (qG s.atom) G=true->s.atom∈uc G:=fun hG hx=>by
   obtain⟨q,hq,eq⟩:=wW.1 hx
   exact List.mem_map.2 ⟨q,hq,qjB (hG q hq) hhg.1 eq⟩
  rw[e]at hl ⊢
  unfold uc
  rw[List.map_append]
  rcases qnE F _ _ hl s hs with h|h
  ·exact List.mem_append_left _ (hin hFo h)
  ·refine List.mem_append_right _ (hin (fun q hq=>?_) h)
   have hq2:wm (·∈uc F) c q.atom:=by
    obtain⟨X,hX,hX2⟩:=qfl F (qgF F c i) []
    rw[hX]at hq
    exact(key _).2 ⟨q,hX2 q (by simpa using hq),rfl⟩
   rw[<-qfZ]at hq2
   exact(hq2.good hS hg).1
section
variable{l:List qe}{m:List (PK×Int)}{v:Int}{S0:Atom->Prop}
def ResD(l:List qe)(m:List (PK×Int))(v:Int)(S0:Atom->Prop):Option (List Stp)->Prop
 |none=>∃L:List Atom,L.Nodup/\300<L.length/\Mid l m v S0 (·∈L)
 |some F=>Mid l m v S0 (·∈uc F)/\w8 F/\F.length<=300
theorem qhL(hm:vU l m)(hg:∀c∈l,yv c):∀(r:List qe),(∀c∈r,c∈l)->∀(i:Nat){F:List Stp},Mid l m v S0 (·∈uc F)->w8 F->F.length<=300 ->
  ResD l m v S0 (vG m v r i F)/\∀F',vG m v r i F=some F'->F.length<=F'.length/\(F'.length=F.length->F'=F/\∀c∈r,qp m (ofA c.head)=v->∀h,wm (·∈uc F) c h->h∈uc F)
 |[],_,i,F,h1,h2,h3=>⟨⟨h1,h2,h3⟩,fun F' h=>by
  cases h
  exact⟨Nat.le_refl _,fun _=>⟨rfl,fun c hc=>(by cases hc)⟩⟩⟩
 |c::r,hr,i,F,h1,h2,h3=>by
  have hr':=fun d hd=>hr d (List.mem_cons_of_mem _ hd)
  have hc:=hr c List.mem_cons_self
  unfold vG
  by_cases hv:qp m (ofA c.head)=v
  ·rw[if_pos hv]
   obtain⟨c1,c2,c3,c4⟩:=qwe (hg c hc) (F:=F) h1.lo.good i
   rw[c1]
   have hM:Mid l m v S0 (·∈uc (F++yV F c i)):=h1.grow hm hc (hg c hc) hv (fun a ha=>by
    obtain⟨s,hs,rfl⟩:=List.mem_map.1 ha
    rcases List.mem_append.1 hs with hs|hs
    ·exact .inl (List.mem_map.2 ⟨s,hs,rfl⟩)
    ·exact .inr (c3 s hs)) fun a ha=>by
     obtain⟨s,hs,rfl⟩:=List.mem_map.1 ha
     exact List.mem_map.2 ⟨s,List.mem_append_left _ hs,rfl⟩
   have hN:=h2.app c2
   have hlen:(F++yV F c i).length=F.length+(yV F c i).length:=List.length_append
   by_cases h300:300<(F++yV F c i).length
   ·rw[if_pos h300]
    exact⟨⟨_,hN.nodup,by simpa using h300,hM⟩,fun F' h=>by cases h⟩
   ·rw[if_neg h300]
    obtain⟨g1,g2⟩:=qhL hm hg r hr' (i+1) hM hN (by omega)
    refine⟨g1,fun F' hF'=>?_⟩
    obtain⟨k1,k2⟩:=g2 F' hF'
    refine⟨by omega,fun hl=>?_⟩
    have e0:yV F c i=[]:=List.eq_nil_of_length_eq_zero (by omega)
    rw[e0,List.append_nil]at k1 k2 c4
    obtain⟨j1,j2⟩:=k2 hl
    refine⟨j1,fun d hd hdv h hh=>?_⟩
    rcases List.mem_cons.1 hd with rfl|hd
    ·exact c4 (by simp) h hh
    ·exact j2 d hd hdv h hh
  ·rw[if_neg hv]
   obtain⟨g1,g2⟩:=qhL hm hg r hr' (i+1) h1 h2 h3
   refine⟨g1,fun F' hF'=>?_⟩
   obtain⟨k1,k2⟩:=g2 F' hF'
   refine⟨k1,fun hl=>?_⟩
   obtain⟨j1,j2⟩:=k2 hl
   refine⟨j1,fun d hd hdv h hh=>?_⟩
   rcases List.mem_cons.1 hd with rfl|hd
   ·exact absurd hdv hv
   ·exact j2 d hd hdv h hh
theorem qmT(hm:vU l m)(hg:∀c∈l,yv c):∀(k:Nat){F:List Stp},302<=k+F.length->Mid l m v S0 (·∈uc F)->w8 F->F.length<=300 ->
  ResD l m v S0 (wz m v l k F)/\∀F',wz m v l k F=some F'->qjR l m v (·∈uc F')
 |0,F,hk,h1,h2,h3=>by omega
 |k+1,F,hk,h1,h2,h3=>by
  unfold wz
  obtain⟨g1,g2⟩:=qhL hm hg l (fun c hc=>hc) 0 h1 h2 h3
  cases hr:vG m v l 0 F with
  |none=>
   rw[hr]at g1
   exact⟨g1,fun F' h=>by cases h⟩
  |some F2=>
   rw[hr]at g1
   obtain⟨k1,k2⟩:=g2 F2 hr
   obtain⟨m1,m2,m3⟩:=g1
   dsimp only
   by_cases he:F2.length=F.length
   ·rw[if_pos he]
    obtain⟨j1,j2⟩:=k2 he
    subst j1
    exact⟨⟨m1,m2,m3⟩,fun F' h=>by cases h;exact j2⟩
   ·rw[if_neg he]
    exact qmT hm hg k (by omega) m1 m2 m3
theorem qgo:∀{a b:List Atom},a.Nodup->(∀x∈a,x∈b)->a.length<=b.length
 |[],_,_,_=>Nat.zero_le _
 |x::a,b,h,hs=>by
  obtain⟨h1,h2⟩:=List.nodup_cons.1 h
  obtain⟨s,t,rfl⟩:=List.append_of_mem (hs x List.mem_cons_self)
  have:=qgo (a:=a) (b:=s++t) h2 fun y hy=>by
   have hy2:=hs y (List.mem_cons_of_mem _ hy)
   have hne:y≠x:=fun e=>h1 (e▸hy)
   rcases List.mem_append.1 hy2 with g|g
   ·exact List.mem_append_left _ g
   ·rcases List.mem_cons.1 g with g|g
    ·exact absurd g hne
    ·exact List.mem_append_right _ g
  simp only[List.length_append,List.length_cons]at this ⊢
  omega
def qfC(o:Option (List Stp))(out:List Atom):Prop:=match o with
 |none=>300<out.length
 |some F=>F.length<=300/\out.length<=300/\w8 F/\wZ out/\(∀a∈out,zf a)/\∀a,a∈uc F↔a∈out
theorem qtY(hm:vU l m)(hg:∀c∈l,yv c){q:List (PK×Int)}(hq:∀k,qp q k=qp m k){F:List Stp}{out:List Atom}(h:qfC (some F) out):qfC (wz m v l 302 F) (vZ q v l 302 out):=by
 obtain⟨h1,h2,h3,h4,h5,h6⟩:=h
 have e0:(fun a=>a∈uc F)=fun a=>a∈out:=funext fun a=>propext (h6 a)
 have hb:Mid l m v (·∈out) (·∈out):=.base h5
 obtain⟨c1,c2⟩:=qmT (v:=v) (S0:=(·∈out)) hm hg 302 (F:=F) (by omega) (by
  rw[e0]
  exact hb) h3 h1
 obtain⟨r1,r2,r3⟩:=qlK hm hg hq 302 (out:=out) (by omega) hb h4
 cases hl:wz m v l 302 F with
 |none=>
  rw[hl]at c1
  obtain⟨L,l1,l2,l3⟩:=c1
  show 300<_
  by_cases h300:(vZ q v l 302 out).length<=300
  ·have:=qgo l1 (b:=vZ q v l 302 out) fun x hx=>l3.least _ r1.lo (r3 h300) x hx
   omega
  ·omega
 |some F'=>
  rw[hl]at c1
  obtain⟨m1,m2,m3⟩:=c1
  have hcl:=c2 F' hl
  have hle:=qgo r2.nodup (b:=uc F') fun x hx=>r1.least _ m1.lo hcl x hx
  rw[List.length_map]at hle
  have h300:(vZ q v l 302 out).length<=300:=by omega
  exact⟨m3,h300,m2,r2,r1.lo.good,fun a=>⟨m1.least _ r1.lo (r3 h300) a,r1.least _ m1.lo hcl a⟩⟩
theorem qtZ(hn:∀c∈l,qp m (ofA c.head)<v)(k:Nat)(F:List Stp):wz m v l (k+1) F=some F:=by
 have:∀(r:List qe),(∀c∈r,qp m (ofA c.head)<v)->∀i,vG m v r i F=some F:=fun r=>by
  induction r with
  |nil=>intro _ i;rfl
  |cons c r ih=>
   intro hr i
   unfold vG
   have:=hr c List.mem_cons_self
   rw[if_neg (by omega)]
   exact ih (fun d hd=>hr d (List.mem_cons_of_mem _ hd)) _
 unfold wz
 rw[this l hn]
 simp
theorem qsk{q:List (PK×Int)}(hn:∀c∈l,qp q (ofA c.head)<v)(k:Nat)(out:List Atom):vZ q v l (k+1) out=out:=by
 have:∀(r:List qe),(∀c∈r,qp q (ofA c.head)<v)->wq q v r out=out:=fun r=>by
  induction r with
  |nil=>intro _;rfl
  |cons c r ih=>
   intro hr
   unfold wq
   have:=hr c List.mem_cons_self
   rw[if_neg (by omega)]
   exact ih (fun d hd=>hr d (List.mem_cons_of_mem _ hd))
 unfold vZ
 rw[this l hn]
 simp
theorem qlJ{q:List (PK×Int)}:∀(k v:Nat){out:List Atom},300<out.length->qck q l k v out=out
 |0,_,_,_=>rfl
 |k+1,v,out,h=>by
  unfold qck
  have e:vZ q v l 302 out=out:=by
   unfold vZ
   rw[if_neg (by omega)]
  rw[e]
  exact qlJ k (v+1) h
theorem qmR:∀(k w:Nat),(∀c∈l,qp m (ofA c.head)<(w:Int))->∀F,qay m l k w F=some F
 |0,_,_,_=>rfl
 |k+1,w,h,F=>by
  unfold qay
  rw[qtZ h]
  exact qmR k (w+1) (fun c hc=>by have:=h c hc;omega) F
theorem qlI{q:List (PK×Int)}:∀(k w:Nat),(∀c∈l,qp q (ofA c.head)<(w:Int))->∀out,qck q l k w out=out
 |0,_,_,_=>rfl
 |k+1,w,h,out=>by
  unfold qck
  rw[qsk h]
  exact qlI k (w+1) (fun c hc=>by have:=h c hc;omega) out
theorem qmQ(hm:vU l m)(hg:∀c∈l,yv c){q:List (PK×Int)}(hq:∀k,qp q k=qp m k):∀(k j w:Nat),(∀c∈l,qp m (ofA c.head)<(w+k:Nat))->(∀c∈l,qp m (ofA c.head)<(w+j:Nat))->∀{F:List Stp}{out:List Atom},qfC (some F) out->qfC (qay m l k w F) (qck q l j w out)
 |0,j,w,h1,h2,F,out,h=>by
  rw[qlI j w (fun c hc=>by rw[hq];simpa using h1 c hc)]
  exact h
 |k+1,0,w,h1,h2,F,out,h=>by
  rw[qmR (k+1) w (fun c hc=>by simpa using h2 c hc)]
  exact h
 |k+1,j+1,w,h1,h2,F,out,h=>by
  unfold qay qck
  have hs:=qtY (v:=w) hm hg hq h
  cases hl:wz m w l 302 F with
  |none=>
   rw[hl]at hs
   show 300<_
   rw[qlJ j (w+1) hs]
   exact hs
  |some F'=>
   rw[hl]at hs
   exact qmQ hm hg hq k j (w+1) (fun c hc=>by have:=h1 c hc;omega) (fun c hc=>by have:=h2 c hc;omega) hs
end
theorem qjM:∀(S F:List Stp),(∀s∈F,qR s.atom=true)->(∀s∈S,qR s.atom=true)->w8 F->w8 (S.foldl zj F)/\∀a,a∈uc (S.foldl zj F)↔(a∈uc F\/a∈uc S)
 |[],F,_,_,h=>⟨h,fun a=>by simp⟩
 |s::S,F,hF,hS,h=>by
  have hs:=hS s List.mem_cons_self
  have hS':=fun q hq=>hS q (List.mem_cons_of_mem _ hq)
  rw[List.foldl_cons]
  cases hh:zh (qG s.atom) F
  ·have e:zj F s=F++[s]:=by unfold zj;rw[hh,if_neg (by simp)]
   have hF2:∀q∈F++[s],qR q.atom=true:=fun q hq=>by
    rcases List.mem_append.1 hq with hq|hq
    ·exact hF q hq
    ·simp at hq;rw[hq];exact hs
   have hN:w8 (F++[s]):=h.app ⟨by simp,fun q hq=>by simp at hq;rw[hq];exact hh⟩
   rw[e]
   obtain⟨g1,g2⟩:=qjM S _ hF2 hS' hN
   refine⟨g1,fun a=>?_⟩
   rw[g2 a]
   simp[uc,or_assoc,eq_comm]
  ·have e:zj F s=F:=by unfold zj;rw[hh,if_pos rfl]
   rw[e]
   obtain⟨g1,g2⟩:=qjM S F hF hS' h
   refine⟨g1,fun a=>?_⟩
   rw[g2 a]
   have hin:s.atom∈uc F:=by
    obtain⟨q,hq,eq⟩:=wW.1 hh
    exact List.mem_map.2 ⟨q,hq,qjB (hF q hq) hs eq⟩
   constructor
   ·rintro(h|h)
    ·exact .inl h
    ·exact .inr (List.mem_cons_of_mem _ h)
   ·rintro(h|h)
    ·exact .inl h
    ·rcases List.mem_cons.1 h with rfl|h
     ·exact .inl hin
     ·exact .inr h
theorem qnN:∀(base out:List Atom),wZ out->wZ (base.foldl yy out)/\∀a,a∈base.foldl yy out↔(a∈out\/a∈base)
 |[],out,h=>⟨h,fun a=>by simp⟩
 |x::r,out,h=>by
  obtain⟨h1,h2⟩:=qnN r (yy out x) (qhW h)
  rw[List.foldl_cons]
  refine⟨h1,fun a=>?_⟩
  rw[h2 a]
  constructor
  ·rintro(h|h)
   ·rcases qhX h with h|rfl
    ·exact .inl h
    ·exact .inr List.mem_cons_self
   ·exact .inr (List.mem_cons_of_mem _ h)
  ·rintro(h|h)
   ·exact .inl (qhV h)
   ·rcases List.mem_cons.1 h with rfl|h
    ·exact .inl (qhY out a)
    ·exact .inr h
theorem qtD{l:List qe}{m q:List (PK×Int)}(hm:vU l m)(hlq:vU l q)(hg:∀c∈l,yv c)(hq:∀k,qp m k=qp q k){base:List Atom}(hb:∀a∈base,zf a)(hbl:base.length<=300):qfC (qbx m l base) (qbF q l base):=by
 unfold qbx qbF
 have hhas:∀c∈l,qp m (ofA c.head)<=gx 0 (m.map (·.2))/\qp m (ofA c.head)<=q.length:=fun c hc=>by
  have hk:ofA c.head∈vp c:=by simp[vp]
  refine⟨hm.max.2.2 _ (hm.has c hc _ hk),?_⟩
  rw[hq]
  exact hlq.bd _
 have h0:=hm.max.1
 refine qmQ hm hg (fun k=>(hq k).symm) _ _ 0 (fun c hc=>?_) (fun c hc=>?_) ?_
 ·have:=(hhas c hc).1
  omega
 ·have:=(hhas c hc).2
  omega
 ·have hS:∀s∈base.map (fun a=>(⟨a,-1,[]⟩:Stp)),qR s.atom=true:=fun s hs=>by
   obtain⟨a,ha,rfl⟩:=List.mem_map.1 hs
   exact(hb a ha).1
  obtain⟨a1,a2⟩:=qjM (base.map fun a=>(⟨a,-1,[]⟩:Stp)) [] (fun s hs=>by cases hs) hS .nil
  obtain⟨b1,b2⟩:=qnN base [] .nil
  have hl1:=(qfB (base.map fun a=>(⟨a,-1,[]⟩:Stp)) []).2
  have e:∀a,a∈uc (qaX base)↔a∈base:=fun a=>by
   rw[show uc (qaX base)=uc ((base.map fun a=>(⟨a,-1,[]⟩:Stp)).foldl zj []) from rfl,a2 a]
   simp[uc,Function.comp_def]
  have e2:∀a,a∈base.foldl yy []↔a∈base:=fun a=>by rw[b2 a];simp
  have hl2:=qgo b1.nodup (b:=base) fun x hx=>(e2 x).1 hx
  refine⟨?_,by omega,a1,b1,fun a ha=>hb a ((e2 a).1 ha),fun a=>by rw[e a,e2 a]⟩
  rw[List.length_map,List.length_nil]at hl1
  unfold qaX
  omega
end Go.Abs.Tz
namespace Go.Abs.Tz
open Go Go.Abs Go.Proofs
set_option maxRecDepth 20000
set_option linter.unusedSimpArgs false
attribute [local simp ↓] gF gD uZ uY gd zX qW zk uX zU yq yr gG gI gJ gH jd jg jj je jk jl jh ji jf jb u9 jc ja yo ym yp yn gA gy gC gz gM gK gL ue zz jm qS jn gg yt yu gQ gT gS gN gO g8 jp jw jz jv jx jy j5 j3 jF jH uH uE uS uV uF uN uR uQ uP uO uL uA uB uC uD uT uJ uK uy uU uW uG uI uM uz jL jG jY j8 jI jT jX jW jV jU jR jD j0 jP jQ jA j7 j9 jJ jN jS jB gb j6 jC ga jO jK jM jE jZ jq ju jr gY g7 gW gZ g6 qm uo
attribute [local simp] faL fdL iaL ixL za q9 qN eqK eqL qL ze ut gV yk g9 yb yd yf yh yj ya ye yc yg zr LV.cells LV.whole qm uf zK jo stL zw zF zV qa.alloc ge gc gf gw gv gu gt gq gp gk gj gi gh qd ug
structure NNRb where
 k:Nat
 bf:Int
 n:Nat
 out:List Atom
section
variable{S:List qX}{owS:Own}{q:List (PK×Int)}{l:List qe}{ob:List (Nat×qc)}{s6:Nat}
end
def yK(l:List qe)(base:List Atom):Int:=if zW l (wt l) base≠0 then zW l (wt l) base else match wt l with
 |none=>81
 |some q=>if 300<(qbF q l base).length then 2 else 0
def zZ(l:List qe)(base:List Atom):List Atom:=if yK l base≠0 then [] else match wt l with
 |none=>[]
 |some q=>qbF q l base
end Go.Abs.Tz
namespace Go.Abs.Tz
open Go Go.Abs Go.Proofs
structure qfE(l:List qe)(R:Option (List (PK×Int)))(base:List Atom):Prop where
 err:zQ l R base=yK l base
 row:zQ l R base=0->∀B,qpL (wS l R base) B->B=zZ l base
 has:zQ l R base=0->∀a,qR a=true->zh (qG a) (wS l R base)=qC (zZ l base) a
 good:∀a∈zZ l base,zf a
 len:(zZ l base).length<=300
theorem qwN{l:List qe}{R:Option (List (PK×Int))}{base:List Atom}(h:(R=none↔wt l=none)\/(qQ l).1≠0):zW l R base=zW l (wt l) base:=by
 unfold zW
 by_cases hc:(qQ l).1≠0
 ·rw[if_pos hc,if_pos hc]
 ·rw[if_neg hc,if_neg hc]
  rcases h with h|h
  ·by_cases hR:R=none
   ·rw[if_pos hR,if_pos (h.1 hR)]
   ·rw[if_neg hR,if_neg (fun e=>hR (h.2 e))]
  ·exact absurd h hc
theorem qwM{l:List qe}{R:Option (List (PK×Int))}{base:List Atom}(h:zW l R base=0):(qQ l).1=0/\R≠none/\base.length<=100/\∀a∈base,zf a:=by
 unfold zW at h
 by_cases hc:(qQ l).1≠0
 ·rw[if_pos hc]at h;exact absurd h hc
 rw[if_neg hc]at h
 by_cases hR:R=none
 ·rw[if_pos hR]at h;cases h
 rw[if_neg hR]at h
 by_cases h1:100<base.length
 ·rw[if_pos h1]at h;cases h
 rw[if_neg h1]at h
 cases h2:base.all zn with
 |false=>rw[h2]at h;simp at h
 |true=>exact⟨by omega,hR,by omega,fun a ha=>qpu.1 (List.all_eq_true.1 h2 a ha)⟩
theorem qgv{l:List qe}{R:Option (List (PK×Int))}{base:List Atom}(h:zQ l R base=yK l base)(hz:zQ l R base≠0):qfE l R base:=by
 have e:zZ l base=[]:=by unfold zZ;rw[<-h,if_pos hz]
 exact⟨h,fun k=>absurd k hz,fun k=>absurd k hz,fun a ha=>(by rw[e]at ha;cases ha),by rw[e];simp⟩
theorem qtL(l:List qe)(base:List Atom):∃fuel R,((qQ l).1=0->vN l fuel (l.foldl yN [])=some R)/\((qQ l).1=0->∀m,R=some m->0<=gx 0 (m.map (·.2))/\gx 0 (m.map (·.2))<=2^30)/\qfE l R base:=by
 by_cases hc:(qQ l).1=0
 case neg=>
  refine⟨0,none,fun h=>absurd h hc,fun h=>absurd h hc,?_⟩
  have e1:∀R:Option (List (PK×Int)),zW l R base=(qQ l).1:=fun R=>by unfold zW;rw[if_pos hc]
  have e2:zQ l none base=(qQ l).1:=by unfold zQ;rw[e1,if_pos hc]
  have e3:yK l base=(qQ l).1:=by unfold yK;rw[e1,if_pos hc]
  exact qgv (by rw[e2,e3]) (by rw[e2];exact hc)
 obtain⟨fuel,R,hR,h⟩:=qmS l hc
 refine⟨fuel,R,fun _=>hR,fun _ m hm=>?_,?_⟩
 ·rcases h with⟨h,_⟩|⟨m',q,h1,_,h3,_⟩
  ·rw[h]at hm;cases hm
  ·rw[h1]at hm;cases hm
   have:=h3.max
   omega
 rcases h with⟨h1,h2⟩|⟨m,q,h1,h2,h3,h4,h5⟩
 ·have eb:zW l R base=zW l (wt l) base:=by rw[h1,h2]
  have e:zQ l R base=yK l base:=by
   unfold zQ yK
   rw[eb,h1,h2]
  refine qgv e ?_
  unfold zQ
  by_cases hb:zW l R base≠0
  ·rw[if_pos hb];exact hb
  ·rw[if_neg hb,h1]
   show (81:Int)≠0
   decide
 ·have eb:zW l R base=zW l (wt l) base:=qwN (.inl ⟨fun e=>(by rw[h1]at e;cases e),fun e=>(by rw[h2]at e;cases e)⟩)
  by_cases hb:zW l R base≠0
  ·have e1:zQ l R base=zW l R base:=by unfold zQ;rw[if_pos hb]
   have e2:yK l base=zW l (wt l) base:=by unfold yK;rw[<-eb,if_pos hb]
   exact qgv (by rw[e1,e2,eb]) (by rw[e1];exact hb)
  have hb0:zW l R base=0:=by omega
  obtain⟨_,_,hbl,hbg⟩:=qwM hb0
  have hS:=qtD h3 h4 (qjn hc) h5 hbg (by omega)
  have e2:yK l base=if 300<(qbF q l base).length then 2 else 0:=by
   unfold yK
   rw[<-eb,if_neg hb,h2]
  have e1:zQ l R base=if (qbx m l base).isNone then 2 else 0:=by
   unfold zQ
   rw[if_neg hb,h1]
  cases hd:qbx m l base with
  |none=>
   rw[hd]at hS e1
   have hS:300<(qbF q l base).length:=hS
   rw[if_pos hS]at e2
   have e1:zQ l R base=2:=e1
   exact qgv (by rw[e1,e2]) (by rw[e1];decide)
  |some F=>
   rw[hd]at hS e1
   obtain⟨k1,k2,k3,k4,k5,k6⟩:=hS
   rw[if_neg (by omega)]at e2
   have e1:zQ l R base=0:=e1
   have eF:wS l R base=F:=by unfold wS;rw[h1];simp[hd]
   have eL:zZ l base=qbF q l base:=by
    unfold zZ
    rw[e2,if_neg (by simp),h2]
   have hFo:∀s∈F,qR s.atom=true:=fun s hs=>(k5 _ ((k6 _).1 (List.mem_map.2 ⟨s,hs,rfl⟩))).1
   refine⟨by rw[e1,e2],fun _ B hB=>?_,fun _ a ha=>?_,fun a ha=>?_,by rw[eL];exact k2⟩
   ·rw[eF]at hB
    rw[eL]
    obtain⟨b1,b2⟩:=hB
    refine qie (le:=fun x y=>¬cmpA y x<0) (b1.trans ((List.perm_ext_iff_of_nodup k3.nodup k4.nodup).2 k6)) b2 (List.Pairwise.imp (fun{x y} h=>?_) k4) fun a _ b _ h1 h2=>?_
    ·rw[y9.anti x y];omega
    ·rw[y9.anti a b]at h1
     exact y9.zero.1 (by omega)
   ·rw[eF,eL]
    have h1:zh (qG a) F=true↔qC (qbF q l base) a=true:=by
     rw[qny hFo ha,qfZ,qfh]
     exact k6 a
    cases h:zh (qG a) F
    ·cases h':qC (qbF q l base) a
     ·rfl
     ·rw[h1.2 h']at h;cases h
    ·rw[h1.1 h]
   ·rw[eL]at ha
    exact k5 a ha
end Go.Abs.Tz
namespace Go.Abs.Tz
open Go Go.Abs Go.Proofs
structure ClosedM(l:List qe)(base:List Atom)(T:Atom->Prop):Prop where
 base:∀a∈base,T a
 good:∀a,T a->zf a
 step:∀c∈l,∀h,wm T c h->T h
theorem qpb:∀(l:List qe)(i:Nat),(∀c∈l,yv c)->(wh l i).1=0
 |[],_,_=>rfl
 |c::r,i,h=>by
  have hc:=h c List.mem_cons_self
  unfold wh
  rw[if_neg (by rw[hc.ok];simp),if_neg (by rw[hc.safe];simp)]
  exact qpb r (i+1) fun d hd=>h d (List.mem_cons_of_mem _ hd)
end Go.Abs.Tz
namespace Go.Abs.Tz
open Go Go.Abs Go.Proofs
structure qf where
 id:Int
 fr:Int
 to:Int
 cls:List qe
def inF(y w:Int)(c:qf):Bool:=decide (c.fr<=y)&&(decide (y<=c.to)&&decide (c.id≠w))
def ql(l:List qf)(y w:Int):List qe:=l.flatMap fun c=>if inF y w c then c.cls else []
def qaA(c:qf):Bool:=decide (1<=c.id/\c.id<=2^40)&&decide (0<=c.fr/\c.fr<=c.to/\c.to<=4000)
def qaU:List qf->List qf->Nat->Int×Int
 |_,[],_=>(0,0)
 |P,c::r,i=>if qaA c=false then (1,i) else if (P.any fun x=>decide (c.id<=x.id))=true then (6,i) else if (qQ c.cls).1≠0 then ((qQ c.cls).1,i) else qaU (P++[c]) r (i+1)
structure qaK(l:List qf):Prop where
 inc:l.Pairwise fun a b=>a.id<b.id
 ok:∀c∈l,qaA c=true/\(qQ c.cls).1=0
theorem qnY:∀(r P:List qf)(i:Nat),(qaU P r i).1=0->qaK P->qaK (P++r)
 |[],P,_,_,h=>by simpa using h
 |c::r,P,i,h,hP=>by
  unfold qaU at h
  by_cases h1:qaA c=false
  ·rw[if_pos h1]at h;cases h
  rw[if_neg h1]at h
  by_cases h2:(P.any fun x=>decide (c.id<=x.id))=true
  ·rw[if_pos h2]at h;cases h
  rw[if_neg h2]at h
  by_cases h3:(qQ c.cls).1≠0
  ·rw[if_pos h3]at h;exact absurd h h3
  rw[if_neg h3]at h
  have hf:∀z∈P,z.id<c.id:=fun z hz=>by
   have:¬c.id<=z.id:=fun hc=>h2 (List.any_eq_true.2 ⟨z,hz,decide_eq_true hc⟩)
   omega
  have:=qnY r (P++[c]) (i+1) h ⟨List.pairwise_append.2 ⟨hP.inc,by simp,fun a ha b hb=>by
   rw[List.mem_singleton]at hb
   rw[hb]
   exact hf a ha⟩,fun d hd=>by
   rcases List.mem_append.1 hd with hd|hd
   ·exact hP.ok d hd
   ·rw[List.mem_singleton]at hd
    rw[hd]
    exact⟨by simpa using h1,by omega⟩⟩
  rwa [List.append_assoc]at this
theorem qiX{l:List qf}(h:(qaU [] l 0).1=0):qaK l:=by
 have:=qnY l [] 0 h ⟨.nil,fun c hc=>by cases hc⟩
 simpa using this
def qdy(l:List qf):List Int->Int
 |[]=>0
 |y::r=>if 40<(ql l y 0).length then 2 else if (wt (ql l y 0)).isNone then 81 else qdy l r
def zy(l:List qf):List (Int×Int):=l.map fun c=>(c.fr,c.to)
def uu(l:List qf):Int×Int:=if 30<l.length then (2,0) else if (qaU [] l 0).1≠0 then qaU [] l 0 else (qdy l (yE 4000 (zy l)),0)
theorem qgu{l:List qf}{y w:Int}{c:qe}(h:c∈ql l y w):∃x∈l,c∈x.cls:=by
 obtain⟨x,hx,hc⟩:=List.mem_flatMap.1 h
 split at hc
 ·exact⟨x,hx,hc⟩
 ·cases hc
theorem quV{l:List qf}(h:qaK l){y w:Int}(hl:(ql l y w).length<=40):(qQ (ql l y w)).1=0:=by
 unfold qQ
 rw[if_neg (by omega)]
 refine qpb _ 0 fun c hc=>?_
 obtain⟨x,hx,hc⟩:=qgu hc
 exact qjn (h.ok x hx).2 c hc
def qH(c:qf):List qf->List qf
 |[]=>[c]
 |x::r=>if x.id<c.id then x::qH c r else c::x::r
def qcv(l:List qf)(i:Int):Bool:=l.any fun x=>decide (x.id=i)
def wY(l:List qf)(c:qf):Int:=if (uu l).1≠0 then (uu l).1 else if qcv l c.id then 6 else (uu (qH c l)).1
def qby(l:List qf)(c:qf):List qf:=if wY l c=0 then qH c l else []
def zo(l:List qf)(y:Int):Int:=if (uu l).1≠0 then (uu l).1 else if 0<=y/\y<=4000 then 0 else 1
def qae(p:Int->Bool)(l:List Int)(a:Int):Int:=l.foldl (fun a y=>if p y then (if a<y then y else a) else a) a
def wx(p:Int->Bool)(l:List Int)(a:Int):Int:=l.foldl (fun a y=>if p y then (if y<a then y else a) else a) a
theorem qeV(p:Int->Bool):∀(l:List Int)(a:Int),a<=qae p l a/\(∀y∈l,p y=true->y<=qae p l a)/\(qae p l a=a\/∃y∈l,p y=true/\qae p l a=y)
 |[],a=>⟨Int.le_refl _,fun y hy=>(by cases hy),.inl rfl⟩
 |x::l,a=>by
  obtain⟨b,hb⟩:∃b,(if p x then (if a<x then x else a) else a)=b:=⟨_,rfl⟩
  have e:qae p (x::l) a=qae p l b:=by rw[<-hb];rfl
  obtain⟨h1,h2,h3⟩:=qeV p l b
  have hab:a<=b/\(p x=true->x<=b)/\(b=a\/(p x=true/\b=x)):=by
   rw[<-hb]
   by_cases hp:p x=true
   ·rw[if_pos hp]
    by_cases hx:a<x
    ·rw[if_pos hx];exact⟨by omega,fun _=>Int.le_refl _,.inr ⟨hp,rfl⟩⟩
    ·rw[if_neg hx];exact⟨Int.le_refl _,fun _=>by omega,.inl rfl⟩
   ·rw[if_neg hp];exact⟨Int.le_refl _,fun h=>absurd h hp,.inl rfl⟩
  rw[e]
  refine⟨by omega,fun y hy hpy=>?_,?_⟩
  ·rcases List.mem_cons.1 hy with rfl|hy
   ·have:=hab.2.1 hpy;omega
   ·exact h2 y hy hpy
  ·rcases h3 with h3|⟨y,hy,hpy,h3⟩
   ·rcases hab.2.2 with h|⟨hpx,h⟩
    ·exact .inl (by omega)
    ·exact .inr ⟨x,List.mem_cons_self,hpx,by omega⟩
   ·exact .inr ⟨y,List.mem_cons_of_mem _ hy,hpy,h3⟩
theorem qeR(p:Int->Bool):∀(l:List Int)(a:Int),wx p l a<=a/\(∀y∈l,p y=true->wx p l a<=y)/\(wx p l a=a\/∃y∈l,p y=true/\wx p l a=y)
 |[],a=>⟨Int.le_refl _,fun y hy=>(by cases hy),.inl rfl⟩
 |x::l,a=>by
  obtain⟨b,hb⟩:∃b,(if p x then (if x<a then x else a) else a)=b:=⟨_,rfl⟩
  have e:wx p (x::l) a=wx p l b:=by rw[<-hb];rfl
  obtain⟨h1,h2,h3⟩:=qeR p l b
  have hab:b<=a/\(p x=true->b<=x)/\(b=a\/(p x=true/\b=x)):=by
   rw[<-hb]
   by_cases hp:p x=true
   ·rw[if_pos hp]
    by_cases hx:x<a
    ·rw[if_pos hx];exact⟨by omega,fun _=>Int.le_refl _,.inr ⟨hp,rfl⟩⟩
    ·rw[if_neg hx];exact⟨Int.le_refl _,fun _=>by omega,.inl rfl⟩
   ·rw[if_neg hp];exact⟨Int.le_refl _,fun h=>absurd h hp,.inl rfl⟩
  rw[e]
  refine⟨by omega,fun y hy hpy=>?_,?_⟩
  ·rcases List.mem_cons.1 hy with rfl|hy
   ·have:=hab.2.1 hpy;omega
   ·exact h2 y hy hpy
  ·rcases h3 with h3|⟨y,hy,hpy,h3⟩
   ·rcases hab.2.2 with h|⟨hpx,h⟩
    ·exact .inl (by omega)
    ·exact .inr ⟨x,List.mem_cons_self,hpx,by omega⟩
   ·exact .inr ⟨y,List.mem_cons_of_mem _ hy,hpy,h3⟩
def qcU(ys:List Int)(y:Int):Int:=qae (fun x=>decide (x<=y)) ys 0
def qcV(ys:List Int)(y:Int):Int:=wx (fun x=>decide (y<=x)) ((ys.filter fun x=>decide (y<x)).map fun x=>x - 1) 4000
end Go.Abs.Tz
