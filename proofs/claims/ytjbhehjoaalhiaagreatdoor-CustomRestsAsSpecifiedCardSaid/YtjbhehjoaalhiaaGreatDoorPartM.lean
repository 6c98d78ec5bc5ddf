/- Part of the proof that the law CustomRestsAsSpecified holds. Conditions: none. -/
import Derived.Test.YtjbhehjoaalhiaaGreatDoorPartL
import Derived.Test.YtjbhehjoaalhiaaGreatDoorPartG
import Derived.WalkKit
import Derived.RegionTactic
import Derived.Deep.RegionWith
import Derived.LoopN
import Derived.StillTailTactics
import Derived.Deep.LoopGhost
import Derived.Lib.Builder
import Derived.Test.YtjbhehjoaalhiaaGreatDoorProg
import Derived.KernelRfl
import Derived.Lib.Walk
import Derived.Lib.AppendStr
import Derived.Lib.UnsafeStr
import Derived.Laws.Externs
import Derived.Lib.Hide
import Derived.Test.YtjbhehjoaalhiaaGreatDoorPartJ
import Derived.Test.YtjbhehjoaalhiaaGreatDoorPartK
import Derived.Test.YtjbhehjoaalhiaaGreatDoorPartH
set_option linter.unusedVariables false
set_option linter.unusedSimpArgs false
set_option linter.unusedSectionVars false
namespace Go.Proofs
open Go Go.Shelf Go.RowKit Go.Lib Go.Sort
set_option maxHeartbeats 1000000
set_option maxRecDepth 100000
theorem Tz.nanS(s:ByteArray)(w:World):Calls Tryz.prog 162 #[.string s] w fun e w'=>e=.returned (.bool false)/\w'=w:=by
 go_enter Tryz.func162,Tryz.ntmps162
 go_wp2
 go_ret
 exact⟨rfl,rfl⟩
theorem Tz.nanI(s:Int)(w:World):Calls Tryz.prog 152 #[.int .i64 s] w fun e w'=>e=.returned (.bool false)/\w'=w:=by
 go_enter Tryz.func152,Tryz.ntmps152
 go_wp2
 go_ret
 exact⟨rfl,rfl⟩
theorem Tz.cmpS(s t:ByteArray)(w:World):Calls Tryz.prog 104 #[.string s,.string t] w fun e w'=>e=.returned (.int .i64 (Go.Abs.Tz.cmpB s t))/\w'=w:=by
 have hs:=Tz.nanS s
 have ht:=Tz.nanS t
 have hg:∀w:World,(binOp .gtr 9 (.string s) (.string t)).run Tryz.prog w=.ok (.bool (!(Op.bytesLess s.toList t.toList||s.toList==t.toList))) w:=fun w=>rfl
 go_enter Tryz.func104,Tryz.ntmps104
 go_wp2_with (go_at_call 162;first|(refine(hs _).mono ?_;rintro e w' ⟨rfl,rfl⟩)|(refine(ht _).mono ?_;rintro e w' ⟨rfl,rfl⟩))
 ·rename_i h
  go_ret
  exact⟨by simp[Go.Abs.Tz.cmpB,Go.Abs.Tz.lessB,h],rfl⟩
 ·rename_i h _ _ h2
  have h2':(s.toList==t.toList)=false:=by simpa using h2
  go_ret
  exact⟨by simp[Go.Abs.Tz.cmpB,Go.Abs.Tz.lessB,Go.Abs.Tz.eqBA,h,h2'],rfl⟩
 ·rename_i h h2
  have h2':(s.toList==t.toList)=true:=by simpa using h2
  go_ret
  exact⟨by simp[Go.Abs.Tz.cmpB,Go.Abs.Tz.lessB,Go.Abs.Tz.eqBA,h,h2'],rfl⟩
theorem Tz.cmpI(s t:Int)(w:World):Calls Tryz.prog 94 #[.int .i64 s,.int .i64 t] w fun e w'=>e=.returned (.int .i64 (Go.Abs.Tz.cmpI s t))/\w'=w:=by
 have hs:=Tz.nanI s
 have ht:=Tz.nanI t
 go_enter Tryz.func94,Tryz.ntmps94
 go_wp2_with (go_at_call 152;first|(refine(hs _).mono ?_;rintro e w' ⟨rfl,rfl⟩)|(refine(ht _).mono ?_;rintro e w' ⟨rfl,rfl⟩))
 ·rename_i h
  go_ret
  exact⟨by simp[Go.Abs.Tz.cmpI,h],rfl⟩
 ·rename_i h1 _ _ h2
  go_ret
  exact⟨by simp[Go.Abs.Tz.cmpI,h2,show ¬s<t by omega],rfl⟩
 ·rename_i h1 h2
  go_ret
  exact⟨by simp[Go.Abs.Tz.cmpI,show ¬s<t by omega,show ¬t<s by omega],rfl⟩
theorem Tz.cell_new1(W:World)(b:Obj)(cs:Array Value)(t:TypeId)(i:Nat):((W.alloc (.cells cs t)).alloc b).cell? ⟨W.heap.size,i,none⟩=cs[i]?:=by
 have h:((W.alloc (.cells cs t)).alloc b).heap[W.heap.size]? = some (.cells cs t):=by
  show ((W.heap.push (.cells cs t)).push b)[W.heap.size]? = _
  rw[Array.getElem?_push_lt (by simp)]
  simp
 unfold World.cell?
 rw[h]
 rfl
theorem Tz.cell_new2(W:World)(a:Obj)(cs:Array Value)(t:TypeId)(i:Nat):((W.alloc a).alloc (.cells cs t)).cell? ⟨W.heap.size+1,i,none⟩=cs[i]?:=by
 have h:((W.alloc a).alloc (.cells cs t)).heap[W.heap.size+1]? = some (.cells cs t):=by
  have h2:(W.alloc a).heap.size=W.heap.size+1:=by
   show (W.heap.push a).size=_
   simp
  rw[<-h2]
  exact Go.Abs.heap_alloc_new
 unfold World.cell?
 rw[h]
 rfl
theorem Tz.cell_new0(W:World)(cs:Array Value)(t:TypeId)(i:Nat):(W.alloc (.cells cs t)).cell? ⟨W.heap.size,i,none⟩=cs[i]?:=by
 have h:(W.alloc (.cells cs t)).heap[W.heap.size]? = some (.cells cs t):=Go.Abs.heap_alloc_new
 unfold World.cell?
 rw[h]
 rfl
theorem Tz.fin3b(W:World)(a b c:Obj):((W.alloc a).alloc b).drew.alloc c=grow (W.drewN 1) #[a,b,c]:=by
 rw[alloc_eq_grow,alloc_eq_grow,alloc_eq_grow,grow_grow,drew_grow,grow_grow]
 rfl
theorem Tz.or3(b:Nat)(x y z:Int)(w:World)(h0:w.cell? ⟨b,0,none⟩=some (.int .i64 x))(h1:w.cell? ⟨b,1,none⟩=some (.int .i64 y))(h2:w.cell? ⟨b,2,none⟩=some (.int .i64 z)):Calls Tryz.prog 103 #[.slice (some ⟨b,0,none⟩) 3 3] w fun e w'=>e=.returned (.int .i64 (Go.Abs.Tz.or3 x y z))/\w'=w:=by
 go_enter Tryz.func103,Tryz.ntmps103
 go_wp2
 refine wp_loop_rounds 4 ?_
 rw[rounds_succ]
 by_cases hx:x=0
 ·subst hx
  go_wp2
  rw[rounds_succ]
  by_cases hy:y=0
  ·subst hy
   go_wp2
   rw[rounds_succ]
   by_cases hz:z=0
   ·subst hz
    go_wp2
    rw[rounds_succ]
    go_wp2
    go_ret
    exact⟨rfl,rfl⟩
   ·go_wp2
    go_ret
    exact⟨by simp[Go.Abs.Tz.or3],rfl⟩
  ·go_wp2
   go_ret
   exact⟨by simp[Go.Abs.Tz.or3,hy],rfl⟩
 ·go_wp2
  go_ret
  exact⟨by simp[Go.Abs.Tz.or3,hx],rfl⟩
set_option maxHeartbeats 8000000 in
theorem Tz.cmpT(x y:Go.Abs.Tz.Term)(W:World):Calls Tryz.prog 157 #[.agg #[.int .i64 x.kind,.int .i64 x.n,.string x.s],.agg #[.int .i64 y.kind,.int .i64 y.n,.string y.s]] W fun e w'=>e=.returned (.int .i64 (Go.Abs.Tz.cmpT x y))/\∃q os',w'=grow (W.drewN q) os':=by
 have hk:=Tz.cmpI x.kind y.kind
 have hn:=Tz.cmpI x.n y.n
 have hs:=Tz.cmpS x.s y.s
 have ho:=fun b=>Tz.or3 b (Go.Abs.Tz.cmpI x.kind y.kind) (Go.Abs.Tz.cmpI x.n y.n) (Go.Abs.Tz.cmpB x.s y.s)
 have hr:Go.Abs.Tz.cmpT x y=Go.Abs.Tz.or3 (Go.Abs.Tz.cmpI x.kind y.kind) (Go.Abs.Tz.cmpI x.n y.n) (Go.Abs.Tz.cmpB x.s y.s):=rfl
 rw[hr]
 generalize Go.Abs.Tz.or3 (Go.Abs.Tz.cmpI x.kind y.kind) (Go.Abs.Tz.cmpI x.n y.n) (Go.Abs.Tz.cmpB x.s y.s)=r at ho ⊢
 generalize Go.Abs.Tz.cmpI x.kind y.kind=r1 at hk ho
 generalize Go.Abs.Tz.cmpI x.n y.n=r2 at hn ho
 generalize Go.Abs.Tz.cmpB x.s y.s=r3 at hs ho
 have c1:=fun i=>Tz.cell_new1 W (.cells #[.int .i64 y.kind,.int .i64 y.n,.string y.s] 97) #[.int .i64 x.kind,.int .i64 x.n,.string x.s] 97 i
 have c2:=fun i=>Tz.cell_new2 W (.cells #[.int .i64 x.kind,.int .i64 x.n,.string x.s] 97) #[.int .i64 y.kind,.int .i64 y.n,.string y.s] 97 i
 have d0:=c1 0
 have d1:=c1 1
 have d2:=c1 2
 have e0:=c2 0
 have e1:=c2 1
 have e2:=c2 2
 clear c1 c2
 obtain⟨W2,hW2⟩:∃W2,((W.alloc (.cells #[.int .i64 x.kind,.int .i64 x.n,.string x.s] 97)).alloc (.cells #[.int .i64 y.kind,.int .i64 y.n,.string y.s] 97)).drew=W2:=⟨_,rfl⟩
 change ((W.alloc (.cells #[.int .i64 x.kind,.int .i64 x.n,.string x.s] 97)).alloc (.cells #[.int .i64 y.kind,.int .i64 y.n,.string y.s] 97)).drew.cell? _=_ at d0 d1 d2 e0 e1 e2
 rw[hW2]at d0 d1 d2 e0 e1 e2
 go_enter Tryz.func157,Tryz.ntmps157
 go_wp2
 refine wp_region_still_tail 15 (by kernel_rfl) (by kernel_rfl) ?_
 change wpStill _ _ ((W.alloc (.cells #[.int .i64 x.kind,.int .i64 x.n,.string x.s] 97)).alloc (.cells #[.int .i64 y.kind,.int .i64 y.n,.string y.s] 97)).drew (fun a'=>wpList _ _ _ _ a' ((W.alloc (.cells #[.int .i64 x.kind,.int .i64 x.n,.string x.s] 97)).alloc (.cells #[.int .i64 y.kind,.int .i64 y.n,.string y.s] 97)).drew) _ _
 rw[hW2]
 simp only[List.take_succ_cons,List.take_zero,List.drop_succ_cons,List.drop_zero]
 still_step
 still_step
 still_step
 still_step
 still_call (hk _)
 still_step
 still_step
 still_step
 still_step
 still_call (hn _)
 still_step
 still_step
 still_step
 still_step
 still_call (hs _)
 refine wpStill_nil ?_
 clear d0 d1 d2 e0 e1 e2 hk hn hs
 go_wp2_with (go_at_call 103;refine(ho _ _ (Tz.cell_new0 _ _ _ _) (Tz.cell_new0 _ _ _ _) (Tz.cell_new0 _ _ _ _)).mono ?_;rintro e w' ⟨rfl,rfl⟩)
 go_ret
 refine⟨rfl,1,#[(.cells #[.int .i64 x.kind,.int .i64 x.n,.string x.s] 97),(.cells #[.int .i64 y.kind,.int .i64 y.n,.string y.s] 97),.cells #[.int .i64 r1,.int .i64 r2,.int .i64 r3] 3],?_⟩
 rw[<-hW2]
 exact Tz.fin3b _ _ _ _
end Go.Proofs
namespace Go.Proofs
open Go Go.Shelf Go.RowKit Go.Lib Go.Sort
set_option maxHeartbeats 1000000
set_option maxRecDepth 100000
def Tz.RowIn(W:World)(x:List Go.Abs.Tz.Term)(u:Value):Prop:=∃base cap,u=.slice base x.length cap/\(x=[]\/∃b off,base=some ⟨b,off,none⟩/\b<W.heap.size/\∀i t,x[i]? = some t ->
 W.cell? ⟨b,off+i*3,none⟩=some (.int .i64 t.kind)/\W.cell? ⟨b,off+i*3+1,none⟩=some (.int .i64 t.n)/\W.cell? ⟨b,off+i*3+2,none⟩=some (.string t.s))
set_option maxHeartbeats 8000000 in
theorem Tz.cmpTs(x y:List Go.Abs.Tz.Term)(hx:x.length<2^40)(hy:y.length<2^40)(u v:Value)(W:World)(hu:Tz.RowIn W x u)(hv:Tz.RowIn W y v):
  Calls Tryz.prog 156 #[u,v,.func (.func 157) #[] #[]] W fun e w'=>e=.returned (.int .i64 (Go.Abs.Tz.cmpTs x y))/\∃q os',w'=grow (W.drewN q) os':=by
 obtain⟨bu,cu,rfl,hbu⟩:=hu
 obtain⟨bv,cv,rfl,hbv⟩:=hv
 have hT:=Tz.cmpT
 go_enter Tryz.func156,Tryz.ntmps156
 go_wp2
 go_loopg [13] (x.length+1) (fun k s13 wr=>∃(i:Nat)(q:Nat)(os:Array Obj),s13=.int .i64 i/\i<=x.length/\x.length - i<k/\wr=grow (W.drewN q) os/\Go.Abs.Tz.cmpTs (x.drop i) (y.drop i)=Go.Abs.Tz.cmpTs x y)
 ·exact⟨0,0,#[],rfl,Nat.zero_le _,by omega,by rw[grow_empty];rfl,rfl⟩
 ·obtain⟨i,q,os,rfl,hi,hgk,hw,hrec⟩:=hrel
  have hwA:Aside (wr=grow (W.drewN q) os):=hw
  have hrA:Aside (Go.Abs.Tz.cmpTs (x.drop i) (y.drop i)=Go.Abs.Tz.cmpTs x y):=hrec
  have cg:∀(a:Addr)(v:Value),a.block<W.heap.size->W.cell? a=some v->wr.cell? a=some v:=fun a v hb hc=>by
   rw[hw,cell?_grow _ _ _ (by exact hb)];exact hc
  clear hw hrec
  by_cases hlt:i<x.length
  ·obtain⟨b,off,rfl,hb,hc⟩:∃b off,bu=some ⟨b,off,none⟩/\b<W.heap.size/\∀i t,x[i]? = some t ->
     W.cell? ⟨b,off+i*3,none⟩=some (.int .i64 t.kind)/\W.cell? ⟨b,off+i*3+1,none⟩=some (.int .i64 t.n)/\W.cell? ⟨b,off+i*3+2,none⟩=some (.string t.s):=by
    rcases hbu with h|h
    ·rw[h]at hlt;simp at hlt
    ·exact h
   obtain⟨f0,f1,f2⟩:=hc i x[i] (List.getElem?_eq_getElem hlt)
   have f0:=cg _ _ hb f0
   have f1:=cg _ _ hb f1
   have f2:=cg _ _ hb f2
   clear hc hbu
   have hlt':(i:Int)<(x.length:Int):=by omega
   have hgr:∀(o:Obj),wr.alloc o=grow (W.drewN q) (os++#[o]):=fun o=>by rw[hwA.out,alloc_eq_grow,grow_grow]
   have hgr2:∀(o p:Obj),(wr.alloc o).alloc p=grow (W.drewN q) (os++#[o,p]):=fun o p=>by rw[hgr,alloc_eq_grow,grow_grow,Array.append_assoc];rfl
   have hxd:x.drop i=x[i]::x.drop (i+1):=List.drop_eq_getElem_cons hlt
   by_cases hly:i<y.length
   ·obtain⟨b2,off2,rfl,hb2,hc2⟩:∃b off,bv=some ⟨b,off,none⟩/\b<W.heap.size/\∀i t,y[i]? = some t ->
      W.cell? ⟨b,off+i*3,none⟩=some (.int .i64 t.kind)/\W.cell? ⟨b,off+i*3+1,none⟩=some (.int .i64 t.n)/\W.cell? ⟨b,off+i*3+2,none⟩=some (.string t.s):=by
     rcases hbv with h|h
     ·rw[h]at hly;simp at hly
     ·exact h
    obtain⟨g0,g1,g2⟩:=hc2 i y[i] (List.getElem?_eq_getElem hly)
    have hyd:y.drop i=y[i]::y.drop (i+1):=List.drop_eq_getElem_cons hly
    have hstep:Go.Abs.Tz.cmpTs x y=if Go.Abs.Tz.cmpT x[i] y[i]≠0 then Go.Abs.Tz.cmpT x[i] y[i] else Go.Abs.Tz.cmpTs (x.drop (i+1)) (y.drop (i+1)):=by
     rw[<-hrA.out,hxd,hyd];rfl
    have hsA:Aside (Go.Abs.Tz.cmpTs x y=if Go.Abs.Tz.cmpT x[i] y[i]≠0 then Go.Abs.Tz.cmpT x[i] y[i] else Go.Abs.Tz.cmpTs (x.drop (i+1)) (y.drop (i+1))):=hstep
    have hT2:=hT x[i] y[i]
    have g0:=cg _ _ hb2 g0
    have g1:=cg _ _ hb2 g1
    have g2:=cg _ _ hb2 g2
    have hA1:Aside (∀(o p:Obj),(wr.alloc o).alloc p=grow (W.drewN q) (os++#[o,p])):=hgr2
    have hbw:b<wr.heap.size:=by rw[hwA.out,size_grow];exact Nat.lt_of_lt_of_le hb (Nat.le_add_right _ _)
    have hbw2:b2<wr.heap.size:=by rw[hwA.out,size_grow];exact Nat.lt_of_lt_of_le hb2 (Nat.le_add_right _ _)
    clear hc2 hbv hgr hgr2 hxd hyd hstep hT cg hrA hwA
    have hly':(i:Int)<(y.length:Int):=by omega
    generalize x[i]=xi at *
    generalize y[i]=yi at *
    generalize Go.Abs.Tz.cmpT xi yi=r at *
    by_cases hr:r=0
    ·subst hr
     go_wp2_with (go_at_call 157;refine(hT2 _).mono ?_;rintro e w' ⟨rfl,q',os',rfl⟩)
     go_roundg (x.length - (i+1)+1)
     case rel=>
      refine⟨i+1,q+q',(os++#[.cells #[.int .i64 xi.kind,.int .i64 xi.n,.string xi.s] 97,.cells #[.int .i64 yi.kind,.int .i64 yi.n,.string yi.s] 97])++os',by simp,by omega,by omega,?_,?_⟩
      ·rw[hA1.out]
       show grow (grow ((W.drewN q).drewN q') _) os'=_
       rw[grow_grow,World.drewN_drewN]
      ·rw[hsA.out,if_neg (by simp)]
     case measure=>omega
    ·go_wp2_with (go_at_call 157;refine(hT2 _).mono ?_;rintro e w' ⟨rfl,q',os',rfl⟩)
     go_ret
     refine⟨by rw[hsA.out,if_pos hr];rfl,q+q',(os++#[.cells #[.int .i64 xi.kind,.int .i64 xi.n,.string xi.s] 97,.cells #[.int .i64 yi.kind,.int .i64 yi.n,.string yi.s] 97])++os',?_⟩
     rw[hA1.out]
     show grow (grow ((W.drewN q).drewN q') _) os'=_
     rw[grow_grow,World.drewN_drewN]
   ·have hly':¬(i:Int)<(y.length:Int):=by omega
    have hyd:y.drop i=[]:=List.drop_eq_nil_of_le (by omega)
    have hres:Go.Abs.Tz.cmpTs x y=1:=by
     rw[<-hrA.out,hxd,hyd];rfl
    have hgA:Aside (∀(o:Obj),wr.alloc o=grow (W.drewN q) (os++#[o])):=hgr
    clear cg hbv hyd hxd hgr hgr2 hwA hrA
    generalize x[i]=xi at *
    go_wp2
    go_ret
    exact⟨rfl,q,_,hgA.out _⟩
  ·have hlt':¬(i:Int)<(x.length:Int):=by omega
   have hxd:x.drop i=[]:=List.drop_eq_nil_of_le (by omega)
   obtain rfl:i=x.length:=by omega
   have hres:Go.Abs.Tz.cmpTs x y=if x.length<y.length then -1 else 0:=by
    rw[<-hrA.out,hxd]
    by_cases h:x.length<y.length
    ·rw[if_pos h,List.drop_eq_getElem_cons h];rfl
    ·rw[if_neg h,List.drop_eq_nil_of_le (by omega)];rfl
   have hsA:Aside (Go.Abs.Tz.cmpTs x y=if x.length<y.length then -1 else 0):=hres
   clear cg hbu hbv hxd hrA hres
   go_wp2
   ·rename_i h
    go_ret
    exact⟨by rw[hsA.out,if_pos h];rfl,q,_,hwA.out⟩
   ·rename_i h
    go_ret
    exact⟨by rw[hsA.out,if_neg h];rfl,q,_,hwA.out⟩
end Go.Proofs
namespace Go.Proofs
open Go Go.Shelf Go.RowKit Go.Lib Go.Sort
set_option maxHeartbeats 1000000
set_option maxRecDepth 100000
theorem Tz.RowIn.grow{W:World}{x:List Go.Abs.Tz.Term}{u:Value}(h:Tz.RowIn W x u)(q:Nat)(os:Array Obj):Tz.RowIn (grow (W.drewN q) os) x u:=by
 obtain⟨base,cap,rfl,h⟩:=h
 refine⟨base,cap,rfl,?_⟩
 rcases h with h|⟨b,off,rfl,hb,hc⟩
 ·exact .inl h
 ·refine .inr ⟨b,off,rfl,by rw[size_grow];exact Nat.lt_of_lt_of_le hb (Nat.le_add_right _ _),fun i t ht=>?_⟩
  obtain⟨h0,h1,h2⟩:=hc i t ht
  exact⟨by rw[cell?_grow _ _ _ (by exact hb)];exact h0,by rw[cell?_grow _ _ _ (by exact hb)];exact h1,by rw[cell?_grow _ _ _ (by exact hb)];exact h2⟩
theorem Tz.cell_newE(W:World)(cs:Array Value)(t:TypeId)(i b:Nat)(hb:b=W.heap.size):(W.alloc (.cells cs t)).cell? ⟨b,i,none⟩=cs[i]?:=by
 subst hb
 exact Tz.cell_new0 W cs t i
set_option maxHeartbeats 8000000 in
theorem Tz.cmpA(x y:Go.Abs.Tz.Atom)(hx:x.args.length<2^40)(hy:y.args.length<2^40)(u v:Value)(W:World)(hu:Tz.RowIn W x.args u)(hv:Tz.RowIn W y.args v):
  Calls Tryz.prog 96 #[.agg #[.string x.pred,u],.agg #[.string y.pred,v]] W fun e w'=>e=.returned (.int .i64 (Go.Abs.Tz.cmpA x y))/\∃q os',w'=grow (W.drewN q) os':=by
 have hu0:=hu
 have hv0:=hv
 obtain⟨bu,cu,rfl,_⟩:=hu0
 obtain⟨bv,cv,rfl,_⟩:=hv0
 obtain⟨A,hA⟩:∃A,Obj.cells #[.string x.pred,.slice bu x.args.length cu] 32=A:=⟨_,rfl⟩
 obtain⟨B,hB⟩:∃B,Obj.cells #[.string y.pred,.slice bv y.args.length cv] 32=B:=⟨_,rfl⟩
 have hs:=Tz.cmpS x.pred y.pred
 have hi:=Tz.cmpI x.args.length y.args.length
 have ho:=fun b=>Tz.or3 b (Go.Abs.Tz.cmpB x.pred y.pred) (Go.Abs.Tz.cmpI x.args.length y.args.length) (Go.Abs.Tz.cmpTs x.args y.args)
 have hW2g:((W.alloc A).alloc B).drew=grow (W.drewN 1) #[A,B]:=by
  rw[alloc_eq_grow,alloc_eq_grow,grow_grow,drew_grow];rfl
 have hc:=Tz.cmpTs x.args y.args hx hy _ _ _ (hu.grow 1 #[A,B]) (hv.grow 1 #[A,B])
 rw[<-hW2g]at hc
 have hr:Go.Abs.Tz.cmpA x y=Go.Abs.Tz.or3 (Go.Abs.Tz.cmpB x.pred y.pred) (Go.Abs.Tz.cmpI x.args.length y.args.length) (Go.Abs.Tz.cmpTs x.args y.args):=rfl
 rw[hr]
 generalize Go.Abs.Tz.or3 (Go.Abs.Tz.cmpB x.pred y.pred) (Go.Abs.Tz.cmpI x.args.length y.args.length) (Go.Abs.Tz.cmpTs x.args y.args)=r at ho ⊢
 generalize Go.Abs.Tz.cmpB x.pred y.pred=r1 at hs ho
 generalize Go.Abs.Tz.cmpI x.args.length y.args.length=r2 at hi ho
 generalize Go.Abs.Tz.cmpTs x.args y.args=r3 at hc ho
 clear hu hv hr
 have c1:=fun i=>Tz.cell_new1 W B #[.string x.pred,.slice bu x.args.length cu] 32 i
 have c2:=fun i=>Tz.cell_new2 W A #[.string y.pred,.slice bv y.args.length cv] 32 i
 rw[hA]at c1
 rw[hB]at c2
 have d0:=c1 0
 have d1:=c1 1
 have e0:=c2 0
 have e1:=c2 1
 clear c1 c2
 obtain⟨W2,hW2⟩:∃W2,((W.alloc A).alloc B).drew=W2:=⟨_,rfl⟩
 change ((W.alloc A).alloc B).drew.cell? _=_ at d0 d1 e0 e1
 rw[hW2]at d0 d1 e0 e1 hc hW2g
 subst hA hB
 have hgA:Aside (W2=grow (W.drewN 1) #[Obj.cells #[.string x.pred,.slice bu x.args.length cu] 32,Obj.cells #[.string y.pred,.slice bv y.args.length cv] 32]):=hW2g
 clear hW2g
 go_enter Tryz.func96,Tryz.ntmps96
 go_wp2
 refine wp_region_still_tail 16 (by kernel_rfl) (by kernel_rfl) ?_
 change wpStill _ _ ((W.alloc (.cells #[.string x.pred,.slice bu x.args.length cu] 32)).alloc (.cells #[.string y.pred,.slice bv y.args.length cv] 32)).drew (fun a'=>wpList _ _ _ _ a' ((W.alloc (.cells #[.string x.pred,.slice bu x.args.length cu] 32)).alloc (.cells #[.string y.pred,.slice bv y.args.length cv] 32)).drew) _ _
 rw[hW2]
 clear hW2
 simp only[List.take_succ_cons,List.take_zero,List.drop_succ_cons,List.drop_zero]
 still_step
 still_step
 still_step
 still_step
 still_call (hs _)
 still_step
 still_step
 still_step
 still_step
 still_step
 still_step
 still_call (hi _)
 still_step
 still_step
 still_step
 still_step
 refine wpStill_nil ?_
 clear d0 d1 e0 e1 hi hs
 go_wp2_with (first|(go_at_call 156;refine hc.mono ?_;rintro e w' ⟨rfl,q',os',rfl⟩)|(go_at_call 103;refine(ho _ _ (Tz.cell_newE _ _ _ _ _ (size_grow _ _).symm) (Tz.cell_newE _ _ _ _ _ (size_grow _ _).symm) (Tz.cell_newE _ _ _ _ _ (size_grow _ _).symm)).mono ?_;rintro e w' ⟨rfl,rfl⟩))
 go_ret
 refine⟨rfl,1+q',(#[Obj.cells #[.string x.pred,.slice bu x.args.length cu] 32,Obj.cells #[.string y.pred,.slice bv y.args.length cv] 32]++os')++#[.cells #[.int .i64 r1,.int .i64 r2,.int .i64 r3] 3],?_⟩
 rw[hgA.out,alloc_eq_grow]
 show grow (grow (grow ((W.drewN 1).drewN q') _) os') _=_
 rw[grow_grow,grow_grow,World.drewN_drewN,Array.append_assoc]
end Go.Proofs
namespace Go.Abs.Tz
open Go Go.Abs Go.Proofs
structure wf{α:Type}(c:α->α->Int):Prop where
 anti:∀x y,c y x=- c x y
 tr:∀x y z,c x y<=0->c y z<=0->c x z<=0
 eq:∀x y,c x y=0->x=y
theorem wf.refl{α:Type}{c:α->α->Int}(h:wf c)(x:α):c x x=0:=by have:=h.anti x x;omega
theorem wf.zero{α:Type}{c:α->α->Int}(h:wf c){x y:α}:c x y=0↔x=y:=⟨h.eq x y,fun e=>e▸h.refl x⟩
theorem wf.lt_tr{α:Type}{c:α->α->Int}(h:wf c){x y z:α}(h1:c x y<0)(h2:c y z<0):c x z<0:=by
 have h3:=h.tr x y z (by omega) (by omega)
 have h4:c x z≠0:=fun e=>by
  have:=h.eq _ _ e
  subst this
  have:=h.anti x y
  omega
 omega
theorem wf.comap{α β:Type}{c:α->α->Int}(h:wf c)(f:β->α)(hf:∀x y,f x=f y->x=y):wf fun x y=>c (f x) (f y):=
 ⟨fun x y=>h.anti _ _,fun x y z=>h.tr _ _ _,fun x y e=>hf _ _ (h.eq _ _ e)⟩
def lexC(a b:Int):Int:=if a≠0 then a else b
theorem wf.lex{α β:Type}{c:α->α->Int}{d:β->β->Int}(h:wf c)(k:wf d):wf fun(x y:α×β)=>lexC (c x.1 y.1) (d x.2 y.2):=by
 refine⟨fun x y=>?_,fun x y z h1 h2=>?_,fun x y e=>?_⟩
 ·have h1:=h.anti x.1 y.1
  have h2:=k.anti x.2 y.2
  simp only[lexC]
  rw[h1,h2]
  split<;>split<;>omega
 ·simp only[lexC]at h1 h2 ⊢
  by_cases a:c x.1 y.1=0
  ·rw[if_neg (by omega)]at h1
   rw[h.eq _ _ a]
   by_cases b:c y.1 z.1=0
   ·rw[if_neg (by omega)]at h2 ⊢
    exact k.tr _ _ _ h1 h2
   ·rw[if_pos b]at h2 ⊢
    exact h2
  ·rw[if_pos a]at h1
   by_cases b:c y.1 z.1=0
   ·rw[<-h.eq _ _ b,if_pos a];exact h1
   ·rw[if_pos b]at h2
    have:=h.lt_tr (x:=x.1) (y:=y.1) (z:=z.1) (by omega) (by omega)
    rw[if_pos (by omega)]
    omega
 ·simp only[lexC]at e
  split at e
  ·rename_i h1;exact absurd e h1
  ·rename_i h1
   exact Prod.ext (h.eq _ _ (by omega)) (k.eq _ _ e)
theorem qjV:wf cmpI:=by
 refine⟨fun x y=>?_,fun x y z h1 h2=>?_,fun x y e=>?_⟩
 ·unfold cmpI;split<;>split<;>(try split)<;>omega
 ·unfold cmpI at h1 h2 ⊢
  repeat' split at h1
  all_goals repeat' split at h2
  all_goals repeat' split
  all_goals omega
 ·unfold cmpI at e
  repeat' split at e
  all_goals omega
theorem qvq{x y:ByteArray}(h1:lessB x y=false)(h2:lessB y x=false):x=y:=toList_inj (qkf _ _ h1 h2)
theorem qjk(x:ByteArray):lessB x x=false:=qkh _
theorem qnK{x y z:ByteArray}(h1:lessB x y=true)(h2:lessB y z=true):lessB x z=true:=qkg _ _ _ h1 h2
theorem qnL{x y:ByteArray}(h:lessB x y=true):lessB y x=false:=by
 cases h2:lessB y x with
 |false=>rfl
 |true=>
  have:=qnK h h2
  rw[qjk]at this
  cases this
theorem qeu(a b:ByteArray):(lessB a b=true/\cmpB a b=-1)\/(a=b/\cmpB a b=0)\/(lessB b a=true/\cmpB a b=1):=by
 unfold cmpB
 cases h1:lessB a b with
 |true=>exact .inl ⟨rfl,if_pos rfl⟩
 |false=>
  rw[if_neg (by simp)]
  cases h2:eqBA a b with
  |true=>exact .inr (.inl ⟨wQ.1 h2,if_pos rfl⟩)
  |false=>
   refine .inr (.inr ⟨?_,if_neg (by simp)⟩)
   cases h3:lessB b a with
   |true=>rfl
   |false=>
    have:=qvq h1 h3
    rw[wQ.2 this]at h2
    cases h2
theorem qpG:wf cmpB:=by
 refine⟨fun x y=>?_,fun x y z h1 h2=>?_,fun x y e=>?_⟩
 ·rcases qeu x y with⟨h,e⟩|⟨h,e⟩|⟨h,e⟩<;>rcases qeu y x with⟨k,f⟩|⟨k,f⟩|⟨k,f⟩<;>rw[e,f]
  all_goals first
   |rfl
   |(exfalso;have:=qnL h;rw[k]at this;cases this)
   |(exfalso;subst h;rw[qjk]at k;cases k)
   |(exfalso;subst k;rw[qjk]at h;cases h)
 ·rcases qeu x y with⟨h,e⟩|⟨h,e⟩|⟨h,e⟩
  ·rcases qeu y z with⟨k,f⟩|⟨k,f⟩|⟨k,f⟩
   ·rcases qeu x z with⟨_,g⟩|⟨_,g⟩|⟨l,g⟩
    ·rw[g];decide
    ·rw[g];decide
    ·have:=qnL (qnK h k);rw[l]at this;cases this
   ·subst k;exact h1
   ·rw[f]at h2;exact absurd h2 (by decide)
  ·subst h;exact h2
  ·rw[e]at h1;exact absurd h1 (by decide)
 ·rcases qeu x y with⟨h,g⟩|⟨h,g⟩|⟨h,g⟩
  ·rw[g]at e;exact absurd e (by decide)
  ·exact h
  ·rw[g]at e;exact absurd e (by decide)
theorem qfI:wf cmpT:=by
 have h:=(qjV.lex (qjV.lex qpG)).comap (fun t:Term=>(t.kind,t.n,t.s)) (fun x y e=>by
  cases x;cases y;simp only[Prod.mk.injEq]at e;obtain⟨rfl,rfl,rfl⟩:=e;rfl)
 exact h
theorem qpF:∀x y:List Term,cmpTs y x=- cmpTs x y
 |[],[]=>rfl
 |[],_::_=>rfl
 |_::_,[]=>rfl
 |a::x,b::y=>by
  have ih:=qpF x y
  have h:=qfI.anti a b
  simp only[cmpTs]
  rw[h,ih]
  split<;>split<;>omega
theorem qpE:∀x y:List Term,cmpTs x y=0->x=y
 |[],[],_=>rfl
 |[],_::_,h=>by simp[cmpTs]at h
 |_::_,[],h=>by simp[cmpTs]at h
 |a::x,b::y,h=>by
  simp only[cmpTs]at h
  split at h
  ·rename_i h1;exact absurd h h1
  ·rename_i h1
   rw[qfI.eq a b (by omega),qpE x y h]
theorem qpD:∀x y z:List Term,cmpTs x y<=0->cmpTs y z<=0->cmpTs x z<=0
 |[],_,[],_,_=>by simp[cmpTs]
 |[],_,_::_,_,_=>by simp[cmpTs]
 |_::_,[],_,h,_=>by simp[cmpTs]at h
 |_::_,_::_,[],_,h=>by simp[cmpTs]at h
 |a::x,b::y,c::z,h,k=>by
  simp only[cmpTs]at h k ⊢
  by_cases h1:cmpT a b=0
  ·rw[if_neg (by omega)]at h
   rw[qfI.eq _ _ h1]
   by_cases h2:cmpT b c=0
   ·rw[if_neg (by omega)]at k ⊢
    exact qpD x y z h k
   ·rw[if_pos h2]at k ⊢
    exact k
  ·rw[if_pos h1]at h
   by_cases h2:cmpT b c=0
   ·rw[<-qfI.eq _ _ h2,if_pos h1];exact h
   ·rw[if_pos h2]at k
    have:=qfI.lt_tr (x:=a) (y:=b) (z:=c) (by omega) (by omega)
    rw[if_pos (by omega)]
    omega
theorem qxn:wf cmpTs:=⟨qpF,qpD,qpE⟩
theorem v8:wf cmpA:=by
 have h:=(qpG.lex (qjV.lex qxn)).comap (fun a:Atom=>(a.pred,(a.args.length:Int),a.args)) (fun x y e=>by
  cases x;cases y;simp only[Prod.mk.injEq]at e;obtain⟨rfl,_,rfl⟩:=e;rfl)
 exact h
end Go.Abs.Tz
namespace Go.Abs
open Go
section
variable{P:Program}{G:qb}{w w':World}{H:qa}
structure SameOut(w w':World):Prop where
 os:w'.os=w.os
 tape:w'.tape=w.tape
 output:w'.output=w.output
 size:w.heap.size<=w'.heap.size
end
end Go.Abs
namespace Go.Proofs
open Go Go.RowKit Go.Abs
set_option maxHeartbeats 1000000
set_option maxRecDepth 100000
end Go.Proofs
namespace Go.Abs.Tz
open Go Go.Abs Go.Proofs
theorem qjN(f:FuncId){b:BFn}(h:qj Tryz.prog f=some b):qcZ Tryz.prog f:=by
 obtain⟨fn,h1,h2,h3⟩:=qcl.fn f b h
 obtain⟨c,h4,_⟩:=qew h2
 exact⟨fn,h1,by rw[h4];rfl,h3⟩
end Go.Abs.Tz
namespace Go.Abs
open Go
theorem Inv.arr_turn{G:qb}{w w':World}{H:qa}(hI:Inv G w H){o s:Nat}{cs cs':List LV}{vs vs':Array Value}{el:TypeId}{fz:Nat×Nat}(hl:look o H.objs=some (.arr s cs))(h0:w.heap[G.loc o]? = some (.cells vs el fz))
  (hos:w'.os=w.os) (htape:w'.tape=w.tape) (hout:w'.output=w.output) (hsize:w.heap.size<=w'.heap.size) (hkeep:∀k,k<w.heap.size->k≠G.loc o->w'.heap[k]? = w.heap[k]?)
  (h1:w'.heap[G.loc o]? = some (.cells vs' el fz)) (hsz:vs'.size=vs.size) (hlen:cs'.length=cs.length)
  (hnew:∀(i:Nat)(c:LV),cs'[i]? = some c->VR G w c (vs'.getD i undef)/\(vs'.getD i undef).oneCell'=true):Ext G w G w'/\Inv G w' (H.put o (.arr s cs')):=by
 obtain⟨hob,vs0,el0,fz0,a1,a2,a3,⟨b1,b2,b3⟩,a4,a5,a6⟩:=hI.objs o _ hl
 rw[h0]at a1
 cases a1
 have hlt:∀{k:Nat}{ob:Obj},w.heap[k]? = some ob->k<w.heap.size:=fun h=>(Array.getElem?_eq_some_iff.1 h).1
 have hx:Ext G w G w':=by
  refine⟨hos,htape,hout,hsize,rfl,fun k hk=>hkeep k (hI.hB k hk) (fun e=>a2 (e▸hk)),Nat.le_refl _,fun _ _=>rfl,fun _ _=>rfl,fun b x hc=>⟨hc,fun v hv=>?_⟩,fun t _ m b c h=>⟨m,b,c,h,Nat.le_refl _,fun _=>⟨rfl,rfl⟩⟩,rfl⟩
  have hb:b<w.heap.size:=by
   rcases Nat.lt_or_ge b w.heap.size with h|h
   ·exact h
   ·rw[hI.free b x h]at hc;cases hc
  have hne:b≠G.loc o:=fun e=>by rw[e,a4]at hc;cases hc
  rw[qaw (hkeep b hb hne)];exact hv
 refine⟨hx,?_⟩
 refine Inv.step (W:=fun k _=>k=G.loc o) (V:=fun _=>False) (fun i=>i=o) hI hx ⟨fun k us el' fz' h=>?_,fun k ob h hn _=>?_⟩ hI.n (fun b x h=>hI.free b x (Nat.le_trans hsize h)) (fun b x h=>hI.old b x h) (fun i x hi h=>?_)
  (fun i k x hi hk hw=>?_) (fun _ _ _ h=>h) (fun _ _ _ _=>⟨fun h=>h,fun h=>h⟩) (fun _ _ _=>rfl) ?_ ?_
 ·by_cases hk:k=G.loc o
  ·subst hk
   rw[h0]at h
   cases h
   exact⟨vs',h1,hsz,fun x hx=>absurd rfl hx⟩
  ·exact⟨us,by rw[hkeep k (hlt h) hk];exact h,rfl,fun _ _=>rfl⟩
 ·by_cases hk:k=G.loc o
  ·subst hk
   rw[h0]at h
   cases h
   exact absurd rfl (hn _ _ _)
  ·rw[hkeep k (hlt h) hk];exact h
 ·rw[wn hl]at h
  rw[if_neg hi]at h
  exact h
 ·subst hw
  rw[a4]at hk
  cases hk
  exact hi rfl
 ·intro m es' hm he'
  rw[wn hl]at he'
  split at he'
  ·cases he'
  ·refine⟨es',he',Nat.le_refl _,fun _ ents' clock' h'=>?_⟩
   obtain⟨_,hob⟩:=hI.objs m _ he'
   obtain⟨ents,clock,g1,_⟩:=hob
   have hne:G.loc m≠G.loc o:=fun e=>by rw[e,h0]at g1;cases g1
   rw[hkeep _ (hlt g1) hne,g1]at h'
   cases h'
   exact⟨_,_,g1,rfl,fun _=>rfl⟩
 ·intro i x hi h
  subst hi
  rw[wn hl,if_pos rfl]at h
  cases h
  refine⟨hob,vs',el,fz,h1,a2,by rw[hlen,hsz];exact a3,⟨b1,by rw[hsz];exact b2,by rw[hlen];exact b3⟩,a4,fun x=>?_,fun j c hc=>⟨(hnew j c hc).1.mono hx,(hnew j c hc).2⟩⟩
  have:=a5 x
  unfold World.frozen? at this ⊢
  rw[show (at_ (G.loc i) x).block=G.loc i from rfl]at this ⊢
  rw[h0]at this
  rw[h1]
  exact this
end Go.Abs
set_option maxRecDepth 100000
namespace Go.Abs.Tz
open Go Go.Abs Go.Proofs Go.Shelf Go.RowKit Go.Lib Go.Sort
abbrev yR(a:Atom):List LV:=[.str a.pred,qk a.args]
abbrev wG(A:List Atom):qc:=.arr 2 (A.flatMap yR)
abbrev qda(G:qb)(w:World):Type:={p:Atom×Value // VR G w (qk p.1.args) p.2/\p.1.args.length<2^40}
instance (G:qb) (w:World):Inhabited (qda G w):=⟨⟨(⟨⟨#[]⟩,[]⟩,.slice none 0 0),.sln trivial,by simp⟩⟩
def vY{G:qb}{w:World}(p:qda G w):List Value:=[.string p.1.1.pred,p.1.2]
def cmpE{G:qb}{w:World}(p q:qda G w):Int:=cmpA p.1.1 q.1.1
theorem swoA(G:qb)(w:World):SWO (ltOf (cmpE (G:=G) (w:=w))):=by
 refine⟨fun x=>decide_eq_false ?_,fun x y z h k=>decide_eq_true ?_,fun x y z h k=>decide_eq_false ?_⟩
 ·have:=v8.refl x.1.1
  show ¬cmpA x.1.1 x.1.1<0
  omega
 ·have h':cmpA x.1.1 y.1.1<0:=of_decide_eq_true h
  have k':cmpA y.1.1 z.1.1<0:=of_decide_eq_true k
  exact v8.lt_tr h' k'
 ·have h':¬cmpA x.1.1 y.1.1<0:=of_decide_eq_false h
  have k':¬cmpA y.1.1 z.1.1<0:=of_decide_eq_false k
  have h1:=v8.anti x.1.1 y.1.1
  have h2:=v8.anti y.1.1 z.1.1
  have h3:=v8.anti x.1.1 z.1.1
  have:=v8.tr z.1.1 y.1.1 x.1.1 (by omega) (by omega)
  show ¬cmpA x.1.1 z.1.1<0
  omega
theorem qhh{α β:Type}(f:α->List β)(hf:∀a,(f a).length=2):∀(A:List α)(i:Nat),(A.flatMap f)[i]? = A[i / 2]?.bind fun x=>(f x)[i % 2]?
 |[],i=>by simp
 |x::A,i=>by
  rcases Nat.lt_or_ge i 2 with h|h
  ·rw[show i / 2=0 by omega,List.flatMap_cons,List.getElem?_append_left (by rw[hf];exact h),show i % 2=i by omega]
   rfl
  ·obtain⟨k,rfl⟩:∃k,i=k+2:=⟨i - 2,by omega⟩
   rw[List.flatMap_cons,List.getElem?_append_right (by rw[hf];omega),hf,show (k+2) / 2=k / 2+1 by omega,show (k+2) % 2=k % 2 by omega]
   simpa using qhh f hf A k
theorem qen(A:List Atom):(A.flatMap yR).length=A.length*2:=qel (s:=2) (enc:=yR) (fun _=>rfl) A
theorem qnk{G:qb}{w:World}(x:qda G w):∀v∈vY x,v.oneCell'=true:=by
 intro v hv
 simp[vY]at hv
 rcases hv with rfl|rfl
 ·rfl
 ·obtain⟨base,cap,e,_⟩:=x.2.1.sl_inv
  rw[e];rfl
theorem qmw{G:qb}{w w':World}{H:qa}(hI:Inv G w H){x:List Term}{u:Value}(h:VR G w (qk x) u){blk:Nat}(hB:¬(G.B blk).isSome)(hown:∀x,G.own blk x≠.cl)(hs:w.heap.size<=w'.heap.size)(hk:∀k,k<w.heap.size->k≠blk->w'.heap[k]? = w.heap[k]?):Go.Proofs.Tz.RowIn w' x u:=by
 obtain⟨base,cap,rfl,hcap,_,hc⟩:=h.sl_inv
 rw[List.length_map]at hcap ⊢
 refine⟨base,cap,rfl,?_⟩
 rcases hc with⟨h1,_⟩|⟨b,off,sz,xs,rfl,hsz,hx,hr⟩
 ·exact .inl (by simpa using h1)
 ·by_cases hx0:x=[]
  ·exact .inl hx0
  have hg:∀(i:Nat) t,x[i]? = some t->(x.map qW)[i]? = some (qW t):=fun i t h=>by rw[List.getElem?_map,h];rfl
  have key:∀i t,x[i]? = some t->sz=3/\b<w.heap.size/\b≠blk/\∀j v,(zR t)[j]? = some (.sc v)->w.cell? (at_ b (off+i*3+j))=some v:=by
   intro i t ht
   have h3:sz=3:=(hsz i _ (hg i t ht)).symm
   subst h3
   have hcell:∀j v,(zR t)[j]? = some (.sc v)->w.cell? (at_ b (off+i*3+j))=some v:=fun j v hj=>by
    obtain⟨_,h2,_⟩:=hx i _ j _ (hg i t ht) hj
    have h4:=hr i _ j _ (hg i t ht) hj
    cases h4
    exact h2
   have h0:=hcell 0 _ rfl
   have hbl:b<w.heap.size:=by
    rcases Nat.lt_or_ge b w.heap.size with h'|h'
    ·exact h'
    ·unfold World.cell? at h0
     rw[show (at_ b (off+i*3+0)).block=b from rfl,Array.getElem?_eq_none h']at h0
     cases h0
   refine⟨rfl,hbl,fun e=>?_,hcell⟩
   obtain⟨hcl,_,_⟩:=hx i _ 0 _ (hg i t ht) rfl
   subst e
   rcases hcl with hcl|hcl
   ·exact hB (by rw[hcl];rfl)
   ·exact hown _ hcl
  obtain⟨t0,r,rfl⟩:∃t0 r,x=t0::r:=by
   cases x with
   |nil=>exact absurd rfl hx0
   |cons t0 r=>exact⟨t0,r,rfl⟩
  obtain⟨_,hbl,hbb,_⟩:=key 0 t0 rfl
  refine .inr ⟨b,off,rfl,Nat.lt_of_lt_of_le hbl hs,fun i t ht=>?_⟩
  obtain⟨_,_,_,hc⟩:=key i t ht
  have hcw:∀y,w'.cell? (at_ b y)=w.cell? (at_ b y):=fun y=>by
   unfold World.cell?
   rw[show (at_ b y).block=b from rfl,hk b hbl hbb]
  exact⟨by have:=hc 0 _ rfl;rw[<-hcw]at this;exact this,by have:=hc 1 _ rfl;rw[<-hcw]at this;exact this,by have:=hc 2 _ rfl;rw[<-hcw]at this;exact this⟩
theorem qrw(A:List Atom)(hAr:∀a∈A,a.args.length<2^40)(o:Nat)(ob:List (Nat×qc))(nx:Nat)(hlo:look o ob=some (wG A))(hA:A.length<2^40){kv kp:HP}
  (hk:∀B:List Atom,B.Perm A->(B.Pairwise fun x y=>¬cmpA y x<0)->kv (.tup []) ⟨qx o (wG B) ob,nx⟩):
  cP E0 F0 158 [.asl o 0 A.length,.fn (.func 96) [] []] ⟨ob,nx⟩ kv kp:=by
 intro hH
 refine .prim (show qZ Tryz.prog E0 _ _ _ _ from ⟨qjN _ c158,fun G w us hI hE ha=>?_⟩)
 obtain⟨hus,hua⟩:=ha
 have h0:=hua 0 _ rfl
 have h1:=hua 1 _ rfl
 obtain⟨u0,u1,rfl⟩:∃u0 u1,us=#[u0,u1]:=by
  obtain⟨l⟩:=us
  match l,hus with
  |[a,b],_=>exact⟨a,b,rfl⟩
 change VR G w (.asl o 0 A.length) u0 at h0
 change VR G w (.fn (.func 96) [] []) u1 at h1
 cases h0 with
 |@asl _ _ _ cap ho hlc hcap=>
 cases h1 with
 |@fn _ _ _ us0 vs0 hfo hu0 hv0 _ _=>
 obtain rfl:us0=#[]:=Array.eq_empty_of_size_eq_zero hu0
 obtain rfl:vs0=#[]:=Array.eq_empty_of_size_eq_zero hv0
 rw[Nat.zero_mul]
 obtain⟨hob,vs,el,fz,c1,c2,c3,⟨d1,d2,d3⟩,c4,c5,c6⟩:=hI.objs o _ hlo
 rw[qen]at c3 d3
 have hlt:G.loc o<w.heap.size:=(Array.getElem?_eq_some_iff.1 c1).1
 have hcellA:∀i (hi:i<A.length),vs.getD (i*2) undef=.string A[i].pred/\VR G w (qk A[i].args) (vs.getD (i*2+1) undef):=by
  intro i hi
  have e0:(A.flatMap yR)[i*2]? = some (.str A[i].pred):=by
   rw[qhh yR (fun _=>rfl),show i*2 / 2=i by omega,show i*2 % 2=0 by omega,List.getElem?_eq_getElem hi];rfl
  have e1:(A.flatMap yR)[i*2+1]? = some (qk A[i].args):=by
   rw[qhh yR (fun _=>rfl),show (i*2+1) / 2=i by omega,show (i*2+1) % 2=1 by omega,List.getElem?_eq_getElem hi];rfl
  refine⟨?_,(c6 _ _ e1).1⟩
  have:=(c6 _ _ e0).1
  generalize vs.getD (i*2) undef=v at this
  cases this;rfl
 let D:List (qda G w):=List.ofFn fun i:Fin A.length=>⟨(A[i.1],vs.getD (i.1*2+1) undef),(hcellA i.1 i.2).2,hAr _ (List.getElem_mem i.2)⟩
 have hDl:D.length=A.length:=List.length_ofFn
 have hDg:∀i (hi:i<A.length),D[i]'(by rw[hDl];exact hi)=⟨(A[i],vs.getD (i*2+1) undef),(hcellA i hi).2,hAr _ (List.getElem_mem hi)⟩:=fun i hi=>by simp[D]
 have hDm:D.map (fun p=>p.1.1)=A:=by
  apply List.ext_getElem
  ·rw[List.length_map,hDl]
  ·intro i h1 h2
   rw[List.getElem_map,hDg i h2]
 have hsz0:∀d:Array (qda G w),(flatK vY 2 d).size=d.size*2:=fun d=>size_flatK _ _ _
 have hval:∀t,t<A.length*2->(vY (D.toArray[t / 2]!))[t % 2]! = vs.getD t undef:=by
  intro t ht
  have hi:t / 2<A.length:=by omega
  have e:D.toArray[t / 2]! = D[t / 2]'(by rw[hDl];exact hi):=by
   rw[getElem!_pos D.toArray (t / 2) (by simp[hDl,hi])]
   simp
  rw[e,hDg _ hi]
  obtain⟨h0,_⟩:=hcellA _ hi
  rcases Nat.mod_two_eq_zero_or_one t with hm|hm
  ·rw[hm]
   rw[show t / 2*2=t by omega]at h0
   rw[h0]
   rfl
  ·rw[hm]
   show vs.getD (t / 2*2+1) undef=_
   rw[show t / 2*2+1=t by omega]
 have hH0:HoldsK vY 2 w (G.loc o) 0 D.toArray:=by
  intro t ht
  rw[hsz0]at ht
  have ht':t<A.length*2:=by simpa [hDl] using ht
  refine⟨?_,c5 _⟩
  rw[Nat.zero_add,get_flatK _ _ _ _ ht,hval t ht']
  unfold World.cell?
  rw[c1]
  have ht2:t<vs.size:=by omega
  simp[Array.getD_eq_getD_getElem?,Array.getElem?_eq_getElem ht2]
 have hw0:∀(n:Nat)(d:Array (qda G w))(os:Array Obj),(sortWorldK vY 2 w (G.loc o) 0 n d os).heap=(w.heap.modify (G.loc o) (onCells (putCells id 0 (flatK vY 2 d))))++os:=fun _ _ _=>rfl
 have hkeep:∀(n:Nat)(d:Array (qda G w))(os:Array Obj) k,k<w.heap.size->k≠G.loc o->(sortWorldK vY 2 w (G.loc o) 0 n d os).heap[k]? = w.heap[k]?:=fun n d os k hk hne=>by
  rw[hw0,Array.getElem?_append_left (by simpa using hk),Array.getElem?_modify,if_neg (fun e=>hne e.symm)]
 have hcmp:CmpLays Tryz.prog 96 #[] (vY (G:=G) (w:=w)) 2 (cmpE (G:=G) (w:=w)) (G.loc o) 0 D.toArray.size w:=by
  intro m os dk _ x y
  have hx:=qmw hI x.2.1 (w':=sortWorldK vY 2 w (G.loc o) 0 m dk os) (by simpa using c2) (fun z hz=>by rw[c4]at hz;cases hz) (by rw[hw0];simp) (hkeep m dk os)
  have hy:=qmw hI y.2.1 (w':=sortWorldK vY 2 w (G.loc o) 0 m dk os) (by simpa using c2) (fun z hz=>by rw[c4]at hz;cases hz) (by rw[hw0];simp) (hkeep m dk os)
  exact Go.Proofs.Tz.cmpA x.1.1 y.1.1 x.2.2 y.2.2 x.1.2 y.1.2 _ hx hy
 have hcon:=AnyQ.slices_SortFunc Tryz.sortA 2 (fun w=>Tryz.isAgg32 w) (fun w=>Tryz.sizeOf32 w) vY (fun _=>rfl) qnk cmpE (swoA G w) 96 #[] (G.loc o) 0 cap D.toArray w (fun args w=>Go.Proofs.enters_of Tryz.func96 (by kernel_rfl) rfl args w) hcmp hH0 hlt (by simp[hDl];omega)
 have e0:(.slice (some ⟨G.loc o,0,none⟩) D.toArray.size cap:Value)=.slice (some (at_ (G.loc o) 0)) A.length cap:=by simp[hDl]
 rw[e0]at hcon
 refine Calls.mono hcon ?_
 rintro e w' ⟨rfl,d',n,os,⟨hp1,_,hp2⟩,hs,rfl⟩
 have hd:d'.size=A.length:=by simpa [hDl] using hp1
 have hperm:d'.toList.Perm D:=by
  have hd2:D.toArray.size=d'.size:=by simpa [hDl] using hd.symm
  rw[hd2]at hp2
  have e2:D.toArray.extract 0 d'.size=D.toArray:=by rw[<-hd2];exact Array.extract_size
  rw[e2,Array.extract_size]at hp2
  exact hp2
 have hsort:d'.toList.Pairwise fun x y=>¬cmpE y x<0:=by
  rw[List.pairwise_iff_getElem]
  intro i j hi hj hij
  have h:=hs i j (Nat.zero_le _) hij (by simp[hDl]at hj ⊢;omega)
  simp only[Array.length_toList]at hi hj
  rw[getElem!_pos d' i hi,getElem!_pos d' j hj]at h
  exact of_decide_eq_false h
 obtain⟨Bl,hBl⟩:∃Bl,d'.toList.map (fun p=>p.1.1)=Bl:=⟨_,rfl⟩
 have hBA:Bl.Perm A:=by rw[<-hBl,<-hDm];exact hperm.map _
 have hBs:Bl.Pairwise fun x y=>¬cmpA y x<0:=by rw[<-hBl];exact List.pairwise_map.2 hsort
 have hBlen:Bl.length=A.length:=hBA.length_eq
 have hF:(flatK vY 2 d').size=A.length*2:=by rw[hsz0,hd]
 have hq:=Inv.arr_turn (w':=sortWorldK vY 2 w (G.loc o) 0 n d' os) (cs':=Bl.flatMap yR) (vs':=putCells id 0 (flatK vY 2 d') vs) hI hlo c1 rfl rfl rfl (by rw[hw0];simp) (hkeep n d' os) (by
   rw[hw0,Array.getElem?_append_left (by simpa using hlt),Array.getElem?_modify,if_pos rfl,c1];rfl) (by simp[putCells]) (by rw[qen,qen,hBlen]) (fun i c hc=>?_)
 ·exact⟨.tup [],_,G,.inl ⟨_,_,rfl,qn.put hH,hk Bl hBA hBs⟩,.tup rfl (fun _ _ h=>by simp at h),hq.2,hq.1⟩
 ·have hi:i<Bl.length*2:=by
   have:=(List.getElem?_eq_some_iff.1 hc).1
   rw[qen]at this;exact this
  have hi2:i<A.length*2:=by omega
  have hi3:i<vs.size:=by omega
  have e:(putCells id 0 (flatK vY 2 d') vs).getD i undef=(vY d'[i / 2]!)[i % 2]!:=by
   unfold putCells
   rw[Array.getD_eq_getD_getElem?,Array.getElem?_mapIdx,Array.getElem?_eq_getElem hi3]
   simp only[Option.map_some,Option.getD_some,Nat.zero_le,true_and,Nat.zero_add,Nat.sub_zero,hF,hi2,if_true,id]
   rw[get_flatK _ _ _ _ (by rw[hd];exact hi2)]
  have hi4:i / 2<d'.size:=by omega
  rw[e,getElem!_pos d' (i / 2) hi4]
  rw[qhh yR (fun _=>rfl),<-hBl,List.getElem?_map,Array.getElem?_toList,Array.getElem?_eq_getElem hi4]at hc
  obtain⟨p,hpe⟩:∃p,d'[i / 2]=p:=⟨_,rfl⟩
  rw[hpe]at hc ⊢
  rcases Nat.mod_two_eq_zero_or_one i with hm|hm
  ·rw[hm]at hc ⊢
   cases hc
   exact⟨.sc _,rfl⟩
  ·rw[hm]at hc ⊢
   cases hc
   exact⟨p.2.1,qnk p _ (by simp[vY])⟩
end Go.Abs.Tz
namespace Go.Abs.Tz
open Go Go.Abs Go.Proofs
def vk(F:List Stp)(c:qf)(ci:Int):List Stp:=vW (fun G a frm=>zM F G ⟨a,ci,frm⟩) c (vU F c (qO c.body) [] []) []
def wi(m:List (PK×Int))(lev:Int):List qf->Nat->List Stp->Option (List Stp)
 |[],_,F=>some F
 |c::r,i,F=>if qm m (ofA c.head)=lev then (if 300<((vk F c i).foldl zq F).length then none else wi m lev r (i+1) ((vk F c i).foldl zq F)) else wi m lev r (i+1) F
def wM(m:List (PK×Int))(lev:Int)(l:List qf):Nat->List Stp->Option (List Stp)
 |0,_=>none
 |k+1,F=>match wi m lev l 0 F with
  |none=>none
  |some F'=>if F'.length=F.length then some F' else wM m lev l k F'
def qaP(m:List (PK×Int))(l:List qf):Nat->Nat->List Stp->Option (List Stp)
 |0,_,F=>some F
 |k+1,v,F=>match wM m v l 302 F with
  |none=>none
  |some F'=>qaP m l k (v+1) F'
def qbr(base:List Atom):List Stp:=(base.map fun a=>(⟨a,-1,[]⟩:Stp)).foldl zq []
theorem qku(F:List Stp)(s:Stp):F.length<=(zq F s).length/\(zq F s).length<=F.length+1:=by
 unfold zq
 split
 ·omega
 ·simp
theorem qfQ:∀(l F:List Stp),F.length<=(l.foldl zq F).length/\(l.foldl zq F).length<=F.length+l.length
 |[],F=>by simp
 |s::l,F=>by
  have h1:=qku F s
  have h2:=qfQ l (zq F s)
  rw[List.foldl_cons,List.length_cons]
  omega
theorem qxp(F:List Stp)(c:qf)(ci:Int):(vk F c ci).length<=301:=by
 unfold vk
 rw[qjE]
 exact qoo F _ _ (by simp)
def qaK(F:List Stp)(fo am:Nat)(own:Own):List (Nat×qc):=(fo,.cells [.map am,.sl (F.map vB) own])::(am,.map (qaU (vv F 0)))::(match own with
 |.tok t=>[(t,.tok F.length 4)]
 |_=>[])
theorem qlS{F:List Stp}{fo am:Nat}{own:Own}{ob:List (Nat×qc)}(h:uh ob fo am F own):wb (qaK F fo am own) ob:=by
 unfold qaK wb
 simp only[List.forall_mem_cons]
 refine⟨h.pair,h.map,?_⟩
 rcases h.row with⟨rfl,_⟩|⟨t,rfl,_,_,h4⟩
 ·intro p hp;cases hp
 ·intro p hp
  simp at hp
  subst hp
  exact h4
theorem qnl{F:List Stp}{fo am:Nat}{own:Own}{ob ob0:List (Nat×qc)}(h0:uh ob0 fo am F own)(h:wb (qaK F fo am own) ob):uh ob fo am F own:=by
 unfold qaK wb at h
 simp only[List.forall_mem_cons]at h
 refine⟨h.1,h.2.1,h0.ne,?_⟩
 rcases h0.row with h1|⟨t,rfl,h2,h3,_⟩
 ·exact .inl h1
 ·exact .inr ⟨t,rfl,h2,h3,h.2.2 (t,_) (by simp)⟩
theorem qth(F:List Stp)(fo am:Nat)(own:Own):∀p∈qaK F fo am own,qcF p.2=true:=by
 unfold qaK
 simp only[List.forall_mem_cons]
 refine⟨rfl,rfl,?_⟩
 cases own with
 |tok t=>intro p hp;simp at hp;subst hp;rfl
 |no=>intro p hp;cases hp
 |full=>intro p hp;cases hp
theorem uh.keep{F:List Stp}{fo am:Nat}{own:Own}{ob ob':List (Nat×qc)}(h:uh ob fo am F own)(hk:∀i,(i=fo\/i=am\/own=.tok i)->look i ob'=look i ob):uh ob' fo am F own:=by
 refine⟨by rw[hk _ (.inl rfl)];exact h.pair,by rw[hk _ (.inr (.inl rfl))];exact h.map,h.ne,?_⟩
 rcases h.row with h1|⟨t,rfl,h2,h3,h4⟩
 ·exact .inl h1
 ·exact .inr ⟨t,rfl,h2,h3,by rw[hk _ (.inr (.inr rfl))];exact h4⟩
def qjR(F:List Stp)(ci:Int)(fo am:Nat)(ownF:Own)(go gm fw hv iv:Nat)(ob0:List (Nat×qc))(h0:uh ob0 fo am F ownF):qeD (List Stp) where
 fn:=154
 cap:=[.ptr fw 0,.ptr hv 0,.ptr iv 0]
 Stat:=(fw,.cells [.ptr fo 0])::(hv,.cells [.ptr go 0])::(iv,.cells [.int ci])::qaK F fo am ownF
 At ob G S:=∃own,uh ob go gm G own/\∀i,S i↔(i=go\/i=gm\/own=.tok i)
 step G a frm:=zM F G ⟨a,ci,frm⟩
 lim G:=G.length<=301
 lim_step G a frm h:=qor h
 at_look ob G S i h hi:=by
  obtain⟨own,h1,h2⟩:=h
  rcases (h2 i).1 hi with rfl|rfl|rfl
  ·exact⟨_,h1.pair,rfl⟩
  ·exact⟨_,h1.map,rfl⟩
  ·rcases h1.row with⟨e,_⟩|⟨t,e,_,_,h4⟩
   ·cases e
   ·cases e;exact⟨_,h4,rfl⟩
 at_keep ob ob' G S h hk:=by
  obtain⟨own,h1,h2⟩:=h
  exact⟨own,h1.keep fun i hi=>hk i ((h2 i).2 hi),h2⟩
 ok ob n G S a frm kv kp hlim ha hat hst hsep hni hk:=by
  obtain⟨own,h1,h2⟩:=hat
  unfold wb at hst
  simp only[List.forall_mem_cons]at hst
  refine t_do a ha frm fw hv iv ci fo am go gm F G (by omega) ownF own ob n (qnl h0 hst.2.2.2) h1 hst.1 hst.2.1 hst.2.2.1 fun ob' n' own' hn hF' hnear hni' hsame=>?_
  refine hk ob' n' (fun i=>i=go\/i=gm\/own'=.tok i) hn ⟨own',hF',fun i=>Iff.rfl⟩ (fun i hi=>?_) (hni' hni) fun i hi hiS=>hsame i hi (fun e=>hiS ((h2 i).2 (.inl e))) (fun e=>hiS ((h2 i).2 (.inr (.inl e)))) fun t ht e=>hiS ((h2 i).2 (.inr (.inr (by rw[e];exact ht))))
  rcases hi with e|e|e
  ·exact .inl ((h2 i).2 (.inl e))
  ·exact .inl ((h2 i).2 (.inr (.inl e)))
  ·rcases hnear with e2|⟨t,e2,ht⟩
   ·exact .inl ((h2 i).2 (.inr (.inr (by rw[<-e2];exact e))))
   ·rw[e2]at e
    cases e
    exact .inr ht
end Go.Abs.Tz
namespace Go.Abs.Tz
open Go Go.Abs Go.Proofs
set_option maxRecDepth 20000
set_option linter.unusedSimpArgs false
attribute [local simp ↓] yb ya jv ju gI ut zg zB jr up yP yQ yc ye yf yd jA jD jG jB jH jI jE jF jC jy jw jz jx yN yL yO yM g7 gZ g8 g6 yk yh yj uu zx jL zh z7 gL yS yT yo yq yp ym yn yz jO jT jW jS jU jV gy gx j5 j7 jb uZ jm jp u9 jh jl jk jj ji jf uV uW uX uY jn jd je uT jo jq ja jc jg uU gb j6 gu gC j8 gj gt gq gp gk gh j0 gw gf gg jX gA gD j9 gd gi jY gG gz jZ gF ge ga gc j3 gv jP jR jQ yu yx yt yv yw qp uL
attribute [local simp] faL fdL iaL ixL qL zb qV eqK eqL qR zo uO yr yK yA yC yE yG yI yJ yB yF yD yH zC LV.cells LV.whole qp uC uw jM stL zF zR uq qa.alloc gJ gH gK gY gW gV gU gT gS gQ gO gN gM qe ux
structure BasAt(n0:Nat)(ob0:List (Nat×qc))(M:List (PK×Int))(fo am om:Nat)(ob:List (Nat×qc))(F:List Stp)(own:Own):Prop where
 facts:uh ob fo am F own
 lev:look om ob=some (.map (qT M))
 ne:om≠am
 ni:qQ ob
 old:∀i,i<n0->look i ob=look i ob0
 lo:n0<=fo/\n0<=am/\∀t,own=.tok t->n0<=t
 g:∀s∈F,qI s.atom
structure wd(n0:Nat)(ob0:List (Nat×qc))(M:List (PK×Int))(fo am om f7:Nat)(ob:List (Nat×qc))(F:List Stp)(own:Own):Prop extends BasAt n0 ob0 M fo am om ob F own where
 cell:look f7 ob=some (.cells [.ptr fo 0])
section
variable{n0:Nat}{ob0:List (Nat×qc)}{M:List (PK×Int)}{fo am om f7:Nat}
theorem uh.tokne{ob:List (Nat×qc)}{F:List Stp}{own:Own}(h:uh ob fo am F own):∀i x,look i ob=some x->(∀k sz,x≠.tok k sz)->∀t,own=.tok t->i≠t:=by
 intro i x hx hne t ht e
 subst e
 rcases h.row with⟨e1,_⟩|⟨t',e1,_,_,e2⟩
 ·rw[e1]at ht;cases ht
 ·rw[e1]at ht
  cases ht
  rw[hx]at e2
  exact hne _ _ (Option.some.inj e2)
theorem BasAt.turn{ob ob':List (Nat×qc)}{F F':List Stp}{own own':Own}{m:Nat}(h:BasAt n0 ob0 M fo am om ob F own)(hok:qa.Ok ⟨ob,m⟩)(hn:n0<=m)(hF:uh ob' fo am F' own')(hnear:qkv m own own')(hni:qQ ob')(hg:∀s∈F',qI s.atom)
  (hsame:∀i,i<m->i≠fo->i≠am->(∀t,own=.tok t->i≠t)->look i ob'=look i ob):BasAt n0 ob0 M fo am om ob' F' own'/\∀i v,look i ob=some (.cells [v])->look i ob'=some (.cells [v]):=by
 have cl:=h.lev
 refine⟨⟨hF,?_,h.ne,hni,fun i hi=>?_,⟨h.lo.1,h.lo.2.1,fun t ht=>?_⟩,hg⟩,fun i v hv=>?_⟩
 ·rw[hsame om (hok.look cl) (fun e=>?_) h.ne (h.facts.tokne _ _ cl (fun k sz e=>by cases e))]
  ·exact cl
  ·rw[e,h.facts.pair]at cl;cases cl
 ·rw[hsame i (by omega) (by have:=h.lo.1;omega) (by have:=h.lo.2.1;omega) (fun t ht=>by have:=h.lo.2.2 t ht;omega)]
  exact h.old i hi
 ·rcases hnear with e|⟨t',e,ht'⟩
  ·exact h.lo.2.2 t (by rw[<-e];exact ht)
  ·rw[e]at ht
   cases ht
   omega
 ·rw[hsame i (hok.look hv) (fun e=>?_) (fun e=>?_) (h.facts.tokne _ _ hv (fun k sz e=>by cases e))]
  ·exact hv
  ·rw[e,h.facts.pair]at hv;cases hv
  ·rw[e,h.facts.map]at hv;cases hv
theorem uh.low{ob:List (Nat×qc)}{F:List Stp}{own:Own}{m:Nat}(h:uh ob fo am F own)(hok:qa.Ok ⟨ob,m⟩):∀i,(i=fo\/i=am\/own=.tok i)->i<m:=fun i hi=>by
 rcases hi with rfl|rfl|rfl
 ·exact hok.look h.pair
 ·exact hok.look h.map
 ·rcases h.row with⟨e1,_⟩|⟨t',e1,_,_,e2⟩
  ·cases e1
  ·cases e1;exact hok.look e2
theorem BasAt.keep{ob ob':List (Nat×qc)}{F:List Stp}{own:Own}{m:Nat}(h:BasAt n0 ob0 M fo am om ob F own)(hok:qa.Ok ⟨ob,m⟩)(hn:n0<=m)(hni:qQ ob')(hsame:∀i,i<m->look i ob'=look i ob):BasAt n0 ob0 M fo am om ob' F own:=
 (h.turn hok hn (h.facts.keep fun i hi=>hsame i (h.facts.low hok i hi)) (.inl rfl) hni h.g fun i hi _ _ _=>hsame i hi).1
theorem wd.keep{ob ob':List (Nat×qc)}{F:List Stp}{own:Own}{m:Nat}(h:wd n0 ob0 M fo am om f7 ob F own)(hok:qa.Ok ⟨ob,m⟩)(hn:n0<=m)(hni:qQ ob')(hsame:∀i,i<m->look i ob'=look i ob):wd n0 ob0 M fo am om f7 ob' F own:=
 ⟨h.toBasAt.keep hok hn hni hsame,by rw[hsame _ (hok.look h.cell)];exact h.cell⟩
theorem qlH(s:Stp)(hs:qI s.atom)(F:List Stp)(hF:F.length<=2^20)(ob:List (Nat×qc))(m:Nat)(own:Own)(h:BasAt n0 ob0 M fo am om ob F own)(hm:n0<=m){kv kp:HP}
  (hk:∀ob' m' own',m<=m'->BasAt n0 ob0 M fo am om ob' (zq F s) own'->(∀i v,look i ob=some (.cells [v])->look i ob'=some (.cells [v]))->kv (.tup []) ⟨ob',m'⟩):cP E0 F0 155 [.ptr fo 0,vB s] ⟨ob,m⟩ kv kp:=by
 intro hH
 refine qlI s hs.1 fo am F hF own ob m h.facts (fun hex n' hn'=>?_) (fun hno ob' n' own' hn' hF' hnear hni hsame=>?_) hH
 ·have e:zq F s=F:=by unfold zq;rw[if_pos (qac.2 hex)]
  exact hk ob n' own hn' (by rw[e];exact h) fun _ _ h=>h
 ·have e:zq F s=F++[s]:=by
   unfold zq
   rw[if_neg]
   intro hh
   obtain⟨q,hq,e⟩:=qac.1 hh
   exact hno q hq e
  have hg2:∀q∈F++[s],qI q.atom:=fun q hq=>by
   rcases List.mem_append.1 hq with hq|hq
   ·exact h.g q hq
   ·simp at hq
    subst hq
    exact hs
  have h2:=h.turn hH hm hF' hnear (hni h.ni) hg2 hsame
  exact hk ob' n' own' hn' (by rw[e];exact h2.1) h2.2
theorem qsW(s:Stp)(hs:qI s.atom)(F:List Stp)(hF:F.length<=2^20)(ob:List (Nat×qc))(m:Nat)(own:Own)(h:wd n0 ob0 M fo am om f7 ob F own)(hm:n0<=m){kv kp:HP}
  (hk:∀ob' m' own',m<=m'->wd n0 ob0 M fo am om f7 ob' (zq F s) own'->kv (.tup []) ⟨ob',m'⟩):cP E0 F0 155 [.ptr fo 0,vB s] ⟨ob,m⟩ kv kp:=
 qlH s hs F hF ob m own h.toBasAt hm fun ob' m' own' h1 h2 h3=>hk ob' m' own' h1 ⟨h2,h3 _ _ h.cell⟩
def qnB:qo:=match r42 with
 |.seq (.seq _ (.blk _ l)) _=>l
 |_=>.bad
def qqj:qo:=match qnB with
 |.loop (.seq _ (.seq _ (.seq (.blk _ (.seq _ (.seq _ (.blk _ l)))) _)))=>l
 |_=>.bad
def qpI:qo:=match qqj with
 |.loop (.seq _ (.blk _ (.seq _ (.seq _ (.blk _ l)))))=>l
 |_=>.bad
def qyr:qo:=match qpI with
 |.loop (.seq _ (.seq _ (.seq (.blk _ (.seq _ (.seq _ (.seq _ (.seq _ (.seq (.seq _ (.blk _ l)) _)))))) _)))=>l
 |_=>.bad
structure NNAd where
 i:Nat
 n:Nat
 ob:List (Nat×qc)
 F:List Stp
 own:Own
theorem qsV(G:List Stp)(hG:∀s∈G,qI s.atom)(ownG:Own)(F:List Stp)(hlen:F.length+G.length<=2^20)(ob:List (Nat×qc))(m:Nat)(own:Own)(h:wd n0 ob0 M fo am om f7 ob F own)(hm:n0<=m)(v0 v12 v13 v39 v40 v55 v56 v57:LV){KX:XP}
  (hk:∀ob' m' own',m<=m'->wd n0 ob0 M fo am om f7 ob' (G.foldl zq F) own'->KX (.exit 8) ((.nd (v0) (.nd .bot (.nd .bot (.nd (.ptr f7 0) (.nd .bot .nil (.nd .bot (.nd (.sl (G.map vB) ownG) .nil .nil) .nil)) (.nd .bot (.nd (v39) .nil .nil) (.nd (v55) .nil .nil))) .nil) (.nd .bot (.nd .bot (.nd .bot .nil (.nd .bot (.nd (.int G.length) .nil .nil) .nil)) (.nd .bot .nil (.nd (v57) .nil .nil))) (.nd (v13) .nil .nil))) (.nd .bot (.nd .bot (.nd .bot (.nd .bot .nil (.nd .bot (.nd (.int G.length) .nil .nil) .nil)) (.nd .bot (.nd (v40) .nil .nil) (.nd (v56) .nil .nil))) (.nd (v12) .nil .nil)) (.nd (.map om) (.nd .bot (.nd .bot .nil (.nd .bot (.nd (.sc (.bool false)) .nil .nil) .nil)) .nil) .nil)))) ⟨ob',m'⟩):
  lP E0 F0 qyr ((.nd (v0) (.nd .bot (.nd .bot (.nd (.ptr f7 0) (.nd .bot .nil (.nd .bot (.nd (.sl (G.map vB) ownG) .nil .nil) .nil)) (.nd .bot (.nd (v39) .nil .nil) (.nd (v55) .nil .nil))) .nil) (.nd .bot (.nd .bot (.nd .bot .nil (.nd .bot (.nd (.int 0) .nil .nil) .nil)) (.nd .bot .nil (.nd (v57) .nil .nil))) (.nd (v13) .nil .nil))) (.nd .bot (.nd .bot (.nd .bot (.nd .bot .nil (.nd .bot (.nd (.int G.length) .nil .nil) .nil)) (.nd .bot (.nd (v40) .nil .nil) (.nd (v56) .nil .nil))) (.nd (v12) .nil .nil)) (.nd (.map om) .nil .nil)))) ⟨ob,m⟩ KX:=by
 obtain⟨A,hA⟩:∃A,G.foldl zq F=A:=⟨_,rfl⟩
 rw[hA]at hk
 refine qy (σ:=NNAd) (fun q=>(.nd (v0) (.nd .bot (.nd .bot (.nd (.ptr f7 0) (.nd .bot .nil (.nd .bot (.nd (.sl (G.map vB) ownG) .nil .nil) .nil)) (.nd .bot (.nd (v39) .nil .nil) (.nd (v55) .nil .nil))) .nil) (.nd .bot (.nd .bot (.nd .bot .nil (.nd .bot (.nd (.int q.i) .nil .nil) .nil)) (.nd .bot .nil (.nd (v57) .nil .nil))) (.nd (v13) .nil .nil))) (.nd .bot (.nd .bot (.nd .bot (.nd .bot .nil (.nd .bot (.nd (.int G.length) .nil .nil) .nil)) (.nd .bot (.nd (v40) .nil .nil) (.nd (v56) .nil .nil))) (.nd (v12) .nil .nil)) (.nd (.map om) .nil .nil)))) (fun q=>⟨q.ob,q.n⟩) (fun q=>G.length - q.i)
  (fun q=>m<=q.n/\q.i<=G.length/\(G.drop q.i).foldl zq q.F=A/\q.F.length<=F.length+q.i/\wd n0 ob0 M fo am om f7 q.ob q.F q.own) ⟨0,m,ob,F,own⟩ ⟨Nat.le_refl _,Nat.zero_le _,hA,Nat.le_refl _,h⟩ (by simp[FT.Le,Wk]) ⟨HWk.refl _,fun h=>h⟩ ?_
 rintro⟨i,m1,ob1,F1,own1⟩ ⟨hm1,hi,hf,hl,h1⟩ hok
 dsimp only at hm1 hi hf hl h1 hok
 by_cases hlt:i<G.length
 case neg=>
  obtain rfl:i=G.length:=by omega
  rw[List.drop_eq_nil_of_le (Nat.le_refl _)]at hf
  obtain rfl:F1=A:=hf
  simp(disch:=omega)
  exact hk ob1 m1 own1 hm1 h1
 rw[List.drop_eq_getElem_cons hlt,List.foldl_cons]at hf
 have c7:=h1.cell
 have b7:f7<m1:=hok.look c7
 have hs:=hG _ (List.getElem_mem hlt)
 simp(disch:=omega)[hlt,c7]
 have ha:=qku F1 G[i]
 refine qsW G[i] hs F1 (by omega) _ _ own1 (h1.keep hok (by omega) (h1.ni.cons _ rfl) fun j hj=>qe (by omega) _ _) (by omega) fun ob2 m2 own2 hm2 h2=>?_
 simp(disch:=omega)[qi (show i<2^62 by omega)]
 exact⟨⟨i+1,m2,ob2,zq F1 G[i],own2⟩,by dsimp only;omega,⟨by dsimp only;omega,by dsimp only;omega,hf,by dsimp only;omega,h2⟩,by simp[FT.Le,Wk],HWk.refl _,fun h=>h⟩
theorem qxq{F:List Stp}(hF:∀s∈F,qI s.atom){c:qf}(hc:zQ c){ci:Int}:∀s∈vk F c ci,qI s.atom:=by
 intro s hs
 unfold vk at hs
 rw[qjE]at hs
 obtain⟨X,hX,hX2⟩:=qfz F ((vU F c (qO c.body) [] []).map fun x=>(⟨q9 x.1 c.head,ci,x.2⟩:Stp)) []
 rw[hX]at hs
 have:=hX2 s (by simpa using hs)
 obtain⟨x,hx,rfl⟩:=List.mem_map.1 this
 obtain⟨js,h1,h2,h3⟩:=qfh.1 hx
 obtain⟨g1,_,g3,_⟩:=qhw (S:=qaD F) (fun a ⟨q,hq,e⟩=>e▸hF q hq) .nil (qjX h1)
 exact(hc.leaf g1 g3).2
theorem qsI(l:List qf)(hl:l.length<=2^20)(hc:∀c∈l,zQ c)(lev:Nat)(bf:Nat)(F:List Stp)(hF:F.length<=300)(ob:List (Nat×qc))(m:Nat)(own:Own)(h:wd n0 ob0 M fo am om f7 ob F own)(hm:n0<=m)(v39:LV){KX:XP}
  (hk1:∀F',wi M lev l 0 F=some F'->∀ob' m' own',m<=m'->F'.length<=300->wd n0 ob0 M fo am om f7 ob' F' own'->KX (.exit 6) ((.nd (qt l) (.nd .bot (.nd .bot (.nd (.ptr f7 0) .nil (.nd .bot (.nd (v39) .nil .nil) (.nd (qt l) .nil .nil))) .nil) (.nd .bot (.nd .bot .nil (.nd .bot .nil (.nd (.int l.length) .nil .nil))) (.nd (.int bf) .nil .nil))) (.nd .bot (.nd .bot (.nd .bot .nil (.nd .bot (.nd (.int lev) .nil .nil) (.nd (.int l.length) .nil .nil))) (.nd (.int lev) .nil .nil)) (.nd (.map om) (.nd .bot .nil (.nd .bot .nil (.nd (.sc (.bool false)) .nil .nil))) .nil)))) ⟨ob',m'⟩)
  (hk2:wi M lev l 0 F=none->∀t' ob' m',m<=m'->qQ ob'->(∀i,i<n0->look i ob'=look i ob0)->t'.get 4=.sc (.pointer none)->t'.get 5=.int 2->KX .ret t' ⟨ob',m'⟩):
  lP E0 F0 qpI ((.nd (qt l) (.nd .bot (.nd .bot (.nd (.ptr f7 0) .nil (.nd .bot (.nd (v39) .nil .nil) (.nd (qt l) .nil .nil))) .nil) (.nd .bot (.nd .bot .nil (.nd .bot .nil (.nd (.int 0) .nil .nil))) (.nd (.int bf) .nil .nil))) (.nd .bot (.nd .bot (.nd .bot .nil (.nd .bot (.nd (.int lev) .nil .nil) (.nd (.int l.length) .nil .nil))) (.nd (.int lev) .nil .nil)) (.nd (.map om) .nil .nil)))) ⟨ob,m⟩ KX:=by
 obtain⟨A,hA⟩:∃A,wi M lev l 0 F=A:=⟨_,rfl⟩
 rw[hA]at hk1 hk2
 refine qy (σ:=NNAd) (fun q=>(.nd (qt l) (.nd .bot (.nd .bot (.nd (.ptr f7 0) .nil (.nd .bot (.nd (v39) .nil .nil) (.nd (qt l) .nil .nil))) .nil) (.nd .bot (.nd .bot .nil (.nd .bot .nil (.nd (.int q.i) .nil .nil))) (.nd (.int bf) .nil .nil))) (.nd .bot (.nd .bot (.nd .bot .nil (.nd .bot (.nd (.int lev) .nil .nil) (.nd (.int l.length) .nil .nil))) (.nd (.int lev) .nil .nil)) (.nd (.map om) .nil .nil)))) (fun q=>⟨q.ob,q.n⟩) (fun q=>l.length - q.i)
  (fun q=>m<=q.n/\q.i<=l.length/\wi M lev (l.drop q.i) q.i q.F=A/\q.F.length<=300/\wd n0 ob0 M fo am om f7 q.ob q.F q.own) ⟨0,m,ob,F,own⟩ ⟨Nat.le_refl _,Nat.zero_le _,hA,hF,h⟩ (by simp[FT.Le,Wk]) ⟨HWk.refl _,fun h=>h⟩ ?_
 rintro⟨i,m1,ob1,F1,own1⟩ ⟨hm1,hi,hf,hl1,h1⟩ hok
 dsimp only at hm1 hi hf hl1 h1 hok
 by_cases hlt:i<l.length
 case neg=>
  obtain rfl:i=l.length:=by omega
  rw[List.drop_eq_nil_of_le (Nat.le_refl _)]at hf
  simp(disch:=omega)
  exact hk1 F1 hf.symm ob1 m1 own1 hm1 hl1 h1
 rw[List.drop_eq_getElem_cons hlt]at hf
 simp only[wi]at hf
 have c7:=h1.cell
 have cl:=h1.lev
 have b7:f7<m1:=hok.look c7
 have bl:om<m1:=hok.look cl
 have hcg:=hc _ (List.getElem_mem hlt)
 simp(disch:=omega)[hlt]
 refine(qcx l[i].head).go fun m2 hm2=>?_
 simp(disch:=omega)
 have hlk:=lkP (nx:=m2) (show look om ((m1+1,.cells (ww l[i]))::(m1,.cells [.int (i:Int)])::ob1)=some (.map (qT M)) by rw[qe (by omega),qe (by omega)];exact cl) (ofA l[i].head)
 unfold uz at hlk
 obtain⟨PV,hPV⟩:∃PV,qm M (ofA l[i].head)=PV:=⟨_,rfl⟩
 rw[hPV]at hlk hf
 unfold ofA at hlk
 rw[hlk]
 have hdrop:∀(x y:qc)(mm:Nat),m1<=mm->HWk ⟨(m1+1,x)::(m1,y)::ob1,mm⟩ ⟨ob1,mm⟩/\qa.Ok ⟨ob1,mm⟩:=fun x y mm hmm=>⟨⟨Nat.le_refl _,fun j z hz=>by
  have:=hok.look hz
  dsimp only at this
  rw[qe (by omega),qe (by omega)]
  exact hz⟩,qn.mono hok hmm⟩
 by_cases hlev:PV=(lev:Int)
 case neg=>
  rw[if_neg hlev]at hf
  simp(disch:=omega)[hlev,qi (show i<2^62 by omega)]
  exact⟨⟨i+1,m2,ob1,F1,own1⟩,by dsimp only;omega,⟨by dsimp only;omega,by dsimp only;omega,hf,hl1,h1⟩,by simp[FT.Le,Wk],(hdrop _ _ m2 (by omega)).1,fun _=>(hdrop (.cells []) (.cells []) m2 (by omega)).2⟩
 rw[if_pos hlev]at hf
 simp(disch:=omega)[hlev,c7]
 obtain⟨G,hGe⟩:∃G,vk F1 l[i] i=G:=⟨_,rfl⟩
 have hGg:∀s∈G,qI s.atom:=by rw[<-hGe];exact qxq h1.g hcg
 have hGl:G.length<=301:=by rw[<-hGe];exact qxp _ _ _
 rw[hGe]at hf
 obtain⟨obE,hobE⟩:∃obE,(m2+1+1,qc.cells [.ptr (m2+1) 0])::(m2+1,.cells [.map m2,Nl])::(m2,.map [])::(m1+1,.cells [.str l[i].head.pred,qk l[i].head.args,zG l[i].body])::(m1,.cells [.int (i:Int)])::ob1=obE:=⟨_,rfl⟩
 have hE:∀j,j<m1->look j obE=look j ob1:=fun j hj=>by rw[<-hobE,qe (by omega),qe (by omega),qe (by omega),qe (by omega),qe (by omega)]
 have e0:look m1 obE=some (.cells [.int (i:Int)]):=by rw[<-hobE,qe (by omega),qe (by omega),qe (by omega),qe (by omega)];exact qp _ _ _
 have e1:look m2 obE=some (.map []):=by rw[<-hobE,qe (by omega),qe (by omega)];exact qp _ _ _
 have e2:look (m2+1) obE=some (.cells [.map m2,Nl]):=by rw[<-hobE,qe (by omega)];exact qp _ _ _
 have e3:look (m2+1+1) obE=some (.cells [.ptr (m2+1) 0]):=by rw[<-hobE];exact qp _ _ _
 have hniE:qQ obE:=by rw[<-hobE];exact((((h1.ni.cons _ rfl).cons _ rfl).cons _ rfl).cons _ rfl).cons _ rfl
 rw[hobE]
 have hlowF:∀p∈qaK F1 fo am own1,p.1<m1:=fun p hp=>hok.look (qlS h1.facts p hp)
 have hstE:wb (qjR F1 i fo am own1 (m2+1) m2 f7 (m2+1+1) m1 ob1 h1.facts).Stat obE:=by
  show wb (_::_::_::qaK F1 fo am own1) obE
  unfold wb
  simp only[List.forall_mem_cons]
  exact⟨by rw[hE _ b7];exact c7,e3,e0,fun p hp=>by rw[hE _ (hlowF p hp)];exact qlS h1.facts p hp⟩
 refine qsj (D:=qjR F1 i fo am own1 (m2+1) m2 f7 (m2+1+1) m1 ob1 h1.facts) l[i] hcg F1 fo am own1 (qjR F1 i fo am own1 (m2+1) m2 f7 (m2+1+1) m1 ob1 h1.facts).Stat (fun p hp=>hp) ?_ (fun ob h=>?_) h1.g (by omega) obE (m2+1+1+1) [] (fun j=>j=m2+1\/j=m2\/Own.full=.tok j) (by show ([]:List Stp).length<=301;simp) hstE ⟨.full,⟨e2,e1,by omega,.inl ⟨rfl,rfl⟩⟩,fun j=>Iff.rfl⟩ ?_ hniE fun ob2 n2 S2 hn2 hat2 hS2 hni2 hsame2=>?_
 ·show ∀p∈_::_::_::qaK F1 fo am own1,_
  simp only[List.forall_mem_cons]
  exact⟨rfl,rfl,rfl,qth _ _ _ _⟩
 ·have h':wb (_::_::_::qaK F1 fo am own1) ob:=h
  unfold wb at h'
  simp only[List.forall_mem_cons]at h'
  exact qnl h1.facts h'.2.2.2
 ·show ∀p∈_::_::_::qaK F1 fo am own1,_
  simp only[List.forall_mem_cons]
  have hno:∀j,j<m2->¬(j=m2+1\/j=m2\/Own.full=.tok j):=fun j hj h=>by
   rcases h with h|h|h
   ·omega
   ·omega
   ·cases h
  have hno2:¬(m2+1+1=m2+1\/m2+1+1=m2\/Own.full=.tok (m2+1+1)):=fun h=>by
   rcases h with h|h|h
   ·omega
   ·omega
   ·cases h
  exact⟨hno _ (by omega),hno2,hno _ (by omega),fun p hp=>hno _ (by have:=hlowF p hp;omega)⟩
 have hsame3:∀j,j<m1\/j=m2+1+1->look j ob2=look j obE:=fun j hj=>hsame2 j (by omega) fun h=>by
  rcases h with h|h|h
  ·omega
  ·omega
  ·cases h
 obtain⟨ownG,hfG,_⟩:∃own,uh ob2 (m2+1) m2 G own/\∀j,S2 j↔(j=m2+1\/j=m2\/own=.tok j):=by
  rw[<-hGe];exact hat2
 have f3:look (m2+1+1) ob2=some (.cells [.ptr (m2+1) 0]):=by rw[hsame3 _ (.inr rfl)];exact e3
 have h2:wd n0 ob0 M fo am om f7 ob2 F1 own1:=h1.keep hok (by omega) hni2 fun j hj=>by rw[hsame3 j (.inl hj),hE j hj]
 simp(disch:=omega)[f3,hfG.pair]
 refine vh (t':=(.nd (qt l) (.nd .bot (.nd .bot (.nd (.ptr f7 0) (.nd .bot .nil (.nd .bot (.nd (.sl (G.map vB) ownG) .nil .nil) .nil)) (.nd .bot (.nd (v39) .nil .nil) (.nd (qt l) .nil .nil))) .nil) (.nd .bot (.nd .bot (.nd .bot .nil (.nd .bot (.nd (.int 0) .nil .nil) .nil)) (.nd .bot .nil (.nd (.int i) .nil .nil))) (.nd (.int bf) .nil .nil))) (.nd .bot (.nd .bot (.nd .bot (.nd .bot .nil (.nd .bot (.nd (.int G.length) .nil .nil) .nil)) (.nd .bot (.nd (.int lev) .nil .nil) (.nd (.int l.length) .nil .nil))) (.nd (.int lev) .nil .nil)) (.nd (.map om) .nil .nil)))) (fun l h=>by cases h) (by simp[FT.Le,Wk]) (HWk.refl _) (fun h=>h) ?_
 refine qsV G hGg ownG F1 (by omega) ob2 n2 own1 h2 (by omega) _ _ _ _ _ _ _ _ fun ob3 n3 own3 hn3 h3=>?_
 have c73:=h3.cell
 have hF2:=qfQ G F1
 obtain⟨F2,hF2e⟩:∃F2,G.foldl zq F1=F2:=⟨_,rfl⟩
 rw[hF2e]at hf h3 hF2
 by_cases hbig:300<F2.length
 ·rw[if_pos hbig]at hf
  have hbig':(300:Int)<(F2.length:Int):=by omega
  simp(disch:=omega)[c73,h3.facts.pair,hbig']
  exact hk2 hf.symm _ ob3 n3 (by omega) h3.ni h3.old rfl rfl
 ·rw[if_neg hbig]at hf
  have hbig':¬(300:Int)<(F2.length:Int):=by omega
  simp(disch:=omega)[c73,h3.facts.pair,hbig',qi (show i<2^62 by omega)]
  exact⟨⟨i+1,n3,ob3,F2,own3⟩,by dsimp only;omega,⟨by dsimp only;omega,by dsimp only;omega,hf,by dsimp only;omega,h3⟩,by simp[FT.Le,Wk],HWk.refl _,fun h=>h⟩
end
section
variable{n0:Nat}{ob0:List (Nat×qc)}{M:List (PK×Int)}{fo am om f7:Nat}
theorem qiy(M:List (PK×Int))(lev:Int):∀(l:List qf)(i:Nat)(F F':List Stp),wi M lev l i F=some F'->F.length<=F'.length
 |[],_,F,F',h=>by
  simp only[wi,Option.some.injEq]at h
  rw[h];exact Nat.le_refl _
 |c::r,i,F,F',h=>by
  simp only[wi]at h
  split at h
  ·split at h
   ·cases h
   ·have h1:=qiy M lev r _ _ _ h
    have h2:=qfQ (vk F c i) F
    omega
  ·exact qiy M lev r _ _ _ h
structure NNBf where
 k:Nat
 bf:Int
 n:Nat
 ob:List (Nat×qc)
 F:List Stp
 own:Own
theorem qsO(l:List qf)(hl:l.length<=2^20)(hc:∀c∈l,zQ c)(lev:Nat)(F:List Stp)(hF:F.length<=300)(ob:List (Nat×qc))(m:Nat)(own:Own)(h:wd n0 ob0 M fo am om f7 ob F own)(hm:n0<=m)(v39:LV){KX:XP}
  (hk1:∀F',wM M lev l 302 F=some F'->∀ob' m' own',m<=m'->F'.length<=300->wd n0 ob0 M fo am om f7 ob' F' own'->KX (.exit 4) ((.nd (qt l) (.nd .bot (.nd .bot (.nd (.ptr f7 0) (.nd .bot .nil (.nd (.sl (F'.map vB) own') .nil .nil)) (.nd .bot (.nd (v39) .nil .nil) .nil)) (.nd .bot .nil (.nd .bot (.nd (.int F'.length) .nil .nil) .nil))) (.nd .bot (.nd .bot (.nd .bot .nil (.nd (.sc (.bool false)) .nil .nil)) .nil) (.nd (.int F'.length) .nil (.nd .bot (.nd (.ptr fo 0) .nil .nil) .nil)))) (.nd .bot (.nd .bot (.nd .bot (.nd .bot .nil (.nd (.int F'.length) .nil .nil)) (.nd .bot (.nd (.int lev) .nil .nil) .nil)) (.nd (.int lev) .nil (.nd .bot (.nd (.ptr fo 0) .nil .nil) .nil))) (.nd (.map om) .nil (.nd .bot .nil (.nd .bot (.nd (.ptr fo 1) .nil .nil) .nil)))))) ⟨ob',m'⟩)
  (hk2:wM M lev l 302 F=none->∀t' ob' m',m<=m'->qQ ob'->(∀i,i<n0->look i ob'=look i ob0)->t'.get 4=.sc (.pointer none)->t'.get 5=.int 2->KX .ret t' ⟨ob',m'⟩):
  lP E0 F0 qqj ((.nd (qt l) (.nd .bot (.nd .bot (.nd (.ptr f7 0) .nil (.nd .bot (.nd (v39) .nil .nil) .nil)) .nil) (.nd .bot .nil (.nd (.int (-1)) .nil .nil))) (.nd .bot (.nd .bot (.nd .bot .nil (.nd .bot (.nd (.int lev) .nil .nil) .nil)) (.nd (.int lev) .nil .nil)) (.nd (.map om) .nil .nil)))) ⟨ob,m⟩ KX:=by
 obtain⟨A,hA⟩:∃A,wM M lev l 302 F=A:=⟨_,rfl⟩
 rw[hA]at hk1 hk2
 refine qy (σ:=NNBf) (fun q=>(.nd (qt l) (.nd .bot (.nd .bot (.nd (.ptr f7 0) .nil (.nd .bot (.nd (v39) .nil .nil) .nil)) .nil) (.nd .bot .nil (.nd (.int q.bf) .nil .nil))) (.nd .bot (.nd .bot (.nd .bot .nil (.nd .bot (.nd (.int lev) .nil .nil) .nil)) (.nd (.int lev) .nil .nil)) (.nd (.map om) .nil .nil)))) (fun q=>⟨q.ob,q.n⟩) (fun q=>q.k)
  (fun q=>m<=q.n/\q.F.length<=300/\wd n0 ob0 M fo am om f7 q.ob q.F q.own/\((q.k=0/\q.bf=(q.F.length:Int)/\A=some q.F)\/(0<q.k/\q.bf≠(q.F.length:Int)/\wM M lev l q.k q.F=A/\302<=q.k+q.F.length)))
  ⟨302,-1,m,ob,F,own⟩ ⟨Nat.le_refl _,hF,h,   .inr ⟨by dsimp only;omega,by dsimp only;omega,hA,by dsimp only;omega⟩⟩ (by simp[FT.Le,Wk]) ⟨HWk.refl _,fun h=>h⟩ ?_
 rintro⟨k,bf,m1,ob1,F1,own1⟩ ⟨hm1,hl1,h1,hcase⟩ hok
 dsimp only at hm1 hl1 h1 hcase hok
 have c7:=h1.cell
 rcases hcase with⟨rfl,rfl,hA1⟩|⟨hk0,hbf,hlv,hfu⟩
 ·simp(disch:=omega)[c7,h1.facts.pair]
  exact hk1 F1 hA1 ob1 m1 own1 hm1 hl1 h1
 obtain⟨k',rfl⟩:∃k',k=k'+1:=⟨k - 1,by omega⟩
 simp only[wM]at hlv
 simp(disch:=omega)[c7,h1.facts.pair,hbf]
 refine vh (t':=(.nd (qt l) (.nd .bot (.nd .bot (.nd (.ptr f7 0) .nil (.nd .bot (.nd (v39) .nil .nil) (.nd (qt l) .nil .nil))) .nil) (.nd .bot (.nd .bot .nil (.nd .bot .nil (.nd (.int 0) .nil .nil))) (.nd (.int F1.length) .nil .nil))) (.nd .bot (.nd .bot (.nd .bot .nil (.nd .bot (.nd (.int lev) .nil .nil) (.nd (.int l.length) .nil .nil))) (.nd (.int lev) .nil .nil)) (.nd (.map om) .nil .nil)))) (fun l h=>by cases h) (by simp[FT.Le,Wk]) (HWk.refl _) (fun h=>h) ?_
 refine qsI l hl hc lev F1.length F1 hl1 ob1 m1 own1 h1 (by omega) v39 (fun F' hr ob2 m2 own2 hm2 hl2 h2=>?_) (fun hr t' ob2 m2 hm2 hni hold h4 h5=>?_)
 ·rw[hr]at hlv
  simp only at hlv
  simp(disch:=omega)
  by_cases he:F'.length=F1.length
  ·rw[if_pos he]at hlv
   exact⟨⟨0,F1.length,m2,ob2,F',own2⟩,by dsimp only;omega,⟨by dsimp only;omega,hl2,h2,.inl ⟨rfl,by dsimp only;rw[he],hlv.symm⟩⟩,by simp[FT.Le,Wk],HWk.refl _,fun h=>h⟩
  ·rw[if_neg he]at hlv
   have:=qiy _ _ _ _ _ _ hr
   exact⟨⟨k',F1.length,m2,ob2,F',own2⟩,by dsimp only;omega,⟨by dsimp only;omega,hl2,h2,.inr ⟨by dsimp only;omega,by dsimp only;omega,hlv,by dsimp only;omega⟩⟩,by simp[FT.Le,Wk],HWk.refl _,fun h=>h⟩
 ·rw[hr]at hlv
  simp(disch:=omega)
  exact hk2 hlv.symm t' ob2 m2 (by omega) hni hold h4 h5
theorem qse(l:List qf)(hl:l.length<=2^20)(hc:∀c∈l,zQ c)(N:Nat)(hN:N<=2^40)(F:List Stp)(hF:F.length<=300)(ob:List (Nat×qc))(m:Nat)(own:Own)(h:wd n0 ob0 M fo am om f7 ob F own)(hm:n0<=m){KX:XP}
  (hk1:∀F',qaP M l N 0 F=some F'->∀ob' m' own',m<=m'->F'.length<=300->wd n0 ob0 M fo am om f7 ob' F' own'->KX (.exit 2) ((.nd (qt l) (.nd .bot (.nd .bot (.nd (.ptr f7 0) .nil (.nd .bot (.nd (.int N) .nil .nil) .nil)) .nil) (.nd .bot (.nd .bot .nil (.nd .bot (.nd (.sc (.bool false)) .nil .nil) .nil)) .nil)) (.nd .bot (.nd .bot (.nd .bot .nil (.nd .bot (.nd (.int N) .nil .nil) .nil)) .nil) (.nd (.map om) .nil .nil)))) ⟨ob',m'⟩)
  (hk2:qaP M l N 0 F=none->∀t' ob' m',m<=m'->qQ ob'->(∀i,i<n0->look i ob'=look i ob0)->t'.get 4=.sc (.pointer none)->t'.get 5=.int 2->KX .ret t' ⟨ob',m'⟩):
  lP E0 F0 qnB ((.nd (qt l) (.nd .bot (.nd .bot (.nd (.ptr f7 0) .nil (.nd .bot (.nd (.int N) .nil .nil) .nil)) .nil) .nil) (.nd .bot (.nd .bot (.nd .bot .nil (.nd .bot (.nd (.int 0) .nil .nil) .nil)) .nil) (.nd (.map om) .nil .nil)))) ⟨ob,m⟩ KX:=by
 obtain⟨A,hA⟩:∃A,qaP M l N 0 F=A:=⟨_,rfl⟩
 rw[hA]at hk1 hk2
 refine qy (σ:=NNAd) (fun q=>(.nd (qt l) (.nd .bot (.nd .bot (.nd (.ptr f7 0) .nil (.nd .bot (.nd (.int N) .nil .nil) .nil)) .nil) .nil) (.nd .bot (.nd .bot (.nd .bot .nil (.nd .bot (.nd (.int q.i) .nil .nil) .nil)) .nil) (.nd (.map om) .nil .nil)))) (fun q=>⟨q.ob,q.n⟩) (fun q=>N - q.i)
  (fun q=>m<=q.n/\q.i<=N/\qaP M l (N - q.i) q.i q.F=A/\q.F.length<=300/\wd n0 ob0 M fo am om f7 q.ob q.F q.own)
  ⟨0,m,ob,F,own⟩ ⟨Nat.le_refl _,Nat.zero_le _,hA,hF,h⟩ (by simp[FT.Le,Wk]) ⟨HWk.refl _,fun h=>h⟩ ?_
 rintro⟨i,m1,ob1,F1,own1⟩ ⟨hm1,hi,hf,hl1,h1⟩ hok
 dsimp only at hm1 hi hf hl1 h1 hok
 by_cases hlt:i<N
 case neg=>
  obtain rfl:i=N:=by omega
  rw[Nat.sub_self]at hf
  simp(disch:=omega)
  exact hk1 F1 hf.symm ob1 m1 own1 hm1 hl1 h1
 obtain⟨d,hd⟩:∃d,N - i=d+1:=⟨N - i - 1,by omega⟩
 rw[hd]at hf
 simp only[qaP]at hf
 simp(disch:=omega)[hlt]
 refine vh (t':=(.nd (qt l) (.nd .bot (.nd .bot (.nd (.ptr f7 0) .nil (.nd .bot (.nd (.int N) .nil .nil) .nil)) .nil) (.nd .bot .nil (.nd (.int (-1)) .nil .nil))) (.nd .bot (.nd .bot (.nd .bot .nil (.nd .bot (.nd (.int i) .nil .nil) .nil)) (.nd (.int i) .nil .nil)) (.nd (.map om) .nil .nil)))) (fun l h=>by cases h) (by simp[FT.Le,Wk]) (HWk.refl _) (fun h=>h) ?_
 refine qsO l hl hc i F1 hl1 ob1 m1 own1 h1 (by omega) (.int N) (fun F' hr ob2 m2 own2 hm2 hl2 h2=>?_) (fun hr t' ob2 m2 hm2 hni hold h4 h5=>?_)
 ·rw[hr]at hf
  simp only at hf
  simp(disch:=omega)[qi (show i<2^62 by omega)]
  exact⟨⟨i+1,m2,ob2,F',own2⟩,by dsimp only;omega,⟨by dsimp only;omega,by dsimp only;omega,by dsimp only;rw[show N - (i+1)=d by omega];exact hf,hl2,h2⟩,by simp[FT.Le,Wk],HWk.refl _,fun h=>h⟩
 ·rw[hr]at hf
  simp(disch:=omega)
  exact hk2 hf.symm t' ob2 m2 (by omega) hni hold h4 h5
end
theorem qxy{f:FuncId}{args:List LV}{H:qa}{kv kp:HP}(h:cP E0 F0 f (stripL args) H kv kp):cP E0 F0 f args H kv kp:=fun hH=>by
 refine .weakArgs (args':=stripL args) (by rw[qcy]) (fun k=>?_) ⟨Nat.le_refl _,fun _ _ h=>h⟩ (h hH)
 simp only[zz,List.getD_eq_getElem?_getD,qbb]
 cases args[k]? with
 |none=>exact .inl rfl
 |some v=>exact .inr (.inl rfl)
def qxY:qo:=match b133.body with
 |.seq _ (.seq _ (.seq _ (.seq _ (.seq _ (.seq (.seq _ (.blk _ l)) _)))))=>l
 |_=>.bad
def qK(a:Atom):Bool:=qM a&&a.args.all ua
theorem qkk{a:Atom}:qK a=true↔qI a:=by simp[qK,qI]
section
variable{n0:Nat}{ob0:List (Nat×qc)}{M:List (PK×Int)}{fo am om:Nat}
theorem qsP(base:List Atom)(ownB:Own)(hb:base.length<=100)(hok:∀a∈base,a.ok)(ob:List (Nat×qc))(m:Nat)(h:BasAt n0 ob0 M fo am om ob [] .full)(hm:n0<=m){KX:XP}
  (hk1:base.all qK=true->∀ob' m' own',m<=m'->BasAt n0 ob0 M fo am om ob' (qbr base) own'->KX (.exit 0) ((.nd .bot (.nd .bot (.nd .bot (.nd (.map om) .nil .nil) (.nd .bot .nil (.nd (.int base.length) .nil .nil))) (.nd .bot (.nd (.ptr fo 0) .nil .nil) (.nd .bot .nil (.nd (.sc (.bool false)) .nil .nil)))) (.nd .bot (.nd .bot .nil (.nd .bot .nil (.nd (.int base.length) .nil .nil))) (.nd .bot (.nd .bot .nil (.nd (.sl (base.map qd) ownB) .nil .nil)) .nil)))) ⟨ob',m'⟩)
  (hk2:base.all qK=false->∀t' ob' m',m<=m'->qQ ob'->(∀i,i<n0->look i ob'=look i ob0)->t'.get 4=.sc (.map none)->t'.get 5=.sc (.pointer none)->t'.get 6=.int 1->KX .ret t' ⟨ob',m'⟩):
  lP E0 F0 qxY ((.nd .bot (.nd .bot (.nd .bot (.nd (.map om) .nil .nil) (.nd .bot .nil (.nd (.int base.length) .nil .nil))) (.nd .bot (.nd (.ptr fo 0) .nil .nil) .nil)) (.nd .bot (.nd .bot .nil (.nd .bot .nil (.nd (.int 0) .nil .nil))) (.nd .bot (.nd .bot .nil (.nd (.sl (base.map qd) ownB) .nil .nil)) .nil)))) ⟨ob,m⟩ KX:=by
 obtain⟨A,hA⟩:∃A,base.all qK=A:=⟨_,rfl⟩
 obtain⟨B,hB⟩:∃B,qbr base=B:=⟨_,rfl⟩
 rw[hA]at hk1 hk2
 rw[hB]at hk1
 refine qy (σ:=NNAd) (fun q=>(.nd .bot (.nd .bot (.nd .bot (.nd (.map om) .nil .nil) (.nd .bot .nil (.nd (.int base.length) .nil .nil))) (.nd .bot (.nd (.ptr fo 0) .nil .nil) .nil)) (.nd .bot (.nd .bot .nil (.nd .bot .nil (.nd (.int q.i) .nil .nil))) (.nd .bot (.nd .bot .nil (.nd (.sl (base.map qd) ownB) .nil .nil)) .nil)))) (fun q=>⟨q.ob,q.n⟩) (fun q=>base.length - q.i)
  (fun q=>m<=q.n/\q.i<=base.length/\(base.drop q.i).all qK=A/\((base.map fun a=>(⟨a,-1,[]⟩:Stp)).drop q.i).foldl zq q.F=B/\q.F.length<=q.i/\BasAt n0 ob0 M fo am om q.ob q.F q.own)
  ⟨0,m,ob,[],.full⟩ ⟨Nat.le_refl _,Nat.zero_le _,hA,hB,Nat.le_refl _,h⟩ (by simp[FT.Le,Wk]) ⟨HWk.refl _,fun h=>h⟩ ?_
 rintro⟨i,m1,ob1,F1,own1⟩ ⟨hm1,hi,hf,hg,hl1,h1⟩ hok1
 dsimp only at hm1 hi hf hg hl1 h1 hok1
 by_cases hlt:i<base.length
 case neg=>
  obtain rfl:i=base.length:=by omega
  rw[List.drop_eq_nil_of_le (Nat.le_refl _)]at hf
  rw[List.drop_eq_nil_of_le (by simp)]at hg
  obtain rfl:F1=B:=hg
  simp(disch:=omega)
  exact hk1 hf.symm ob1 m1 own1 hm1 h1
 rw[qaC _ hlt]at hf
 rw[List.drop_eq_getElem_cons (by simpa using hlt),List.foldl_cons,List.getElem_map]at hg
 have hao:=hok _ (List.getElem_mem hlt)
 simp(disch:=omega)[hlt]
 refine(qeO base[i] hao).go fun m2 hm2=>?_
 have hold2:∀(x:qc) j,j<n0->look j ((m1,x)::ob1)=look j ob0:=fun x j hj=>by rw[qe (by omega)];exact h1.old j hj
 cases ha:qM base[i]
 ·have e:qK base[i]=false:=by simp[qK,ha]
  rw[e,Bool.false_and]at hf
  simp(disch:=omega)
  exact hk2 hf.symm _ _ m2 (by omega) (h1.ni.cons _ rfl) (hold2 _) rfl rfl rfl
 simp(disch:=omega)
 refine(qic base[i] hao).go fun m3 hm3=>?_
 cases hgr:base[i].args.all ua
 ·have e:qK base[i]=false:=by simp[qK,hgr]
  rw[e,Bool.false_and]at hf
  simp(disch:=omega)
  exact hk2 hf.symm _ _ m3 (by omega) (h1.ni.cons _ rfl) (hold2 _) rfl rfl rfl
 have e:qK base[i]=true:=by simp[qK,ha,hgr]
 have hG:qI base[i]:=qkk.1 e
 rw[e,Bool.true_and]at hf
 simp(disch:=omega)
 have hal:=(qai ha).1
 refine qsu base[i] (by omega) (fun t ht hk3=>by have:=List.all_eq_true.1 hgr t ht;simp[ua,hk3]at this) _ fun m4 hm4=>?_
 dsimp only at hm4
 simp(disch:=omega)
 refine qxy ?_
 have hstrip:stripL [.ptr fo 0,.agg [.str base[i].pred,qk base[i].args,Z (-1),Nl]]=[.ptr fo 0,vB ⟨base[i],-1,[]⟩]:=by
  simp[LV.strip,stripL,qba,List.map_map,Function.comp_def]
 rw[hstrip]
 refine qlH ⟨base[i],-1,[]⟩ hG F1 (by omega) ((m1,.cells [.str base[i].pred,qk base[i].args])::ob1) m4 own1 (h1.keep hok1 (by omega) (h1.ni.cons _ rfl) fun j hj=>qe (by omega) _ _) (by omega) fun ob2 m5 own2 hm5 h2 _=>?_
 simp(disch:=omega)[qi (show i<2^62 by omega)]
 have:=qku F1 ⟨base[i],-1,[]⟩
 exact⟨⟨i+1,m5,ob2,zq F1 ⟨base[i],-1,[]⟩,own2⟩,by dsimp only;omega,⟨by dsimp only;omega,by dsimp only;omega,hf,hg,by dsimp only;omega,h2⟩,by simp[FT.Le,Wk],HWk.refl _,fun h=>h⟩
end
theorem qlF(l:List qf)(hl:qbv l)(fuel:Nat)(R:Option (List (PK×Int)))(hR:(qA l).1=0->wo l fuel (l.foldl y8 [])=some R)(base:List Atom)(ownB:Own)(hb:base.length<2^63)(hok:base.length<=100->∀a∈base,a.ok)(ob:List (Nat×qc))(n:Nat)(hni:qQ ob){kv kp:HP}
  (he:∀e:Int,e≠0->((qA l).1≠0/\e=(qA l).1\/(qA l).1=0/\R=none/\e=81\/(qA l).1=0/\R≠none/\100<base.length/\e=2\/(qA l).1=0/\R≠none/\base.length<=100/\base.all qK=false/\e=1)->∀n',n<=n'->kv (.tup [.sc (.map none),.sc (.pointer none),.int e]) ⟨ob,n'⟩)
  (hv:(qA l).1=0->∀m,R=some m->base.length<=100->base.all qK=true->∀om fo am ob' n' own',n<=n'->BasAt n ob m fo am om ob' (qbr base) own'->kv (.tup [.map om,.ptr fo 0,.int 0]) ⟨ob',n'⟩):
  cP E0 F0 133 [qt l,.sl (base.map qd) ownB] ⟨ob,n⟩ kv kp:=by
 refine ur c133 fun hH=>⟨Nat.le_of_ble_eq_true rfl,?_⟩
 simp(disch:=omega)[b133]
 refine qsK l hl fuel R hR _ (fun hc n2 hn2=>?_) (fun hc hRn n2 hn2=>?_) (fun hc m hRm o n2 ho hn2=>?_)
 ·dsimp only at hn2
  simp(disch:=omega)[hc]
  exact keep (he _ hc (.inl ⟨hc,rfl⟩) n2 hn2)
 ·dsimp only at hn2
  simp(disch:=omega)
  exact keep (he 81 (by decide) (.inr (.inl ⟨hc,hRn,rfl⟩)) n2 hn2)
 dsimp only at ho
 have hRs:R≠none:=by rw[hRm];simp
 by_cases h100:base.length<=100
 case neg=>
  have h100':(100:Int)<(base.length:Int):=by omega
  simp(disch:=omega)[h100']
  obtain⟨g1,g2⟩:=zK (l:=(o,qc.map (qT m))::ob) (n:=n2) hH (ql.cons' hH ho (by dsimp only;omega) (ql.refl' _))
  exact⟨_,g1,g2,he 2 (by decide) (.inr (.inr (.inl ⟨hc,hRs,by omega,rfl⟩))) n2 (by omega)⟩
 have h100':¬(100:Int)<(base.length:Int):=by omega
 simp(disch:=omega)[h100']
 refine vh (t':=(.nd .bot (.nd .bot (.nd .bot (.nd (.map o) .nil .nil) (.nd .bot .nil (.nd (.int base.length) .nil .nil))) (.nd .bot (.nd (.ptr (n2+1) 0) .nil .nil) .nil)) (.nd .bot (.nd .bot .nil (.nd .bot .nil (.nd (.int 0) .nil .nil))) (.nd .bot (.nd .bot .nil (.nd (.sl (base.map qd) ownB) .nil .nil)) .nil)))) (fun l h=>by cases h) (by simp[FT.Le,Wk]) (HWk.refl _) (fun h=>h) ?_
 have hold:∀i,i<n->look i ((n2+1,.cells [.map n2,Nl])::(n2,.map [])::(o,.map (qT m))::ob)=look i ob:=fun i hi=>by rw[qe (by omega),qe (by omega),qe (by omega)]
 have hB:BasAt n ob m (n2+1) n2 o ((n2+1,.cells [.map n2,Nl])::(n2,.map [])::(o,.map (qT m))::ob) [] .full:=by
  refine⟨⟨qp _ _ _,by rw[qe (by omega)];exact qp _ _ _,by omega,.inl ⟨rfl,rfl⟩⟩,by rw[qe (by omega),qe (by omega)];exact qp _ _ _,by omega,((hni.cons _ rfl).cons _ rfl).cons _ rfl,hold,⟨by omega,by omega,fun t h=>by cases h⟩,fun s hs=>by cases hs⟩
 refine qsP base ownB h100 (hok h100) _ (n2+1+1) hB (by omega) (fun hall ob2 m2 own2 hm2 h2=>?_) (fun hall t' ob2 m2 hm2 hni2 hold2 h4 h5 h6=>?_)
 ·simp(disch:=omega)
  exact keep (hv hc m hRm h100 hall o _ _ ob2 m2 own2 (by omega) h2)
 ·simp(disch:=omega)
  unfold zE
  rw[h4,h5,h6]
  exact⟨⟨ob,m2⟩,⟨Nat.le_refl _,fun i x hx=>by rw[hold2 i (hH.look hx)];exact hx⟩,fun _=>qn.mono hH (by dsimp only;omega),he 1 (by decide) (.inr (.inr (.inr ⟨hc,hRs,h100,hall,rfl⟩))) m2 (by omega)⟩
theorem qpR:∀(l:List qf)(i:Nat),(wa l i).1=0->∀c∈l,zQ c
 |[],_,_,c,hc=>by cases hc
 |d::l,i,h,c,hc=>by
  unfold wa at h
  split at h
  ·cases h
  ·split at h
   ·cases h
   ·rename_i h1 h2
    rcases List.mem_cons.1 hc with rfl|hc
    ·exact⟨by simpa using h1,by simpa using h2⟩
    ·exact qpR l _ h c hc
theorem qhu{l:List qf}(h:(qA l).1=0):∀c∈l,zQ c:=by
 unfold qA at h
 split at h
 ·cases h
 ·exact qpR l _ h
def qbR(m:List (PK×Int))(l:List qf)(base:List Atom):Option (List Stp):=qaP m l ((uF 0 (m.map (·.2))).toNat+1) 0 (qbr base)
def d24a:qo:=match b95.body with
 |.seq a _=>a
 |_=>.bad
def d24b:qo:=match b95.body with
 |.seq _ (.seq a _)=>a
 |_=>.bad
def d24c:qo:=match b95.body with
 |.seq _ (.seq _ (.seq a _))=>a
 |_=>.bad
def d24d:qo:=match b95.body with
 |.seq _ (.seq _ (.seq _ (.seq a _)))=>a
 |_=>.bad
theorem qxL:b95.body=.seq d24a (.seq d24b (.seq d24c (.seq d24d (.seq l42 r42)))):=rfl
theorem oneN:(Value.pointer none).oneCell'=true:=rfl
def zp(l:List qf)(R:Option (List (PK×Int)))(base:List Atom):Int:=
 if (qA l).1≠0 then (qA l).1 else if R=none then 81 else if 100<base.length then 2 else if base.all qK then 0 else 1
theorem qsy(l:List qf)(hl:qbv l)(fuel:Nat)(R:Option (List (PK×Int)))(hR:(qA l).1=0->wo l fuel (l.foldl y8 [])=some R)(hRb:(qA l).1=0->∀m,R=some m->0<=uF 0 (m.map (·.2))/\uF 0 (m.map (·.2))<=2^30)
  (base:List Atom) (ownB:Own) (hb:base.length<2^63) (hok:base.length<=100->∀a∈base,a.ok) (ob:List (Nat×qc)) (n:Nat) (hni:qQ ob) {kv kp:HP}
  (he:∀e:Int,e≠0->(e=zp l R base\/zp l R base=0/\(∃m,R=some m/\qbR m l base=none)/\e=2)->∀n',n<=n'->kv (.tup [.sc (.pointer none),.int e]) ⟨ob,n'⟩)
  (hv:zp l R base=0->∀m F,R=some m->qbR m l base=some F->F.length<=300->∀om fo am ob' n' own',n<=n'->BasAt n ob m fo am om ob' F own'->kv (.tup [.ptr fo 0,.int 0]) ⟨ob',n'⟩):
  cP E0 F0 95 [qt l,.sl (base.map qd) ownB] ⟨ob,n⟩ kv kp:=by
 refine qdA c95 (Nat.le_of_ble_eq_true rfl) fun hH=>?_
 rw[qxL]
 simp(disch:=omega)
 refine g9 (zS ?_)
 simp(disch:=omega)[d24a,b95]
 refine g9 (zS ?_)
 simp(disch:=omega)[d24b,b95]
 refine qlF l hl fuel R hR base ownB hb hok ob n hni (fun e he0 hwhy n2 hn2=>?_) (fun hc m hRm h100 hall om fo am ob2 n2 own2 hn2 h2=>?_)
 ·have heE:e=zp l R base:=by
   unfold zp
   rcases hwhy with⟨h1,h2⟩|⟨h1,h2,h3⟩|⟨h1,h2,h3,h4⟩|⟨h1,h2,h3,h4,h5⟩
   ·rw[if_pos h1];exact h2
   ·rw[if_neg (by omega),if_pos h2];exact h3
   ·rw[if_neg (by omega),if_neg h2,if_pos h3];exact h4
   ·rw[if_neg (by omega),if_neg h2,if_neg (by omega),if_neg (by simp[h4])];exact h5
  simp(disch:=omega)[oneN]
  refine g9 (zS ?_)
  simp(disch:=omega)[d24c,b95,he0]
  obtain⟨g1,g2⟩:=zK (l:=(n2,qc.cells [.sc (.pointer none)])::ob) (n:=n2+1) hH (ql.cons' hH hn2 (by dsimp only;omega) (ql.refl' _))
  exact⟨_,g1,g2,he e he0 (.inl heE) (n2+1) (by omega)⟩
 ·have hbz:zp l R base=0:=by
   unfold zp
   rw[if_neg (by omega),if_neg (by rw[hRm];simp),if_neg (by omega),if_pos hall]
  obtain⟨hM0,hM1⟩:=hRb hc m hRm
  simp(disch:=omega)
  refine g9 (zS ?_)
  simp(disch:=omega)[d24c,b95]
  refine g9 (zS ?_)
  simp(disch:=omega)[d24d,b95]
  refine qgV fun hok2=>?_
  have hokB:qa.Ok ⟨ob2,n2⟩:=hok2.2
  have hlv:look om ((n2,qc.cells [.ptr fo 0])::ob2)=some (.map ((m.map fun e=>(uz e.1,e.2)).map fun e=>(e.1,.int e.2))):=by
   rw[List.map_map,qe]
   ·exact h2.lev
   ·have:=hokB.look h2.lev
    dsimp only at this
    omega
  refine vh (t':=(.nd (qt l) (.nd .bot (.nd .bot (.nd (.ptr n2 0) .nil .nil) .nil) (.nd .bot (.nd (.int 0) .nil .nil) .nil)) (.nd .bot .nil (.nd (.map om) .nil .nil)))) (fun l h=>by cases h) (by simp[FT.Le,Wk]) (HWk.refl _) (fun h=>h) ?_
  refine g9 (qfs (quY (qt l) (.ptr n2 0) om (m.map fun e=>(uz e.1,e.2)) 0 ⟨(n2,qc.cells [.ptr fo 0])::ob2,n2+1⟩ hlv) ?_)
  rintro e t' H' ⟨rfl,ht,hw,hokw⟩
  rw[List.map_map,show ((fun e:LV×Int=>e.2)∘fun e:PK×Int=>(uz e.1,e.2))=fun e=>e.2 from rfl]at ht
  obtain⟨N,hN⟩:∃N:Nat,uF 0 (m.map (·.2))=(N:Int):=⟨(uF 0 (m.map (·.2))).toNat,by omega⟩
  have hdd:qbR m l base=qaP m l (N+1) 0 (qbr base):=by
   unfold qbR
   rw[hN];rfl
  rw[hN]at ht hM1
  show lP E0 F0 r42 t' H' _
  refine vh (fun l h=>by cases h) ht hw hokw ?_
  refine zS ?_
  simp(disch:=omega)[r42,b95,qi (show N<2^62 by omega)]
  refine vh (t':=(.nd (qt l) (.nd .bot (.nd .bot (.nd (.ptr n2 0) .nil (.nd .bot (.nd (.int (N+1:Nat)) .nil .nil) .nil)) .nil) .nil) (.nd .bot (.nd .bot (.nd .bot .nil (.nd .bot (.nd (.int 0) .nil .nil) .nil)) .nil) (.nd (.map om) .nil .nil)))) (fun l h=>by cases h) (by simp[FT.Le,Wk]) (HWk.refl _) (fun h=>h) ?_
  have hcg:=qhu hc
  have hll:=(qfJ hc).1
  have hbl:(qbr base).length<=300:=by
   have:=qfQ (base.map fun a=>(⟨a,-1,[]⟩:Stp)) []
   rw[List.length_map,List.length_nil]at this
   unfold qbr
   omega
  refine qse (n0:=n) (ob0:=ob) (M:=m) (am:=am) l (by omega) hcg (N+1) (by omega) (qbr base) hbl _ (n2+1+1) own2 ⟨?_,qp _ _ _⟩ (by omega) (fun F' hF' ob3 m3 own3 hm3 hl3 h3=>?_) (fun hF' t' ob3 m3 hm3 hni3 hold3 h4 h5=>?_)
  ·exact h2.keep hokB (by omega) (h2.ni.cons _ rfl) fun j hj=>qe (by omega) _ _
  ·have c7:=h3.cell
   simp(disch:=omega)[c7]
   exact keep (hv hbz m F' hRm (by rw[hdd];exact hF') hl3 om fo am ob3 m3 own3 (by omega) h3.toBasAt)
  ·simp(disch:=omega)
   unfold zE
   rw[h4,h5]
   exact⟨⟨ob,m3⟩,⟨Nat.le_refl _,fun i x hx=>by rw[hold3 i (hH.look hx)];exact hx⟩,fun _=>qn.mono hH (by dsimp only;omega),he 2 (by decide) (.inr ⟨hbz,⟨m,hRm,by rw[hdd];exact hF'⟩,rfl⟩) m3 (by omega)⟩
theorem qyi(l:List (Nat×qc))(m:Nat)(x:Atom)(ow:Own):qaB ⟨l,m⟩ 2 (.sl [] .full) (.sl [qd x] ow)=some (.asl m 0 1,⟨(m,wG [x])::l,m+1⟩):=rfl
theorem qyk{l:List (Nat×qc)}{m o:Nat}{A:List Atom}(x:Atom)(ow:Own)(hl:look o l=some (wG A))(hA:A.length<=2^20):
  qaB ⟨l,m⟩ 2 (.asl o 0 A.length) (.sl [qd x] ow)=some (.asl m 0 (A.length+1),⟨(m,wG (A++[x]))::zZ o l,m+1⟩):=by
 have h1:=qen A
 have h2:wy ⟨l,m⟩ 2 (.asl o 0 A.length)=some (A.flatMap yR,⟨zZ o l,m⟩,A.length):=by
  simp only[wy,hl]
  rw[if_pos ⟨trivial,by rw[h1];exact Nat.le_refl _⟩,<-h1,List.take_length]
  rfl
 have h3:qca ⟨l,m⟩ 2 (.sl [qd x] ow)=some (yR x,1):=rfl
 unfold qaB
 rw[h2,h3]
 simp only
 rw[if_neg (by omega),if_pos ⟨by omega,by omega⟩]
 simp[qa.alloc,List.flatMap_append,LV.cells]
def qyb:qo:=match b97.body with
 |.seq _ (.seq _ (.seq (.seq _ (.blk _ l)) _))=>l
 |_=>.bad
structure NNAt where
 i:Nat
 n:Nat
 M:Nat
def atV(M:Nat):Nat->LV
 |0=>Nl
 |i+1=>.asl M 0 (i+1)
def atH(M:Nat)(A:List Atom)(ob:List (Nat×qc)):List (Nat×qc):=match A with
 |[]=>ob
 |A=>(M,wG A)::ob
theorem qkn{M:Nat}{A:List Atom}{ob:List (Nat×qc)}(h:A≠[]):atH M A ob=(M,wG A)::ob:=by
 cases A with
 |nil=>exact absurd rfl h
 |cons a A=>rfl
theorem qkE:IntKind.wrap .i64 1=1:=by have:=qi (show 0<2^62 by omega);simpa using this
theorem qsT(F:List Stp)(hF:F.length<=2^19)(own:Own)(ob:List (Nat×qc))(n:Nat)(hOb:qn ob n){KX:XP}
  (hk:∀M m,(F≠[]->n<=M/\M<m)->n<=m->KX (.exit 0) ((.nd .bot (.nd .bot (.nd (atV M F.length) .nil (.nd (.int F.length) .nil .nil)) (.nd .bot (.nd (.sl (F.map vB) own) .nil .nil) .nil)) (.nd .bot (.nd .bot .nil (.nd (.sc (.bool false)) .nil .nil)) (.nd .bot (.nd (.int F.length) .nil .nil) .nil)))) ⟨atH M (F.map Stp.atom) ob,m⟩):
  lP E0 F0 qyb ((.nd .bot (.nd .bot (.nd (Nl) .nil (.nd (.int 0) .nil .nil)) (.nd .bot (.nd (.sl (F.map vB) own) .nil .nil) .nil)) (.nd .bot .nil (.nd .bot (.nd (.int F.length) .nil .nil) .nil)))) ⟨ob,n⟩ KX:=by
 obtain⟨L,hL⟩:∃L,F.map Stp.atom=L:=⟨_,rfl⟩
 have hLl:L.length=F.length:=by rw[<-hL,List.length_map]
 have hLg:∀i (h:i<F.length),L[i]? = some F[i].atom:=fun i h=>by rw[<-hL,List.getElem?_map,List.getElem?_eq_getElem h];rfl
 rw[hL]at hk
 refine qy (σ:=NNAt) (fun q=>(.nd .bot (.nd .bot (.nd (atV q.M q.i) .nil (.nd (.int q.i) .nil .nil)) (.nd .bot (.nd (.sl (F.map vB) own) .nil .nil) .nil)) (.nd .bot .nil (.nd .bot (.nd (.int F.length) .nil .nil) .nil)))) (fun q=>⟨atH q.M (L.take q.i) ob,q.n⟩) (fun q=>F.length - q.i)
  (fun q=>q.i<=F.length/\n<=q.n/\(0<q.i->n<=q.M/\q.M<q.n)) ⟨0,n,0⟩ ⟨Nat.zero_le _,Nat.le_refl _,fun h=>absurd h (by simp)⟩ (by simp[FT.Le,Wk,atV]) ⟨HWk.refl _,fun h=>h⟩ ?_
 rintro⟨i,m,M⟩ ⟨hi,hm,hM⟩ hok
 dsimp only at hi hm hM hok
 by_cases hlt:i<F.length
 case neg=>
  obtain rfl:i=F.length:=by omega
  have ht:L.take F.length=L:=by rw[<-hLl,List.take_length]
  dsimp only
  rw[ht]
  simp(disch:=omega)
  exact hk M m (fun hne=>hM (List.length_pos_iff.2 hne)) hm
 have htk:L.take (i+1)=L.take i++[F[i].atom]:=by
  rw[List.take_add_one,hLg i hlt]
  rfl
 by_cases hi0:i=0
 ·subst hi0
  dsimp only[atV,List.take_zero,atH]
  simp(disch:=omega)[hlt]
  refine qaf ?_
  simp(disch:=omega)[qyi]
  have h1:L.take 1=[F[0].atom]:=by rw[htk];simp
  refine⟨⟨1,m+1+1,m+1⟩,by dsimp only;omega,⟨by dsimp only;omega,by dsimp only;omega,fun _=>⟨by dsimp only;omega,by dsimp only;omega⟩⟩,by simp[FT.Le,Wk,atV,qkE],?_⟩
  dsimp only
  rw[h1]
  exact⟨qcJ (hOb.mono hm) fun _ _ h=>h,fun _=>⟨Nat.lt_succ_self _,hOb.mono (by omega)⟩⟩
 ·obtain⟨hM1,hM2⟩:=hM (by omega)
  obtain⟨A,hA⟩:∃A,L.take i=A:=⟨_,rfl⟩
  have hAl:A.length=i:=by rw[<-hA,List.length_take];omega
  have hAne:A≠[]:=fun e=>by rw[e]at hAl;simp at hAl;omega
  rw[hA]at htk
  have hv:atV M i=.asl M 0 A.length:=by
   rw[hAl]
   obtain⟨j,rfl⟩:∃j,i=j+1:=⟨i - 1,by omega⟩
   rfl
  rw[hv,hA,qkn hAne]
  simp(disch:=omega)[hlt]
  refine qaf ?_
  simp(disch:=omega)
  have hap:=qyk (l:=(m,.cells (qeR F[i]))::(M,wG A)::ob) (m:=m+1) (o:=M) F[i].atom .full (by rw[qe (by omega)];exact qp _ _ _) (by omega)
  have hdel:zZ M ((m,.cells (qeR F[i]))::(M,wG A)::ob)=(m,.cells (qeR F[i]))::ob:=by
   have hb:zZ M ob=ob:=qhq (H:=⟨ob,n⟩) hOb hM1
   simp only[zZ]
   rw[if_neg (by omega),if_pos trivial,hb]
  rw[hdel]at hap
  rw[hap]
  simp(disch:=omega)[qi (show i<2^62 by omega)]
  refine⟨⟨i+1,m+1+1,m+1⟩,by dsimp only;omega,⟨by dsimp only;omega,by dsimp only;omega,fun _=>⟨by dsimp only;omega,by dsimp only;omega⟩⟩,by simp[FT.Le,Wk,atV,hAl],?_⟩
  dsimp only
  rw[htk,qkn (by simp)]
  exact⟨qcJ (hOb.mono hm) fun _ _ h=>h,fun _=>⟨Nat.lt_succ_self _,hOb.mono (by omega)⟩⟩
theorem qsk:qg 224 [.sl [] .full,.int 0,.int 0,.fn (.func 96) [] []] (.tup []):=by
 refine qg.of c224 fun H hH=>⟨Nat.le_of_ble_eq_true rfl,?_⟩
 simp(disch:=omega)[b224,ui]
 refine qaQ ?_
 simp(disch:=omega)[zh]
 exact qh hH (by simp[])
theorem qsa(lim:Int):qg 195 [.sl [] .full,.int 0,.int 0,.int lim,.fn (.func 96) [] []] (.tup []):=by
 refine qg.of c195 fun H hH=>⟨Nat.le_of_ble_eq_true rfl,?_⟩
 simp(disch:=omega)[b195,ui]
 refine qaQ ?_
 simp(disch:=omega)[ui]
 refine qsk.go fun n hn=>?_
 simp(disch:=omega)[zh]
 exact qh hH (by simp[])
theorem qrt:qg 158 [.sl [] .full,.fn (.func 96) [] []] (.tup []):=by
 refine qg.of c158 fun H hH=>⟨Nat.le_of_ble_eq_true rfl,?_⟩
 have w0:IntKind.wrap .u64 0=0:=qkD (Nat.zero_le 12)
 simp(disch:=omega)[b158,ui,w0]
 refine(qlE 0 (by omega) (by omega)).go fun n hn=>?_
 simp(disch:=omega)
 refine(qsa _).go fun n hn=>?_
 simp(disch:=omega)[zh]
 exact qh hH (by simp[])
def qqr:qo:=match b97.body with
 |.seq a _=>a
 |_=>.bad
def qqq:qo:=match b97.body with
 |.seq _ (.seq a _)=>a
 |_=>.bad
def qqp:qo:=match b97.body with
 |.seq _ (.seq _ (.seq a _))=>a
 |_=>.bad
def qko:qo:=match b97.body with
 |.seq _ (.seq _ (.seq _ r))=>r
 |_=>.bad
theorem qxK:b97.body=.seq qqr (.seq qqq (.seq qqp qko)):=rfl
theorem qI.argsLen{a:Atom}(h:qI a):a.args.length<2^40:=by have:=(qai h.1).1;omega
theorem qsQ(F:List Stp)(hF:F.length<=2^19)(hFg:∀s∈F,qI s.atom)(fo am:Nat)(own:Own)(ob:List (Nat×qc))(n:Nat)(h:uh ob fo am F own){kv kp:HP}
  (hk0:F=[]->∀n',n<=n'->kv Nl ⟨ob,n'⟩)
  (hk1:F≠[]->∀(B:List Atom)(M n':Nat),B.Perm (F.map Stp.atom)->(B.Pairwise fun x y=>¬cmpA y x<0)->n<=M->M<n'->kv (.asl M 0 B.length) ⟨(M,wG B)::ob,n'⟩):
  cP E0 F0 97 [.ptr fo 0] ⟨ob,n⟩ kv kp:=by
 refine qdA c97 (Nat.le_of_ble_eq_true rfl) fun hH=>?_
 rw[qxK]
 simp(disch:=omega)
 refine g9 (zS ?_)
 simp(disch:=omega)[qqr,b97]
 refine g9 (zS ?_)
 simp(disch:=omega)[qqq,b97]
 refine g9 (zS ?_)
 simp(disch:=omega)[qqp,b97,h.pair]
 refine vh (t':=(.nd .bot (.nd .bot (.nd (Nl) .nil (.nd (.int 0) .nil .nil)) (.nd .bot (.nd (.sl (F.map vB) own) .nil .nil) .nil)) (.nd .bot .nil (.nd .bot (.nd (.int F.length) .nil .nil) .nil)))) (fun l h=>by cases h) (by simp[FT.Le,Wk]) (HWk.refl _) (fun h=>h) ?_
 refine qsT F hF own ob n hH fun M m hM hm=>?_
 simp(disch:=omega)
 by_cases hne:F=[]
 ·subst hne
  refine zS ?_
  simp(disch:=omega)[qko,b97,atV,atH]
  refine(qrt).go fun n2 hn2=>?_
  simp(disch:=omega)[uu]
  exact keep (hk0 rfl n2 (by omega))
 ·obtain⟨hM1,hM2⟩:=hM hne
  have hne2:F.map Stp.atom≠[]:=by simpa using hne
  have hl:(F.map Stp.atom).length=F.length:=List.length_map _
  have hv:atV M F.length=.asl M 0 (F.map Stp.atom).length:=by
   rw[hl]
   obtain⟨j,hj⟩:∃j,F.length=j+1:=⟨F.length - 1,by have:=List.length_pos_iff.2 hne;omega⟩
   rw[hj];rfl
  rw[hv,qkn hne2]
  obtain⟨L,hL⟩:∃L,F.map Stp.atom=L:=⟨_,rfl⟩
  rw[hL]at hk1 hl ⊢
  refine zS ?_
  simp(disch:=omega)[qko,b97]
  refine qrw L (fun a ha=>?_) M _ _ (qp _ _ _) (by omega) fun B hB hBs=>?_
  ·rw[<-hL]at ha
   obtain⟨s,hs,rfl⟩:=List.mem_map.1 ha
   exact(hFg s hs).argsLen
  ·rw[show L.length=B.length from hB.length_eq.symm]
   simp(disch:=omega)[uu]
   exact keep (hk1 hne B M m hB hBs hM1 hM2)
theorem qpN:∀A:List Atom,wF 2 A.length (A.flatMap yR)=A.map qd
 |[]=>rfl
 |x::A=>by
  have ih:=qpN A
  rw[List.length_cons,List.flatMap_cons]
  show qea ((yR x++A.flatMap yR).take 2)::wF 2 A.length ((yR x++A.flatMap yR).drop 2)=_
  rw[show (yR x++A.flatMap yR).take 2=yR x from List.take_left (l₁:=yR x),show (yR x++A.flatMap yR).drop 2=A.flatMap yR from List.drop_left (l₁:=yR x),ih]
  rfl
theorem frzAt{H:qa}{A:List Atom}{o:Nat}(hl:look o H.objs=some (wG A)):qaS H [o] o 0 A.length=.sl (A.map qd) .no:=by
 unfold qaS
 have h1:=qen A
 simp only[List.contains_cons,BEq.rfl,Bool.true_or,if_true,hl]
 rw[if_pos (by rw[h1];omega)]
 rw[Nat.zero_mul,List.drop_zero,qpN]
theorem qsR(F:List Stp)(hF:F.length<=2^19)(hFg:∀s∈F,qI s.atom)(fo am:Nat)(own:Own)(ob:List (Nat×qc))(n:Nat)(h:uh ob fo am F own){kv kp:HP}
  (hk:∀(B:List Atom)(ow:Own)(n':Nat),B.Perm (F.map Stp.atom)->(B.Pairwise fun x y=>¬cmpA y x<0)->n<=n'->kv (.sl (B.map qd) ow) ⟨ob,n'⟩):
  cP E0 F0 97 [.ptr fo 0] ⟨ob,n⟩ kv kp:=by
 intro hH
 have h1:=qsQ (kv:=fun v H'=>(F=[]/\v=Nl/\∃n',n<=n'/\H'=⟨ob,n'⟩)\/∃B M n',B.Perm (F.map Stp.atom)/\(B.Pairwise fun x y=>¬cmpA y x<0)/\n<=M/\M<n'/\v=.asl M 0 B.length/\H'=⟨(M,wG B)::ob,n'⟩) (kp:=fun _ _=>False)
  F hF hFg fo am own ob n h (fun he n' hn=>.inl ⟨he,rfl,n',hn,rfl⟩) (fun _ B M n' hB hBs hM hn=>.inr ⟨B,M,n',hB,hBs,hM,hn,rfl,rfl⟩) hH
 refine .frz (fun v _=>match v with|.asl o _ _=>[o]|_=>[]) h1 (fun v H' hT=>?_) (fun v H' hT=>?_)
 ·rcases hT with⟨u,H2,he,hok,hT⟩|⟨u,H2,he,hok,hf⟩
  ·cases he
   rcases hT with⟨rfl,rfl,n',hn,rfl⟩|⟨B,M,n',hB,hBs,hM,hn,rfl,rfl⟩
   ·exact⟨⟨ob,n'⟩,⟨Nat.le_refl _,fun i x hx=>(qcH (L:=[]) rfl).trans hx⟩,.inl ⟨_,_,rfl,qn.mono hH hn,hk [] .full n' (.refl _) .nil hn⟩⟩
   ·refine⟨⟨ob,n'⟩,⟨Nat.le_refl _,fun i x hx=>?_⟩,.inl ⟨_,_,rfl,qn.mono hH (by dsimp only;omega),?_⟩⟩
    ·have:=hH.look hx
     dsimp only at this
     have e1:look i (wE [M] ((M,wG B)::ob))=look i ((M,wG B)::ob):=qcH (by simp;omega)
     show look i (wE [M] ((M,wG B)::ob))=some x
     rw[e1,qe (by omega)]
     exact hx
    ·have:=hk B .no n' hB hBs (by omega)
     have e:qaS ⟨(M,wG B)::ob,n'⟩ [M] M 0 B.length=.sl (B.map qd) .no:=frzAt (qp _ _ _)
     simpa [yg,e] using this
  ·cases he
 ·rcases hT with⟨u,H2,he,hok,hT⟩|⟨u,H2,he,hok,hf⟩
  ·cases he
  ·exact hf.elim
end Go.Abs.Tz
namespace Go.Abs.Tz
open Go Go.Abs Go.Proofs
end Go.Abs.Tz
namespace Go.Abs.Tz
open Go Go.Abs Go.Proofs
set_option maxRecDepth 20000
set_option linter.unusedSimpArgs false
attribute [local simp ↓] yb ya jv ju gI ut zg zB jr up yP yQ yc ye yf yd jA jD jG jB jH jI jE jF jC jy jw jz jx yN yL yO yM g7 gZ g8 g6 yk yh yj uu zx jL zh z7 gL yS yT yo yq yp ym yn yz jO jT jW jS jU jV gy gx j5 j7 jb uZ jm jp u9 jh jl jk jj ji jf uV uW uX uY jn jd je uT jo jq ja jc jg uU gb j6 gu gC j8 gj gt gq gp gk gh j0 gw gf gg jX gA gD j9 gd gi jY gG gz jZ gF ge ga gc j3 gv jP jR jQ yu yx yt yv yw qp uL
attribute [local simp] faL fdL iaL ixL qL zb qV eqK eqL qR zo uO yr yK yA yC yE yG yI yJ yB yF yD yH zC LV.cells LV.whole qp uC uw jM stL zF zR uq qa.alloc gJ gH gK gY gW gV gU gT gS gQ gO gN gM qe ux
structure qeA(l:List qf)(fuel:Nat)(R:Option (List (PK×Int)))(base:List Atom):Prop where
 hl:qbv l
 hR:(qA l).1=0->wo l fuel (l.foldl y8 [])=some R
 hRb:(qA l).1=0->∀m,R=some m->0<=uF 0 (m.map (·.2))/\uF 0 (m.map (·.2))<=2^30
 hb:base.length<2^63
 hok:base.length<=100->∀a∈base,a.ok
def zW(l:List qf)(R:Option (List (PK×Int)))(base:List Atom):Int:=if zp l R base≠0 then zp l R base else match R with
 |none=>81
 |some m=>if (qbR m l base).isNone then 2 else 0
def qab(l:List qf)(R:Option (List (PK×Int)))(base:List Atom):List Stp:=match R with
 |none=>[]
 |some m=>(qbR m l base).getD []
theorem qlz{l:List qf}{fuel:Nat}{R:Option (List (PK×Int))}{base:List Atom}(hI:qeA l fuel R base)(ownB:Own)(ob:List (Nat×qc))(n:Nat)(hni:qQ ob){kv kp:HP}
  (he:zW l R base≠0->∀n',n<=n'->kv (.tup [.sc (.pointer none),.int (zW l R base)]) ⟨ob,n'⟩)
  (hv:zW l R base=0->(qab l R base).length<=300->(∀s∈qab l R base,qI s.atom)->∀fo am ob' n' own',n<=n'->uh ob' fo am (qab l R base) own'->qQ ob'->(∀i,i<n->look i ob'=look i ob)->kv (.tup [.ptr fo 0,.int 0]) ⟨ob',n'⟩):
  cP E0 F0 95 [qt l,.sl (base.map qd) ownB] ⟨ob,n⟩ kv kp:=by
 refine qsy l hI.hl fuel R hI.hR hI.hRb base ownB hI.hb hI.hok ob n hni (fun e he0 hwhy n' hn'=>?_) (fun hz m F hRm hd hFl om fo am ob' n' own' hn' hB=>?_)
 ·have:e=zW l R base:=by
   unfold zW
   rcases hwhy with h|⟨h1,⟨m,h2,h3⟩,h4⟩
   ·rw[if_pos (by rw[<-h];exact he0)];exact h
   ·rw[if_neg (by omega),h2]
    simp only[h3]
    exact h4
  subst this
  exact he he0 n' hn'
 ·have e1:zW l R base=0:=by
   unfold zW
   rw[if_neg (by omega),hRm]
   simp[hd]
  have e2:qab l R base=F:=by
   unfold qab
   rw[hRm]
   simp[hd]
  rw[e2]at hv
  exact hv e1 hFl hB.g fo am ob' n' own' hn' hB.facts hB.ni hB.old
theorem vV{ob ob':List (Nat×qc)}{n n' m:Nat}(hH:qa.Ok ⟨ob,n⟩)(h:∀i,i<n->look i ob'=look i ob)(hm:n'<=m):HWk ⟨ob',m⟩ ⟨ob,m⟩:=⟨Nat.le_refl _,fun i x hx=>by rw[h i (hH.look hx)];exact hx⟩
def qqA(F:List Stp)(B:List Atom):Prop:=B.Perm (F.map Stp.atom)/\B.Pairwise fun x y=>¬cmpA y x<0
theorem qsY{l:List qf}{fuel:Nat}{R:Option (List (PK×Int))}{base:List Atom}(hI:qeA l fuel R base)(ownB:Own)(ob:List (Nat×qc))(n:Nat)(hni:qQ ob){kv kp:HP}
  (he:zW l R base≠0->∀n',n<=n'->kv (.tup [Nl,.int (zW l R base)]) ⟨ob,n'⟩)
  (hv:zW l R base=0->∀(B:List Atom)(ow:Own) n',qqA (qab l R base) B->n<=n'->kv (.tup [.sl (B.map qd) ow,.int 0]) ⟨ob,n'⟩):
  cP E0 F0 79 [qt l,.sl (base.map qd) ownB] ⟨ob,n⟩ kv kp:=by
 refine ur c79 fun hH=>⟨Nat.le_of_ble_eq_true rfl,?_⟩
 simp(disch:=omega)[b79]
 refine qlz hI ownB ob n hni (fun h0 n' hn'=>?_) (fun h0 hlen hg fo am ob' n' own' hn' hF hni' hold=>?_)
 ·simp(disch:=omega)[h0,zx]
  exact keep (he h0 n' hn')
 ·simp(disch:=omega)
  refine qsR _ (by omega) hg fo am own' ob' n' hF fun B ow n2 hB hBs hn2=>?_
  simp(disch:=omega)[zx]
  exact⟨⟨ob,n2⟩,vV hH hold (Nat.le_refl _),fun _=>qn.mono hH (by dsimp only;omega),hv h0 B ow n2 ⟨hB,hBs⟩ (by omega)⟩
theorem qsZ{l:List qf}{fuel:Nat}{R:Option (List (PK×Int))}{base:List Atom}(hI:qeA l fuel R base)(ownB:Own)(a:Atom)(ha:a.ok)(ob:List (Nat×qc))(n:Nat)(hni:qQ ob){kv kp:HP}
  (he:zW l R base≠0->∀n',n<=n'->kv (.tup [.bool false,.int (zW l R base)]) ⟨ob,n'⟩)
  (hb:zW l R base=0->qK a=false->∀n',n<=n'->kv (.tup [.bool false,.int 1]) ⟨ob,n'⟩)
  (hv:zW l R base=0->qK a=true->∀n',n<=n'->kv (.tup [.bool (zn (qG a) (qab l R base)),.int 0]) ⟨ob,n'⟩):
  cP E0 F0 38 [qt l,.sl (base.map qd) ownB,qd a] ⟨ob,n⟩ kv kp:=by
 refine ur c38 fun hH=>⟨Nat.le_of_ble_eq_true rfl,?_⟩
 simp(disch:=omega)[b38]
 have hold0:∀(x:qc) i,i<n->look i ((n,x)::ob)=look i ob:=fun x i hi=>qe (by omega) _ _
 refine qlz hI ownB _ _ (hni.cons _ rfl) (fun h0 n' hn'=>?_) (fun h0 hlen hg fo am ob' n' own' hn' hF hni' hold=>?_)
 ·simp(disch:=omega)[h0,zx]
  exact⟨⟨ob,n'⟩,vV hH (hold0 _) (Nat.le_refl _),fun _=>qn.mono hH (by dsimp only;omega),he h0 n' (by omega)⟩
 have hl0:look n ob'=some (.cells [.str a.pred,qk a.args]):=by rw[hold n (by omega)];exact qp _ _ _
 have hold2:∀i,i<n->look i ob'=look i ob:=fun i hi=>by rw[hold i (by omega),hold0 _ i hi]
 have fin:∀(m:Nat)(v:LV),n<=m->kv v ⟨ob,m⟩->∃H'',HWk ⟨ob',m⟩ H''/\(qa.Ok ⟨ob',m⟩->H''.Ok)/\kv v H'':=fun m v hm hk=>⟨⟨ob,m⟩,vV hH hold2 (Nat.le_refl _),fun _=>qn.mono hH hm,hk⟩
 simp(disch:=omega)[hl0]
 refine(qeO a ha).go fun n1 hn1=>?_
 cases hf:qM a
 ·have e:qK a=false:=by simp[qK,hf]
  simp(disch:=omega)[hl0,zx]
  exact fin n1 _ (by omega) (hb h0 e n1 (by omega))
 simp(disch:=omega)[hl0]
 refine(qic a ha).go fun n2 hn2=>?_
 cases hg2:a.args.all ua
 ·have e:qK a=false:=by simp[qK,hg2]
  simp(disch:=omega)[hl0,zx]
  exact fin n2 _ (by omega) (hb h0 e n2 (by omega))
 have e:qK a=true:=by simp[qK,hf,hg2]
 simp(disch:=omega)[hl0,hF.pair]
 refine(qgh a hf).go fun n3 hn3=>?_
 simp(disch:=omega)[hl0,hF.pair]
 rw[lkM hF.map]
 have hh:zn (qG a) (qab l R base)=(vJ (qG a) (vv (qab l R base) 0)).isSome:=rfl
 cases hl:vJ (qG a) (vv (qab l R base) 0) with
 |some v=>
  rw[hh,hl]at hv
  simp(disch:=omega)[hl0,hF.pair,zx]
  exact fin n3 _ (by omega) (hv h0 e n3 (by omega))
 |none=>
  rw[hh,hl]at hv
  simp(disch:=omega)[hl0,hF.pair,zx]
  exact fin n3 _ (by omega) (hv h0 e n3 (by omega))
def zy(c:qf)(l:List Atom):List Lit->qq->List Atom
 |[],K=>if qbj l K c.body then [q9 K c.head] else []
 |x::r,K=>if x.kind=1 then l.flatMap fun a=>match z1 K x.atom a with
   |some R=>zy c l r R
   |none=>[]
  else zy c l r K
theorem qfa(x:Lit)(r:List Lit):qO (x::r)=if x.kind=1 then x.atom::qO r else qO r:=by
 unfold qO
 rw[List.filter_cons]
 by_cases h:x.kind=1<;>simp[h]
theorem qjG{α β:Type}(f:α->List β)(M:Nat):∀(l:List α),(∀a∈l,(f a).length<=M)->(l.flatMap f).length<=l.length*M
 |[],_=>by simp
 |a::l,h=>by
  have h1:=h a List.mem_cons_self
  have h2:=qjG f M l fun b hb=>h b (List.mem_cons_of_mem _ hb)
  rw[List.flatMap_cons,List.length_append,List.length_cons,Nat.add_mul]
  omega
theorem qgY(c:qf)(l:List Atom)(N:Nat)(hN:l.length<=N)(h1:1<=N):∀(r:List Lit)(K:qq),(zy c l r K).length<=N^(qO r).length
 |[],K=>by
  unfold zy
  split<;>simp[qO]
 |x::r,K=>by
  unfold zy
  rw[qfa]
  by_cases hk:x.kind=1
  ·rw[if_pos hk,if_pos hk,List.length_cons]
   refine Nat.le_trans (qjG _ (N^(qO r).length) l fun a _=>?_) ?_
   ·split
    ·exact qgY c l N hN h1 r _
    ·exact Nat.zero_le _
   ·rw[Nat.pow_succ,Nat.mul_comm]
    exact Nat.mul_le_mul_left _ hN
  ·rw[if_neg hk,if_neg hk]
   exact qgY c l N hN h1 r K
theorem vg{H:qa}{sz:Nat}{es Y:List LV}{own:Own}{ob:List (Nat×qc)}{n:Nat}(hsz:0<sz/\sz<=2^10)(hes:(es.all fun e=>e.cells.length==sz)=true)(hY:(Y.all fun e=>e.cells.length==sz)=true)(hl:es.length+Y.length<=2^30)(h:zP H sz es.length own ob n):
  ∃own' ob' n',(∀ow,apL ⟨ob,n⟩ sz (.sl es own) (.sl Y ow)=some (.sl (es++Y) own',⟨ob',n'⟩))/\zP H sz (es.length+Y.length) own' ob' n'/\n<=n':=by
 rcases h with⟨rfl,rfl,h⟩|⟨t,rfl,h1,h2,rfl⟩
 ·refine⟨.tok n,(n,.tok (es.length+Y.length) sz)::H.objs,n+1,fun ow=>?_,.inr ⟨n,rfl,h,Nat.lt_succ_self _,rfl⟩,Nat.le_succ _⟩
  unfold apL
  simp only
  rw[hes,hY]
  simp only[Bool.and_self,if_true]
  rw[if_pos ⟨hl,hsz.2,rfl⟩]
  rfl
 ·refine⟨.tok t,(t,.tok (es.length+Y.length) sz)::H.objs,n,fun ow=>?_,.inr ⟨t,rfl,h1,h2,rfl⟩,Nat.le_refl _⟩
  have hcan:vd ⟨(t,.tok es.length sz)::H.objs,n⟩ sz (.tok t) es.length=true:=by
   have:sz≠0:=by omega
   simp[vd,look,this]
  unfold apL
  simp only
  rw[hes,hY]
  simp only[Bool.and_self,if_true]
  rw[if_pos ⟨hl,hsz.2,hcan⟩]
  simp[qa.put,qx]
theorem zP.old{H:qa}{sz len:Nat}{own:Own}{ob:List (Nat×qc)}{n:Nat}(h:zP H sz len own ob n):H.next<=n/\∀i,i<H.next->look i ob=look i H.objs:=by
 rcases h with⟨_,rfl,h⟩|⟨t,_,h1,h2,rfl⟩
 ·exact⟨h,fun _ _=>rfl⟩
 ·exact⟨by omega,fun i hi=>qe (by omega) _ _⟩
theorem qde(l:List Atom)(ow:Own):Wk (.sl (l.map qd) ow) (.sl (l.map qd) .no):=by
 refine .inr (.inl ?_)
 simp[LV.strip,stripL,qba,List.map_map,Function.comp_def]
theorem qhA:∀(ps qs:List Term)(K R:qq),zA K ps qs=some R->R.length<=K.length+ps.length
 |[],_,K,R,h=>by
  simp only[zA,Option.some.injEq]at h
  subst h;simp
 |_::_,[],_,_,h=>by simp[zA]at h
 |p::ps,q::qs,K,R,h=>by
  simp only[zA]at h
  rw[List.length_cons]
  split at h
  ·split at h
   ·split at h
    ·have:=qhA ps qs K R h;omega
    ·cases h
   ·have:=qhA ps qs _ R h
    simp only[List.length_append,List.length_singleton]at this
    omega
  ·split at h
   ·have:=qhA ps qs K R h;omega
   ·cases h
theorem qxR{K R:qq}{p a:Atom}(h:z1 K p a=some R):R.length<=K.length+p.args.length:=by
 unfold z1 at h
 split at h
 ·exact qhA _ _ _ _ h
 ·cases h
theorem qlj(c:qf)(hc:zQ c)(l:List Atom)(owl:Own)(hlg:∀x∈l,qI x)(hl:l.length<=2^20)(N:Nat)(hlN:l.length<=N)(hN1:1<=N):
  ∀(r don:List Lit)(K:qq)(ow:Own),c.body=don++r->uA K->K.length<=3*don.length->(∀x∈don,x.kind=1->yY K x.atom.args)->N^(qO r).length<=2^29->∀(H:qa){kv kp:HP},
   (∀n,H.next<=n->kv (.sl ((zy c l r K).map qd) .no) ⟨H.objs,n⟩)->cP E0 F0 145 [uH c,.int don.length,.sl (K.map wt) ow,.sl (l.map qd) owl] H kv kp
 |[],don,K,ow,hd,hK,hKl,hb,hpw,H,kv,kp,hk=>by
  refine qah c145 fun hH=>⟨Nat.le_of_ble_eq_true rfl,?_⟩
  obtain⟨cp1,cp2,cp3⟩:=wT hc.ok
  rw[List.append_nil]at hd
  have hp:∀p∈qO c.body,yY K p.args:=fun p hp=>by
   obtain⟨x,hx,hk1,rfl⟩:=qiM hp
   exact hb x (by rw[<-hd];exact hx) hk1
  have hdl:don.length=c.body.length:=by rw[hd]
  obtain⟨N0,hN0⟩:∃N0,H.next=N0:=⟨_,rfl⟩
  obtain⟨ob,nx⟩:=H
  dsimp only at hN0 hk
  subst hN0
  have hai:(don.length:Int)=(c.body.length:Int):=by omega
  simp(disch:=omega)[b145,hai]
  refine qrE c hc K hK ow (by omega) hp l owl (by omega) (fun x hx=>wX (hlg x hx).1) _ fun n1 hn1=>?_
  dsimp only at hn1
  have fin:∀(v:LV)(ob':List (Nat×qc))(m:Nat),nx<=m->(∀i,i<nx->look i ob'=look i ob)->Wk v (.sl ((zy c l [] K).map qd) .no)->∃v',Wk v v'/\∃H'',HWk ⟨ob',m⟩ H''/\(qa.Ok ⟨ob',m⟩->H''.Ok)/\kv v' H'':=fun v ob' m hm hold hw=>⟨_,hw,⟨ob,m⟩,vV hH hold (Nat.le_refl _),fun _=>qn.mono hH hm,hk m hm⟩
  cases hr:qbj l K c.body
  ·have e:zy c l [] K=[]:=by simp[zy,hr]
   rw[e]at fin
   simp(disch:=omega)
   exact fin _ _ _ (by omega) (fun i hi=>qe (by omega) _ _) (.inr (.inl rfl))
  ·have e:zy c l [] K=[q9 K c.head]:=by simp[zy,hr]
   rw[e]at fin
   have hal:=(qai cp1).1
   simp(disch:=omega)
   refine qli K ow (by omega) c.head (by omega) (hc.bound hp).1 _ fun n2 hn2=>?_
   dsimp only at hn2
   simp(disch:=omega)
   refine qU ?_
   simp(disch:=omega)
   rw[show apL ⟨(nx,.cells [.str c.head.pred,qk c.head.args,zG c.body])::ob,n2⟩ 2 Nl (.sl [qd (q9 K c.head)] .full)=some (.sl [qd (q9 K c.head)] (.tok n2),⟨(n2,.tok 1 2)::(nx,.cells [.str c.head.pred,qk c.head.args,zG c.body])::ob,n2+1⟩) from rfl]
   simp(disch:=omega)
   exact fin _ _ _ (by omega) (fun i hi=>by rw[qe (by omega),qe (by omega)]) (qde [q9 K c.head] (.tok n2))
 |x::r,don,K,ow,hd,hK,hKl,hb,hpw,H,kv,kp,hk=>by
  refine qah c145 fun hH=>⟨Nat.le_of_ble_eq_true rfl,?_⟩
  obtain⟨cp1,cp2,cp3⟩:=wT hc.ok
  have hdl:c.body.length=don.length+(r.length+1):=by rw[hd,List.length_append,List.length_cons]
  have hlt:don.length<c.body.length:=by omega
  have hgx:c.body[don.length]'hlt=x:=by
   have:c.body[don.length]? = some x:=by rw[hd,List.getElem?_append_right (Nat.le_refl _)];simp
   rw[List.getElem?_eq_getElem hlt]at this
   exact Option.some.inj this
  have hmem:x∈c.body:=by rw[hd];simp
  obtain⟨N0,hN0⟩:∃N0,H.next=N0:=⟨_,rfl⟩
  obtain⟨ob,nx⟩:=H
  dsimp only at hN0 hk
  subst hN0
  have hai:¬(don.length:Int)=(c.body.length:Int):=by omega
  have hstep:∀(R:qq)(owR:Own),uA R->R.length<=3*(don++[x]).length->(x.kind=1->yY R x.atom.args)->(∀y∈don,y.kind=1->yY R y.atom.args)->∀(H:qa){kv kp:HP},(∀n,H.next<=n->kv (.sl ((zy c l r R).map qd) .no) ⟨H.objs,n⟩) ->
    cP E0 F0 145 [uH c,.int ((don.length+1:Nat):Int),.sl (R.map wt) owR,.sl (l.map qd) owl] H kv kp:=by
   intro R owR hR hRl hx1 hy H kv kp hk
   have:=qlj c hc l owl hlg hl N hlN hN1 r (don++[x]) R owR (by rw[hd];simp) hR hRl (fun y hy2 hy1=>by
    rcases List.mem_append.1 hy2 with h|h
    ·exact hy y h hy1
    ·simp at h
     subst h
     exact hx1 hy1) (by
    refine Nat.le_trans ?_ hpw
    rw[qfa]
    split
    ·exact Nat.pow_le_pow_right hN1 (by simp)
    ·exact Nat.le_refl _) H (kp:=kp) hk
   rwa [show (don++[x]).length=don.length+1 by simp]at this
  have fin:∀(v:LV)(ob':List (Nat×qc))(m:Nat),nx<=m->(∀i,i<nx->look i ob'=look i ob)->Wk v (.sl ((zy c l (x::r) K).map qd) .no)->∃v',Wk v v'/\∃H'',HWk ⟨ob',m⟩ H''/\(qa.Ok ⟨ob',m⟩->H''.Ok)/\kv v' H'':=fun v ob' m hm hold hw=>⟨_,hw,⟨ob,m⟩,vV hH hold (Nat.le_refl _),fun _=>qn.mono hH hm,hk m hm⟩
  have hw1:=qi (show don.length<2^62 by omega)
  by_cases hk1:x.kind=1
  case neg=>
   have e:zy c l (x::r) K=zy c l r K:=by
    conv=>lhs;unfold zy
    rw[if_neg hk1]
   rw[e]at fin
   simp(disch:=omega)[b145,hai,hlt,hgx,hk1,hw1]
   refine hstep K ow hK (by rw[List.length_append];omega) (fun h=>absurd h hk1) hb _ fun n1 hn1=>?_
   dsimp only at hn1
   simp(disch:=omega)
   exact fin _ _ _ (by omega) (fun i hi=>qe (by omega) _ _) (.inl rfl)
  have hxok:=qji (cp3 x hmem) (.inl hk1)
  have hpl:(qO (x::r)).length=(qO r).length+1:=by rw[qfa,if_pos hk1,List.length_cons]
  obtain⟨A,hA⟩:∃A,zy c l (x::r) K=A:=⟨_,rfl⟩
  have hAl:A.length<=2^29:=by
   rw[<-hA]
   exact Nat.le_trans (qgY c l N hlN hN1 _ K) hpw
  have hAe:(l.flatMap fun a=>match z1 K x.atom a with
    |some R=>zy c l r R
    |none=>[])=A:=by
   rw[<-hA]
   conv=>rhs;unfold zy
   rw[if_pos hk1]
  rw[hA]at fin
  simp(disch:=omega)[b145,hai,hlt,hgx,hk1]
  refine qy (σ:=NNAs) (fun q=>(.nd .bot (.nd (.int don.length) (.nd (.sl (l.map qd) owl) .nil (.nd (.int q.i) .nil .nil)) (.nd .bot (.nd (.sl (q.aa.map qd) q.own) .nil .nil) .nil)) (.nd (.sl (K.map wt) ow) (.nd (.ptr nx 0) .nil .nil) .nil))) (fun q=>⟨q.ob,q.n⟩) (fun q=>l.length - q.i)
   (fun q=>zP ⟨(nx,.cells [.str c.head.pred,qk c.head.args,zG c.body])::ob,nx+1⟩ 2 q.aa.length q.own q.ob q.n/\q.i<=l.length/\q.aa++((l.drop q.i).flatMap fun a=>match z1 K x.atom a with
    |some R=>zy c l r R
    |none=>[])=A) ⟨0,nx+1,[],.full,(nx,.cells [.str c.head.pred,qk c.head.args,zG c.body])::ob⟩ ⟨.inl ⟨rfl,rfl,Nat.le_refl _⟩,Nat.zero_le _,hAe⟩ (by simp[FT.Le,Wk]) ⟨HWk.refl _,fun h=>h⟩ ?_
  rintro⟨i,n,aa,own,ob1⟩ ⟨hr,hi,hrec⟩ hok
  dsimp only at hr hi hrec hok
  obtain⟨hold1,hold2⟩:=hr.old
  dsimp only at hold1 hold2
  have hc4:look nx ob1=some (.cells [.str c.head.pred,qk c.head.args,zG c.body]):=by rw[hold2 nx (by omega)];exact qp _ _ _
  have hold3:∀j,j<nx->look j ob1=look j ob:=fun j hj=>by rw[hold2 j (by omega),qe (by omega)]
  by_cases hli:i<l.length
  case neg=>
   obtain rfl:i=l.length:=by omega
   rw[List.drop_eq_nil_of_le (Nat.le_refl _),List.flatMap_nil,List.append_nil]at hrec
   subst hrec
   simp(disch:=omega)
   exact fin _ _ _ (by omega) hold3 (qde aa own)
  rw[List.drop_eq_getElem_cons hli,List.flatMap_cons,<-List.append_assoc]at hrec
  have hlg1:=hlg _ (List.getElem_mem hli)
  simp(disch:=omega)[hli,hlt,hgx,hc4]
  refine qrH K hK ow x.atom l[i] (wX hxok) hlg1 (by omega) _ (fun R hR n1 hn1=>?_) (fun hR n1 hn1 z=>?_)
  ·dsimp only at hn1
   rw[hR]at hrec
   dsimp only at hrec
   obtain⟨gR,gX,gB,_⟩:=qhB hK hlg1 hR
   have hRl:R.length<=K.length+3:=by
    have h1:=qxR hR
    have h2:=(qai hxok).1
    omega
   simp(disch:=omega)[hli,hlt,hgx,hc4,hw1]
   refine hstep R .no gR (by rw[List.length_append];simp only[List.length_singleton];omega) (fun _=>gB) (fun y hy hy1=>(hb y hy hy1).ext gX) _ fun n2 hn2=>?_
   dsimp only at hn2
   simp(disch:=omega)
   refine qU ?_
   simp(disch:=omega)
   obtain⟨Y,hY⟩:∃Y,zy c l r R=Y:=⟨_,rfl⟩
   rw[hY]at hrec ⊢
   have hYl:aa.length+Y.length<=2^29:=by
    have:=congrArg List.length hrec
    rw[List.length_append,List.length_append]at this
    omega
   have hr2:zP ⟨(nx,.cells [.str c.head.pred,qk c.head.args,zG c.body])::ob,nx+1⟩ 2 (aa.map qd).length own ob1 n2:=by
    rw[List.length_map]
    rcases hr with⟨h1,h2,h3⟩|⟨t,h1,h2,h3,h4⟩
    ·exact .inl ⟨h1,h2,by dsimp only at h3 ⊢;omega⟩
    ·exact .inr ⟨t,h1,h2,by omega,h4⟩
   obtain⟨own2,ob2,n3,e1,hr3,hn3⟩:=vg (by omega) (wW aa) (wW Y) (by rw[List.length_map,List.length_map];omega) hr2
   rw[List.length_map,List.length_map]at hr3
   rw[e1]
   simp(disch:=omega)[qi (show i<2^62 by omega)]
   exact⟨⟨i+1,n3,aa++Y,own2,ob2⟩,by dsimp only;omega,⟨by rw[List.length_append];exact hr3,by dsimp only;omega,hrec⟩,by simp[FT.Le,Wk],HWk.refl _,fun h=>h⟩
  ·dsimp only at hn1
   rw[hR]at hrec
   dsimp only at hrec
   rw[List.append_nil]at hrec
   simp(disch:=omega)[qi (show i<2^62 by omega)]
   refine⟨⟨i+1,n1,aa,own,ob1⟩,by dsimp only;omega,⟨?_,by dsimp only;omega,hrec⟩,by simp[FT.Le,Wk],HWk.refl _,fun h=>h⟩
   rcases hr with⟨h1,h2,h3⟩|⟨t,h1,h2,h3,h4⟩
   ·exact .inl ⟨h1,h2,by dsimp only at h3 ⊢;omega⟩
   ·exact .inr ⟨t,h1,h2,by dsimp only;omega,h4⟩
def jN:List Atom->Atom->Nat
 |[],_=>0
 |x::r,a=>if cmpA x a<0 then jN r a+1 else 0
theorem qgD:∀(l:List Atom)(a:Atom),jN l a<=l.length
 |[],_=>Nat.le_refl _
 |x::r,a=>by
  unfold jN
  have:=qgD r a
  split<;>simp<;>omega
def zm(l:List Atom)(a:Atom):List Atom:=match l[jN l a]? with
 |some x=>if cmpA x a=0 then l else l.take (jN l a)++[a]++l.drop (jN l a)
 |none=>l.take (jN l a)++[a]++l.drop (jN l a)
theorem yU{sz:Nat}{Y:List LV}(h:(Y.all fun e=>e.cells.length==sz)=true)(i:Nat):((Y.take i).all fun e=>e.cells.length==sz)=true/\((Y.drop i).all fun e=>e.cells.length==sz)=true:=by
 rw[List.all_eq_true]at h
 exact⟨List.all_eq_true.2 fun x hx=>h x (List.mem_of_mem_take hx),List.all_eq_true.2 fun x hx=>h x (List.mem_of_mem_drop hx)⟩
theorem qle(l:List Atom)(ow:Own)(a:Atom)(hl:l.length<=2^20)(hlo:∀x∈l,Atom.ok x)(ha:a.ok)(H:qa){kv kp:HP}(hk:∀n,H.next<=n->kv (.sl ((zm l a).map qd) .no) ⟨H.objs,n⟩):
  cP E0 F0 143 [.sl (l.map qd) ow,qd a] H kv kp:=by
 refine qah c143 fun hH=>⟨Nat.le_of_ble_eq_true rfl,?_⟩
 obtain⟨N0,hN0⟩:∃N0,H.next=N0:=⟨_,rfl⟩
 obtain⟨ob,nx⟩:=H
 dsimp only at hN0 hk
 subst hN0
 have fin:∀(v:LV)(ob':List (Nat×qc))(m:Nat),nx<=m->(∀i,i<nx->look i ob'=look i ob)->Wk v (.sl ((zm l a).map qd) .no)->∃v',Wk v v'/\∃H'',HWk ⟨ob',m⟩ H''/\(qa.Ok ⟨ob',m⟩->H''.Ok)/\kv v' H'':=fun v ob' m hm hold hw=>⟨_,hw,⟨ob,m⟩,vV hH hold (Nat.le_refl _),fun _=>qn.mono hH hm,hk m hm⟩
 obtain⟨P,hP⟩:∃P,jN l a=P:=⟨_,rfl⟩
 have hPl:P<=l.length:=by rw[<-hP];exact qgD l a
 simp(disch:=omega)[b143]
 refine qy (σ:=NN) (fun q=>(.nd (.sl (l.map qd) ow) (.nd .bot (.nd (.ptr nx 0) .nil .nil) (.nd (.int q.i) .nil .nil)) .nil)) (fun q=>⟨(nx,.cells [.str a.pred,qk a.args])::ob,q.n⟩) (fun q=>l.length - q.i)
  (fun q=>nx+1<=q.n/\q.i<=l.length/\q.i+jN (l.drop q.i) a=P) ⟨0,nx+1⟩ ⟨by dsimp only;omega,Nat.zero_le _,by simpa using hP⟩ (by simp[FT.Le,Wk]) ⟨HWk.refl _,fun h=>h⟩ ?_
 rintro⟨i,n⟩ ⟨hn,hi,he⟩ hok
 simp only at hn hi he
 by_cases hlt:i<l.length
 case neg=>
  obtain rfl:i=l.length:=by omega
  rw[List.drop_eq_nil_of_le (Nat.le_refl _)]at he
  simp only[jN,Nat.add_zero]at he
  simp(disch:=omega)
  obtain⟨i,hie⟩:∃i,l.length=i:=⟨_,rfl⟩
  rw[hie]
  clear hok
  generalize n=m0 at *
  refine qU ?_
  simp(disch:=omega)
  obtain⟨o1,ob1,m1,e1,hr1,hm1⟩:=vg (sz:=2) (H:=⟨(nx,.cells [.str a.pred,qk a.args])::ob,nx+1⟩) (es:=[]) (Y:=(l.map qd).take i) (own:=.full) (n:=m0) (by omega) rfl (yU (wW l) i).1 (by simp;omega) (.inl ⟨rfl,rfl,by dsimp only;omega⟩)
  rw[e1]
  obtain⟨q1,q2⟩:=hr1.old
  dsimp only at q1 q2
  have hc1:look nx ob1=some (.cells [.str a.pred,qk a.args]):=by rw[q2 nx (by omega)];exact qp _ _ _
  simp(disch:=omega)[hc1]
  refine qU ?_
  simp(disch:=omega)
  obtain⟨o2,ob2,m2,e2,hr2,hm2⟩:=vg (sz:=2) (es:=[]++(l.map qd).take i) (Y:=[qd a]) (by omega) (by simpa using (yU (wW l) i).1) rfl (by simp;omega) (by rw[List.length_append];exact hr1)
  rw[List.nil_append]at e2
  rw[e2]
  simp(disch:=omega)
  refine qU ?_
  simp(disch:=omega)
  obtain⟨o3,ob3,m3,e3,hr3,hm3⟩:=vg (sz:=2) (es:=([]++(l.map qd).take i)++[qd a]) (Y:=(l.map qd).drop i) (by omega) (by
   rw[List.all_append,List.nil_append,(yU (wW l) i).1];rfl) (yU (wW l) i).2 (by simp;omega) (by rw[List.length_append (bs:=[qd a])];exact hr2)
  rw[List.nil_append]at e3
  obtain⟨r1,r2⟩:=hr3.old
  dsimp only at r1 r2
  have hol3:∀j,j<nx->look j ob3=look j ob:=fun j hj=>by rw[r2 j (by omega),qe (by omega)]
  rw[show (l.map qd).drop i=[] from List.drop_eq_nil_of_le (by rw[List.length_map];omega)]at e3
  rw[e3]
  simp(disch:=omega)
  have e:zm l a=l.take i++[a]:=by
   unfold zm
   have hn:l[jN l a]? = none:=List.getElem?_eq_none (by omega)
   have hd:l.drop (jN l a)=[]:=List.drop_eq_nil_of_le (by omega)
   rw[hn]
   simp only
   rw[hd,hP,<-he,hie]
   simp
  rw[e]at fin
  have:=fin (.sl ((l.take i++[a]).map qd) o3) ob3 m3 (by omega) hol3 (qde _ _)
  simpa using this
 rw[List.drop_eq_getElem_cons hlt]at he
 simp only[jN]at he
 have hao:=hlo _ (List.getElem_mem hlt)
 simp(disch:=omega)[hlt]
 refine(qhZ l[i] a hao ha).go fun n1 hn1=>?_
 by_cases hneg:cmpA l[i] a<0
 ·rw[if_pos hneg]at he
  simp(disch:=omega)[hneg,qi (show i<2^62 by omega)]
  exact⟨⟨i+1,n1⟩,by dsimp only;omega,⟨by dsimp only;omega,by dsimp only;omega,by dsimp only;omega⟩,by simp[FT.Le,Wk],HWk.refl _,fun h=>h⟩
 rw[if_neg hneg,Nat.add_zero]at he
 subst he
 simp(disch:=omega)[hneg,hlt]
 refine(qhZ l[i] a hao ha).go fun n2 hn2=>?_
 by_cases hz:cmpA l[i] a=0
 ·have e:zm l a=l:=by
   unfold zm
   rw[hP,List.getElem?_eq_getElem hlt]
   simp only[hz,if_true]
  rw[e]at fin
  simp(disch:=omega)[hz]
  exact fin _ _ _ (by omega) (fun j hj=>qe (by omega) _ _) (qde l ow)
 have e:zm l a=l.take i++[a]++l.drop i:=by
  unfold zm
  rw[hP,List.getElem?_eq_getElem hlt]
  simp only[hz,if_false]
 have hi2:i<=l.length:=hi
 simp(disch:=omega)[hz,hlt,hi2]
 clear hok
 generalize n2=m0 at *
 refine qU ?_
 simp(disch:=omega)
 obtain⟨o1,ob1,m1,e1,hr1,hm1⟩:=vg (sz:=2) (H:=⟨(nx,.cells [.str a.pred,qk a.args])::ob,nx+1⟩) (es:=[]) (Y:=(l.map qd).take i) (own:=.full) (n:=m0) (by omega) rfl (yU (wW l) i).1 (by simp;omega) (.inl ⟨rfl,rfl,by dsimp only;omega⟩)
 rw[e1]
 obtain⟨q1,q2⟩:=hr1.old
 dsimp only at q1 q2
 have hc1:look nx ob1=some (.cells [.str a.pred,qk a.args]):=by rw[q2 nx (by omega)];exact qp _ _ _
 simp(disch:=omega)[hc1]
 refine qU ?_
 simp(disch:=omega)
 obtain⟨o2,ob2,m2,e2,hr2,hm2⟩:=vg (sz:=2) (es:=[]++(l.map qd).take i) (Y:=[qd a]) (by omega) (by simpa using (yU (wW l) i).1) rfl (by simp;omega) (by rw[List.length_append];exact hr1)
 rw[List.nil_append]at e2
 rw[e2]
 simp(disch:=omega)
 refine qU ?_
 simp(disch:=omega)
 obtain⟨o3,ob3,m3,e3,hr3,hm3⟩:=vg (sz:=2) (es:=([]++(l.map qd).take i)++[qd a]) (Y:=(l.map qd).drop i) (by omega) (by
  rw[List.all_append,List.nil_append,(yU (wW l) i).1];rfl) (yU (wW l) i).2 (by simp;omega) (by rw[List.length_append (bs:=[qd a])];exact hr2)
 rw[List.nil_append]at e3
 obtain⟨r1,r2⟩:=hr3.old
 dsimp only at r1 r2
 have hol3:∀j,j<nx->look j ob3=look j ob:=fun j hj=>by rw[r2 j (by omega),qe (by omega)]
 have hdr:List.take (l.length - i) (List.drop i (l.map qd))=List.drop i (l.map qd):=List.take_of_length_le (by simp)
 rw[hdr,e3]
 simp(disch:=omega)
 rw[e]at fin
 have:=fin (.sl ((l.take i++[a]++l.drop i).map qd) o3) ob3 m3 (by omega) hol3 (qde _ _)
 simpa using this
theorem qqk(l:List qf)(base:List Atom):zp l (zk l) base=if qbh l (zk l)≠0 then qbh l (zk l) else if 100<base.length then 2 else if base.all qK then 0 else 1:=by
 unfold zp qbh
 by_cases h:(qA l).1=0
 ·by_cases h2:zk l=none
  ·simp[h,h2]
  ·simp[h,h2]
 ·simp[h]
theorem qll(l:List qf)(hl:qbv l)(base:List Atom)(ow:Own)(hb:base.length<2^63)(hok:base.length<=100->∀a∈base,a.ok):qg 72 [qt l,.sl (base.map qd) ow] (.int (zp l (zk l) base)):=by
 obtain⟨owS,hS⟩:=qld l hl
 rw[qqk]
 obtain⟨e,he0⟩:∃e,qbh l (zk l)=e:=⟨_,rfl⟩
 rw[he0]at hS ⊢
 obtain⟨V,hV⟩:∃V:Int,(if e≠0 then e else if 100<base.length then 2 else if base.all qK then 0 else 1)=V:=⟨_,rfl⟩
 rw[hV]
 refine qg.of c72 fun H hH=>⟨Nat.le_of_ble_eq_true rfl,?_⟩
 simp(disch:=omega)[b72]
 refine hS.go fun n hn=>?_
 by_cases he:e=0
 case neg=>
  simp(disch:=omega)[he]
  exact qh hH (by simp[<-hV,he])
 by_cases h100:base.length<=100
 case neg=>
  have h100':(100:Int)<(base.length:Int):=by omega
  simp(disch:=omega)[he,h100']
  exact qh hH (by simp[<-hV,he,show 100<base.length by omega])
 have h100':¬(100:Int)<(base.length:Int):=by omega
 simp(disch:=omega)[he,h100']
 obtain⟨A,hA⟩:∃A,base.all qK=A:=⟨_,rfl⟩
 rw[hA]at hV
 have hbo:=hok h100
 refine qy (σ:=NN) (fun q=>(.nd .bot (.nd (.sl (base.map qd) ow) .nil .nil) (.nd .bot .nil (.nd (.int q.i) .nil .nil)))) (fun q=>⟨H.objs,q.n⟩) (fun q=>base.length - q.i)
  (fun q=>H.next<=q.n/\q.i<=base.length/\(base.drop q.i).all qK=A) ⟨0,n+1⟩ ⟨by dsimp only;omega,Nat.zero_le _,hA⟩ (by simp[FT.Le,Wk]) (uf hH) ?_
 rintro⟨i,n1⟩ ⟨hn1,hi,hf⟩ hok1
 simp only at hn1 hi hf
 by_cases hlt:i<base.length
 case neg=>
  obtain rfl:i=base.length:=by omega
  rw[List.drop_eq_nil_of_le (Nat.le_refl _)]at hf
  have hA2:A=true:=hf.symm
  subst hA2
  simp(disch:=omega)
  exact qh hH (by simp[<-hV,he,show ¬100<base.length by omega])
 rw[qaC _ hlt]at hf
 have hao:=hbo _ (List.getElem_mem hlt)
 simp(disch:=omega)[hlt]
 refine(qeN base[i] hao).go fun n2 hn2=>?_
 simp(disch:=omega)[hlt]
 refine(qhW base[i] hao).go fun n3 hn3=>?_
 cases ha:qM base[i]
 ·have e1:qK base[i]=false:=by simp[qK,ha]
  rw[e1,Bool.false_and]at hf
  simp(disch:=omega)
  exact qh hH (by simp[<-hV,he,show ¬100<base.length by omega,<-hf])
 cases hg:base[i].args.all ua
 ·have e1:qK base[i]=false:=by simp[qK,hg]
  rw[e1,Bool.false_and]at hf
  simp(disch:=omega)
  exact qh hH (by simp[<-hV,he,show ¬100<base.length by omega,<-hf])
 have e1:qK base[i]=true:=by simp[qK,ha,hg]
 rw[e1,Bool.true_and]at hf
 simp(disch:=omega)[qi (show i<2^62 by omega)]
 exact⟨⟨i+1,n3⟩,by dsimp only;omega,⟨by dsimp only;omega,by dsimp only;omega,hf⟩,by simp[FT.Le,Wk],HWk.refl _,fun h=>h⟩
def vo:List Atom->List Atom->List Atom
 |out,[]=>out
 |out,a::r=>if out.length<=300 then vo (zm out a) r else out
def yZ(q:List (PK×Int))(lev:Int):List qf->List Atom->List Atom
 |[],out=>out
 |c::r,out=>if qm q (ofA c.head)=lev then yZ q lev r (vo out (zy c out c.body [])) else yZ q lev r out
def jK(q:List (PK×Int))(lev:Int)(l:List qf):Nat->List Atom->List Atom
 |0,out=>out
 |k+1,out=>if out.length<=300 then (if (yZ q lev l out).length=out.length then yZ q lev l out else jK q lev l k (yZ q lev l out)) else out
def qan(q:List (PK×Int))(l:List qf):Nat->Nat->List Atom->List Atom
 |0,_,out=>out
 |k+1,v,out=>qan q l k (v+1) (jK q v l 302 out)
def qbi(q:List (PK×Int))(l:List qf)(base:List Atom):List Atom:=qan q l (q.length+1) 0 (base.foldl zm [])
theorem qeX(l:List Atom)(a:Atom):l.length<=(zm l a).length/\(zm l a).length<=l.length+1:=by
 unfold zm
 have h:=qgD l a
 split
 ·split
  ·omega
  ·simp;omega
 ·simp;omega
theorem qdU{l:List Atom}{a x:Atom}(h:x∈zm l a):x∈l\/x=a:=by
 unfold zm at h
 have key:∀P:Nat,x∈l.take P++[a]++l.drop P->x∈l\/x=a:=fun P h=>by
  rcases List.mem_append.1 h with h|h
  ·rcases List.mem_append.1 h with h|h
   ·exact .inl (List.mem_of_mem_take h)
   ·simp at h;exact .inr h
  ·exact .inl (List.mem_of_mem_drop h)
 split at h
 ·split at h
  ·exact .inl h
  ·exact key _ h
 ·exact key _ h
theorem qdR:∀(more out:List Atom),out.length<=(vo out more).length/\((vo out more).length<=301\/(vo out more).length<=out.length)/\∀x∈vo out more,x∈out\/x∈more
 |[],out=>⟨Nat.le_refl _,.inr (Nat.le_refl _),fun x hx=>.inl hx⟩
 |a::r,out=>by
  unfold vo
  split
  ·rename_i h
   obtain⟨h1,h2,h3⟩:=qdR r (zm out a)
   have hp:=qeX out a
   refine⟨by omega,by omega,fun x hx=>?_⟩
   rcases h3 x hx with h|h
   ·rcases qdU h with h|h
    ·exact .inl h
    ·exact .inr (by rw[h];exact List.mem_cons_self)
   ·exact .inr (List.mem_cons_of_mem _ h)
  ·exact⟨Nat.le_refl _,.inr (Nat.le_refl _),fun x hx=>.inl hx⟩
theorem qgZ{c:qf}(hc:zQ c){l:List Atom}(hl:∀a∈l,qI a):∀(r don:List Lit)(K:qq),c.body=don++r->uA K->(∀x∈don,x.kind=1->yY K x.atom.args)->∀a∈zy c l r K,qI a
 |[],don,K,hd,hK,hb,a,ha=>by
  unfold zy at ha
  split at ha
  ·simp at ha
   subst ha
   refine(hc.leaf hK fun p hp=>?_).2
   obtain⟨x,hx,hk,rfl⟩:=qiM hp
   rw[List.append_nil]at hd
   exact hb x (by rw[<-hd];exact hx) hk
  ·cases ha
 |x::r,don,K,hd,hK,hb,a,ha=>by
  unfold zy at ha
  split at ha
  ·rename_i hk
   obtain⟨y,hy,ha⟩:=List.mem_flatMap.1 ha
   split at ha
   ·rename_i R hR
    obtain⟨g1,g2,g3,_⟩:=qhB hK (hl y hy) hR
    refine qgZ hc hl r (don++[x]) R (by rw[hd];simp) g1 (fun z hz hzk=>?_) a ha
    rcases List.mem_append.1 hz with hz|hz
    ·exact(hb z hz hzk).ext g2
    ·simp at hz
     subst hz
     exact g3
   ·cases ha
  ·rename_i hk
   refine qgZ hc hl r (don++[x]) K (by rw[hd];simp) hK (fun z hz hzk=>?_) a ha
   rcases List.mem_append.1 hz with hz|hz
   ·exact hb z hz hzk
   ·simp at hz
    subst hz
    exact absurd hzk hk
def qmB:qo:=match b81.body with
 |.seq _ (.seq _ (.seq _ (.seq _ (.seq _ (.seq _ (.seq (.seq _ (.blk _ l)) _))))))=>l
 |_=>.bad
def qmC:qo:=match qmB with
 |.loop (.seq _ (.seq (.blk _ (.seq _ (.blk _ l))) _))=>l
 |_=>.bad
def rmCl:qo:=match qmC with
 |.loop (.seq _ (.blk _ (.seq _ (.seq _ (.blk _ l)))))=>l
 |_=>.bad
def rmPut:qo:=match rmCl with
 |.loop (.seq _ (.seq (.blk _ (.seq _ (.seq _ (.seq _ (.blk _ l))))) _))=>l
 |_=>.bad
structure NNRm where
 i:Nat
 n:Nat
 out:List Atom
theorem qrF(out more:List Atom)(owm:Own)(hog:∀a∈out,qI a)(hmg:∀a∈more,qI a)(hol:out.length<=301)(hml:more.length<=2^40)(ob:List (Nat×qc))(m:Nat)(v0 v4 v6 v9 v10 v11:LV){KX:XP}
  (hk:∀n' z13 z80 z81 z82 z83 z84 z85 z86 z87 z88,m<=n'->KX (.exit 8) ((.nd (v0) (.nd .bot (.nd .bot (.nd (.sl ((vo out more).map qd) .no) .nil (.nd .bot .nil (.nd .bot (.nd (z87) .nil .nil) .nil))) (.nd (v11) (.nd .bot .nil (.nd .bot (.nd (z83) .nil .nil) .nil)) .nil)) (.nd .bot (.nd (v9) (.nd .bot .nil (.nd .bot (.nd (z81) .nil .nil) .nil)) .nil) (.nd (z13) (.nd .bot .nil (.nd .bot (.nd (z85) .nil .nil) .nil)) .nil))) (.nd .bot (.nd (v4) (.nd .bot (.nd .bot .nil (.nd .bot (.nd (z80) .nil .nil) .nil)) (.nd .bot .nil (.nd .bot (.nd (z88) .nil .nil) .nil))) (.nd (.sl (more.map qd) owm) (.nd .bot .nil (.nd .bot (.nd (z84) .nil .nil) .nil)) .nil)) (.nd (v6) (.nd (v10) (.nd .bot .nil (.nd .bot (.nd (z82) .nil .nil) .nil)) .nil) (.nd .bot (.nd .bot .nil (.nd .bot (.nd (z86) .nil .nil) .nil)) .nil))))) ⟨ob,n'⟩):
  lP E0 F0 rmPut ((.nd (v0) (.nd .bot (.nd .bot (.nd (.sl (out.map qd) .no) .nil .nil) (.nd (v11) .nil .nil)) (.nd .bot (.nd (v9) .nil .nil) (.nd (.int 0) .nil .nil))) (.nd .bot (.nd (v4) .nil (.nd (.sl (more.map qd) owm) .nil .nil)) (.nd (v6) (.nd (v10) .nil .nil) .nil)))) ⟨ob,m⟩ KX:=by
 obtain⟨A,hA⟩:∃A,vo out more=A:=⟨_,rfl⟩
 rw[hA]at hk
 refine qy (σ:=NNRm) (fun q=>(.nd (v0) (.nd .bot (.nd .bot (.nd (.sl (q.out.map qd) .no) .nil .nil) (.nd (v11) .nil .nil)) (.nd .bot (.nd (v9) .nil .nil) (.nd (.int q.i) .nil .nil))) (.nd .bot (.nd (v4) .nil (.nd (.sl (more.map qd) owm) .nil .nil)) (.nd (v6) (.nd (v10) .nil .nil) .nil)))) (fun q=>⟨ob,q.n⟩) (fun q=>more.length - q.i)
  (fun q=>m<=q.n/\q.i<=more.length/\vo q.out (more.drop q.i)=A/\(∀a∈q.out,qI a)/\q.out.length<=301) ⟨0,m,out⟩ ⟨Nat.le_refl _,Nat.zero_le _,hA,hog,hol⟩ (by simp[FT.Le,Wk]) ⟨HWk.refl _,fun h=>h⟩ ?_
 rintro⟨i,n,o⟩ ⟨hn,hi,hf,hg,hl⟩ hok
 dsimp only at hn hi hf hg hl hok
 by_cases hlt:i<more.length
 case neg=>
  rw[List.drop_eq_nil_of_le (by omega)]at hf
  have hA2:o=A:=hf
  subst hA2
  simp(disch:=omega)[hlt]
  exact hk n _ _ _ _ _ _ _ _ _ _ hn
 rw[List.drop_eq_getElem_cons hlt]at hf
 simp only[vo]at hf
 by_cases h300:o.length<=300
 case neg=>
  rw[if_neg h300]at hf
  subst hf
  have h300':¬(o.length:Int)<=300:=by omega
  simp(disch:=omega)[hlt,h300']
  exact hk n _ _ _ _ _ _ _ _ _ _ hn
 rw[if_pos h300]at hf
 have h300':(o.length:Int)<=300:=by omega
 have hmi:=hmg _ (List.getElem_mem hlt)
 simp(disch:=omega)[hlt,h300']
 refine qle o .no more[i] (by omega) (fun x hx=>wX (hg x hx).1) (wX hmi.1) _ fun n2 hn2=>?_
 dsimp only at hn2
 have hpl:=qeX o more[i]
 simp(disch:=omega)[qi (show i<2^62 by omega)]
 exact⟨⟨i+1,n2,zm o more[i]⟩,by dsimp only;omega,⟨by dsimp only;omega,by dsimp only;omega,hf,fun a ha=>by
  rcases qdU ha with h|h
  ·exact hg a h
  ·rw[h];exact hmi,by dsimp only;omega⟩,by simp[FT.Le,Wk],HWk.refl _,fun h=>h⟩
theorem qrM(c:qf)(hc:zQ c)(h3:(qO c.body).length<=3)(l:List Atom)(owl:Own)(hlg:∀x∈l,qI x)(hl:l.length<=301)(H:qa){kv kp:HP}(hk:∀n,H.next<=n->kv (.sl ((zy c l c.body []).map qd) .no) ⟨H.objs,n⟩):
  cP E0 F0 145 [uH c,.int 0,Nl,.sl (l.map qd) owl] H kv kp:=by
 have h:=qlj c hc l owl hlg (by omega) 301 hl (by omega) c.body [] [] .full rfl .nil (by simp) (fun x hx=>by cases hx) (Nat.le_trans (Nat.pow_le_pow_right (by omega) h3) (by decide)) H (kp:=kp) hk
 simpa using h
theorem qvQ(c:qf)(h3:(qO c.body).length<=3)(l:List Atom)(hl:l.length<=301):(zy c l c.body []).length<=2^29:=
 Nat.le_trans (qgY c l 301 hl (by omega) c.body []) (Nat.le_trans (Nat.pow_le_pow_right (by omega) h3) (by decide))
theorem qeW(q:List (PK×Int))(lev:Int):∀(l:List qf)(out:List Atom),out.length<=(yZ q lev l out).length
 |[],_=>Nat.le_refl _
 |c::r,out=>by
  unfold yZ
  split
  ·exact Nat.le_trans (qdR _ out).1 (qeW q lev r _)
  ·exact qeW q lev r out
section
variable{S:List qE}{owS:Own}{q:List (PK×Int)}{l:List qf}{ob:List (Nat×qc)}{s6:Nat}
structure RmIn(S:List qE)(owS:Own)(q:List (PK×Int))(l:List qf)(ob:List (Nat×qc))(s6:Nat):Prop where
 hl:l.length<=40
 hc:∀c∈l,zQ c
 h3:∀c∈l,(qO c.body).length<=3
 hS:S.length<2^40
 find:∀c∈l,∃(idx:Nat)(x:qE),uN S (ofA c.head) 0=(idx:Int)/\S[idx]? = some x/\x.level=qm q (ofA c.head)
 c6:look s6 ob=some (.cells [.sl (S.map qD) owS,.int 0])
theorem qrS(hI:RmIn S owS q l ob s6)(lev:Nat)(out:List Atom)(hog:∀a∈out,qI a)(hol:out.length<=301)(m:Nat)(v4 v10:LV){KX:XP}
  (hk:∀n',m<=n'->KX (.exit 6) ((.nd (qt l) (.nd .bot (.nd .bot (.nd (.sl ((yZ q lev l out).map qd) .no) .nil (.nd .bot .nil (.nd (.int l.length) .nil .nil))) (.nd (.int l.length) .nil .nil)) (.nd .bot (.nd (.int lev) .nil .nil) (.nd .bot (.nd .bot .nil (.nd (.int l.length) .nil .nil)) .nil))) (.nd .bot (.nd (v4) (.nd .bot .nil (.nd .bot .nil (.nd (.sc (.bool false)) .nil .nil))) .nil) (.nd (.ptr s6 0) (.nd (v10) .nil .nil) (.nd .bot (.nd .bot .nil (.nd (qt l) .nil .nil)) .nil))))) ⟨ob,n'⟩):
  lP E0 F0 rmCl ((.nd (qt l) (.nd .bot (.nd .bot (.nd (.sl (out.map qd) .no) .nil .nil) (.nd (.int 0) .nil .nil)) (.nd .bot (.nd (.int lev) .nil .nil) .nil)) (.nd .bot (.nd (v4) .nil .nil) (.nd (.ptr s6 0) (.nd (v10) .nil .nil) .nil)))) ⟨ob,m⟩ KX:=by
 obtain⟨A,hA⟩:∃A,yZ q lev l out=A:=⟨_,rfl⟩
 rw[hA]at hk
 refine qy (σ:=NNRm) (fun p=>(.nd (qt l) (.nd .bot (.nd .bot (.nd (.sl (p.out.map qd) .no) .nil .nil) (.nd (.int p.i) .nil .nil)) (.nd .bot (.nd (.int lev) .nil .nil) .nil)) (.nd .bot (.nd (v4) .nil .nil) (.nd (.ptr s6 0) (.nd (v10) .nil .nil) .nil)))) (fun p=>⟨ob,p.n⟩) (fun p=>l.length - p.i)
  (fun p=>m<=p.n/\p.i<=l.length/\yZ q lev (l.drop p.i) p.out=A/\(∀a∈p.out,qI a)/\p.out.length<=301) ⟨0,m,out⟩ ⟨Nat.le_refl _,Nat.zero_le _,hA,hog,hol⟩ (by simp[FT.Le,Wk]) ⟨HWk.refl _,fun h=>h⟩ ?_
 rintro⟨i,n,o⟩ ⟨hn,hi,hf,hg,hl⟩ hok
 dsimp only at hn hi hf hg hl hok
 have hll:=hI.hl
 by_cases hlt:i<l.length
 case neg=>
  obtain rfl:i=l.length:=by omega
  rw[List.drop_eq_nil_of_le (Nat.le_refl _)]at hf
  have hA2:o=A:=hf
  subst hA2
  simp(disch:=omega)
  exact hk n hn
 rw[List.drop_eq_getElem_cons hlt]at hf
 simp only[yZ]at hf
 have hcg:=hI.hc _ (List.getElem_mem hlt)
 have hc3:=hI.h3 _ (List.getElem_mem hlt)
 obtain⟨idx,x,f1,f2,f3⟩:=hI.find _ (List.getElem_mem hlt)
 have hc6:=hI.c6
 have hfd:=qln S owS l[i].head hI.hS
 rw[f1]at hfd
 rw[<-f3]at hf
 simp(disch:=omega)[hlt,hc6]
 refine hfd.go fun n1 hn1=>?_
 have hix:idx<S.length:=(List.getElem?_eq_some_iff.1 f2).1
 have hxg:S[idx]'hix=x:=(List.getElem?_eq_some_iff.1 f2).2
 by_cases hlev:x.level=(lev:Int)
 case neg=>
  rw[if_neg hlev]at hf
  simp(disch:=omega)[hlt,hc6,hix,hxg,hlev,qi (show i<2^62 by omega)]
  exact⟨⟨i+1,n1,o⟩,by dsimp only;omega,⟨by dsimp only;omega,by dsimp only;omega,hf,hg,hl⟩,by simp[FT.Le,Wk],HWk.refl _,fun h=>h⟩
 rw[if_pos hlev]at hf
 simp(disch:=omega)[hlt,hc6,hix,hxg,hlev]
 refine qrM l[i] hcg hc3 o .no hg hl _ fun n2 hn2=>?_
 dsimp only at hn2
 have hhg:=qgZ hcg hg l[i].body [] [] rfl .nil (fun x hx=>by cases hx)
 have hhm:=qvQ l[i] hc3 o hl
 obtain⟨more,hmo⟩:∃more,zy l[i] o l[i].body []=more:=⟨_,rfl⟩
 rw[hmo]at hhg hhm hf ⊢
 simp(disch:=omega)
 refine vh (t':=(.nd (qt l) (.nd .bot (.nd .bot (.nd (.sl (o.map qd) .no) .nil .nil) (.nd (.int i) .nil .nil)) (.nd .bot (.nd (.int lev) .nil .nil) (.nd (.int 0) .nil .nil))) (.nd .bot (.nd (v4) .nil (.nd (.sl (more.map qd) .no) .nil .nil)) (.nd (.ptr s6 0) (.nd (v10) .nil .nil) .nil)))) (fun l h=>by cases h) (by simp[FT.Le,Wk]) (HWk.refl _) (fun h=>h) ?_
 refine qrF o more .no hg hhg hl (by omega) ob n2 _ _ _ _ _ _ fun n3 z13 z80 z81 z82 z83 z84 z85 z86 z87 z88 hn3=>?_
 obtain⟨p1,p2,p3⟩:=qdR more o
 simp(disch:=omega)[qi (show i<2^62 by omega)]
 exact⟨⟨i+1,n3,vo o more⟩,by dsimp only;omega,⟨by dsimp only;omega,by dsimp only;omega,hf,fun a ha=>(p3 a ha).elim (hg a) (hhg a),by dsimp only;omega⟩,by simp[FT.Le,Wk],HWk.refl _,fun h=>h⟩
end
end Go.Abs.Tz
namespace Go.Abs.Tz
open Go Go.Abs Go.Proofs
section
variable(l:List qf)(m:List (PK×Int))(v:Int)
def qky(T:Atom->Prop):Prop:=∀c∈l,qm m (ofA c.head)=v->∀h,wH T c h->T h
structure LowS(S0 T:Atom->Prop):Prop where
 sup:∀a,S0 a->T a
 low:∀a,T a->qm m (ofA a)<v->S0 a
 good:∀a,T a->qI a
structure Mid(S0 P:Atom->Prop):Prop where
 lo:LowS m v S0 P
 least:∀T,LowS m v S0 T->qky l m v T->∀a,P a->T a
end
section
variable{l:List qf}{m:List (PK×Int)}{v:Int}{S0 P Q T:Atom->Prop}
theorem wH.mono(hm:wc l m){c:qf}(hc:c∈l)(hv:qm m (ofA c.head)=v)(hP:LowS m v S0 P)(hT:LowS m v S0 T)(hPT:∀a,P a->T a){h:Atom}(hh:wH P c h):wH T c h:=by
 obtain⟨R,h1,h2,h3⟩:=hh
 refine⟨R,h1.mono hPT,fun x hx=>⟨fun hk ht=>(h2 x hx).1 hk (hP.sup _ (hT.low _ ht ?_)),(h2 x hx).2⟩,h3⟩
 rw[qnn,<-hv]
 exact(hm.lits hc hx).2 hk
theorem Mid.grow(hm:wc l m)(hP:Mid l m v S0 P){c:qf}(hc:c∈l)(hg:zQ c)(hv:qm m (ofA c.head)=v)(hQ:∀a,Q a->P a\/wH P c a)(hPQ:∀a,P a->Q a):Mid l m v S0 Q where
 lo:=⟨fun a h=>hPQ a (hP.lo.sup a h),fun a h hl=>(hQ a h).elim (fun h=>hP.lo.low a h hl) (fun h=>absurd hl (by
  obtain⟨R,_,_,rfl⟩:=h
  rw[qnn,hv]
  exact Int.lt_irrefl _)),fun a h=>(hQ a h).elim (hP.lo.good a) fun h=>h.good hP.lo.good hg⟩
 least T hT hC a h:=(hQ a h).elim (hP.least T hT hC a) fun h=>hC c hc hv a (wH.mono hm hc hv hP.lo hT (hP.least T hT hC) h)
theorem Mid.base(hS:∀a,S0 a->qI a):Mid l m v S0 S0:=⟨⟨fun _ h=>h,fun _ h _=>h,hS⟩,fun _ hT _ a h=>hT.sup a h⟩
end
def qaj(o:List Atom):Prop:=o.Pairwise fun x y=>cmpA x y<0
theorem qiJ(x:Atom)(r:List Atom)(a:Atom):zm (x::r) a=if cmpA x a<0 then x::zm r a else if cmpA x a=0 then x::r else a::x::r:=by
 unfold zm
 by_cases h:cmpA x a<0
 ·rw[if_pos h]
  have e:jN (x::r) a=jN r a+1:=by rw[jN,if_pos h]
  rw[e,List.getElem?_cons_succ]
  cases r[jN r a]? with
  |none=>simp
  |some y=>
   simp only
   split<;>simp
 ·rw[if_neg h]
  have e:jN (x::r) a=0:=by rw[jN,if_neg h]
  rw[e]
  simp
theorem qiI:∀(o:List Atom)(a:Atom),a∈zm o a
 |[],a=>by simp[zm,jN]
 |x::r,a=>by
  rw[qiJ]
  split
  ·exact List.mem_cons_of_mem _ (qiI r a)
  ·split
   ·rename_i h
    rw[v8.zero.1 h]
    exact List.mem_cons_self
   ·exact List.mem_cons_self
theorem qiG:∀{o:List Atom}{a x:Atom},x∈o->x∈zm o a
 |y::r,a,x,h=>by
  rw[qiJ]
  split
  ·rcases List.mem_cons.1 h with rfl|h
   ·exact List.mem_cons_self
   ·exact List.mem_cons_of_mem _ (qiG h)
  ·split
   ·exact h
   ·exact List.mem_cons_of_mem _ h
theorem qiH:∀{o:List Atom}{a:Atom},qaj o->qaj (zm o a)
 |[],a,_=>by simp[zm,jN,qaj]
 |x::r,a,h=>by
  obtain⟨h1,h2⟩:=List.pairwise_cons.1 h
  rw[qiJ]
  split
  ·rename_i hx
   refine List.pairwise_cons.2 ⟨fun y hy=>?_,qiH h2⟩
   rcases qdU hy with hy|rfl
   ·exact h1 y hy
   ·exact hx
  ·rename_i hx
   split
   ·exact h
   ·rename_i hx2
    have ha:cmpA a x<0:=by rw[v8.anti x a];omega
    refine List.pairwise_cons.2 ⟨fun y hy=>?_,h⟩
    rcases List.mem_cons.1 hy with rfl|hy
    ·exact ha
    ·exact v8.lt_tr ha (h1 y hy)
theorem qtI{o:List Atom}{a:Atom}(h:(zm o a).length=o.length):zm o a=o:=by
 unfold zm at h ⊢
 have hp:=qgD o a
 have k:¬(o.take (jN o a)++[a]++o.drop (jN o a)).length=o.length:=by simp;omega
 split
 ·split
  ·rfl
  ·rename_i x hx hz
   rw[hx]at h
   simp only[if_neg hz]at h
   exact absurd h k
 ·rename_i hx
  rw[hx]at h
  exact absurd h k
theorem qaj.nodup{o:List Atom}(h:qaj o):o.Nodup:=List.Pairwise.imp (fun{x y} hxy e=>by
 subst e
 have:=v8.refl x
 omega) h
theorem qmv:∀(more out:List Atom),qaj out->qaj (vo out more)/\(∀x∈out,x∈vo out more)/\((vo out more).length<=300->∀x∈more,x∈vo out more)/\((vo out more).length=out.length->vo out more=out)
 |[],out,h=>⟨h,fun x hx=>hx,fun _ x hx=>(by cases hx),fun _=>rfl⟩
 |a::r,out,h=>by
  unfold vo
  split
  ·obtain⟨h1,h2,h3,h4⟩:=qmv r (zm out a) (qiH h)
   refine⟨h1,fun x hx=>h2 x (qiG hx),fun hl x hx=>?_,fun hl=>?_⟩
   ·rcases List.mem_cons.1 hx with rfl|hx
    ·exact h2 x (qiI out x)
    ·exact h3 hl x hx
   ·have k1:=(qdR r (zm out a)).1
    have k2:=qeX out a
    have k3:=qtI (o:=out) (a:=a) (by omega)
    rw[k3]at hl h4 ⊢
    exact h4 hl
  ·rename_i hl
   exact⟨h,fun x hx=>hx,fun hl2=>absurd hl2 hl,fun _=>rfl⟩
theorem qoj{o:List Atom}{a:Atom}:ws o a=true↔a∈o:=by
 unfold ws
 rw[List.any_eq_true]
 constructor
 ·rintro⟨x,hx,h⟩
  rw[<-v8.zero.1 (of_decide_eq_true h)]
  exact hx
 ·intro h
  exact⟨a,h,by simp[v8.refl a]⟩
theorem qiD{o:List Atom}{K:qq}:∀{b:List Lit},qbj o K b=true↔qcq (·∈o) K b
 |[]=>⟨fun _ x hx=>(by cases hx),fun _=>rfl⟩
 |x::r=>by
  have ih:=qiD (o:=o) (K:=K) (b:=r)
  have split:qcq (·∈o) K (x::r)↔((x.kind=2->¬q9 K x.atom∈o)/\(x.kind≠1->x.kind≠2->qaV K x=true))/\qcq (·∈o) K r:=by
   constructor
   ·intro h
    exact⟨h x List.mem_cons_self,fun y hy=>h y (List.mem_cons_of_mem _ hy)⟩
   ·rintro⟨h1,h2⟩ y hy
    rcases List.mem_cons.1 hy with rfl|hy
    ·exact h1
    ·exact h2 y hy
  rw[split]
  unfold qbj
  by_cases h1:x.kind=1
  ·rw[if_pos h1,ih]
   exact⟨fun h=>⟨⟨fun h2=>by omega,fun h3=>absurd h1 h3⟩,h⟩,fun h=>h.2⟩
  ·rw[if_neg h1]
   by_cases h2:x.kind=2
   ·rw[if_pos h2,Bool.and_eq_true,ih]
    have e:(!ws o (q9 K x.atom))=true↔¬q9 K x.atom∈o:=by
     rw[<-qoj]
     simp
    rw[e]
    exact⟨fun h=>⟨⟨fun _=>h.1,fun _ h3=>absurd h2 h3⟩,h.2⟩,fun h=>⟨h.1.1 h2,h.2⟩⟩
   ·rw[if_neg h2,Bool.and_eq_true,ih]
    exact⟨fun h=>⟨⟨fun h3=>absurd h3 h2,fun _ _=>h.1⟩,h.2⟩,fun h=>⟨h.1.2 h1 h2,h.2⟩⟩
theorem qgK{c:qf}{o:List Atom}{h:Atom}:∀{r:List Lit}{K:qq},h∈zy c o r K↔∃R,qby (·∈o) (qO r) K R/\qcq (·∈o) R c.body/\h=q9 R c.head
 |[],K=>by
  unfold zy
  constructor
  ·intro hh
   split at hh
   ·rename_i hr
    simp at hh
    exact⟨K,rfl,qiD.1 hr,hh⟩
   ·cases hh
  ·rintro⟨R,h1,h2,h3⟩
   have e:R=K:=h1
   subst e
   rw[qiD.2 h2,if_pos rfl,h3]
   exact List.mem_singleton.2 rfl
 |x::r,K=>by
  unfold zy
  rw[qfa]
  by_cases hk:x.kind=1
  ·rw[if_pos hk,if_pos hk,List.mem_flatMap]
   constructor
   ·rintro⟨a,ha,hh⟩
    split at hh
    ·rename_i R hR
     obtain⟨R2,g1,g2,g3⟩:=qgK.1 hh
     exact⟨R2,⟨a,R,ha,hR,g1⟩,g2,g3⟩
    ·cases hh
   ·rintro⟨R2,⟨a,R,ha,hR,g1⟩,g2,g3⟩
    refine⟨a,ha,?_⟩
    simp only[hR]
    exact qgK.2 ⟨R2,g1,g2,g3⟩
  ·rw[if_neg hk,if_neg hk]
   exact qgK
theorem qnw{c:qf}{o:List Atom}{h:Atom}:h∈zy c o c.body []↔wH (·∈o) c h:=qgK
section
variable{l:List qf}{m q:List (PK×Int)}{v:Int}{S0:Atom->Prop}
theorem qiu(hm:wc l m)(hg:∀c∈l,zQ c)(hq:∀k,qm q k=qm m k):∀(r:List qf),(∀c∈r,c∈l)->∀{out:List Atom},Mid l m v S0 (·∈out)->qaj out ->
  Mid l m v S0 (·∈yZ q v r out)/\qaj (yZ q v r out)/\((yZ q v r out).length=out.length->yZ q v r out=out/\(out.length<=300->∀c∈r,qm m (ofA c.head)=v->∀h,wH (·∈out) c h->h∈out))
 |[],_,out,h1,h2=>⟨h1,h2,fun _=>⟨rfl,fun _ c hc=>(by cases hc)⟩⟩
 |c::r,hr,out,h1,h2=>by
  have hr':=fun d hd=>hr d (List.mem_cons_of_mem _ hd)
  have hc:=hr c List.mem_cons_self
  unfold yZ
  rw[hq]
  by_cases hv:qm m (ofA c.head)=v
  ·rw[if_pos hv]
   obtain⟨p1,p2,p3,p4⟩:=qmv (zy c out c.body []) out h2
   obtain⟨f1,_,f3⟩:=qdR (zy c out c.body []) out
   have hM:Mid l m v S0 (·∈vo out (zy c out c.body [])):=h1.grow hm hc (hg c hc) hv (fun a ha=>(f3 a ha).imp id qnw.1) p2
   obtain⟨g1,g2,g3⟩:=qiu hm hg hq r hr' hM p1
   refine⟨g1,g2,fun hl=>?_⟩
   have hmono:=qeW q v r (vo out (zy c out c.body []))
   have e1:=p4 (by omega)
   rw[e1]at g3 p3 hl ⊢
   obtain⟨k1,k2⟩:=g3 hl
   refine⟨k1,fun h300 d hd hdv h hh=>?_⟩
   rcases List.mem_cons.1 hd with rfl|hd
   ·exact p3 h300 h (qnw.2 hh)
   ·exact k2 h300 d hd hdv h hh
  ·rw[if_neg hv]
   obtain⟨g1,g2,g3⟩:=qiu hm hg hq r hr' h1 h2
   refine⟨g1,g2,fun hl=>?_⟩
   obtain⟨k1,k2⟩:=g3 hl
   refine⟨k1,fun h300 d hd hdv h hh=>?_⟩
   rcases List.mem_cons.1 hd with rfl|hd
   ·exact absurd hdv hv
   ·exact k2 h300 d hd hdv h hh
theorem qmF(hm:wc l m)(hg:∀c∈l,zQ c)(hq:∀k,qm q k=qm m k):∀(k:Nat){out:List Atom},302<=k+out.length->Mid l m v S0 (·∈out)->qaj out ->
  Mid l m v S0 (·∈jK q v l k out)/\qaj (jK q v l k out)/\((jK q v l k out).length<=300->qky l m v (·∈jK q v l k out))
 |0,out,hk,h1,h2=>⟨h1,h2,fun h=>by
  have:(jK q v l 0 out)=out:=rfl
  rw[this]at h
  omega⟩
 |k+1,out,hk,h1,h2=>by
  unfold jK
  by_cases h300:out.length<=300
  ·rw[if_pos h300]
   obtain⟨g1,g2,g3⟩:=qiu hm hg hq l (fun c hc=>hc) h1 h2
   have hmono:=qeW q v l out
   by_cases he:(yZ q v l out).length=out.length
   ·rw[if_pos he]
    obtain⟨k1,k2⟩:=g3 he
    rw[k1]
    exact⟨h1,h2,fun _=>k2 h300⟩
   ·rw[if_neg he]
    exact qmF hm hg hq k (by omega) g1 g2
  ·rw[if_neg h300]
   exact⟨h1,h2,fun h=>absurd h h300⟩
end
end Go.Abs.Tz
