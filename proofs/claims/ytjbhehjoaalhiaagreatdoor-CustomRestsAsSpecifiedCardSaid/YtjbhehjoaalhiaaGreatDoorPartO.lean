/- Part of the proof that the law CustomRestsAsSpecified holds. Conditions: none. -/
import Derived.Test.YtjbhehjoaalhiaaGreatDoorPartN
import Derived.Test.YtjbhehjoaalhiaaGreatDoorRows
import Derived.ProofKit
import Derived.Deep.Slices
import Derived.Deep.Strs
import Derived.Lib.LaidTab
import Derived.LaidSub
import Derived.Test.YtjbhehjoaalhiaaGreatDoorPartH
import Derived.Test.YtjbhehjoaalhiaaGreatDoorPartJ
import Derived.Test.YtjbhehjoaalhiaaGreatDoorPartK
import Derived.Test.YtjbhehjoaalhiaaGreatDoorPartC
import Derived.RangeFuncRecord
import Derived.RecoverIn
import Derived.Test.YtjbhehjoaalhiaaGreatDoorPartG
import Derived.KernelRfl
set_option linter.unusedVariables false
set_option linter.unusedSimpArgs false
set_option linter.unusedSectionVars false
namespace Go.Abs.Tz
set_option maxRecDepth 20000
open Go Go.Abs Go.Proofs Go.ChangeShapes Go.WideShapes Go.RowKit Go.Proofs.YtjbhehjoaalhiaaGreatDoor
noncomputable def gOf(W:World):qb:=⟨fun b=>if b<W.heap.size then some true else none,0,fun _=>0,fun _=>(0,0),fun _=>none,fun _ _=>.free,E0.rc⟩
theorem qwb{W:World}{b x:Nat}{v:Value}(h:W.cell? (at_ b x)=some v):(gOf W).Cl b x:=by
 left
 have:b<W.heap.size:=by
  rcases Nat.lt_or_ge b W.heap.size with h'|h'
  ·exact h'
  ·unfold World.cell? at h
   rw[show (at_ b x).block=b from rfl,Array.getElem?_eq_none h']at h
   cases h
 simp[gOf,this]
theorem qvZ(W:World)(m:Nat):Inv (gOf W) W ⟨[],m⟩:=by
 refine⟨Nat.zero_le _,fun b hb=>?_,fun _ _ _=>rfl,fun _ _ _=>rfl,fun o x hx=>by simp[look]at hx⟩
 simp only[gOf]at hb
 split at hb
 ·assumption
 ·cases hb
abbrev qeZ:String:=(Rows.customYearsAsSpecifiedRow.laid.map Prod.fst)[2]!
theorem qtS{W:World}(h:laidMetH Tryz.prog Rows.customYearsAsSpecifiedRow.laid W):∃t fz,W.heap[(3:Nat)]? = some (.cells (Lib.pow10Tab.map fun z=>Value.int .u64 z).toArray t fz):=by
 have h1:=laidMetH.filter (fun x=>x.1==qeZ) h
 have e:Rows.customYearsAsSpecifiedRow.laid.filter (fun x=>x.1==qeZ)=[(qeZ,Lib.tabData .u64 Lib.pow10Tab)]:=rfl
 rw[e]at h1
 change laidMet Tryz.prog [(qeZ,Lib.tabData .u64 Lib.pow10Tab)] W at h1
 have h2:=Lib.tabIs_of_head (g:=3) (t:=324) (e:=268) (n:=20) (by kernel_rfl) (by kernel_rfl) (by kernel_rfl) (by kernel_rfl) (by kernel_rfl) (by kernel_rfl) h1
 unfold Lib.TabIs World.var? at h2
 rw[show Tryz.prog.globalNamed qeZ=some 3 by kernel_rfl]at h2
 simp only[Option.bind_some]at h2
 split at h2
 ·rename_i cs t fz hh
  cases h2
  exact⟨t,fz,hh⟩
 ·cases h2
theorem qwa(W:World)(h:laidMetH Tryz.prog Rows.customYearsAsSpecifiedRow.laid W):yX E0 (gOf W) W:=by
 refine⟨fun g=>.bot _,rfl,fun p hp=>?_⟩
 obtain⟨t,fz,hh⟩:=qtS h
 have hp':p=(3,(Lib.pow10Tab.map fun z=>Value.int .u64 z).toArray):=by simpa [E0,powT] using hp
 subst hp'
 have hlt:3<W.heap.size:=(Array.getElem?_eq_some_iff.1 hh).1
 exact⟨by simp[gOf,hlt],t,fz,hh⟩
theorem qyq{a:Addr}(h:a.spot=none)(x y:Nat):(a.add x).add y=at_ a.block (a.off+x+y):=by
 obtain⟨b,o,s⟩:=a
 simp only at h
 subst h
 unfold Addr.add
 by_cases hx:x=0<;>by_cases hy:y=0<;>simp[hx,hy,Nat.add_assoc]
theorem z9:Tryz.prog.cellsOf 9=1:=by kernel_rfl
theorem z3:Tryz.prog.cellsOf 3=1:=by kernel_rfl
theorem z23:Tryz.prog.cellsOf 23=1:=by kernel_rfl
theorem z30:Tryz.prog.cellsOf 30=1:=by kernel_rfl
theorem z106:Tryz.prog.cellsOf 106=1:=by kernel_rfl
theorem z32:Tryz.prog.cellsOf 32=2:=by kernel_rfl
theorem z97:Tryz.prog.cellsOf 97=3:=by kernel_rfl
theorem z126:Tryz.prog.cellsOf 126=9:=by kernel_rfl
theorem z108:Tryz.prog.cellsOf 108=3:=by kernel_rfl
def uQ(W:World)(cl:List LV)(cs:List Value):Prop:=cs.length=cl.length/\∀(j:Nat)(c:LV),cl[j]? = some c->∃v,cs[j]? = some v/\VR (gOf W) W c v/\v.oneCell'=true
theorem uQ.nil(W:World):uQ W [] []:=⟨rfl,fun j c h=>by simp at h⟩
theorem uQ.cons{W:World}{c:LV}{v:Value}{cl:List LV}{cs:List Value}(h:VR (gOf W) W c v)(h1:v.oneCell'=true)(hr:uQ W cl cs):uQ W (c::cl) (v::cs):=
 ⟨by simp[hr.1],fun j x hx=>by
  cases j with
  |zero=>simp at hx;subst hx;exact⟨v,rfl,h,h1⟩
  |succ j=>simp at hx;simpa using hr.2 j x hx⟩
theorem uQ.append{W:World}{cl dl:List LV}{cs ds:List Value}(h:uQ W cl cs)(k:uQ W dl ds):uQ W (cl++dl) (cs++ds):=by
 refine⟨by simp[h.1,k.1],fun j c hc=>?_⟩
 rcases Nat.lt_or_ge j cl.length with hj|hj
 ·rw[List.getElem?_append_left hj]at hc
  rw[List.getElem?_append_left (by rw[h.1];exact hj)]
  exact h.2 j c hc
 ·rw[List.getElem?_append_right hj]at hc
  rw[List.getElem?_append_right (by rw[h.1];exact hj),h.1]
  exact k.2 _ c hc
theorem uQ.agg{W:World}{cl:List LV}{cs:List Value}(h:uQ W cl cs):VR (gOf W) W (.agg cl) (.agg cs.toArray):=by
 refine .agg (by simp[h.1]) (fun i c hc=>?_) (fun i hi=>?_)
 ·obtain⟨v,h1,h2,_⟩:=h.2 i c hc
  have:cs.toArray.getD i undef=v:=by simp[Array.getD_eq_getD_getElem?,h1]
  rw[this];exact h2
 ·obtain⟨v,h1,_,h3⟩:=h.2 i _ (List.getElem?_eq_getElem hi)
  have:cs.toArray.getD i undef=v:=by simp[Array.getD_eq_getD_getElem?,h1]
  rw[this];exact h3
section
variable{H:Type}{enc:TypeId×Value->H}{W:World}{hd:Bool}
theorem fld{m:Nat}{cs:List Value}{f:Field}{t:TypeId}{off c:Nat}{r:Option (DataW H×List MemPlace)}(h:DataW.trod enc Tryz.prog W 0 (fun _=>true) hd m f.type ((cs.drop f.offset).take (Tryz.prog.cellsOf f.type))=r)
  (h1:f.type=t) (h2:f.offset=off) (h3:Tryz.prog.cellsOf t=c):DataW.trod enc Tryz.prog W 0 (fun _=>true) hd m t ((cs.drop off).take c)=r:=by
 subst h1;subst h2;subst h3;exact h
theorem qfd{α:Type}(ec:α->List LV){S E:TypeId}{k:Nat}(hu:Tryz.prog.underlying S=some (.slice E))(hk:Tryz.prog.cellsOf E=k)(hk0:0<k)
  (hec:∀a,(ec a).length=k) (a0:α)
  (hop:∀(n:Nat)(cs:List Value)(x:DataW H×List MemPlace),DataW.trod enc Tryz.prog W 0 (fun _=>true) hd n E cs=some x->∃a:α,uQ W (ec a) cs)
  {n:Nat} {u:Value} {x:DataW H×List MemPlace} (h:DataW.trod enc Tryz.prog W 0 (fun _=>true) hd n S [u]=some x):
  ∃l:List α,l.length<2^63/\VR (gOf W) W (.sl (l.map fun a=>.agg (ec a)) .no) u/\u.oneCell'=true:=by
 rcases Deep.open_slice hu h with⟨e1,_⟩|⟨a,len,cap,m,n',D,Pl,e1,_,hlc,hmax,hm,_,hel⟩
 ·simp only[List.cons.injEq,and_true]at e1
  subst e1
  exact⟨[],by simp,.sln trivial,rfl⟩
 ·simp only[List.cons.injEq,and_true]at e1
  subst e1
  simp only[if_true]at hm
  have hm:=hm.symm
  subst hm
  have hmax2:cap<2^63:=by unfold maxLen at hmax;omega
  by_cases hc0:cap=0
  ·subst hc0
   obtain rfl:len=0:=by omega
   exact⟨[],by simp,.sle a,rfl⟩
  have hspot:a.spot=none:=by
   obtain⟨cs',q1,_⟩:=hel 0 (by omega)
   rw[hk]at q1
   obtain⟨_,q2,q3⟩:=World.cells?_some q1
   have:=q3 0 hk0
   rw[List.getElem?_eq_getElem (by omega)]at this
   have:=World.cell?_spot this
   simpa [Addr.add] using this
  have ht:∀i,∃t:α,i<len->∃cs,uQ W (ec t) cs/\∀j,j<k->W.cell? (at_ a.block (a.off+i*k+j))=cs[j]?:=by
   intro i
   by_cases hi:i<len
   ·obtain⟨cs',q1,q2⟩:=hel i (by omega)
    rw[hk]at q1
    obtain⟨_,_,q3⟩:=World.cells?_some q1
    obtain⟨t,ht⟩:=hop _ _ _ q2
    refine⟨t,fun _=>⟨cs',ht,fun j hj=>?_⟩⟩
    rw[<-q3 j hj,qyq hspot]
   ·exact⟨a0,fun h=>absurd h hi⟩
  let T:Nat->α:=fun i=>Classical.choose (ht i)
  have hT:∀i,i<len->∃cs,uQ W (ec (T i)) cs/\∀j,j<k->W.cell? (at_ a.block (a.off+i*k+j))=cs[j]?:=fun i=>Classical.choose_spec (ht i)
  have hX:∀i j,∃v:Value,i<len->∀c,(ec (T i))[j]? = some c->W.cell? (at_ a.block (a.off+i*k+j))=some v/\VR (gOf W) W c v/\v.oneCell'=true:=by
   intro i j
   by_cases hi:i<len
   ·obtain⟨cs,h1,h2⟩:=hT i hi
    by_cases hj:j<k
    ·obtain⟨v,h3,h4,h5⟩:=h1.2 j _ (List.getElem?_eq_getElem (by rw[hec];exact hj))
     refine⟨v,fun _ c hc=>?_⟩
     rw[List.getElem?_eq_getElem (by rw[hec];exact hj)]at hc
     cases hc
     exact⟨by rw[h2 j hj,h3],h4,h5⟩
    ·exact⟨undef,fun _ c hc=>by rw[List.getElem?_eq_none (by rw[hec];omega)]at hc;cases hc⟩
   ·exact⟨undef,fun h=>absurd h hi⟩
  let V:Nat->Nat->Value:=fun i j=>Classical.choose (hX i j)
  have hV:∀i j,i<len->∀c,(ec (T i))[j]? = some c->W.cell? (at_ a.block (a.off+i*k+j))=some (V i j)/\VR (gOf W) W c (V i j)/\(V i j).oneCell'=true:=fun i j=>Classical.choose_spec (hX i j)
  have ha:a=at_ a.block a.off:=by
   obtain⟨b,o,sp⟩:=a
   simp only at hspot
   subst hspot
   rfl
  have hget:∀(i:Nat)(e:LV),(((List.range len).map T).map fun a=>LV.agg (ec a))[i]? = some e->i<len/\e=.agg (ec (T i)):=by
   intro i e he
   rw[List.getElem?_map,List.getElem?_map]at he
   cases hr:(List.range len)[i]? with
   |none=>rw[hr]at he;cases he
   |some q=>
    rw[hr]at he
    obtain⟨hlt,rfl⟩:=List.getElem?_eq_some_iff.1 hr
    simp at hlt he
    exact⟨hlt,he.symm⟩
  refine⟨(List.range len).map T,by simp;omega,?_,rfl⟩
  have hlen:(((List.range len).map T).map fun a=>LV.agg (ec a)).length=len:=by simp
  have hR:=VR.sl (G:=gOf W) (w:=W) (es:=((List.range len).map T).map fun a=>LV.agg (ec a)) (own:=.no) (b:=a.block) (off:=a.off) (sz:=k) (cap:=cap) (xs:=V) (by rw[hlen];exact hlc)
   (fun i e he=>by obtain⟨_,rfl⟩:=hget i e he;exact hec _)
   (fun i e j c he hc=>by
    obtain⟨hi,rfl⟩:=hget i e he
    obtain⟨g1,_,g3⟩:=hV i j hi c hc
    exact⟨qwb g1,g1,g3⟩)
   (fun i e j c he hc=>by
    obtain⟨hi,rfl⟩:=hget i e he
    exact(hV i j hi c hc).2.1) trivial
  rw[hlen,<-ha]at hR
  exact hR
theorem qdX{n:Nat}{u:Value}{x:DataW H×List MemPlace}(h:DataW.trod enc Tryz.prog W 0 (fun _=>true) hd n 3 [u]=some x):∃k:Int,u=.int .i64 k:=by
 obtain⟨k,e,_⟩:=DataW.trod_int Tryz.underlying3 h
 simp only[List.cons.injEq,and_true]at e
 exact⟨k,e⟩
theorem qnj{n:Nat}{u:Value}{x:DataW H×List MemPlace}(h:DataW.trod enc Tryz.prog W 0 (fun _=>true) hd n 9 [u]=some x):∃s:ByteArray,u=.string s:=by
 obtain⟨s,e,_⟩:=DataW.trod_string Tryz.underlying9 h
 simp only[List.cons.injEq,and_true]at e
 exact⟨s,e⟩
theorem qiU{n:Nat}{cs:List Value}{x:DataW H×List MemPlace}(h:DataW.trod enc Tryz.prog W 0 (fun _=>true) hd n 97 cs=some x):∃t:Term,uQ W (zR t) cs:=by
 obtain⟨xs,m,_,rfl,hl,hlen,hf⟩:=DataW.trod_struct Tryz.underlying97 h
 rw[z97]at hl
 match xs,hlen,cs,hl with
 |[y0,y1,y2],_,[u0,u1,u2],_=>
  have h0:=fld (t:=3) (off:=0) (c:=1) (hf 0 _ rfl) rfl rfl z3
  have h1:=fld (t:=3) (off:=1) (c:=1) (hf 1 _ rfl) rfl rfl z3
  have h2:=fld (t:=9) (off:=2) (c:=1) (hf 2 _ rfl) rfl rfl z9
  obtain⟨k,rfl⟩:=qdX (show DataW.trod enc Tryz.prog W 0 (fun _=>true) hd m 3 [u0]=some y0 from h0)
  obtain⟨l,rfl⟩:=qdX (show DataW.trod enc Tryz.prog W 0 (fun _=>true) hd m 3 [u1]=some y1 from h1)
  obtain⟨s,rfl⟩:=qnj (show DataW.trod enc Tryz.prog W 0 (fun _=>true) hd m 9 [u2]=some y2 from h2)
  exact⟨⟨k,l,s⟩,.cons (.sc _) rfl (.cons (.sc _) rfl (.cons (.sc _) rfl (.nil W)))⟩
theorem qgH{n:Nat}{cs:List Value}{x:DataW H×List MemPlace}(h:DataW.trod enc Tryz.prog W 0 (fun _=>true) hd n 32 cs=some x):∃a:Atom,uQ W [.str a.pred,qk a.args] cs:=by
 obtain⟨xs,m,_,rfl,hl,hlen,hf⟩:=DataW.trod_struct Tryz.underlying32 h
 rw[z32]at hl
 match xs,hlen,cs,hl with
 |[y0,y1],_,[u0,u1],_=>
  have h0:=fld (t:=9) (off:=0) (c:=1) (hf 0 _ rfl) rfl rfl z9
  have h1:=fld (t:=30) (off:=1) (c:=1) (hf 1 _ rfl) rfl rfl z30
  obtain⟨s,rfl⟩:=qnj (show DataW.trod enc Tryz.prog W 0 (fun _=>true) hd m 9 [u0]=some y0 from h0)
  obtain⟨ts,_,hv,h1c⟩:=qfd zR Tryz.underlying30 z97 (by omega) (fun _=>rfl) ⟨0,0,⟨#[]⟩⟩ (fun n cs x h=>qiU h) (show DataW.trod enc Tryz.prog W 0 (fun _=>true) hd m 30 [u1]=some y1 from h1)
  exact⟨⟨s,ts⟩,.cons (.sc _) rfl (.cons hv h1c (.nil W))⟩
theorem quh{n:Nat}{cs:List Value}{x:DataW H×List MemPlace}(h:DataW.trod enc Tryz.prog W 0 (fun _=>true) hd n 126 cs=some x):∃l:Lit,uQ W (y6 l) cs:=by
 obtain⟨xs,m,_,rfl,hl,hlen,hf⟩:=DataW.trod_struct Tryz.underlying126 h
 rw[z126]at hl
 match xs,hlen,cs,hl with
 |[y0,y1,y2,y3],_,[u0,u1,u2,u3,u4,u5,u6,u7,u8],_=>
  have h0:=fld (t:=3) (off:=0) (c:=1) (hf 0 _ rfl) rfl rfl z3
  have h1:=fld (t:=32) (off:=1) (c:=2) (hf 1 _ rfl) rfl rfl z32
  have h2:=fld (t:=97) (off:=3) (c:=3) (hf 2 _ rfl) rfl rfl z97
  have h3:=fld (t:=97) (off:=6) (c:=3) (hf 3 _ rfl) rfl rfl z97
  obtain⟨k,rfl⟩:=qdX (show DataW.trod enc Tryz.prog W 0 (fun _=>true) hd m 3 [u0]=some y0 from h0)
  obtain⟨a,ha⟩:=qgH (show DataW.trod enc Tryz.prog W 0 (fun _=>true) hd m 32 [u1,u2]=some y1 from h1)
  obtain⟨s,hs⟩:=qiU (show DataW.trod enc Tryz.prog W 0 (fun _=>true) hd m 97 [u3,u4,u5]=some y2 from h2)
  obtain⟨t,ht⟩:=qiU (show DataW.trod enc Tryz.prog W 0 (fun _=>true) hd m 97 [u6,u7,u8]=some y3 from h3)
  exact⟨⟨k,a,s,t⟩,.cons (.sc _) rfl (ha.append (hs.append ht))⟩
theorem quj{n:Nat}{cs:List Value}{x:DataW H×List MemPlace}(h:DataW.trod enc Tryz.prog W 0 (fun _=>true) hd n 108 cs=some x):∃c:{c:qf // c.body.length<2^63},uQ W (ww c.1) cs:=by
 obtain⟨xs,m,_,rfl,hl,hlen,hf⟩:=DataW.trod_struct Tryz.underlying108 h
 rw[z108]at hl
 match xs,hlen,cs,hl with
 |[y0,y1],_,[u0,u1,u2],_=>
  have h0:=fld (t:=32) (off:=0) (c:=2) (hf 0 _ rfl) rfl rfl z32
  have h1:=fld (t:=106) (off:=2) (c:=1) (hf 1 _ rfl) rfl rfl z106
  obtain⟨a,ha⟩:=qgH (show DataW.trod enc Tryz.prog W 0 (fun _=>true) hd m 32 [u0,u1]=some y0 from h0)
  obtain⟨b,hb,hv,h1c⟩:=qfd y6 Tryz.underlying106 z126 (by omega) (fun _=>rfl) ⟨0,⟨⟨#[]⟩,[]⟩,⟨0,0,⟨#[]⟩⟩,⟨0,0,⟨#[]⟩⟩⟩ (fun n cs x h=>quh h) (show DataW.trod enc Tryz.prog W 0 (fun _=>true) hd m 106 [u2]=some y1 from h1)
  exact⟨⟨⟨a,b⟩,hb⟩,ha.append (.cons hv h1c (.nil W))⟩
theorem open_atomP{base:Nat}{v:Value}{d:DataW H}{p:List MemPlace}(h:DataW.Trod enc Tryz.prog W 0 (fun _=>true) hd 32 v d p)(hv:Value.okWide Tryz.prog W .any base 32 v):∃a:Atom,VR (gOf W) W (qd a) v:=by
 have hv':∃cs,v=.agg cs:=by
  unfold Value.okWide at hv
  rw[Tryz.underlying32]at hv
  obtain⟨cs,h,_⟩:=hv
  exact⟨cs,h⟩
 obtain⟨cs,rfl⟩:=hv'
 obtain⟨fuel,h⟩:=h
 obtain⟨a,ha⟩:=qgH (show DataW.trod enc Tryz.prog W 0 (fun _=>true) hd fuel 32 cs.toList=some _ from h)
 exact⟨a,by simpa using ha.agg⟩
theorem open_atoms{base:Nat}{v:Value}{d:DataW H}{p:List MemPlace}(h:DataW.Trod enc Tryz.prog W 0 (fun _=>true) hd 48 v d p)(hv:Value.okWide Tryz.prog W .any base 48 v):∃l:List Atom,l.length<2^63/\VR (gOf W) W (.sl (l.map qd) .no) v:=by
 have h1:v.cells=#[v]:=by
  unfold Value.okWide at hv
  rw[Tryz.underlying48]at hv
  simp only at hv
  unfold Cell.okWide at hv
  rw[Tryz.underlying48]at hv
  simp only at hv
  unfold Cell.ok at hv
  rw[Tryz.underlying48]at hv
  cases v<;>first|rfl|exact hv.elim
 obtain⟨fuel,h⟩:=h
 rw[h1]at h
 obtain⟨l,hl,hV,_⟩:=qfd (fun a:Atom=>[.str a.pred,qk a.args]) Tryz.underlying48 z32 (by omega) (fun _=>rfl) ⟨⟨#[]⟩,[]⟩ (fun n cs x h=>qgH h) (show DataW.trod enc Tryz.prog W 0 (fun _=>true) hd fuel 48 [v]=some _ from h)
 exact⟨l,hl,hV⟩
theorem open_intP{base:Nat}{v:Value}(hv:Value.okWide Tryz.prog W .any base 3 v):∃n:Int,v=.int .i64 n:=by
 unfold Value.okWide at hv
 rw[Tryz.underlying3]at hv
 simp only at hv
 unfold Cell.okWide at hv
 rw[Tryz.underlying3]at hv
 simp only at hv
 unfold Cell.ok at hv
 rw[Tryz.underlying3]at hv
 cases v<;>first|(obtain⟨rfl,_⟩:=hv;exact⟨_,rfl⟩)|exact hv.elim
theorem z66:Tryz.prog.cellsOf 66=4:=by kernel_rfl
abbrev Fits(c:qv):Prop:=c.cls.length<2^63/\∀k∈c.cls,k.body.length<2^63
theorem qui{n:Nat}{cs:List Value}{x:DataW H×List MemPlace}(h:DataW.trod enc Tryz.prog W 0 (fun _=>true) hd n 66 cs=some x):∃c:{c:qv // Fits c},uQ W (qfH c.1) cs:=by
 obtain⟨xs,m,_,rfl,hl,hlen,hf⟩:=DataW.trod_struct Tryz.underlying66 h
 rw[z66]at hl
 match xs,hlen,cs,hl with
 |[y0,y1,y2,y3],_,[u0,u1,u2,u3],_=>
  have h0:=fld (t:=3) (off:=0) (c:=1) (hf 0 _ rfl) rfl rfl z3
  have h1:=fld (t:=3) (off:=1) (c:=1) (hf 1 _ rfl) rfl rfl z3
  have h2:=fld (t:=3) (off:=2) (c:=1) (hf 2 _ rfl) rfl rfl z3
  have h3:=fld (t:=23) (off:=3) (c:=1) (hf 3 _ rfl) rfl rfl z23
  obtain⟨i,rfl⟩:=qdX (show DataW.trod enc Tryz.prog W 0 (fun _=>true) hd m 3 [u0]=some y0 from h0)
  obtain⟨f,rfl⟩:=qdX (show DataW.trod enc Tryz.prog W 0 (fun _=>true) hd m 3 [u1]=some y1 from h1)
  obtain⟨t,rfl⟩:=qdX (show DataW.trod enc Tryz.prog W 0 (fun _=>true) hd m 3 [u2]=some y2 from h2)
  obtain⟨l,hlk,hV,h1c⟩:=qfd (fun c:{c:qf // c.body.length<2^63}=>ww c.1) Tryz.underlying23 z108 (by omega) (fun _=>rfl) ⟨⟨⟨⟨#[]⟩,[]⟩,[]⟩,by simp⟩ (fun n cs x h=>quj h) (show DataW.trod enc Tryz.prog W 0 (fun _=>true) hd m 23 [u3]=some y3 from h3)
  have e:(l.map (·.1)).map uH=l.map fun c=>LV.agg (ww c.1):=by rw[List.map_map];rfl
  refine⟨⟨⟨i,f,t,l.map (·.1)⟩,by rw[List.length_map];exact hlk,fun c hc=>?_⟩,.cons (.sc _) rfl (.cons (.sc _) rfl (.cons (.sc _) rfl (.cons ?_ h1c (.nil W))))⟩
  ·obtain⟨q,_,rfl⟩:=List.mem_map.1 hc
   exact q.2
  ·show VR (gOf W) W (.sl ((l.map (·.1)).map uH) .no) u3
   rw[e]
   exact hV
theorem open_customs{base:Nat}{v:Value}{d:DataW H}{p:List MemPlace}(h:DataW.Trod enc Tryz.prog W 0 (fun _=>true) hd 47 v d p)(hv:Value.okWide Tryz.prog W .any base 47 v):∃l:List qv,l.length<2^63/\qfY l/\VR (gOf W) W (.sl (l.map qY) .no) v:=by
 have h1:v.cells=#[v]:=by
  unfold Value.okWide at hv
  rw[Tryz.underlying47]at hv
  simp only at hv
  unfold Cell.okWide at hv
  rw[Tryz.underlying47]at hv
  simp only at hv
  unfold Cell.ok at hv
  rw[Tryz.underlying47]at hv
  cases v<;>first|rfl|exact hv.elim
 obtain⟨fuel,h⟩:=h
 rw[h1]at h
 obtain⟨l,hlk,hV,_⟩:=qfd (fun c:{c:qv // Fits c}=>qfH c.1) Tryz.underlying47 z66 (by omega) (fun _=>rfl) ⟨⟨0,0,0,[]⟩,by simp,fun k hk=>by cases hk⟩ (fun n cs x h=>qui h) (show DataW.trod enc Tryz.prog W 0 (fun _=>true) hd fuel 47 [v]=some _ from h)
 refine⟨l.map (·.1),by rw[List.length_map];exact hlk,fun c hc=>?_,?_⟩
 ·obtain⟨q,_,rfl⟩:=List.mem_map.1 hc
  exact q.2
 ·have e:(l.map (·.1)).map qY=l.map fun c=>LV.agg (qfH c.1):=by rw[List.map_map];rfl
  rw[e]
  exact hV
end
end Go.Abs.Tz
namespace Go.Abs.Tz
open Go Go.Abs Go.Proofs
set_option maxRecDepth 20000
set_option linter.unusedSimpArgs false
attribute [local simp ↓] yb ya jv ju gI ut zg zB jr up yP yQ yc ye yf yd jA jD jG jB jH jI jE jF jC jy jw jz jx yN yL yO yM g7 gZ g8 g6 yk yh yj uu zx jL zh z7 gL yS yT yo yq yp ym yn yz jO jT jW jS jU jV gy gx j5 j7 jb uZ jm jp u9 jh jl jk jj ji jf uV uW uX uY jn jd je uT jo jq ja jc jg uU gb j6 gu gC j8 gj gt gq gp gk gh j0 gw gf gg jX gA gD j9 gd gi jY gG gz jZ gF ge ga gc j3 gv jP jR jQ yu yx yt yv yw qp uL
attribute [local simp] faL fdL iaL ixL qL zb qV eqK eqL qR zo uO yr yK yA yC yE yG yI yJ yB yF yD yH zC LV.cells LV.whole qp uC uw jM stL zF zR uq qa.alloc gJ gH gK gY gW gV gU gT gS gQ gO gN gM qe ux
theorem qjU:∀b:List Lit,(qO b).length=qbq b
 |[]=>rfl
 |x::r=>by
  have ih:=qjU r
  rw[qfa]
  unfold qbq
  by_cases h:x.kind=1
  ·rw[if_pos h,if_pos h,List.length_cons,ih];omega
  ·rw[if_neg h,if_neg h,ih];omega
section
variable{l:List qf}{fuel:Nat}{R:Option (List (PK×Int))}{base:List Atom}
theorem qlJ(hI:qeA l fuel R base)(hM:qfT l R base)(ownB:Own)(ob:List (Nat×qc))(n:Nat)(hni:qQ ob){kv kp:HP}
  (hk:∀(ow:Own) n',n<=n'->kv (.tup [.sl ((zl l base).map qd) ow,.int (zO l base)]) ⟨ob,n'⟩):
  cP E0 F0 79 [qt l,.sl (base.map qd) ownB] ⟨ob,n⟩ kv kp:=by
 refine qsY hI ownB ob n hni (fun h0 n' hn'=>?_) (fun h0 B ow n' hB hn'=>?_)
 ·have e:zl l base=[]:=by unfold zl;rw[<-hM.err,if_pos h0]
  rw[hM.err]
  have:=hk .full n' hn'
  rw[e]at this
  exact this
 ·have:=hk ow n' hn'
  rw[<-hM.row h0 B hB,<-hM.err,h0]at this
  exact this
theorem qlK(hI:qeA l fuel R base)(hM:qfT l R base)(ownB:Own)(a:Atom)(ha:a.ok)(ob:List (Nat×qc))(n:Nat)(hni:qQ ob){kv kp:HP}
  (hk:∀n',n<=n'->kv (.tup [.bool (qaq l base a),.int (w8 l base a)]) ⟨ob,n'⟩):
  cP E0 F0 38 [qt l,.sl (base.map qd) ownB,qd a] ⟨ob,n⟩ kv kp:=by
 unfold qaq w8 at hk
 rw[<-hM.err]at hk
 refine qsZ hI ownB a ha ob n hni (fun h0 n' hn'=>?_) (fun h0 hb n' hn'=>?_) (fun h0 hb n' hn'=>?_)
 ·rw[if_pos h0,if_pos h0]at hk
  exact hk n' hn'
 ·rw[h0,hb]at hk
  exact hk n' hn'
 ·have hao:qM a=true:=by
   unfold qK at hb
   simp only[Bool.and_eq_true]at hb
   exact hb.1
  rw[h0,hb,<-hM.has h0 a hao]at hk
  exact hk n' hn'
end
theorem qlw(base:List Atom)(ownB:Own)(hb:base.length<2^63)(hok:base.length<=100->∀a∈base,a.ok)(ob:List (Nat×qc))(n:Nat)(hni:qQ ob){kv kp:HP}(hk:∀n',n<=n'->kv (.int (gE base)) ⟨ob,n'⟩):
  cP E0 F0 67 [.sl (base.map qd) ownB] ⟨ob,n⟩ kv kp:=by
 refine ur c67 fun hH=>⟨Nat.le_of_ble_eq_true rfl,?_⟩
 simp(disch:=omega)[b67]
 refine qpZ (a':=qt []) (b':=.sl (base.map qd) ownB) (H':=⟨ob,n⟩) (.inr (.inl rfl)) (.inl rfl) (HWk.refl _) (fun h=>h) ?_
 refine qlF [] ⟨fun _ c hc=>by cases hc⟩ 1 (some []) (fun _=>rfl) base ownB hb hok ob n hni (fun e he h n' hn=>?_) (fun _ m hm h100 hall om fo am ob' n' own' hn hB=>?_)
 ·have hg:gE base=e:=by
   unfold gE zp
   rw[if_neg (by simp[qA,wa]),if_neg (by simp)]
   rcases h with⟨h,_⟩|⟨_,h,_⟩|⟨_,_,h,rfl⟩|⟨_,_,h1,h2,rfl⟩
   ·exact absurd rfl h
   ·cases h
   ·rw[if_pos h]
   ·rw[if_neg (by omega),h2,if_neg (by simp)]
  rw[hg]at hk
  simp(disch:=omega)
  exact keep (hk n' hn)
 ·have hg:gE base=0:=by
   unfold gE zp
   rw[if_neg (by simp[qA,wa]),if_neg (by simp),if_neg (by omega),hall,if_pos rfl]
  rw[hg]at hk
  simp(disch:=omega)
  exact⟨⟨ob,n'⟩,vV hH (fun i hi=>hB.old i hi) (Nat.le_refl _),fun _=>qn.mono hH hn,hk n' hn⟩
theorem gE_r(base:List Atom):zp [] (zk []) base=gE base:=rfl
theorem qlk(base:List Atom)(ownB:Own)(hb:base.length<2^63)(hok:base.length<=100->∀a∈base,a.ok):qg 72 [Nl,.sl (base.map qd) ownB] (.int (gE base)):=by
 intro H kv kp hk
 refine qpZ (a':=qt []) (b':=.sl (base.map qd) ownB) (H':=H) (.inr (.inl rfl)) (.inl rfl) (HWk.refl _) (fun h=>h) ?_
 exact qll [] ⟨fun _ c hc=>by cases hc⟩ base ownB hb hok H kv kp fun n hn=>by rw[gE_r];exact hk n hn
theorem qsd(x y:Atom)(hx:x.ok)(hy:y.ok)(m:Nat)(ob:List (Nat×qc))(n:Nat)(hl:look m ob=some (.cells [.str x.pred,qk x.args])){kv kp:HP}(hk:∀n',n<=n'->kv (.bool (decide (cmpA y x=0))) ⟨ob,n'⟩):
  cP E0 F0 142 [qd y,.ptr m 0] ⟨ob,n⟩ kv kp:=by
 refine ur c142 fun hH=>⟨Nat.le_of_ble_eq_true rfl,?_⟩
 have hm:m<n:=hH.look hl
 simp(disch:=omega)[b142,hl]
 refine(qta x y hx hy).go fun n1 hn1=>?_
 have e:decide (cmpA y x=0)=decide (cmpA x y=0):=decide_eq_decide.2 (by rw[v8.zero,v8.zero];exact eq_comm)
 rw[e]at hk
 simp(disch:=omega)
 exact⟨⟨ob,n1⟩,y9 hH (Nat.le_refl _),fun _=>qn.mono hH (show n<=n1 by omega),hk _ (by omega)⟩
theorem qsq(l:List Atom)(hl:l.length<=2^20)(own:Own)(g:FuncId)(p:Atom->Bool)(m:Nat)(ob:List (Nat×qc))(n:Nat)(hg:qhH g qd m ob n p l){kv kp:HP}(hk:∀n',n<=n'->kv (.int (wN p l 0)) ⟨ob,n'⟩):
  cP E0 F0 183 [.sl (l.map qd) own,.fn (.func g) [] [.ptr m 0]] ⟨ob,n⟩ kv kp:=by
 refine ur c183 fun hH=>⟨Nat.le_of_ble_eq_true rfl,?_⟩
 simp(disch:=omega)[b183]
 obtain⟨A,hA⟩:∃A,wN p l 0=A:=⟨_,rfl⟩
 rw[hA]at hk
 refine qy (σ:=NN) (fun q=>(.nd (.sl (l.map qd) own) (.nd (.fn (.func g) [] [.ptr m 0]) (.nd .bot (.nd (.int l.length) .nil .nil) .nil) .nil) (.nd .bot (.nd .bot (.nd (.int q.i) .nil .nil) .nil) (.nd (.sl (l.map qd) own) .nil .nil)))) (fun q=>⟨ob,q.n⟩) (fun q=>l.length - q.i)
  (fun q=>n<=q.n/\q.i<=l.length/\wN p (l.drop q.i) q.i=A) ⟨0,n⟩ ⟨Nat.le_refl _,Nat.zero_le _,hA⟩ (by simp[FT.Le,Wk]) ⟨HWk.refl _,fun h=>h⟩ ?_
 rintro⟨q,k⟩ ⟨hn,hq,he⟩ hok
 dsimp only at hn hq he hok
 by_cases hlt:q<l.length
 ·rw[List.drop_eq_getElem_cons hlt]at he
  simp(disch:=omega)[hlt]
  refine hg l[q] (List.getElem_mem hlt) k _ _ hn fun n1 h1=>?_
  cases ht:p l[q]
  ·simp[wN,ht]at he
   simp(disch:=omega)[qi (show q<2^62 by omega)]
   exact⟨⟨q+1,n1⟩,by dsimp only;omega,⟨by dsimp only;omega,by dsimp only;omega,he⟩,by simp[FT.Le,Wk],HWk.refl _,fun h=>h⟩
  ·simp[wN,ht]at he
   simp(disch:=omega)
   exact keep (by rw[<-he]at hk;exact hk n1 (by omega))
 ·obtain rfl:q=l.length:=by omega
  rw[List.drop_eq_nil_of_le (Nat.le_refl _)]at he
  simp(disch:=omega)
  simp[wN]at he
  exact keep (by rw[<-he]at hk;exact hk k hn)
theorem qsU(l:List Atom)(hl:l.length<=2^20)(own:Own)(g:FuncId)(p:Atom->Bool)(m:Nat)(ob:List (Nat×qc))(n:Nat)(hg:qhH g qd m ob n p l){kv kp:HP}(hk:∀n',n<=n'->kv (.bool (l.any p)) ⟨ob,n'⟩):
  cP E0 F0 141 [.sl (l.map qd) own,.fn (.func g) [] [.ptr m 0]] ⟨ob,n⟩ kv kp:=by
 refine ur c141 fun hH=>⟨Nat.le_of_ble_eq_true rfl,?_⟩
 simp(disch:=omega)[b141]
 refine qsq l hl own g p m ob n hg fun n1 hn1=>?_
 simp(disch:=omega)
 exact keep (by rw[qjv];exact hk n1 hn1)
structure NNcM where
 i:Nat
 n:Nat
 es:List Atom
 own:Own
 ob:List (Nat×qc)
theorem qnu{A:List Atom}{i:Nat}(h:i<A.length)(B:List Atom):vR (A.drop i) B=(if ws B A[i] then [] else [A[i]])++vR (A.drop (i+1)) B:=by
 rw[List.drop_eq_getElem_cons h]
 unfold vR
 rw[List.filter_cons]
 cases ws B A[i]<;>simp
theorem qls(A B:List Atom)(o1 o2:Own)(hA:A.length<=2^18)(hB:B.length<=2^18)(hao:∀a∈A,a.ok)(hbo:∀a∈B,a.ok):qg 80 [.sl (A.map qd) o1,.sl (B.map qd) o2] (.sl ((vR A B).map qd) .no):=by
 intro H kv kp hk
 refine qah c80 fun hH=>⟨Nat.le_of_ble_eq_true rfl,?_⟩
 simp(disch:=omega)[b80]
 obtain⟨L,hL⟩:∃L,vR A B=L:=⟨_,rfl⟩
 rw[hL]at hk
 refine qy (σ:=NNcM) (fun q=>(.nd .bot (.nd (.sl (B.map qd) o2) .nil (.nd (.sl (q.es.map qd) q.own) (.nd (.int A.length) .nil .nil) .nil)) (.nd .bot (.nd .bot (.nd (.sl (A.map qd) o1) .nil .nil) .nil) (.nd .bot (.nd (.int q.i) .nil .nil) .nil)))) (fun q=>⟨q.ob,q.n⟩) (fun q=>A.length - q.i)
  (fun q=>zP H 2 q.es.length q.own q.ob q.n/\H.next<=q.n/\q.i<=A.length/\q.es.length<=q.i/\q.es++vR (A.drop q.i) B=L) ⟨0,H.next,[],.full,H.objs⟩ ⟨.inl ⟨rfl,rfl,Nat.le_refl _⟩,Nat.le_refl _,Nat.zero_le _,Nat.le_refl _,hL⟩ (by simp[FT.Le,Wk]) ⟨HWk.refl _,fun h=>h⟩ ?_
 rintro⟨i,n,es,ow,ob⟩ ⟨hr,hn,hi,hes,he⟩ hok
 dsimp only at hr hn hi hes he hok
 by_cases hlt:i<A.length
 case neg=>
  rw[List.drop_eq_nil_of_le (by omega)]at he
  have he2:es=L:=by simpa [vR] using he
  subst he2
  simp(disch:=omega)[hlt]
  exact⟨.sl (es.map qd) .no,qde es ow,⟨H.objs,n⟩,hr.keep hH,fun _=>qn.mono hH hn,hk n hn⟩
 rw[qnu hlt]at he
 have hai:=hao _ (List.getElem_mem hlt)
 simp(disch:=omega)[hlt]
 refine qsU B (by omega) o2 142 (fun y=>decide (cmpA y A[i]=0)) n _ _ (fun y hy n' kv kp hn' hk=>qsd A[i] y hai (hbo y hy) n _ n' (qp _ _ _) hk) fun n2 hn2=>?_
 obtain⟨V,hV⟩:∃V,ws B A[i]=V:=⟨_,rfl⟩
 have hV2:(B.any fun y=>decide (cmpA y A[i]=0))=V:=hV
 rw[hV]at he
 rw[hV2]
 cases V
 ·rw[if_neg (by simp),<-List.append_assoc]at he
  simp(disch:=omega)
  refine qU ?_
  simp(disch:=omega)
  obtain⟨own2,ob2,ob3,n3,e1,hr3,hn3,hw3,ho3⟩:=qiv (m:=n) (k:=n2) (cs:=.cells [.str A[i].pred,qk A[i].args]) hH (sz:=2) (es:=es.map qd) (Y:=[qd A[i]]) (by omega) (wW es) rfl (by rw[List.length_map,List.length_singleton];omega) (by rw[List.length_map];exact hr) (Nat.le_refl _) (by omega)
  rw[List.length_map,List.length_singleton]at hr3
  have e2:es.map qd++[qd A[i]]=(es++[A[i]]).map qd:=by simp
  rw[e2]at e1
  rw[show apL ⟨(n,.cells [.str A[i].pred,qk A[i].args])::ob,n2⟩ 2 (.sl (es.map qd) ow) (.sl [.agg [.str A[i].pred,qk A[i].args]] _)=_ from e1 _]
  simp(disch:=omega)[qi (show i<2^62 by omega)]
  exact⟨⟨i+1,n3,es++[A[i]],own2,ob3⟩,by dsimp only;omega,⟨by rw[List.length_append,List.length_singleton];exact hr3,by dsimp only;omega,by dsimp only;omega,by simp;omega,he⟩,by simp[FT.Le,Wk],hw3,ho3⟩
 ·rw[if_pos rfl,List.nil_append]at he
  simp(disch:=omega)[qi (show i<2^62 by omega)]
  exact⟨⟨i+1,n2,es,ow,ob⟩,by dsimp only;omega,⟨hr.mono (by dsimp only;omega),by dsimp only;omega,by dsimp only;omega,by dsimp only;omega,he⟩,by simp[FT.Le,Wk],y9 hok (Nat.le_refl _),fun _=>qn.mono hok (by dsimp only;omega)⟩
theorem qlf(A B:List Atom)(o1 o2:Own)(hA:A.length<=2^18)(hB:B.length<=2^18)(hao:∀a∈A,a.ok)(hbo:∀a∈B,a.ok):qg 82 [.sl (A.map qd) o1,.sl (B.map qd) o2] (.sl ((vR A B).map qd) .no):=by
 intro H kv kp hk
 refine qah c82 fun hH=>⟨Nat.le_of_ble_eq_true rfl,?_⟩
 simp(disch:=omega)[b82]
 obtain⟨L,hL⟩:∃L,vR A B=L:=⟨_,rfl⟩
 rw[hL]at hk
 refine qy (σ:=NNcM) (fun q=>(.nd (.sl (A.map qd) o1) (.nd (.sl (B.map qd) o2) .nil (.nd (.sl (q.es.map qd) q.own) .nil .nil)) (.nd .bot .nil (.nd (.int q.i) .nil .nil)))) (fun q=>⟨q.ob,q.n⟩) (fun q=>A.length - q.i)
  (fun q=>zP H 2 q.es.length q.own q.ob q.n/\H.next<=q.n/\q.i<=A.length/\q.es.length<=q.i/\q.es++vR (A.drop q.i) B=L) ⟨0,H.next,[],.full,H.objs⟩ ⟨.inl ⟨rfl,rfl,Nat.le_refl _⟩,Nat.le_refl _,Nat.zero_le _,Nat.le_refl _,hL⟩ (by simp[FT.Le,Wk]) ⟨HWk.refl _,fun h=>h⟩ ?_
 rintro⟨i,n,es,ow,ob⟩ ⟨hr,hn,hi,hes,he⟩ hok
 dsimp only at hr hn hi hes he hok
 by_cases hlt:i<A.length
 case neg=>
  rw[List.drop_eq_nil_of_le (by omega)]at he
  have he2:es=L:=by simpa [vR] using he
  subst he2
  simp(disch:=omega)[hlt]
  exact⟨.sl (es.map qd) .no,qde es ow,⟨H.objs,n⟩,hr.keep hH,fun _=>qn.mono hH hn,hk n hn⟩
 rw[qnu hlt]at he
 have hai:=hao _ (List.getElem_mem hlt)
 simp(disch:=omega)[hlt]
 refine(qhV B o2 A[i] (by omega) hbo hai).go fun n2 hn2=>?_
 cases hV:ws B A[i]
 ·rw[hV,if_neg (by simp),<-List.append_assoc]at he
  simp(disch:=omega)[hlt]
  refine qU ?_
  simp(disch:=omega)
  obtain⟨own2,ob2,n3,e1,hr3,hn3⟩:=vg (sz:=2) (es:=es.map qd) (Y:=[qd A[i]]) (by omega) (wW es) rfl (by rw[List.length_map,List.length_singleton];omega) (by rw[List.length_map];exact hr.mono hn2)
  rw[List.length_map,List.length_singleton]at hr3
  have e2:es.map qd++[qd A[i]]=(es++[A[i]]).map qd:=by simp
  rw[e2]at e1
  rw[show apL ⟨ob,n2⟩ 2 (.sl (es.map qd) ow) (.sl [.agg [.str A[i].pred,qk A[i].args]] _)=_ from e1 _]
  simp(disch:=omega)[qi (show i<2^62 by omega)]
  exact⟨⟨i+1,n3,es++[A[i]],own2,ob2⟩,by dsimp only;omega,⟨by rw[List.length_append,List.length_singleton];exact hr3,by dsimp only;omega,by dsimp only;omega,by simp;omega,he⟩,by simp[FT.Le,Wk],HWk.refl _,fun h=>h⟩
 ·rw[hV,if_pos rfl,List.nil_append]at he
  simp(disch:=omega)[qi (show i<2^62 by omega)]
  exact⟨⟨i+1,n2,es,ow,ob⟩,by dsimp only;omega,⟨hr.mono hn2,by dsimp only;omega,by dsimp only;omega,by dsimp only;omega,he⟩,by simp[FT.Le,Wk],HWk.refl _,fun h=>h⟩
theorem zP.noit{H:qa}{sz len:Nat}{own:Own}{ob:List (Nat×qc)}{n:Nat}(hni:qQ H.objs)(h:zP H sz len own ob n):qQ ob:=by
 rcases h with⟨_,rfl,_⟩|⟨t,_,_,_,rfl⟩
 ·exact hni
 ·exact hni.cons _ rfl
structure qcV(l:List qv)(base:List Atom):Prop extends CustIn l where
 pos3:l.length<=30->∀c∈l,c.cls.length<=40->∀k∈c.cls,(qO k.body).length<=3
 hb:base.length<2^63
 hok:base.length<=100->∀a∈base,a.ok
section
variable{l:List qv}{base:List Atom}
theorem qbP(hI:qcV l base){y:Int}(h:uP l y=0)(x w:Int):RIn (qB l x w) base/\∃fuel R,qeA (qB l x w) fuel R base/\qfT (qB l x w) R base:=by
 obtain⟨hcu,_⟩:=qqs h
 obtain⟨hC,_,h30⟩:=qpz hcu
 have h40:∀c∈l,c.cls.length<=40:=fun c hc=>(qfJ (hC.ok c hc).2).1
 have hS:qbv (qB l x w):=⟨fun _ k hk=>by
  obtain⟨c,hc,hkc⟩:=qjb hk
  exact(hI.sm h30 c hc).ok3 (h40 c hc) k hkc⟩
 obtain⟨fuel,R,hR,hRb,hM⟩:=quW (qB l x w) base
 exact⟨⟨hS,fun _ k hk=>by
  obtain⟨c,hc,hkc⟩:=qjb hk
  exact hI.pos3 h30 c hc (h40 c hc) k hkc,hI.hb,hI.hok⟩,fuel,R,⟨hS,hR,hRb,hI.hb,hI.hok⟩,hM⟩
structure NNcS where
 i:Nat
 n:Nat
 out:List Int
 own:Own
 ob:List (Nat×qc)
theorem qmI{A:List qv}{y:Int}{base:List Atom}{a:Atom}{now:Bool}{l:List qv}{i:Nat}(h:i<l.length)(out:List Int):
  qbH A y base a now (l.drop i) out=if l[i].fr<=y/\y<=l[i].to then (if w8 (qB A y l[i].id) base a≠0 then ([],w8 (qB A y l[i].id) base a) else
   qbH A y base a now (l.drop (i+1)) (if qaq (qB A y l[i].id) base a=now then out else out++[l[i].id])) else qbH A y base a now (l.drop (i+1)) out:=by
 rw[List.drop_eq_getElem_cons h]
 rfl
set_option maxHeartbeats 1000000 in
theorem qih(hI:qcV l base)(own ownB:Own)(y:Int)(a:Atom)(ha:a.ok)(ob:List (Nat×qc))(n:Nat)(hni:qQ ob){kv kp:HP}
  (hk:∀(ow:Own) n',n<=n'->kv (.tup [.sl (zJ (qao l base y a).1) ow,.int (qao l base y a).2]) ⟨ob,n'⟩):
  cP E0 F0 22 [.sl (l.map qY) own,.sl (base.map qd) ownB,.int y,qd a] ⟨ob,n⟩ kv kp:=by
 refine ur c22 fun hH=>⟨Nat.le_of_ble_eq_true rfl,?_⟩
 have hOb:qn ob n:=hH
 obtain⟨V,hV⟩:∃V,qao l base y a=V:=⟨_,rfl⟩
 rw[hV]at hk
 have fin:∀(m:Nat)(x:qc)(ow:Own)(v1:List Int)(v2:Int),n<=m->V=(v1,v2)->∃H'',HWk ⟨(n,x)::ob,m⟩ H''/\(qa.Ok ⟨(n,x)::ob,m⟩->H''.Ok)/\kv (.tup [.sl (zJ v1) ow,.int v2]) H'':=fun m x ow v1 v2 hm e=>by
  subst e
  exact⟨⟨ob,m⟩,y9 hOb (Nat.le_refl _),fun _=>hOb.mono hm,hk ow m hm⟩
 unfold qao at hV
 simp(disch:=omega)[b22]
 refine(qig l own y hI.toCustIn).go fun n1 hn1=>?_
 by_cases h1:uP l y=0
 case neg=>
  rw[if_pos h1]at hV
  simp(disch:=omega)[h1]
  exact fin _ _ .full [] _ (by omega) hV.symm
 rw[if_neg (by simpa using h1)]at hV
 rw[h1]
 simp(disch:=omega)
 refine qlw base ownB hI.hb hI.hok _ _ (hni.cons _ rfl) fun n2 hn2=>?_
 by_cases h2:gE base=0
 case neg=>
  rw[if_pos h2]at hV
  simp(disch:=omega)[h2]
  exact fin _ _ .full [] _ (by omega) hV.symm
 rw[if_neg (by simpa using h2)]at hV
 rw[h2]
 simp(disch:=omega)
 refine(qeO a ha).go fun n3 hn3=>?_
 have ret1:qK a=false->V=([],1):=fun h=>by rw[if_pos h]at hV;exact hV.symm
 cases ho:qM a
 ·have hb0:qK a=false:=by simp[qK,ho]
  simp(disch:=omega)
  exact fin _ _ .full [] 1 (by omega) (ret1 hb0)
 simp(disch:=omega)
 refine(qic a ha).go fun n4 hn4=>?_
 cases hg:a.args.all ua
 ·have hb0:qK a=false:=by simp[qK,hg]
  simp(disch:=omega)
  exact fin _ _ .full [] 1 (by omega) (ret1 hb0)
 have hb1:qK a=true:=by simp[qK,ho,hg]
 rw[if_neg (by rw[hb1];simp)]at hV
 obtain⟨hl30,_⟩:=qbT h1 y 0
 have hfl:=fun w=>(qbT h1 y w).2
 have k1:look n ((n,qc.cells [.str a.pred,qk a.args])::ob)=some (.cells [.str a.pred,qk a.args]):=qp _ _ _
 simp(disch:=omega)[k1]
 refine(qeP l own y 0 (by omega) (by have:=hfl 0;omega)).go fun n5 hn5=>?_
 obtain⟨_,fuel,R,hMI,hM⟩:=qbP hI h1 y 0
 simp(disch:=omega)[k1]
 refine qlK hMI hM ownB a ha _ _ (hni.cons _ rfl) fun n6 hn6=>?_
 by_cases h3:w8 (qB l y 0) base a=0
 case neg=>
  rw[if_pos h3]at hV
  simp(disch:=omega)[h3]
  exact fin _ _ .full [] _ (by omega) hV.symm
 rw[if_neg (by simpa using h3)]at hV
 obtain⟨now,hnow⟩:∃x,qaq (qB l y 0) base a=x:=⟨_,rfl⟩
 rw[hnow]at hV
 rw[hnow,h3]
 simp(disch:=omega)
 have hH1:qa.Ok ⟨(n,.cells [.str a.pred,qk a.args])::ob,n+1⟩:=⟨Nat.lt_succ_self _,hOb⟩
 refine qy (σ:=NNcS) (fun q=>(.nd (.sl (l.map qY) own) (.nd (.sl (base.map qd) ownB) (.nd .bot (.nd (.ptr n 0) .nil .nil) (.nd .bot (.nd .bot .nil (.nd (.int l.length) .nil .nil)) .nil)) .nil) (.nd (.int y) (.nd .bot .nil (.nd (.bool now) (.nd .bot .nil (.nd (.int q.i) .nil .nil)) .nil)) (.nd .bot (.nd .bot (.nd .bot .nil (.nd (.sl (l.map qY) own) .nil .nil)) .nil) (.nd (.sl (zJ q.out) q.own) .nil .nil))))) (fun q=>⟨q.ob,q.n⟩) (fun q=>l.length - q.i)
  (fun q=>zP ⟨(n,.cells [.str a.pred,qk a.args])::ob,n+1⟩ 1 q.out.length q.own q.ob q.n/\n+1<=q.n/\q.i<=l.length/\q.out.length<=q.i/\qbH l y base a now (l.drop q.i) q.out=V) ⟨0,n6,[],.full,(n,.cells [.str a.pred,qk a.args])::ob⟩ ⟨.inl ⟨rfl,rfl,by dsimp only;omega⟩,by dsimp only;omega,Nat.zero_le _,Nat.le_refl _,hV⟩ (by simp[FT.Le,Wk]) ⟨HWk.refl _,fun h=>h⟩ ?_
 rintro⟨i,m,out,ow,ob2⟩ ⟨hr,hm,hi,hol,he⟩ hok
 dsimp only at hr hm hi hol he hok
 have hold:=hr.old
 dsimp only at hold
 have kq:∀x:qc,look n ((m,x)::ob2)=some (.cells [.str a.pred,qk a.args]):=fun x=>by rw[qe (by omega),hold.2 n (by omega)];exact qp _ _ _
 have holdq:∀(x:qc)(j:Nat),j<n->look j ((m,x)::ob2)=look j ob:=fun x j hj=>by rw[qe (by omega),hold.2 j (by omega),qe (by omega)]
 have finq:∀(q:Nat)(x:qc)(ow:Own)(v1:List Int)(v2:Int),n<=q->V=(v1,v2)->∃H'',HWk ⟨(m,x)::ob2,q⟩ H''/\(qa.Ok ⟨(m,x)::ob2,q⟩->H''.Ok)/\kv (.tup [.sl (zJ v1) ow,.int v2]) H'':=fun q x ow v1 v2 hq e=>by
  subst e
  exact⟨⟨ob,q⟩,vV hH (holdq x) (Nat.le_refl _),fun _=>hOb.mono hq,hk ow q hq⟩
 by_cases hlt:i<l.length
 case neg=>
  rw[List.drop_eq_nil_of_le (by omega)]at he
  have he2:V=(out,0):=he.symm
  simp(disch:=omega)[hlt]
  subst he2
  exact⟨⟨ob,m⟩,vV hH (fun j hj=>by rw[hold.2 j (by omega),qe (by omega)]) (Nat.le_refl _),fun _=>hOb.mono (by dsimp only;omega),hk ow m (by omega)⟩
 rw[qmI hlt]at he
 have hok2:qn ob2 m:=hok
 simp(disch:=omega)[hlt]
 refine(qeK y l[i].fr l[i].to).go fun m2 hm2=>?_
 obtain⟨B,hB⟩:∃B,(decide (l[i].fr<=y)&&decide (y<=l[i].to))=B:=⟨_,rfl⟩
 rw[hB]
 cases B
 ·have hf:¬(l[i].fr<=y/\y<=l[i].to):=fun h=>by rw[decide_eq_true h.1,decide_eq_true h.2]at hB;cases hB
  rw[if_neg hf]at he
  simp(disch:=omega)[qi (show i<2^62 by omega)]
  exact⟨⟨i+1,m2,out,ow,ob2⟩,by dsimp only;omega,⟨hr.mono (by dsimp only;omega),by dsimp only;omega,by dsimp only;omega,by dsimp only;omega,he⟩,by simp[FT.Le,Wk],y9 hok2 (Nat.le_refl _),fun _=>hok2.mono (by dsimp only;omega)⟩
 have hf:l[i].fr<=y/\y<=l[i].to:=by
  rw[Bool.and_eq_true,decide_eq_true_iff,decide_eq_true_iff]at hB
  exact hB
 rw[if_pos hf]at he
 simp(disch:=omega)[kq]
 refine(qeP l own y l[i].id (by omega) (by have:=hfl l[i].id;omega)).go fun m3 hm3=>?_
 obtain⟨_,fuel2,R2,hMI2,hM2⟩:=qbP hI h1 y l[i].id
 simp(disch:=omega)[kq]
 refine qlK hMI2 hM2 ownB a ha _ _ ((hr.noit (hni.cons _ rfl)).cons _ rfl) fun m4 hm4=>?_
 by_cases h4:w8 (qB l y l[i].id) base a=0
 case neg=>
  rw[if_pos h4]at he
  simp(disch:=omega)[h4]
  exact finq _ _ .full [] _ (by omega) he.symm
 rw[if_neg (by simpa using h4)]at he
 rw[h4]
 obtain⟨now2,hnow2⟩:∃x,qaq (qB l y l[i].id) base a=x:=⟨_,rfl⟩
 rw[hnow2]at he ⊢
 by_cases hs:now2=now
 ·rw[if_pos hs]at he
  simp(disch:=omega)[hs,qi (show i<2^62 by omega)]
  exact⟨⟨i+1,m4,out,ow,ob2⟩,by dsimp only;omega,⟨hr.mono (by dsimp only;omega),by dsimp only;omega,by dsimp only;omega,by dsimp only;omega,he⟩,by simp[FT.Le,Wk],y9 hok2 (Nat.le_refl _),fun _=>hok2.mono (by dsimp only;omega)⟩
 ·rw[if_neg hs]at he
  have hs1:(now2==now)=false:=by simpa using hs
  have hs2:(!now2==now)=true:=by cases now2<;>cases now<;>first|rfl|exact absurd rfl hs
  simp(disch:=omega)[hs,hs1,hs2]
  refine qU ?_
  simp(disch:=omega)
  obtain⟨own2,ob3,ob4,m5,e1,hr3,hn3,hw3,ho3⟩:=qiv (m:=m) (k:=m4) (cs:=.cells [.int l[i].id,.int l[i].fr,.int l[i].to,qt l[i].cls]) hH1 (sz:=1) (es:=zJ out) (Y:=[.int l[i].id]) (by omega) (vT out) rfl (by rw[List.length_map,List.length_singleton];omega) (by rw[List.length_map];exact hr) (Nat.le_refl _) (by omega)
  rw[List.length_map,List.length_singleton]at hr3
  have e2:zJ out++[.int l[i].id]=zJ (out++[l[i].id]):=by simp
  rw[e2]at e1
  rw[e1]
  simp(disch:=omega)[qi (show i<2^62 by omega)]
  exact⟨⟨i+1,m5,out++[l[i].id],own2,ob4⟩,by dsimp only;omega,⟨by rw[List.length_append,List.length_singleton];exact hr3,by dsimp only;omega,by dsimp only;omega,by simp;omega,he⟩,by simp[FT.Le,Wk],hw3,ho3⟩
theorem qtd(l:List Int)(e:Int)(ow:Own):Wk (.agg [.sl (zJ l) ow,.int e]) (.agg [.sl (zJ l) .no,.int e]):=by
 refine .inr (.inl ?_)
 simp[LV.strip,stripL,qba,List.map_map,Function.comp_def]
set_option maxHeartbeats 1000000 in
theorem qrV(hI:qcV l base)(own ownB:Own)(y:Int)(a:Atom)(ha:a.ok)(H:qa){kv kp:HP}
  (hk:∀n',H.next<=n'->kv (.agg [.sl (zJ (qao l base y a).1) .no,.int (qao l base y a).2]) ⟨H.objs,n'⟩):
  cP E0 F0 23 [.sl (l.map qY) own,.sl (base.map qd) ownB,.int y,qd a] H kv kp:=by
 refine qah c23 fun hH=>⟨Nat.le_of_ble_eq_true rfl,?_⟩
 obtain⟨N0,hN0⟩:∃N0,H.next=N0:=⟨_,rfl⟩
 obtain⟨ob,n⟩:=H
 dsimp only at hN0 hk
 subst hN0
 have hOb:qn ob n:=hH
 obtain⟨V,hV⟩:∃V,qao l base y a=V:=⟨_,rfl⟩
 rw[hV]at hk
 have fin:∀(ob':List (Nat×qc))(m:Nat)(ow:Own)(v1:List Int)(v2:Int),n<=m->(∀i,i<n->look i ob'=look i ob)->V=(v1,v2)->∃v',Wk (.agg [.sl (zJ v1) ow,.int v2]) v'/\∃H'',HWk ⟨ob',m⟩ H''/\(qa.Ok ⟨ob',m⟩->H''.Ok)/\kv v' H'':=fun ob' m ow v1 v2 hm ho e=>by
  subst e
  exact⟨_,qtd v1 v2 ow,⟨ob,m⟩,vV hH ho (Nat.le_refl _),fun _=>hOb.mono hm,hk m hm⟩
 have hold0:∀(x z:qc)(i:Nat),i<n->look i ((n+1,x)::(n,z)::ob)=look i ob:=fun x z i hi=>by rw[qe (by omega),qe (by omega)]
 unfold qao at hV
 simp(disch:=omega)[b23]
 refine(qlo l own y hI.toCustIn).go fun n1 hn1=>?_
 by_cases h1:uP l y=0
 case neg=>
  rw[if_pos h1]at hV
  simp(disch:=omega)[h1]
  exact fin _ _ .full [] _ (by omega) (hold0 _ _) hV.symm
 rw[if_neg (by simpa using h1)]at hV
 rw[h1]
 simp(disch:=omega)
 refine(qlk base ownB hI.hb hI.hok).go fun n2 hn2=>?_
 by_cases h2:gE base=0
 case neg=>
  rw[if_pos h2]at hV
  simp(disch:=omega)[h2]
  exact fin _ _ .full [] _ (by omega) (hold0 _ _) hV.symm
 rw[if_neg (by simpa using h2)]at hV
 rw[h2]
 have k1:∀x:qc,look n ((n+1,x)::(n,qc.cells [.str a.pred,qk a.args])::ob)=some (.cells [.str a.pred,qk a.args]):=fun x=>by rw[qe (by omega)];exact qp _ _ _
 simp(disch:=omega)[k1]
 refine(qeN a ha).go fun n3 hn3=>?_
 simp(disch:=omega)[k1]
 refine(qhW a ha).go fun n4 hn4=>?_
 have ret1:qK a=false->V=([],1):=fun h=>by rw[if_pos h]at hV;exact hV.symm
 cases ho:qM a
 ·have hb0:qK a=false:=by simp[qK,ho]
  simp(disch:=omega)
  exact fin _ _ .full [] 1 (by omega) (hold0 _ _) (ret1 hb0)
 cases hg:a.args.all ua
 ·have hb0:qK a=false:=by simp[qK,hg]
  simp(disch:=omega)
  exact fin _ _ .full [] 1 (by omega) (hold0 _ _) (ret1 hb0)
 have hb1:qK a=true:=by simp[qK,ho,hg]
 rw[if_neg (by rw[hb1];simp)]at hV
 obtain⟨hl30,_⟩:=qbT h1 y 0
 have hfl:=fun w=>(qbT h1 y w).2
 simp(disch:=omega)[k1]
 refine(qeM l own y 0 (by omega) (by have:=hfl 0;omega)).go fun n5 hn5=>?_
 obtain⟨hRI,_,R,_,hM⟩:=qbP hI h1 y 0
 simp(disch:=omega)[k1]
 refine qlq hRI ⟨hM.len,hM.good⟩ ownB a ha _ fun n6 hn6=>?_
 dsimp only at hn6
 by_cases h3:w8 (qB l y 0) base a=0
 case neg=>
  rw[if_pos h3]at hV
  simp(disch:=omega)[h3]
  exact fin _ _ .full [] _ (by omega) (hold0 _ _) hV.symm
 rw[if_neg (by simpa using h3)]at hV
 obtain⟨now,hnow⟩:∃x,qaq (qB l y 0) base a=x:=⟨_,rfl⟩
 rw[hnow]at hV
 rw[hnow,h3]
 simp(disch:=omega)
 refine qy (σ:=NNcS) (fun q=>(.nd (.sl (l.map qY) own) (.nd (.sl (base.map qd) ownB) (.nd .bot (.nd (.ptr n 0) (.nd (.sl (zJ q.out) q.own) .nil .nil) .nil) .nil) (.nd .bot .nil (.nd (.bool now) .nil .nil))) (.nd (.int y) (.nd .bot (.nd (.ptr (n+1) 0) (.nd (.int q.i) .nil .nil) .nil) .nil) .nil))) (fun q=>⟨q.ob,q.n⟩) (fun q=>l.length - q.i)
  (fun q=>zP ⟨(n+1,.cells [Nl,.int 0])::(n,.cells [.str a.pred,qk a.args])::ob,n+1+1⟩ 1 q.out.length q.own q.ob q.n/\n+1+1<=q.n/\q.i<=l.length/\q.out.length<=q.i/\qbH l y base a now (l.drop q.i) q.out=V) ⟨0,n6,[],.full,(n+1,.cells [Nl,.int 0])::(n,.cells [.str a.pred,qk a.args])::ob⟩ ⟨.inl ⟨rfl,rfl,by dsimp only;omega⟩,by dsimp only;omega,Nat.zero_le _,Nat.le_refl _,hV⟩ (by simp[FT.Le,Wk]) ⟨HWk.refl _,fun h=>h⟩ ?_
 rintro⟨i,m,out,ow,ob2⟩ ⟨hr,hm,hi,hol,he⟩ hok
 dsimp only at hr hm hi hol he hok
 have hold:=hr.old
 dsimp only at hold
 have kq:look n ob2=some (.cells [.str a.pred,qk a.args]):=by rw[hold.2 n (by omega),qe (by omega)];exact qp _ _ _
 have kr:look (n+1) ob2=some (.cells [Nl,.int 0]):=by rw[hold.2 (n+1) (by omega)];exact qp _ _ _
 have hlp:∀x,look (n+1) (qx (n+1) x ob2)=some x:=fun x=>vI kr
 have holdq:∀(x:qc)(j:Nat),j<n->look j (qx (n+1) x ob2)=look j ob:=fun x j hj=>by rw[vS (by omega),hold.2 j (by omega),qe (by omega),qe (by omega)]
 by_cases hlt:i<l.length
 case neg=>
  rw[List.drop_eq_nil_of_le (by omega)]at he
  have he2:V=(out,0):=he.symm
  simp(disch:=omega)[hlt,kr,hlp]
  exact fin _ _ ow out 0 (by omega) (holdq _) he2
 rw[qmI hlt]at he
 by_cases hf1:y<l[i].fr
 ·rw[if_neg (by omega)]at he
  simp(disch:=omega)[hlt,hf1,qi (show i<2^62 by omega)]
  exact⟨⟨i+1,m,out,ow,ob2⟩,by dsimp only;omega,⟨hr,by dsimp only;omega,by dsimp only;omega,by dsimp only;omega,he⟩,by simp[FT.Le,Wk],HWk.refl _,fun h=>h⟩
 by_cases hf2:l[i].to<y
 ·rw[if_neg (by omega)]at he
  simp(disch:=omega)[hlt,hf1,hf2,qi (show i<2^62 by omega)]
  exact⟨⟨i+1,m,out,ow,ob2⟩,by dsimp only;omega,⟨hr,by dsimp only;omega,by dsimp only;omega,by dsimp only;omega,he⟩,by simp[FT.Le,Wk],HWk.refl _,fun h=>h⟩
 rw[if_pos (by omega)]at he
 simp(disch:=omega)[hlt,hf1,hf2,kq]
 refine(qeM l own y l[i].id (by omega) (by have:=hfl l[i].id;omega)).go fun m3 hm3=>?_
 obtain⟨hRI2,_,R2,_,hM2⟩:=qbP hI h1 y l[i].id
 simp(disch:=omega)[kq]
 refine qlq hRI2 ⟨hM2.len,hM2.good⟩ ownB a ha _ fun m4 hm4=>?_
 dsimp only at hm4
 by_cases h4:w8 (qB l y l[i].id) base a=0
 case neg=>
  rw[if_pos h4]at he
  simp(disch:=omega)[h4,kr,hlp]
  exact fin _ _ .full [] _ (by omega) (holdq _) he.symm
 rw[if_neg (by simpa using h4)]at he
 rw[h4]
 obtain⟨now2,hnow2⟩:∃x,qaq (qB l y l[i].id) base a=x:=⟨_,rfl⟩
 rw[hnow2]at he ⊢
 by_cases hs:now2=now
 ·rw[if_pos hs]at he
  simp(disch:=omega)[hs,qi (show i<2^62 by omega)]
  exact⟨⟨i+1,m4,out,ow,ob2⟩,by dsimp only;omega,⟨hr.mono (by dsimp only;omega),by dsimp only;omega,by dsimp only;omega,by dsimp only;omega,he⟩,by simp[FT.Le,Wk],HWk.refl _,fun h=>h⟩
 ·rw[if_neg hs]at he
  have hs1:(now2==now)=false:=by simpa using hs
  have hs2:(!now2==now)=true:=by cases now2<;>cases now<;>first|rfl|exact absurd rfl hs
  simp(disch:=omega)[hs,hs1,hs2,hlt]
  refine qU ?_
  simp(disch:=omega)
  obtain⟨own2,ob3,m5,e1,hr3,hn3⟩:=vg (sz:=1) (es:=zJ out) (Y:=[.int l[i].id]) (by omega) (vT out) rfl (by rw[List.length_map,List.length_singleton];omega) (by rw[List.length_map];exact hr.mono (show m<=m4 by omega))
  rw[List.length_map,List.length_singleton]at hr3
  have e2:zJ out++[.int l[i].id]=zJ (out++[l[i].id]):=by simp
  rw[e2]at e1
  rw[e1]
  simp(disch:=omega)[qi (show i<2^62 by omega)]
  exact⟨⟨i+1,m5,out++[l[i].id],own2,ob3⟩,by dsimp only;omega,⟨by rw[List.length_append,List.length_singleton];exact hr3,by dsimp only;omega,by dsimp only;omega,by simp;omega,he⟩,by simp[FT.Le,Wk],HWk.refl _,fun h=>h⟩
end
section
variable{l:List qv}{base:List Atom}
def vc(l:List qv)(base:List Atom)(y i:Int):List Atom×List Atom×Int:=(effW l base y i,effO l base y i,wD l base y i)
theorem qjQ{l:List qv}{base:List Atom}{y i:Int}(h:wD l base y i≠0):vc l base y i=([],[],wD l base y i):=by
 unfold vc effW effO
 rw[if_pos h,if_pos h]
theorem qjP{l:List qv}{base:List Atom}{y i:Int}(h:wD l base y i=0):vc l base y i=(vR (zl (qB l y 0) base) (zl (qB l y i) base),vR (zl (qB l y i) base) (zl (qB l y 0) base),0):=by
 unfold vc effW effO
 rw[if_neg (by omega),if_neg (by omega),h]
set_option maxHeartbeats 1000000 in
theorem qlL(hI:qcV l base)(own ownB:Own)(y i:Int)(ob:List (Nat×qc))(n:Nat)(hni:qQ ob){kv kp:HP}
  (hk:∀(o1 o2:Own) n',n<=n'->kv (.tup [.sl ((vc l base y i).1.map qd) o1,.sl ((vc l base y i).2.1.map qd) o2,.int (vc l base y i).2.2]) ⟨ob,n'⟩):
  cP E0 F0 24 [.sl (l.map qY) own,.sl (base.map qd) ownB,.int y,.int i] ⟨ob,n⟩ kv kp:=by
 refine ur c24 fun hH=>⟨Nat.le_of_ble_eq_true rfl,?_⟩
 have hOb:qn ob n:=hH
 have fin:∀(m:Nat)(x:qc)(o1 o2:Own)(v1 v2:List Atom)(v3:Int),n<=m->vc l base y i=(v1,v2,v3)->∃H'',HWk ⟨(n,x)::ob,m⟩ H''/\(qa.Ok ⟨(n,x)::ob,m⟩->H''.Ok)/\kv (.tup [.sl (v1.map qd) o1,.sl (v2.map qd) o2,.int v3]) H'':=fun m x o1 o2 v1 v2 v3 hm e=>by
  rw[e]at hk
  exact⟨⟨ob,m⟩,y9 hOb (Nat.le_refl _),fun _=>hOb.mono hm,hk o1 o2 m hm⟩
 have err:∀e:Int,wD l base y i=e->e≠0->vc l base y i=([],[],e):=fun e h h0=>by rw[<-h]at h0 ⊢;exact qjQ h0
 obtain⟨E,hE⟩:∃E,wD l base y i=E:=⟨_,rfl⟩
 have hE0:=hE
 unfold wD at hE
 simp(disch:=omega)[b24]
 refine(qig l own y hI.toCustIn).go fun n1 hn1=>?_
 by_cases h1:uP l y=0
 case neg=>
  rw[if_pos h1]at hE
  simp(disch:=omega)[h1]
  exact fin _ _ .full .full [] [] _ (by omega) (err _ (by rw[hE0,hE]) h1)
 rw[if_neg (by simpa using h1)]at hE
 obtain⟨hl30,_⟩:=qbT h1 y 0
 have hfl:=fun w=>(qbT h1 y w).2
 rw[h1]
 simp(disch:=omega)
 refine qlG l (by omega) own 78 (fun x=>decide (x.id=i)) n _ _ (fun x _ n' kv kp hn' hk=>qsw x i n _ n' (qp _ _ _) hk) fun n2 hn2=>?_
 obtain⟨B,hB⟩:∃B,qeg l i=B:=⟨_,rfl⟩
 have hB':(l.any fun x=>decide (x.id=i))=B:=hB
 rw[hB']
 rw[hB]at hE
 cases B
 ·rw[if_pos rfl]at hE
  simp(disch:=omega)
  exact fin _ _ .full .full [] [] 5 (by omega) (err _ (by rw[hE0,<-hE]) (by decide))
 rw[if_neg (by simp)]at hE
 simp(disch:=omega)
 refine qlw base ownB hI.hb hI.hok _ _ (hni.cons _ rfl) fun n3 hn3=>?_
 by_cases h2:gE base=0
 case neg=>
  rw[if_pos h2]at hE
  simp(disch:=omega)[h2]
  exact fin _ _ .full .full [] [] _ (by omega) (err _ (by rw[hE0,hE]) h2)
 rw[if_neg (by simpa using h2)]at hE
 rw[h2]
 simp(disch:=omega)
 refine(qeP l own y 0 (by omega) (by have:=hfl 0;omega)).go fun n4 hn4=>?_
 obtain⟨_,fuel,R,hMI,hM⟩:=qbP hI h1 y 0
 simp(disch:=omega)
 refine qlJ hMI hM ownB _ _ (hni.cons _ rfl) fun o1 n5 hn5=>?_
 by_cases h3:zO (qB l y 0) base=0
 case neg=>
  rw[if_pos h3]at hE
  simp(disch:=omega)[h3]
  exact fin _ _ .full .full [] [] _ (by omega) (err _ (by rw[hE0,hE]) h3)
 rw[if_neg (by simpa using h3)]at hE
 rw[h3]
 simp(disch:=omega)
 refine(qeP l own y i (by omega) (by have:=hfl i;omega)).go fun n6 hn6=>?_
 obtain⟨_,fuel2,R2,hMI2,hM2⟩:=qbP hI h1 y i
 simp(disch:=omega)
 refine qlJ hMI2 hM2 ownB _ _ (hni.cons _ rfl) fun o2 n7 hn7=>?_
 by_cases h4:zO (qB l y i) base=0
 case neg=>
  simp(disch:=omega)[h4]
  exact fin _ _ .full .full [] [] _ (by omega) (err _ (by rw[hE0,hE]) h4)
 rw[h4]
 have hz:wD l base y i=0:=by rw[hE0,<-hE,h4]
 have g1:∀a∈zl (qB l y 0) base,a.ok:=fun a h=>wX (hM.good a h).1
 have g2:∀a∈zl (qB l y i) base,a.ok:=fun a h=>wX (hM2.good a h).1
 have L1:=hM.len
 have L2:=hM2.len
 have hv:=qjP hz
 obtain⟨A1,hA1⟩:∃A,zl (qB l y 0) base=A:=⟨_,rfl⟩
 obtain⟨A2,hA2⟩:∃A,zl (qB l y i) base=A:=⟨_,rfl⟩
 rw[hA1,hA2]at hv
 rw[hA1]at g1 L1 ⊢
 rw[hA2]at g2 L2 ⊢
 simp(disch:=omega)
 refine(qls A1 A2 o1 o2 (by omega) (by omega) g1 g2).go fun n8 hn8=>?_
 simp(disch:=omega)
 refine(qls A2 A1 o2 o1 (by omega) (by omega) g2 g1).go fun n9 hn9=>?_
 simp(disch:=omega)
 exact fin _ _ .no .no _ _ 0 (by omega) hv
theorem qte(v1 v2:List Atom)(e:Int)(o1 o2:Own):Wk (.agg [.sl (v1.map qd) o1,.sl (v2.map qd) o2,.int e]) (.agg [.sl (v1.map qd) .no,.sl (v2.map qd) .no,.int e]):=by
 refine .inr (.inl ?_)
 simp[LV.strip,stripL,qba,List.map_map,Function.comp_def]
structure NNcE where
 i:Nat
 n:Nat
 is:Bool
set_option maxHeartbeats 1000000 in
theorem qrX(hI:qcV l base)(own ownB:Own)(y i:Int)(H:qa){kv kp:HP}
  (hk:∀n',H.next<=n'->kv (.agg [.sl ((vc l base y i).1.map qd) .no,.sl ((vc l base y i).2.1.map qd) .no,.int (vc l base y i).2.2]) ⟨H.objs,n'⟩):
  cP E0 F0 25 [.sl (l.map qY) own,.sl (base.map qd) ownB,.int y,.int i] H kv kp:=by
 refine qah c25 fun hH=>⟨Nat.le_of_ble_eq_true rfl,?_⟩
 obtain⟨N0,hN0⟩:∃N0,H.next=N0:=⟨_,rfl⟩
 obtain⟨ob,n⟩:=H
 dsimp only at hN0 hk
 subst hN0
 have hOb:qn ob n:=hH
 have fin:∀(ob':List (Nat×qc))(m:Nat)(o1 o2:Own)(v1 v2:List Atom)(v3:Int),n<=m->(∀i,i<n->look i ob'=look i ob)->vc l base y i=(v1,v2,v3)->∃v',Wk (.agg [.sl (v1.map qd) o1,.sl (v2.map qd) o2,.int v3]) v'/\∃H'',HWk ⟨ob',m⟩ H''/\(qa.Ok ⟨ob',m⟩->H''.Ok)/\kv v' H'':=fun ob' m o1 o2 v1 v2 v3 hm ho e=>by
  rw[e]at hk
  exact⟨_,qte v1 v2 v3 o1 o2,⟨ob,m⟩,vV hH ho (Nat.le_refl _),fun _=>hOb.mono hm,hk m hm⟩
 have err:∀e:Int,wD l base y i=e->e≠0->vc l base y i=([],[],e):=fun e h h0=>by rw[<-h]at h0 ⊢;exact qjQ h0
 obtain⟨E,hE⟩:∃E,wD l base y i=E:=⟨_,rfl⟩
 have hE0:=hE
 unfold wD at hE
 have hold1:∀(x:qc)(j:Nat),j<n->look j ((n,x)::ob)=look j ob:=fun x j hj=>qe (by omega) _ _
 simp(disch:=omega)[b25]
 refine(qlo l own y hI.toCustIn).go fun n1 hn1=>?_
 by_cases h1:uP l y=0
 case neg=>
  rw[if_pos h1]at hE
  simp(disch:=omega)[h1]
  exact fin _ _ .full .full [] [] _ (by omega) (hold1 _) (err _ (by rw[hE0,hE]) h1)
 rw[if_neg (by simpa using h1)]at hE
 obtain⟨hl30,_⟩:=qbT h1 y 0
 have hfl:=fun w=>(qbT h1 y w).2
 rw[h1]
 obtain⟨B,hB⟩:∃B,qeg l i=B:=⟨_,rfl⟩
 rw[hB]at hE
 simp(disch:=omega)
 refine qy (σ:=NNcE) (fun q=>(.nd (.sl (l.map qY) own) (.nd (.sl (base.map qd) ownB) (.nd (.int i) .nil (.nd (.int q.i) .nil .nil)) .nil) (.nd (.int y) (.nd .bot (.nd (.ptr n 0) .nil .nil) .nil) (.nd .bot (.nd (.bool q.is) .nil .nil) .nil)))) (fun q=>⟨(n,.cells [Nl,Nl,.int 0])::ob,q.n⟩) (fun q=>l.length - q.i)
  (fun q=>n+1<=q.n/\q.i<=l.length/\(q.is||qeg (l.drop q.i) i)=B) ⟨0,n1,false⟩ ⟨by dsimp only;omega,Nat.zero_le _,by simpa using hB⟩ (by simp[FT.Le,Wk]) ⟨HWk.refl _,fun h=>h⟩ ?_
 rintro⟨k,m,is⟩ ⟨hm,hkl,he⟩ hok
 dsimp only at hm hkl he hok
 by_cases hlt:k<l.length
 case pos=>
  rw[List.drop_eq_getElem_cons hlt]at he
  have he1:(is||(decide (l[k].id=i)||qeg (l.drop (k+1)) i))=B:=he
  rw[<-Bool.or_assoc]at he1
  cases is
  ·rw[Bool.false_or]at he1
   simp(disch:=omega)[hlt,qi (show k<2^62 by omega)]
   exact⟨⟨k+1,m,decide (l[k].id=i)⟩,by dsimp only;omega,⟨by dsimp only;omega,by dsimp only;omega,he1⟩,by simp[FT.Le,Wk],HWk.refl _,fun h=>h⟩
  ·simp(disch:=omega)[hlt,qi (show k<2^62 by omega)]
   exact⟨⟨k+1,m,true⟩,by dsimp only;omega,⟨by dsimp only;omega,by dsimp only;omega,by simpa using he1⟩,by simp[FT.Le,Wk],HWk.refl _,fun h=>h⟩
 rw[List.drop_eq_nil_of_le (by omega)]at he
 have he2:is=B:=by simpa [qeg] using he
 subst he2
 cases is
 ·rw[if_pos rfl]at hE
  simp(disch:=omega)[hlt]
  exact fin _ _ .full .full [] [] 5 (by omega) (hold1 _) (err _ (by rw[hE0,<-hE]) (by decide))
 rw[if_neg (by simp)]at hE
 simp(disch:=omega)[hlt]
 refine(qlk base ownB hI.hb hI.hok).go fun n3 hn3=>?_
 by_cases h2:gE base=0
 case neg=>
  rw[if_pos h2]at hE
  simp(disch:=omega)[h2]
  exact fin _ _ .full .full [] [] _ (by omega) (hold1 _) (err _ (by rw[hE0,hE]) h2)
 rw[if_neg (by simpa using h2)]at hE
 rw[h2]
 simp(disch:=omega)
 refine(qeM l own y 0 (by omega) (by have:=hfl 0;omega)).go fun n4 hn4=>?_
 obtain⟨hRI,_,R,_,hM⟩:=qbP hI h1 y 0
 simp(disch:=omega)
 refine qhY hRI ownB _ fun n5 hn5=>?_
 dsimp only at hn5
 have hold2:∀(x z:qc)(j:Nat),j<n->look j ((n5,x)::(n,z)::ob)=look j ob:=fun x z j hj=>by rw[qe (by omega),qe (by omega)]
 have hnn5:¬n=n5:=by omega
 by_cases h3:zO (qB l y 0) base=0
 case neg=>
  rw[if_pos h3]at hE
  simp(disch:=omega)[h3]
  exact fin _ _ .full .full [] [] _ (by omega) (hold2 _ _) (err _ (by rw[hE0,hE]) h3)
 rw[if_neg (by simpa using h3)]at hE
 rw[h3]
 simp(disch:=omega)
 refine(qeM l own y i (by omega) (by have:=hfl i;omega)).go fun n6 hn6=>?_
 obtain⟨hRI2,_,R2,_,hM2⟩:=qbP hI h1 y i
 simp(disch:=omega)
 refine qhY hRI2 ownB _ fun n7 hn7=>?_
 dsimp only at hn7
 have hold3:∀(x z w:qc)(j:Nat),j<n->look j ((n7,x)::(n5,z)::(n,w)::ob)=look j ob:=fun x z w j hj=>by rw[qe (by omega),qe (by omega),qe (by omega)]
 by_cases h4:zO (qB l y i) base=0
 case neg=>
  simp(disch:=omega)[h4]
  exact fin _ _ .full .full [] [] _ (by omega) (hold3 _ _ _) (err _ (by rw[hE0,hE]) h4)
 rw[h4]
 have hz:wD l base y i=0:=by rw[hE0,<-hE,h4]
 have g1:∀a∈zl (qB l y 0) base,a.ok:=fun a h=>wX (hM.good a h).1
 have g2:∀a∈zl (qB l y i) base,a.ok:=fun a h=>wX (hM2.good a h).1
 have L1:=hM.len
 have L2:=hM2.len
 have hv:=qjP hz
 obtain⟨A1,hA1⟩:∃A,zl (qB l y 0) base=A:=⟨_,rfl⟩
 obtain⟨A2,hA2⟩:∃A,zl (qB l y i) base=A:=⟨_,rfl⟩
 rw[hA1,hA2]at hv
 rw[hA1]at g1 L1 ⊢
 rw[hA2]at g2 L2 ⊢
 simp(disch:=omega)
 refine(qlf A1 A2 .no .no (by omega) (by omega) g1 g2).go fun n8 hn8=>?_
 simp(disch:=omega)
 refine(qlf A2 A1 .no .no (by omega) (by omega) g2 g1).go fun n9 hn9=>?_
 simp(disch:=omega)
 exact fin _ _ .no .no _ _ 0 (by omega) (hold3 _ _ _) hv
end
end Go.Abs.Tz
namespace Go.Abs.Tz
open Go Go.Abs Go.Proofs
noncomputable def tabP:List (FuncId×FnI):=[
 (121,⟨b121,5,false,false,false⟩),
 (108,⟨b108,6,false,false,false⟩),
 (122,⟨b122,7,false,false,false⟩),
 (55,⟨b55,7,false,false,false⟩),
 (9,⟨b9,5,false,false,false⟩),
 (43,⟨b43,4,false,false,false⟩),
 (44,⟨b44,4,false,false,false⟩),
 (48,⟨b48,6,false,true,false⟩),
 (49,⟨b49,5,false,true,false⟩),
 (11,⟨b11,5,false,false,false⟩),
 (106,⟨b106,3,false,true,false⟩),
 (107,⟨b107,6,false,false,false⟩),
 (50,⟨b50,6,false,false,false⟩),
 (54,⟨b54,5,false,true,false⟩),
 (164,⟨b164,8,false,false,false⟩),
 (109,⟨b109,5,false,false,false⟩),
 (110,⟨b110,4,false,false,false⟩),
 (70,⟨b70,4,false,false,false⟩),
 (165,⟨b165,5,false,false,false⟩),
 (166,⟨b166,3,false,false,false⟩),
 (167,⟨b167,4,false,false,false⟩),
 (168,⟨b168,4,false,false,false⟩),
 (169,⟨b169,4,false,false,false⟩),
 (170,⟨b170,4,false,false,false⟩),
 (173,⟨b173,5,false,false,false⟩),
 (174,⟨b174,6,false,false,false⟩),
 (131,⟨b131,4,false,false,false⟩)]
def qfm:List (FuncId×FnI)->FuncId->Option FnI
 |[],_=>none
 |(g,i)::r,f=>match Nat.beq g f with
  |true=>some i
  |false=>qfm r f
def allP:List (FuncId×FnI)->Prop
 |[]=>True
 |(g,i)::r=>qj Tryz.prog g=some i.b/\allP r
theorem qnF:∀{l:List (FuncId×FnI)},allP l->∀f i,qfm l f=some i->F0.fn f i.b
 |[],_,_,_,h=>by cases h
 |(g,j)::r,h,f,i,hl=>by
  unfold qfm at hl
  split at hl
  ·rename_i he
   cases hl
   rw[<-Nat.eq_of_beq_eq_true he];exact h.1
  ·exact qnF h.2 f i hl
theorem qrq:allP tabP:=⟨c121,c108,c122,c55,c9,c43,c44,c48,c49,c11,c106,c107,c50,c54,c164,c109,c110,c70,c165,c166,c167,c168,c169,c170,c173,c174,c131,trivial⟩
end Go.Abs.Tz
set_option maxRecDepth 20000
namespace Go.Abs.Tz
open Go Go.Abs Go.Proofs
end Go.Abs.Tz
namespace Go.Abs.Tz
open Go Go.Abs Go.Proofs
def qtj(s:ByteArray):Bool:=Nat.ble s.size 1000000
theorem qtJ{f:FuncId}{args:List LV}{H:qa}{kv kp:HK}(h:cP E0 F0 f args H (fun v H'=>kv v H'=true) (fun v H'=>kp v H'=true))(hH:H.Ok):Out E0 F0 (.call f args H) (CS kv kp):=
 .mono (h hH) fun r hr=>hr
abbrev qey:=List LV->qa->HK->HK->Bool
theorem qmS{f:FuncId}{args:List LV}{v:LV}(h:qg f args v)(hv:Bel 0 v){H:qa}{kv kp:HK}(hH:H.Ok)(hk:kv v H=true):Out E0 F0 (.call f args H) (CS kv kp):=qtJ (h.x hv hk) hH
noncomputable def qiK:qey:=fun args H kv _=>match args with
 |[.sc (.string s),.sc (.int .u8 c)]=>kInt .i64 (Lib.indexByte s.data.toList c.toNat.toUInt8) fun v=>kv v H
 |_=>false
theorem qtN{args:List LV}{H:qa}{kv kp:HK}(hH:H.Ok)(h:qiK args H kv kp=true):Out E0 F0 (.call 172 args H) (CS kv kp):=by
 unfold qiK at h
 split at h
 ·rw[qjo]at h
  exact qmS (qsn _ _) (.sc _) hH h
 ·cases h
noncomputable def qiL:qey:=fun args H kv _=>match args with
 |[.sc (.string s)]=>match Lib.atoiAll s.data.toList with
  |.ok v=>zL (qtj s) (qhg v fun v=>kv (.tup [.sc (.int .i64 v),.sc .nilIface]) H)
  |_=>false
 |_=>false
theorem qtO{args:List LV}{H:qa}{kv kp:HK}(hH:H.Ok)(h:qiL args H kv kp=true):Out E0 F0 (.call 171 args H) (CS kv kp):=by
 unfold qiL at h
 split at h
 ·split at h
  ·rename_i h0
   obtain⟨h1,h2⟩:=zV h
   rw[qjC]at h2
   have h1':=Nat.le_of_ble_eq_true (show Nat.ble _ 1000000=true from h1)
   refine qmS (qsS _ (by omega) _ h0) (.tup fun i c hi=>?_) hH h2
   match i with
   |0=>simp at hi;subst hi;exact .sc _
   |1=>simp at hi;subst hi;exact .sc _
   |i+2=>simp at hi
  ·cases h
 ·cases h
end Go.Abs.Tz
namespace Go.Abs
open Go
section
variable{P:Program}{N:Nat}{code:Code}{o:Oper}
theorem qqa{x:BO}{ps:List Nat}{ba bb:qo}(h:qw P N code=some (.rf x ps ba bb)):∃d pa a b,code=.rangeFunc d pa a b/\cO d=some x/\pa.toList=ps/\qw P N a=some ba/\qw P N b=some bb:=by
 cases code with
 |region id ops d=>rcases qcC h with⟨_,h⟩|⟨_,h⟩|h<;>cases h
 |rangeFunc d pa a b=>
  simp only[qw,Option.bind_eq_bind,Option.bind_eq_some_iff,Option.some.injEq]at h
  obtain⟨d',h1,a',h2,b',h3,h4⟩:=h
  cases h4
  exact⟨d,pa,a,b,rfl,h1,rfl,h2,h3⟩
 |seq a b=>simp[qw,Option.bind_eq_some_iff]at h
 |cond c a b=>simp[qw,Option.bind_eq_some_iff]at h
 |_=>simp[qw]at h
theorem qvD(h:cOp P o=some .rc):∃c,o.op=.call c/\c.callee=.builtin .recover/\c.args.toList=[]:=by
 unfold cOp at h
 split at h
 all_goals ((repeat' split at h)<;>simp[Option.map_eq_some_iff,Option.bind_eq_some_iff]at h)
 all_goals exact⟨_,by assumption,rfl,by assumption⟩
end
section
variable{G:qb}{w:World}{H:qa}
theorem Inv.setDel(hI:Inv G w H){m:Nat}{lo:qc}{ob ob':Obj}(hl:look m H.objs=some lo)(h:w.heap[G.loc m]? = some ob)(hne:∀vs el fz,ob≠.cells vs el fz)(hB:¬(G.B (G.loc m)).isSome)
  (hown:G.own (G.loc m) 0=.obj m):Ext G w G (w.putObj (G.loc m) ob')/\Inv G (w.putObj (G.loc m) ob') (H.del m):=by
 have hx:Ext G w G (w.putObj (G.loc m) ob'):=qpb h hne hB rfl (Nat.le_refl _) (fun _ _=>rfl) (fun _ _=>rfl) (fun _ _=>rfl) (fun _ _ h=>h) w.drawn
 have hd:∀i x,look i (H.del m).objs=some x->i≠m/\look i H.objs=some x:=fun i x hy=>by
  simp only[qa.del,qcI]at hy
  split at hy
  ·cases hy
  ·rename_i hi;exact⟨hi,hy⟩
 refine⟨hx,Inv.step (fun i=>i=m) hI hx (qkU h hne w.drawn) hI.n (fun b x hb=>hI.free b x (by simpa using hb)) hI.old (fun i x hi hh=>(hd i x hh).2)
  (fun _ _ _ _ _ h=>h) (fun i hi ho hc=>?_) (fun _ _ _ _=>⟨fun h=>h,fun h=>h⟩) (fun _ _ _=>rfl) (fun j es' hj hh=>?_) (fun i x hi hh=>absurd hi (hd i x hh).1)⟩
 ·rw[hc,hown]at ho
  simp at ho
  exact hi ho.symm
 ·obtain⟨hjm,hh⟩:=hd j _ hh
  obtain⟨_,ents,clock,q1,_,q3,_⟩:=hI.objs j _ hh
  have:G.loc j≠G.loc m:=by
   intro e
   rw[e,hown]at q3
   simp at q3
   exact hjm q3.symm
  refine⟨es',hh,Nat.le_refl _,fun _ ents' clock' hp=>?_⟩
  have e2:(w.putObj (G.loc m) ob').heap[G.loc j]? = w.heap[G.loc j]?:=World.putObj_heap_other this
  rw[e2]at hp
  exact⟨ents',clock',hp,rfl,fun _=>rfl⟩
end
def frL(fr:Fr)(N:Nat):List LV:=(List.range N).map fr
section
variable{P:Program}{E:Env}{G:qb}{w:World}{fr:Fr}{H:qa}{N:Nat}{a:Act}{T:Res->Prop}
theorem rf_wp{nf:Nat}{Q:Exit->Act->World->Prop}{code:Code}{x:BO}{ps:List Nat}{ba bb:qo}{k f:Nat}{cap:List LV}(hc:qw P N code=some (.rf x ps ba bb))(hrc:∀d pa a b,code=.rangeFunc d pa a b->E.rc k=(a,b))
  (hI:Inv G w H) (hE:yX E G w) (hf:FR G w N fr a) (hx:E.ev fr x=.fn (.func f) [] cap)
  (hcall:qZ P E f (.fn (.yield (H.next+1)) [] []::cap) ((H.alloc .dfr).alloc (.rcd false (frL fr N) ps k)) T)
  (hT:∀r,T r->∃v H',r=.ret v H'/\isR (H.next+1) false H'=true)
  (hK:∀v H' G' w',T (.ret v H')->Inv G' w' (H'.del (H.next+1))->Ext G w G' w'->H.next<G'.n->Q .normal { a with defers:={ target:=.collected (G'.loc H.next),args:=#[] }::a.defers } w'):
  code.wpIn (fen none) nf P Q a w:=by
 obtain⟨d,pa,ca,cb,rfl,hd,rfl,_,_⟩:=qqa hc
 have hv:=qat hE hf d x hd
 rw[hx]at hv
 obtain⟨us,vs,hv,hu0,hvs,_,hvr⟩:=hv.fn_inv
 obtain rfl:us=#[]:=Array.eq_empty_of_size_eq_zero (by simpa using hu0)
 have hv:a.eval d=.func (.func f) #[] vs:=hv
 refine wpIn_rangeFunc fun fn _=>?_
 obtain⟨i1,x1⟩:=hI.alloc (.deferred (some [])) .dfr (0,0) (fun hx=>⟨by rw[qb.add_loc];exact heap_alloc_new,by rw[qb.add_loc];exact hI.hB',by rw[qb.add_loc];exact qb.add_own _ _ _ _ _⟩)
 have hrck:=hrc _ _ _ _ rfl
 have hEr:=hE.rc
 let L:Loop:={ state:=.ready,pending:=none,fn:=fn,tmps:=a.tmps,params:=pa,assign:=ca,body:=cb,defers:=w.heap.size }
 obtain⟨i2,x2⟩:=i1.alloc (.loop L) (.rcd false (frL fr N) pa.toList k) (0,0) (fun hx=>by
  refine⟨fn,a.tmps,w.heap.size,?_,by rw[qb.add_loc];exact i1.hB',by rw[qb.add_loc];exact qb.add_own _ _ _ _ _,by rw[hf.size];simp[frL],fun i y hi=>?_⟩
  ·rw[qb.add_loc]
   have e1:(((G.add H.next w.heap.size (0,0)).add (H.alloc .dfr).next (w.alloc (.deferred (some []))).heap.size (0,0)).rc k)=(ca,cb):=by
    show G.rc k=_
    rw[hEr,hrck]
   rw[e1]
   exact heap_alloc_new
  ·obtain⟨j,hj,rfl⟩:=List.getElem?_eq_some_iff.1 hi
   simp only[frL,List.getElem_map,List.getElem_range]
   exact((hf.slot i).mono x1).mono hx)
 have x12:=x1.trans x2
 have hE2:=hE.mono x12
 generalize hG2:(G.add H.next w.heap.size (0,0)).add (H.alloc .dfr).next (w.alloc (.deferred (some []))).heap.size (0,0)=G2 at i2 x2 x12 hE2
 have hl2:G2.loc (H.next+1)=w.heap.size+1:=by rw[<-hG2];simp[qb.add,qa.alloc]
 have hn2:G2.n=H.next+2:=by rw[<-hG2];simp[qb.add,qa.alloc]
 have hargs:uR G2 ((w.alloc (.deferred (some []))).alloc (.loop L)) (.fn (.yield (H.next+1)) [] []::cap) (#[.func (.yield (w.heap.size+1)) #[] #[]]++vs):=by
  have h1:uR G2 ((w.alloc (.deferred (some []))).alloc (.loop L)) [.fn (.yield (H.next+1)) [] []] #[.func (.yield (w.heap.size+1)) #[] #[]]:=by
   refine⟨rfl,fun i y hi=>?_⟩
   match i with
   |0=>
    simp at hi;subst hi
    have:=VR.fn (G:=G2) (w:=(w.alloc (.deferred (some []))).alloc (.loop L)) (f:=.yield (H.next+1)) (a:=[]) (c:=[]) (us:=#[]) (vs:=#[]) (by show _<G2.n;rw[hn2];omega) rfl rfl (fun i x h=>by simp at h) (fun i x h=>by simp at h)
    simpa [fnW,hl2] using this
   |i+1=>simp at hi
  exact h1.append ⟨hvs,fun i y hi=>(hvr i y hi).mono x12⟩
 obtain⟨he,hc2⟩:=hcall
 refine⟨w.heap.size+1,[{ target:=.collected w.heap.size,args:=#[] }],(w.alloc (.deferred (some []))).alloc (.loop L),{ target:=.fn (.func f) vs,args:=#[.func (.yield (w.heap.size+1)) #[] #[]] },(w.alloc (.deferred (some []))).alloc (.loop L),f,
  #[.func (.yield (w.heap.size+1)) #[] #[]]++vs,(w.alloc (.deferred (some []))).alloc (.loop L),run_enterLoop_outer _ _ _ _ _,?_,fun _ _=>trivial,?_,fun h=>(by cases h),?_⟩
 ·simp only[resolve,hv]
  simp[go_sem]
 ·obtain⟨fn',hf',hb',hn'⟩:=he
  simp only[invoke]
  exact qjY hf' hb' hn' _
 ·refine CallsIn.mono (F:=fen none) (callsIn_wide.2 (hc2 G2 _ _ i2 hE2 hargs)) fun e w' hp=>?_
  cases e with
  |outgrown=>exact hp.elim
  |panicked ch=>
   obtain⟨v,u,H',G',hTT,_⟩:=hp
   obtain⟨_,_,h,_⟩:=hT _ hTT
   cases h
  |returned u=>
   obtain⟨v,H',G',hTT,hv',hI',hx'⟩:=hp
   obtain⟨v1,H1,h,hR⟩:=hT _ hTT
   cases h
   obtain⟨fo1,ps1,k1,hl,_⟩:=qjq (b':=false) hR
   obtain⟨hm,fn1,tmps1,df1,q1,q2,q3,_⟩:=hI'.objs _ _ hl
   have hloc:G'.loc (H.next+1)=w.heap.size+1:=by rw[hx'.loc _ (by omega),hl2]
   have hlD:G'.loc H.next=w.heap.size:=by
    rw[hx'.loc _ (by omega),<-hG2]
    simp[qb.add,qa.alloc]
   have hend:=run_endLoop (P:=P) q1 (by simp)
   rw[hloc]at hend
   obtain⟨y1,y2⟩:=hI'.setDel (ob':=.loop { (rcL G' false fn1 tmps1 ps1 k1 df1) with state:=.exhausted }) hl q1 (by simp) q2 q3
   rw[hloc]at y1 y2
   refine⟨_,_,hend,?_⟩
   have:=hK v H' G' _ hTT y2 (x12.trans (hx'.trans y1)) (by have:=hx'.n;omega)
   rw[hlD]at this
   exact this
theorem qtA{f:FuncId}{fn:Func}{nf d n:Nat}{rest:qo}{args:List LV}{us:Array Value}{u:FrameMode}{y:LV}(hfn:P.funcs[f]? = some fn)(hc:cFn P fn=some ⟨.seq (.ops [⟨some d,none,.rc⟩]) rest,n,[]⟩)
  (hlen:args.length<=n) (hI:Inv G w H) (hE:yX E G w) (ha:uR G w args us) (hu:(u=.returning/\y=.sc .nilIface)\/∃v,u=.panicking [{ v:=v,recovered:=false }]/\VR G w y v)
  (hrest:qfX P E rest (upd (zz args) d y) H T) (hT:∀e fr' df' H',T (.code e fr' df' H')->e=.normal\/e=.ret):
  CallsDIn (fen none) nf P f us u w fun e u' w'=>∃v le fr' df' H' G',e=.returned v/\settle u'=.returning/\T (.code le fr' df' H')/\Inv G' w' H'/\Ext G w G' w':=by
 obtain⟨c,hb,hcode,hbn,hres⟩:=qew hc
 simp only at hcode hbn hres
 obtain⟨c1,c2,rfl,e1,e2⟩:=qax hcode
 obtain⟨id,ops,rfl,hm⟩:=qjZ e1
 obtain⟨o,ol,hol,ho,hnil⟩:=qcG hm
 obtain rfl:=qjd hnil
 obtain⟨k1,k2,k3,k4⟩:=wU ho
 obtain⟨cc,hoc,hcal,hca⟩:=qvD (k1 (by simp))
 have hg:o.guard=none:=by
  rcases k4 with⟨h,_⟩|⟨_,_,_,_,_,h⟩
  ·exact h
  ·cases h
 have hops:ops=#[o]:=by
  apply Array.toList_inj.1
  simpa using hol
 subst hops
 simp only at k2
 have hca:cc.args=#[]:=Array.toList_inj.1 (by simpa using hca)
 have hrun:∀ρ w,(execOp ρ o).run P w=.ok .recover w:=by
  intro ρ w
  simp[execOp,hoc,resolve,hcal,hca,invoke,builtin,go_sem]
 have hF:=qkq (n:=fn.ntmps) ha (hbn▸hlen)
 refine callsDIn_of_wpSIn hfn hb trivial fun c₀ cs hc₀=>?_
 refine wpSIn_seq (wpSIn_region ?_)
 have fin:∀(v:Value)(cs':List Frame)(u':FrameMode),VR G w y v->cs'={ c₀ with mode:=u' }::cs->settle u'=.returning ->
   c2.wpSIn (fen none) nf P (bodyPostS P fn c₀ cs fun e u' w'=>∃v le fr' df' H' G',e=.returned v/\settle u'=.returning/\T (.code le fr' df' H')/\Inv G' w' H'/\Ext G w G' w')
    (({ tmps:=us++Array.replicate (fn.ntmps - us.size) undef,defers:=[] }:Act).put o.dst v) cs' w:=by
  intro v cs' u' hv hcs hst
  refine wpSIn_of_wpIn rfl ?_
  have hd:(some d:Option Nat).all (fun x=>decide (x<fn.ntmps))=true:=by rw[<-k2]at k3;exact k3
  rw[<-k2]
  refine hrest none nf fn.ntmps c2 G w _ _ e2 hI hE (hF.put hd hv) fun e a' w' hp=>?_
  obtain⟨le,fr',df',H',G',hTT,he,hI',hf',hdf,hx⟩:=hp
  have hle:=hT _ _ _ _ hTT
  obtain⟨r,hr,_⟩:=qgq (v:=.tup []) hI' hf' hres rfl
  rw[qbk]at hdf
  rcases hle with rfl|rfl<;>(cases e<;>try exact he.elim)<;>exact⟨hdf,u',hcs,r,hr,r,_,fr',df',H',G',rfl,hst,hTT,hI',hx⟩
 show wpOpsSIn _ _ _ _ _ [0] _ _ _
 have hw:∀yl,Region.wanted o yl=true:=by intro yl;simp[Region.wanted,hg]
 have e0:(#[o]:Array Oper)[0]? = some o:=rfl
 simp only[wpOpsSIn,e0]
 refine⟨fun _ _=>trivial,?_⟩
 rw[if_pos (hw _)]
 rw[hrun]
 rcases hu with⟨rfl,rfl⟩|⟨v,rfl,hv⟩
 ·have:recoverD (c₀::cs)=none:=by simp[recoverD,hc₀]
  simp only[this]
  exact fin .nilIface _ .returning (.sc _) (by rw[<-hc₀]) rfl
 ·have:recoverD (c₀::cs)=some (v,{ c₀ with mode:=.panicking [{ v:=v,recovered:=true }] }::cs):=by simp[recoverD,hc₀]
  simp only[this]
  exact fin v _ (.panicking [{ v:=v,recovered:=true }]) hv rfl rfl
end
end Go.Abs
namespace Go.Abs
open Go
def rfOf:Code->Code×Code
 |.seq _ (.seq _ (.seq _ (.seq (.seq _ (.block _ (.rangeFunc _ _ a b))) _)))=>(a,b)
 |_=>(.skip,.skip)
structure RFn where
 A:qo
 I:qo
 B:qo
 C:qo
 id:Nat
 x:BO
 ps:List Nat
 ba:qo
 bb:qo
 k:Nat
 dd:Nat
 g:FuncId
 cs:List BO
 Z:qo
 n:Nat
 res:List qcv
 dep:Nat
 dr:Nat
 rest:qo
 ng:Nat
 depg:Nat
def RFn.fn(r:RFn):BFn:=⟨.seq r.A (.seq r.I (.seq r.B (.seq (.seq r.C (.blk r.id (.rf r.x r.ps r.ba r.bb))) (.seq (.ops [⟨some r.dd,none,.mf (.func r.g) [] r.cs⟩,⟨none,none,.df (.t r.dd) []⟩]) r.Z)))),r.n,r.res⟩
def RFn.gn(r:RFn):BFn:=⟨.seq (.ops [⟨some r.dr,none,.rc⟩]) r.rest,r.ng,[]⟩
def isNR(e:qaG):Bool:=match e with
 |.normal=>true
 |.ret=>true
 |_=>false
theorem qvz{e:qaG}(h:isNR e=true):e=.normal\/e=.ret:=by cases e<;>simp_all [isNR]
def qjs(o:Nat)(H:qa):Bool:=match look o H.objs with
 |some .dfr=>true
 |_=>false
theorem qvA{o:Nat}{H:qa}(h:qjs o H=true):look o H.objs=some .dfr:=by
 unfold qjs at h;split at h
 ·assumption
 ·cases h
noncomputable def frF(t:FT)(N:Nat):List LV:=(List.range N).map t.get
noncomputable def qfq(r:RFn)(run:qo->uB)(t:FT)(cl:List LV)(m n0:Nat)(kv:HK)(y:LV)(H:qa):Bool:=
 FT.args cl 0 (FT.full r.depg) fun u=>u.setK r.dr y fun u=>run r.rest u H fun e _ H=>zL (isNR e) (zL (qjs m H) (ul (wY (H.del m) t.get r.res) fun v=>kv v (gcH n0 (H.del m))))
noncomputable def qkj(E:Env)(r:RFn)(run:qo->uB)(m n0:Nat)(kv:HK):uB->FT->qa->Bool:=fun z t H=>
 zL (Nat.ble r.cs.length r.ng) (t.setK r.dd (.fn (.func r.g) [] (qaT E r.cs t)) fun t1=>z t1 H fun e t2 H2=>match e with
  |.normal=>qfq r run t2 (qaT E r.cs t) m n0 kv (.sc .nilIface) H2
  |.ret=>qfq r run t2 (qaT E r.cs t) m n0 kv (.sc .nilIface) H2
  |.pan v=>qfq r run t2 (qaT E r.cs t) m n0 kv v H2
  |.exit _=>false)
noncomputable def qmQ(r:RFn)(call:qcu)(v:LV)(t:FT)(H:qa)(k:Nat->qa->Bool):Bool:=match v with
 |.fn (.func f) [] cap=>qbQ H.next fun m=>qbQ (Nat.succ m) fun m1=>call f (.fn (.yield m1) [] []::cap) ⟨(m1,.rcd false (frF t r.n) r.ps r.k)::(m,.dfr)::H.objs,Nat.succ m1⟩ (fun _ H2=>zL (isR m1 false H2) (k m (H2.del m1))) (fun _ _=>false)
 |_=>false
noncomputable def qmT(E:Env)(run:qo->uB)(call:qcu)(r:RFn)(args:List LV)(H:qa)(kv:HK):Bool:=
 zL (Nat.ble args.length r.n) (FT.args args 0 (FT.full r.dep) fun t=>run r.A t H fun e t1 H1=>zL (isN e) (run r.I t1 H1 fun e t2 H2=>zL (isN e) (run r.B t2 H2 fun e t3 H3=>zL (isN e) (run r.C t3 H3 fun e t4 H4=>zL (isN e)
  (qmQ r call (ev E r.x t4) t4 H4 fun m H5=>qkj E r run m H.next kv (run r.Z) t4 H5)))))
section
variable{P:Program}{E:Env}{F:Fns}
theorem qgm{c:qo}{rr:uB}{code:Code}{N nf:Nat}{G:qb}{w:World}{a:Act}{t:FT}{H:qa}{K:FT->qa->Bool}{next:Act->World->Prop}{Q:Exit->Act->World->Prop}(hmix:P.follows .mixedOrders=true)(hF:qeC P E F)
  (hev:qdb E F c rr) (hcc:qw P N code=some c) (hI:Inv G w H) (hE:yX E G w) (hf:FR G w N t.get a) (hH:H.Ok) (h:rr t H (fun e t1 H1=>zL (isN e) (K t1 H1))=true)
  (hK:∀t' H' G' w' a',K t' H'=true->H'.Ok->Inv G' w' H'->FR G' w' N t'.get a'->a'.defers=a.defers->Ext G w G' w'->next a' w'):code.wpIn (fen none) nf P (Exit.then next Q) a w:=by
 have hs:zw P E c t.get H _:=qbD hmix hF (hev t H _ hH h)
 refine hs.wp none nf N code G w a _ hcc hI hE hf fun e a' w' hp=>?_
 obtain⟨le,fr',df',H',G',hX,he,hI',hf',hd,hx⟩:=hp
 obtain⟨e0,t',H'',hr,hok,hk⟩:=hX
 cases hr
 obtain⟨hn,hk⟩:=zV hk
 obtain rfl:=qjr hn
 cases e<;>try exact he.elim
 exact hK _ _ _ _ _ hk hok hI' hf' hd hx
theorem uR.mono{G G':qb}{w w':World}{vs:List LV}{us:Array Value}(hx:Ext G w G' w')(h:uR G w vs us):uR G' w' vs us:=⟨h.1,fun i x hi=>(h.2 i x hi).mono hx⟩
theorem qxh{N nf d:Nat}{code:Code}{g:FuncId}{cs:List BO}{G:qb}{w:World}{H:qa}{fr:Fr}{a:Act}{next:Act->World->Prop}{Q:Exit->Act->World->Prop}
  (hc:qw P N code=some (.ops [⟨some d,none,.mf (.func g) [] cs⟩,⟨none,none,.df (.t d) []⟩])) (hI:Inv G w H) (hE:yX E G w) (hf:FR G w N fr a)
  (hK:∀a' w' G' vs,FR G' w' N (upd fr d (.fn (.func g) [] (cs.map (E.ev fr)))) a'->uR G' w' (cs.map (E.ev fr)) vs->a'.defers={ target:=.fn (.func g) vs,args:=#[] }::a.defers->Ext G w G' w'->Inv G' w' H->next a' w'):
  code.wpIn (fen none) nf P (Exit.then next Q) a w:=by
 obtain⟨id,ops,rfl,hm⟩:=qjZ hc
 obtain⟨o,ol,hol,ho,hm⟩:=qcG hm
 obtain⟨o2,ol2,rfl,ho2,hm⟩:=qcG hm
 obtain rfl:=qjd hm
 refine wpIn_region_list ?_
 rw[hol]
 obtain⟨h1,h2,h3,h4⟩:=wU ho
 obtain⟨k1,k2,k3,k4⟩:=wU ho2
 unfold wpListIn
 rw[if_pos (qaI (fr:=fr) ho rfl fun d u _=>hf.slot d)]
 obtain⟨v,w',G',hy,hv,hx,hI'⟩:=qhQ (fr:=fr) (x:=.fn (.func g) [] (cs.map (E.ev fr))) hI (qat hE hf) (fun _=>rfl) (h1 (by simp)) rfl
 refine hy.wpIn ?_
 have hf':FR G' w' N (upd fr d (.fn (.func g) [] (cs.map (E.ev fr)))) (a.put o.dst v):=by
  have h2':o.dst=some d:=h2.symm
  rw[h2']at h3 ⊢
  exact(hf.mono hx).put (d:=some d) h3 hv
 unfold wpListIn
 rw[if_pos (qaI (fr:=upd fr d (.fn (.func g) [] (cs.map (E.ev fr)))) ho2 rfl fun d u _=>hf'.slot d)]
 obtain⟨c,y,hoc,hcal,hy2,hca⟩:=qvJ (k1 (by simp))
 have hca:c.args=#[]:=by
  apply Array.toList_inj.1
  cases hl:c.args.toList with
  |nil=>rfl
  |cons b bl=>
   rw[hl,List.mapM_cons]at hca
   cases hb:cO b with
   |none=>simp[hb]at hca
   |some x=>cases hbl:bl.mapM cO<;>simp[hb,hbl]at hca
 have hvy:=qat (hE.mono hx) hf' y (.t d) hy2
 have e1:E.ev (upd fr d (.fn (.func g) [] (cs.map (E.ev fr)))) (.t d)=.fn (.func g) [] (cs.map (E.ev fr)):=by simp[Env.ev,upd]
 rw[e1]at hvy
 obtain⟨us,vs,hvv,hu0,hvs,_,hvr⟩:=hvy.fn_inv
 obtain rfl:us=#[]:=Array.eq_empty_of_size_eq_zero (by simpa using hu0)
 have hvv:(a.put o.dst v).eval y=.func (.func g) #[] vs:=hvv
 have hrun:(o2.semAt none (a.put o.dst v).eval).run P w'=.ok (.defer { target:=.fn (.func g) vs,args:=#[] }) w':=by
  rw[Oper.semAt_none]
  simp only[execOp,hoc,resolve,hcal,hvv,Deferred.ofValue,Sem.run_bind,Sem.run_pure,Result.andThen_ok,hca]
  simp
 refine⟨fun _ _=>trivial,?_⟩
 rw[show (fen none).round=none from rfl,hrun,Oper.uponIn_defer]
 have k2':o2.dst=none:=k2.symm
 rw[k2']
 exact hK _ _ G' vs ⟨hf'.size,hf'.slot⟩ ⟨hvs,hvr⟩ (by show _::(a.put o.dst v).defers=_;rw[qbk]) hx hI'
theorem qtK{run:qo->uB}{call:qcu}{r:RFn}{f:FuncId}(hmix:P.follows .mixedOrders=true)(hF:qeC P E F)(hfn:F.fn f r.fn)(hg:F.fn r.g r.gn)(hrc:∀fn c,P.funcs[f]? = some fn->fn.body=some c->rfOf c=E.rc r.k)
  (hev:∀c,qdb E F c (run c)) (hcall:qhM E F call) {args:List LV} {H:qa} {kv kp:HK} (hH:H.Ok) (h:qmT E run call r args H kv=true):qZ P E f args H (CS kv kp):=by
 obtain⟨fn,hf,hcF,hname⟩:=hF.fn _ _ hfn
 obtain⟨gn,hgf,hgc,hgname⟩:=hF.fn _ _ hg
 obtain⟨c,hb,hcode,hbn,hres⟩:=qew hcF
 have hrc:=hrc fn c hf hb
 simp only[RFn.fn]at hcode hbn hres
 obtain⟨cA,c1,rfl,eA,hcode⟩:=qax hcode
 obtain⟨cI,c2,rfl,eI,hcode⟩:=qax hcode
 obtain⟨cB,c3,rfl,eB,hcode⟩:=qax hcode
 obtain⟨c4,c5,rfl,e4,e5⟩:=qax hcode
 obtain⟨cC,cl,rfl,eC,e4⟩:=qax e4
 obtain⟨cr,rfl,er⟩:=qka e4
 obtain⟨cD,cZ,rfl,eD,eZ⟩:=qax e5
 have hrc':∀d pa a b,cr=.rangeFunc d pa a b->E.rc r.k=(a,b):=by
  intro d pa a b e
  subst e
  exact hrc.symm
 obtain⟨hn,h⟩:=zV h
 obtain⟨t,h,ht⟩:=FT.args_fr h
 refine⟨⟨fn,hf,by simp[hb],hname⟩,fun G w us hI hE ha=>(callsIn_wide (n:=0)).1 (callsIn_of_wp_marks (F:=fen none) (n:=0) hf hb trivial ?_)⟩
 have hf0:FR G w fn.ntmps t.get { tmps:=us++Array.replicate (fn.ntmps - us.size) undef,defers:=[] }:=by
  rw[ht];exact qkq ha (hbn▸Nat.le_of_ble_eq_true hn)
 refine wpIn_seq (qgm hmix hF (hev _) eA hI hE hf0 hH h fun t1 H1 G1 w1 a1 h ok1 hI1 hf1 hd1 hx1=>?_)
 have hE1:=hE.mono hx1
 refine wpIn_seq (qgm hmix hF (hev _) eI hI1 hE1 hf1 ok1 h fun t2 H2 G2 w2 a2 h ok2 hI2 hf2 hd2 hx2=>?_)
 have hE2:=hE1.mono hx2
 refine wpIn_seq (qgm hmix hF (hev _) eB hI2 hE2 hf2 ok2 h fun t3 H3 G3 w3 a3 h ok3 hI3 hf3 hd3 hx3=>?_)
 have hE3:=hE2.mono hx3
 refine wpIn_seq (wpIn_seq (qgm hmix hF (hev _) eC hI3 hE3 hf3 ok3 h fun t4 H4 G4 w4 a4 h ok4 hI4 hf4 hd4 hx4=>?_))
 have hE4:=hE3.mono hx4
 have hx04:=((hx1.trans hx2).trans hx3).trans hx4
 have hd04:a4.defers=[]:=hd4.trans (hd3.trans (hd2.trans hd1))
 refine wpIn_block ?_
 unfold qmQ at h
 split at h
 ·rename_i fi cap hx
  rw[zY]at hx
  rw[qcL,qcL]at h
  have hO:=hcall _ _ _ _ _ (show qa.Ok ⟨(Nat.succ H4.next,.rcd false (frF t4 r.n) r.ps r.k)::(H4.next,.dfr)::H4.objs,Nat.succ (Nat.succ H4.next)⟩ from ⟨Nat.lt_succ_self _,Nat.lt_succ_self _,ok4⟩) h
  have hC:qZ P E _ _ _ _:=qbD hmix hF hO
  refine rf_wp (k:=r.k) (T:=CS (fun _ H2=>zL (isR (Nat.succ H4.next) false H2) (qkj E r run H4.next H.next kv (run r.Z) t4 (H2.del (Nat.succ H4.next)))) fun _ _=>false) er hrc' hI4 hE4 hf4 hx (by rw[<-hbn];exact hC) (fun q hq=>?_) (fun v H5 G5 w5 hT hI5 hx5 hlt5=>?_)
  ·rcases hq with⟨v,H',rfl,_,hk⟩|⟨v,H',rfl,_,hk⟩
   ·exact⟨v,H',rfl,(zV hk).1⟩
   ·cases hk
  rcases hT with⟨v',H',he,ok5,hk⟩|⟨v',H',he,_,hk⟩
  rotate_left
  ·cases hk
  cases he
  obtain⟨_,hk⟩:=zV hk
  have ok5':(H5.del (Nat.succ H4.next)).Ok:=qn.del ok5
  have hE5:=hE4.mono hx5
  have hx05:=hx04.trans hx5
  show (Code.seq cD cZ).wpIn (fen none) 0 P (bodyPostM (fen none) 0 P fn (qkz G w (CS kv kp))) _ _
  unfold qkj at hk
  obtain⟨hcl,hk⟩:=zV hk
  obtain⟨t6,hk,ht6⟩:=FT.setK_spec hk
  rw[qep]at hk ht6
  refine wpIn_seq (qxh (fr:=t4.get) eD hI5 hE5 ⟨(hf4.mono hx5).size,(hf4.mono hx5).slot⟩ fun a6 w6 G6 vs hf6 hvs hd6 hx6 hI6=>?_)
  have hE6:=hE5.mono hx6
  have hx06:=hx05.trans hx6
  rw[<-ht6]at hf6
  have hs:zw P E r.Z t6.get (H5.del (Nat.succ H4.next)) _:=qbD hmix hF (hev _ t6 _ _ ok5' hk)
  refine hs.wp none 0 fn.ntmps cZ G6 w6 a6 _ eZ hI6 hE6 hf6 fun e a7 w7 hp=>?_
  obtain⟨le,fr7,df7,H7,G7,hX,he7,hI7,hf7,hd7,hx7⟩:=hp
  obtain⟨e0,t7,H7',hr,ok7,hk⟩:=hX
  cases hr
  have hE7:=hE6.mono hx7
  have hx07:=hx06.trans hx7
  have hdefs:a7.defers=[{ target:=.fn (.func r.g) vs,args:=#[] },{ target:=.collected (G5.loc H4.next),args:=#[] }]:=by rw[hd7,hd6];simp[hd04]
  have hvs7:=(hvs.mono hx7)
  have last:∀(y:LV)(u:FrameMode),u≠.run->((u=.returning/\y=.sc .nilIface)\/∃v,u=.panicking [{ v:=v,recovered:=false }]/\VR G7 w7 y v)->qfq r run t7 (r.cs.map (E.ev t4.get)) H4.next H.next kv y H7=true ->
    LeavesInM (fen none) 0 P fn a7.tmps (qkz G w (CS kv kp)) a7.defers u w7:=by
   intro y u hur hu hk
   unfold qfq at hk
   obtain⟨u1,hk,hu1⟩:=FT.args_fr hk
   obtain⟨u2,hk,hu2⟩:=FT.setK_spec hk
   rw[hu1]at hu2
   have hs:zw P E r.rest u2.get H7 _:=qbD hmix hF (hev _ u2 _ _ ok7 hk)
   rw[hdefs]
   refine⟨hur,.inr ⟨fun h=>(by cases h),.func r.g,vs,r.g,vs,rfl,?_,fun _ _=>trivial,?_⟩⟩
   ·obtain⟨cg,hgb,_⟩:=qew hgc
    have:=qjY (P:=P) (w:=w7) hgf (by simp[hgb]) hgname vs
    simpa [invoke] using this
   ·refine CallsDIn.mono (qtA (nf:=0 - 1) hgf hgc (by simpa using Nat.le_of_ble_eq_true hcl) hI7 hE7 hvs7 hu (by rw[<-hu2];exact hs.wp) fun e fr' df' H' hT=>?_) fun e u' w' hq=>?_
    ·obtain⟨e1,t',H'',he,_,hk⟩:=hT
     cases he
     exact qvz (zV hk).1
    ·obtain⟨v,le,fr',df',H8,G8,rfl,hst,hT,hI8,hx8⟩:=hq
     obtain⟨e1,t',H'',he,ok8,hk⟩:=hT
     cases he
     obtain⟨_,hk⟩:=zV hk
     obtain⟨hD,hk⟩:=zV hk
     obtain⟨vr,hvr,hk⟩:=y7 hk
     have hlD:=qvA hD
     obtain⟨hlt8,q1,q2,q3⟩:=hI8.objs _ _ hlD
     have hloc:G8.loc H4.next=G5.loc H4.next:=by
      have h8:=hx8.loc H4.next
      have h7:=hx7.loc H4.next
      have h6:=hx6.loc H4.next
      have n6:=hx6.n
      have n7:=hx7.n
      rw[h8 (by omega),h7 (by omega),h6 (by omega)]
     obtain⟨y1,y2⟩:=hI8.setDel (ob':=.deferred none) hlD q1 (by simp) q2 q3
     have htd:=run_takeDeferred (P:=P) q1
     rw[hloc]at y1 y2 htd
     simp only
     rw[hst]
     refine⟨by simp,.inl ⟨_,_,rfl,htd,?_⟩⟩
     have hxx:=hx8.trans y1
     obtain⟨uv,hr1,hr2⟩:=qgq y2 (hf7.mono hxx) hres hvr
     have okd:(H8.del H4.next).Ok:=qn.del ok8
     have hgc8:=qfy okd H.next
     exact⟨uv,hr1,vr,_,G8,.inl ⟨vr,_,rfl,hgc8.1,hk⟩,hr2,y2.wk hgc8.2,hx07.trans hxx⟩
  cases le with
  |normal=>
   cases e<;>try exact he7.elim
   exact last _ .returning (by simp) (.inl ⟨rfl,rfl⟩) hk
  |ret=>
   cases e<;>try exact he7.elim
   exact last _ .returning (by simp) (.inl ⟨rfl,rfl⟩) hk
  |exit n=>cases hk
  |pan v=>
   cases e<;>try exact he7.elim
   obtain⟨u,rfl,hv⟩:=he7
   exact last v (.panicking [{ v:=u,recovered:=false }]) (by simp) (.inr ⟨u,rfl,hv⟩) hk
 ·cases h
end
end Go.Abs
namespace Go.Abs
open Go
mutual
def qdB:LV->Bool
 |.sc _=>true
 |.agg cs=>belBs cs
 |.tup cs=>belBs cs
 |.sl es .no=>belBs es
 |_=>false
def belBs:List LV->Bool
 |[]=>true
 |v::r=>match qdB v with
  |true=>belBs r
  |false=>false
end
theorem qxV{n:Nat}{e:LV}(h:Bel n e)(j:Nat)(c:LV)(hc:e.cells[j]? = some c):Bel n c:=by
 have one:e.cells=[e]->Bel n c:=by
  intro he
  rw[he]at hc
  cases j with
  |zero=>simp at hc;subst hc;exact h
  |succ j=>simp at hc
 cases e with
 |agg cs=>cases h with|agg h=>exact h j c hc
 |_=>exact one rfl
mutual
theorem qqi:∀{v:LV},qdB v=true->Bel 0 v
 |.sc _,_=>.sc _
 |.agg cs,h=>.agg fun i c hc=>belBs_ok (l:=cs) (by rw[qdB]at h;exact h) i c hc
 |.tup cs,h=>.tup fun i c hc=>belBs_ok (l:=cs) (by rw[qdB]at h;exact h) i c hc
 |.sl es .no,h=>.sl (fun i e j c he hc=>qxV (belBs_ok (l:=es) (by rw[qdB]at h;exact h) i e he) j c hc) (fun t ht=>by cases ht)
 |.sl _ .full,h|.sl _ (.tok _),h|.asl _ _ _,h|.ptr _ _,h|.cptr _ _,h|.map _,h|.fn _ _ _,h|.iface _ _,h|.bot,h=>by simp[qdB]at h
theorem belBs_ok:∀{l:List LV},belBs l=true->∀(i:Nat)(c:LV),l[i]? = some c->Bel 0 c
 |[],_,i,c,hc=>by simp at hc
 |v::r,h,i,c,hc=>by
  rw[belBs]at h
  split at h
  ·rename_i hv
   cases i with
   |zero=>simp at hc;subst hc;exact qqi hv
   |succ i=>exact belBs_ok h i c (by simpa using hc)
  ·cases h
end
theorem VR.cl0{G G':qb}{w:World}{x:LV}{v:Value}(hcl:∀b y,G.Cl b y->G'.Cl b y)(h:VR G w x v):Bel 0 x->VR G' w x v:=by
 induction h with
 |sc v=>exact fun _=>.sc v
 |bot v=>exact fun _=>.bot v
 |agg hs _ h1 ih=>intro hb;cases hb with|agg hb=>exact .agg hs (fun i c hc=>ih i c hc (hb i c hc)) h1
 |tup hs _ ih=>intro hb;cases hb with|tup hb=>exact .tup hs (fun i c hc=>ih i c hc (hb i c hc))
 |@sl es own b off sz cap xs hc hz hx _ ho ih=>
  intro hb
  cases hb with
  |sl hb ho'=>
   refine .sl hc hz (fun i e j c h1 h2=>⟨hcl _ _ (hx i e j c h1 h2).1,(hx i e j c h1 h2).2⟩) (fun i e j c h1 h2=>ih i e j c h1 h2 (hb i e j c h1 h2)) ?_
   cases own with
   |no=>exact trivial
   |full=>exact ho
   |tok t=>exact absurd (ho' t rfl) (by omega)
 |@sln own ho=>
  intro hb
  cases hb with
  |sl _ ho'=>
   refine .sln ?_
   cases own with
   |no=>exact trivial
   |full=>exact ho
   |tok t=>exact absurd (ho' t rfl) (by omega)
 |sle a=>exact fun _=>.sle a
 |asl ho hl hc=>intro hb;cases hb with|asl hb=>exact absurd hb (by omega)
 |ptr ho=>intro hb;cases hb with|ptr hb=>exact absurd hb (by omega)
 |cptr hx _ ih=>intro hb;cases hb with|cptr hb=>exact .cptr (fun j c h=>⟨hcl _ _ (hx j c h).1,(hx j c h).2⟩) (fun j c h=>ih j c h (hb j c h))
 |map ho=>intro hb;cases hb with|map hb=>exact absurd hb (by omega)
 |@fn f a c us vs hf h1 h2 _ _ ih1 ih2=>
  intro hb
  cases hb with
  |fn hbf hb1 hb2=>
   have e:fnW G f=fnW G' f:=by
    cases f<;>first|rfl|exact absurd hbf (by simp[qdu])
   rw[e]
   refine .fn ?_ h1 h2 (fun i x h=>ih1 i x h (hb1 i x h)) (fun i x h=>ih2 i x h (hb2 i x h))
   cases f<;>first|trivial|exact absurd hbf (by simp[qdu])
 |iface _ ih=>intro hb;cases hb with|iface hb=>exact .iface (ih hb)
end Go.Abs
namespace Go.Abs
open Go
theorem Inv.grownSet{G:qb}{w w':World}{H:qa}(hI:Inv G w H)(hg:w.grownBy w' none)(C:Nat->Nat->Lab)(hC:∀b x,w'.heap.size<=b->C b x≠.cl):
  ∃G',Ext G w G' w'/\Inv G' w' H/\G'.B=G.B/\∀b x,w.heap.size<=b->C b x=.cl->G'.own b x=.cl:=by
 have hb:∀k,k<w.heap.size->w'.heap[k]? = w.heap[k]?:=fun k hk=>hg.block k hk (by simp)
 have hlt:∀{k:Nat}{o:Obj},w.heap[k]? = some o->k<w.heap.size:=fun h=>(Array.getElem?_eq_some_iff.1 h).1
 let own':Nat->Nat->Lab:=fun b x=>if w.heap.size<=b then (match C b x with|.cl=>.cl|_=>.free) else G.own b x
 let G':qb:=⟨G.B,G.n,G.loc,G.asz,G.tk,own',G.rc⟩
 have hne:∀{b x:Nat}{l:Lab},G.own b x=l->l≠.free->¬w.heap.size<=b:=by
  intro b x l h hl e
  rw[hI.free b x e]at h
  exact hl h.symm
 have hold:∀{b x:Nat},¬w.heap.size<=b->own' b x=G.own b x:=fun h=>if_neg h
 have hx:Ext G w G' w':=by
  refine⟨hg.os,hg.tape,hg.output,hg.size,rfl,fun k hk=>hb k (hI.hB k hk),Nat.le_refl _,fun _ _=>rfl,fun _ _=>rfl,fun b x hc=>⟨?_,fun v hv=>?_⟩,fun t _ m b c h=>⟨m,b,c,h,Nat.le_refl _,fun _=>⟨rfl,rfl⟩⟩,rfl⟩
  ·show own' b x=.cl
   rw[hold (hne hc (by simp))];exact hc
  ·have:b<w.heap.size:=by
    rcases Nat.lt_or_ge b w.heap.size with h|h
    ·exact h
    ·rw[hI.free b x h]at hc;cases hc
   rw[qaw (hb b this)];exact hv
 refine⟨G',hx,Inv.step (W:=fun _ _=>False) (V:=fun _=>False) (fun _=>False) hI hx ⟨fun k vs el fz h=>⟨vs,by rw[hb k (hlt h)];exact h,rfl,fun _ _=>rfl⟩,fun k ob h _ _=>by rw[hb k (hlt h)];exact h⟩
  hI.n (fun b x h=>?_) (fun b x h=>?_) (fun _ _ _ h=>h) (fun _ _ _ _ _ h=>h) (fun _ _ _ h=>h) (fun i k x _=>⟨fun h=>?_,fun h=>?_⟩) (fun _ _ _=>rfl) ?_ (fun _ _ h=>h.elim),rfl,fun b x h hc=>?_⟩
 ·show own' b x=.free
  have h2:w.heap.size<=b:=Nat.le_trans hg.size h
  show (if w.heap.size<=b then (match C b x with|.cl=>Lab.cl|_=>.free) else G.own b x)=.free
  rw[if_pos h2]
  have:=hC b x h
  split
  ·rename_i hcc;exact absurd hcc this
  ·rfl
 ·show own' b x=.free
  have:=hI.hB b h
  rw[hold (by omega)];exact hI.old b x h
 ·show own' k x=_
  rw[hold (hne h (by simp))];exact h
 ·show own' k x=_
  rw[hold (hne h (by simp))];exact h
 ·intro m es' hm he'
  obtain⟨_,hob⟩:=hI.objs m _ he'
  obtain⟨ents,clock,h1,_⟩:=hob
  refine⟨es',he',Nat.le_refl _,fun _ ents' clock' h'=>⟨ents,clock,h1,?_⟩⟩
  rw[hb _ (hlt h1),h1]at h'
  cases h'
  exact⟨rfl,fun _=>rfl⟩
 ·show (if w.heap.size<=b then (match C b x with|.cl=>Lab.cl|_=>.free) else G.own b x)=.cl
  rw[if_pos h,hc]
theorem qZ.frame{P:Program}{E:Env}{f:FuncId}{args:List LV}{v:LV}{S:Res->Prop}(hg:∀g,E.glob g=.bot)(h:qZ P E f args ⟨[],1⟩ fun r=>∃v' H',r=.ret v' H'/\v'.strip=v)
  (hb:Bel 0 v) (hba:∀(i:Nat)(x:LV),args[i]? = some x->∃u,x=.sc u) (H:qa) (hS:S (.ret v H)):qZ P E f args H S:=by
 refine⟨h.1,fun G w us hI hE ha=>?_⟩
 let B1:Nat->Option Bool:=fun b=>if b<w.heap.size then some (decide (G.B b=some true)) else none
 let G0:qb:=⟨B1,0,G.loc,G.asz,G.tk,fun _ _=>.free,G.rc⟩
 have hB1:∀b,b<w.heap.size->B1 b=some (decide (G.B b=some true)):=fun b h=>if_pos h
 have hB2:∀b,¬b<w.heap.size->B1 b=none:=fun b h=>if_neg h
 have hI0:Inv G0 w ⟨[],1⟩:=by
  refine⟨Nat.zero_le _,fun b hh=>?_,fun _ _ _=>rfl,fun _ _ _=>rfl,fun o x hx=>by simp[look]at hx⟩
  rcases Nat.lt_or_ge b w.heap.size with h|h
  ·exact h
  ·rw[show G0.B b=none from hB2 b (by omega)]at hh
   cases hh
 have hE0:yX E G0 w:=⟨fun g=>by rw[hg];exact .bot _,hE.rc,fun p hp=>by
  obtain⟨h1,h2⟩:=hE.fix p hp
  have hlt:=hI.hB p.1 (by rw[h1];rfl)
  exact⟨by rw[show G0.B p.1=_ from hB1 _ hlt,h1];rfl,h2⟩⟩
 have ha0:uR G0 w args us:=⟨ha.1,fun i x hi=>by
  obtain⟨u,rfl⟩:=hba i x hi
  have:=(ha.2 i _ hi).sc_inv
  rw[this]
  exact .sc _⟩
 refine(h.2 G0 w us hI0 hE0 ha0).mono fun e w' hp=>?_
 cases e with
 |outgrown=>exact hp.elim
 |panicked ch=>
  obtain⟨_,_,_,_,⟨_,_,hn,_⟩,_⟩:=hp
  cases hn
 |returned u=>
  obtain⟨v',H',G1,⟨_,_,hn,hv⟩,hV,hI1,hx⟩:=hp
  cases hn
  have hV1:VR G1 w' v u:=by rw[<-hv];exact hV.strip
  have hgrow:w.grownBy w' none:=⟨hx.os,hx.tape,hx.output,hx.size,fun k hk _=>hx.block k (by rw[show G0.B k=_ from hB1 k hk];rfl)⟩
  obtain⟨G',hx',hI',hGB,hcl⟩:=hI.grownSet hgrow G1.own fun b x h hc=>by rw[hI1.free b x h]at hc;cases hc
  refine⟨v,H,G',hS,VR.cl0 (G:=G1) (G':=G') (fun b y hc=>?_) hV1 hb,hI',hx'⟩
  rcases hc with hc|hc
  ·rw[hx.hB]at hc
   rcases Nat.lt_or_ge b w.heap.size with h|h
   ·rw[show G0.B b=_ from hB1 b h]at hc
    exact .inl (by rw[hGB];exact of_decide_eq_true (Option.some.inj hc))
   ·rw[show G0.B b=none from hB2 b (by omega)]at hc
    cases hc
  ·rcases Nat.lt_or_ge b w.heap.size with h|h
   ·have:=hI1.old b y (by rw[hx.hB,show G0.B b=_ from hB1 b h];rfl)
    rw[this]at hc
    cases hc
   ·exact .inr (hcl b y h hc)
def scB:List LV->Bool
 |[]=>true
 |.sc _::r=>scB r
 |_=>false
theorem qmf:∀{l:List LV},scB l=true->∀(i:Nat)(x:LV),l[i]? = some x->∃u,x=.sc u
 |[],_,i,x,hx=>by simp at hx
 |v::r,h,i,x,hx=>by
  cases v with
  |sc u=>
   cases i with
   |zero=>simp at hx;exact⟨u,hx.symm⟩
   |succ i=>exact qmf (l:=r) h i x (by simpa using hx)
  |_=>cases h
end Go.Abs
namespace Go.Abs.Tz
open Go Go.Abs Go.Proofs
noncomputable def qgz(f:FuncId):Option qey:=match f with
 |172=>some qiK
 |171=>some qiL
 |_=>none
theorem qtM(f:FuncId)(p:qey)(h:qgz f=some p)(args:List LV)(H:qa)(kv kp:HK)(hH:H.Ok)(hp:p args H kv kp=true):Out E0 F0 (.call f args H) (CS kv kp):=by
 unfold qgz at h
 split at h
 ·cases h;exact qtN hH hp
 ·cases h;exact qtO hH hp
 ·cases h
def pP(k:Nat):qo:=match k,b48.body with
 |0,.seq a _=>a
 |1,.seq _ (.seq a _)=>a
 |2,.seq _ (.seq _ (.seq a _))=>a
 |3,.seq _ (.seq _ (.seq _ (.seq (.seq a _) _)))=>a
 |4,.seq _ (.seq _ (.seq _ (.seq (.seq _ (.blk _ (.rf _ _ a _))) _)))=>a
 |5,.seq _ (.seq _ (.seq _ (.seq (.seq _ (.blk _ (.rf _ _ _ a))) _)))=>a
 |6,.seq _ (.seq _ (.seq _ (.seq _ (.seq _ a))))=>a
 |_,_=>.bad
def qP:qo:=match b107.body with
 |.seq _ a=>a
 |_=>.bad
def rP:RFn:=⟨pP 0,pP 1,pP 2,pP 3,0,T 14,[15],pP 4,pP 5,0,31,107,[T 2,T 4,T 5,T 6],pP 6,39,[.c 4 none,.c 5 none],6,7,qP,36,6⟩
theorem qmR:rP.fn=b48:=rfl
theorem rP_gn:rP.gn=b107:=rfl
theorem rcP(fn:Func)(c:Code)(hf:Tryz.prog.funcs[48]? = some fn)(hb:fn.body=some c):rfOf c=E0.rc 0:=by
 simp only[E0,rcT,hf,hb,Option.bind_some,Option.getD_some]
theorem rngP:F0.rng 0 39 (pP 4) (pP 5):=by
 obtain⟨fn,hf,hcF,_⟩:=qcl.fn 48 rP.fn (by rw[qmR];exact c48)
 obtain⟨c,hb,hcode,hbn,_⟩:=qew hcF
 have hrc:=rcP fn c hf hb
 simp only[RFn.fn]at hcode hbn
 obtain⟨cA,c1,rfl,eA,hcode⟩:=qax hcode
 obtain⟨cI,c2,rfl,eI,hcode⟩:=qax hcode
 obtain⟨cB,c3,rfl,eB,hcode⟩:=qax hcode
 obtain⟨c4,c5,rfl,e4,e5⟩:=qax hcode
 obtain⟨cC,cl,rfl,eC,e4⟩:=qax e4
 obtain⟨cr,rfl,er⟩:=qka e4
 obtain⟨d,pa,a,b,rfl,_,_,h1,h2⟩:=qqa er
 show qw Tryz.prog 39 (E0.rc 0).1=_/\qw Tryz.prog 39 (E0.rc 0).2=_
 rw[<-hrc,show (39:Nat)=fn.ntmps from hbn]
 exact⟨h1,h2⟩
noncomputable def CP3:Cfg:=⟨E0,qfm tabP,qgz,fun k=>match k with
 |0=>some (pP 4,pP 5,39,6)
 |_=>none⟩
theorem qeF:qeE CP3 F0:=⟨fun f i h=>qnF qrq f i h,qtM,fun k ba bb N d h=>by
 simp only[CP3]at h
 split at h
 ·cases h;exact rngP
 ·cases h⟩
noncomputable def qmU(n:Nat):qey:=fun args H kv _=>qmT E0 (qhk CP3 n false) (qev CP3 (qhk CP3 n)) rP args H kv
theorem qtL(n:Nat){args:List LV}{H:qa}{kv kp:HK}(hH:H.Ok)(h:qmU n args H kv kp=true):Out E0 F0 (.call 48 args H) (CS kv kp):=
 .prim (qtK (P:=Tryz.prog) (E:=E0) (F:=F0) (r:=rP) (f:=48) qds qcl (by rw[qmR];exact c48) (by rw[rP_gn];exact c107) rcP (fun c=>qjL qeF n false c) (qhx qeF (qjL qeF n)) hH h)
noncomputable def qmV(f:FuncId):Option qey:=match f with
 |48=>some (qmU 1000000)
 |f=>qgz f
noncomputable def CP4:Cfg:=⟨E0,qfm tabP,qmV,CP3.rng⟩
theorem qyy:qeE CP4 F0:=⟨qeF.tab,fun f p h args H kv kp hH hp=>by
 simp only[CP4,qmV]at h
 split at h
 ·cases h;exact qtL _ hH hp
 ·exact qeF.prim _ _ h _ _ _ _ hH hp,qeF.rng⟩
noncomputable def qeT(f:FuncId)(args:List LV)(v:LV):Bool:=qpY CP4 1000000 f args ⟨[],1⟩ (fun u _=>uG u.strip v) (fun _ _=>false)
abbrev qfU(f:FuncId)(args:List LV)(v:LV):Prop:=qhI E0 F0 f args v
theorem qgX{f:FuncId}{args:List LV}{v:LV}(h:qeT f args v=true)(hb:qdB v=true)(ha:scB args=true):qfU f args v:=by
 intro H kv kp hk hH
 have hO:=qxx qyy (show qa.Ok ⟨[],1⟩ from trivial) h
 have hC:qZ Tryz.prog E0 f args ⟨[],1⟩ _:=qbD qds qcl hO
 refine .prim (qZ.frame (fun _=>rfl) (hC.weaken fun r hr=>?_) (qqi hb) (qmf ha) H (.inl ⟨v,_,rfl,hH,hk⟩))
 rcases hr with⟨u,H,rfl,_,hk⟩|⟨u,H,rfl,_,hk⟩
 ·exact⟨u,H,rfl,qhm hk⟩
 ·cases hk
end Go.Abs.Tz
namespace Go.Abs.Tz
open Go Go.Abs Go.Proofs
def t0Y:Term:=⟨0,0,⟨⟨[]⟩⟩⟩
def qje:List qf:=[⟨⟨⟨⟨[108,111,115,116]⟩⟩,[⟨3,0,⟨⟨[83]⟩⟩⟩]⟩,[⟨1,⟨⟨⟨[115,116,111,110,101]⟩⟩,[⟨3,0,⟨⟨[83]⟩⟩⟩,⟨3,0,⟨⟨[78]⟩⟩⟩]⟩,t0Y,t0Y⟩,⟨5,⟨⟨⟨[]⟩⟩,[]⟩,⟨3,0,⟨⟨[78]⟩⟩⟩,⟨1,3,⟨⟨[]⟩⟩⟩⟩]⟩]
def qkc:List qf:=[⟨⟨⟨⟨[98,111,117,110,100]⟩⟩,[⟨3,0,⟨⟨[83]⟩⟩⟩]⟩,[⟨1,⟨⟨⟨[115,116,111,110,101]⟩⟩,[⟨3,0,⟨⟨[83]⟩⟩⟩,⟨3,0,⟨⟨[78]⟩⟩⟩]⟩,t0Y,t0Y⟩,⟨2,⟨⟨⟨[108,111,115,116]⟩⟩,[⟨3,0,⟨⟨[83]⟩⟩⟩]⟩,t0Y,t0Y⟩]⟩]
def qbB:List Atom:=[⟨⟨⟨[115,116,111,110,101]⟩⟩,[⟨1,1,⟨⟨[]⟩⟩⟩,⟨1,2,⟨⟨[]⟩⟩⟩]⟩,
 ⟨⟨⟨[115,116,111,110,101]⟩⟩,[⟨1,2,⟨⟨[]⟩⟩⟩,⟨1,5,⟨⟨[]⟩⟩⟩]⟩,
 ⟨⟨⟨[115,116,111,110,101]⟩⟩,[⟨1,3,⟨⟨[]⟩⟩⟩,⟨1,0,⟨⟨[]⟩⟩⟩]⟩,
 ⟨⟨⟨[115,101,101,110]⟩⟩,[⟨1,3,⟨⟨[]⟩⟩⟩]⟩,
 ⟨⟨⟨[110,101,120,116]⟩⟩,[⟨1,1,⟨⟨[]⟩⟩⟩,⟨1,2,⟨⟨[]⟩⟩⟩]⟩,
 ⟨⟨⟨[110,101,120,116]⟩⟩,[⟨1,2,⟨⟨[]⟩⟩⟩,⟨1,3,⟨⟨[]⟩⟩⟩]⟩,
 ⟨⟨⟨[110,101,120,116]⟩⟩,[⟨1,3,⟨⟨[]⟩⟩⟩,⟨1,1,⟨⟨[]⟩⟩⟩]⟩]
def qdc:Atom:=⟨⟨⟨[98,111,117,110,100]⟩⟩,[⟨1,1,⟨⟨[]⟩⟩⟩]⟩
noncomputable def qys:List LV:=[.str ⟨⟨[108,111,115,116,40,83,41,32,105,102,32,115,116,111,110,101,40,83,44,32,78,41,44,32,78,32,60,32,51,46]⟩⟩]
noncomputable def qri:LV:=.tup [.sl (qje.map uH) .no,.sc (.int .i64 0),.sc (.int .i64 0)]
theorem qtE:qeT 9 qys qri=true:=by kernel_rfl
theorem qvT:qfU 9 [.str ⟨⟨[108,111,115,116,40,83,41,32,105,102,32,115,116,111,110,101,40,83,44,32,78,41,44,32,78,32,60,32,51,46]⟩⟩] (.tup [.sl (qje.map uH) .no,.sc (.int .i64 0),.sc (.int .i64 0)]):=qgX qtE (by kernel_rfl) (by kernel_rfl)
noncomputable def qyt:List LV:=[.str ⟨⟨[98,111,117,110,100,40,83,41,32,105,102,32,115,116,111,110,101,40,83,44,32,78,41,44,32,110,111,116,32,108,111,115,116,40,83,41,46]⟩⟩]
noncomputable def qrj:LV:=.tup [.sl (qkc.map uH) .no,.sc (.int .i64 0),.sc (.int .i64 0)]
theorem qtF:qeT 9 qyt qrj=true:=by kernel_rfl
theorem qvU:qfU 9 [.str ⟨⟨[98,111,117,110,100,40,83,41,32,105,102,32,115,116,111,110,101,40,83,44,32,78,41,44,32,110,111,116,32,108,111,115,116,40,83,41,46]⟩⟩] (.tup [.sl (qkc.map uH) .no,.sc (.int .i64 0),.sc (.int .i64 0)]):=qgX qtF (by kernel_rfl) (by kernel_rfl)
noncomputable def qyu:List LV:=[]
noncomputable def qrk:LV:=.sl (qbB.map qd) .no
theorem qtG:qeT 43 qyu qrk=true:=by kernel_rfl
theorem qjx:qfU 43 [] (.sl (qbB.map qd) .no):=qgX qtG (by kernel_rfl) (by kernel_rfl)
noncomputable def qyv:List LV:=[.str ⟨⟨[98,111,117,110,100,40,49,41]⟩⟩]
noncomputable def qrl:LV:=qd qdc
theorem qtH:qeT 44 qyv qrl=true:=by kernel_rfl
theorem qok:qfU 44 [.str ⟨⟨[98,111,117,110,100,40,49,41]⟩⟩] (qd qdc):=qgX qtH (by kernel_rfl) (by kernel_rfl)
end Go.Abs.Tz
namespace Go.Abs.Tz
open Go Go.Abs Go.Proofs
set_option maxRecDepth 20000
set_option linter.unusedSimpArgs false
attribute [local simp ↓] yb ya jv ju gI ut zg zB jr up yP yQ yc ye yf yd jA jD jG jB jH jI jE jF jC jy jw jz jx yN yL yO yM g7 gZ g8 g6 yk yh yj uu zx jL zh z7 gL yS yT yo yq yp ym yn yz jO jT jW jS jU jV gy gx j5 j7 jb uZ jm jp u9 jh jl jk jj ji jf uV uW uX uY jn jd je uT jo jq ja jc jg uU gb j6 gu gC j8 gj gt gq gp gk gh j0 gw gf gg jX gA gD j9 gd gi jY gG gz jZ gF ge ga gc j3 gv jP jR jQ yu yx yt yv yw qp uL
attribute [local simp] faL fdL iaL ixL qL zb qV eqK eqL qR zo uO yr yK yA yC yE yG yI yJ yB yF yD yH zC LV.cells LV.whole qp uC uw jM stL zF zR uq qa.alloc gJ gH gK gY gW gV gU gT gS gQ gO gN gM qe ux
def qbA:List qv:=[⟨1,100,200,qje⟩,⟨2,0,4000,qkc⟩]
theorem yR1:qdT qbA 150=(100,200,0):=of_decide_eq_true (by kernel_rfl)
theorem yR2:qao qbA qbB 150 qdc=([1],0):=of_decide_eq_true (by kernel_rfl)
theorem yR3:qao qbA qbB 250 qdc=([2],0):=of_decide_eq_true (by kernel_rfl)
theorem yR4:(vc qbA qbB 150 1).1.length=2/\(vc qbA qbB 150 1).2.1.length=2/\(vc qbA qbB 150 1).2.2=0:=of_decide_eq_true (by kernel_rfl)
theorem ySm:(qbA.all fun c=>c.cls.all qav)=true:=by kernel_rfl
theorem yBs:(qbB.all fun a=>a.small)=true:=by kernel_rfl
theorem yAs:qdc.small=true:=by kernel_rfl
theorem yIn:qcV qbA qbB where
 len:=by decide
 sm:=fun _ c hc=>⟨fun _ k hk=>qlX (List.all_eq_true.1 (List.all_eq_true.1 ySm c hc) k hk)⟩
 pos3:=fun _ c hc _ k hk=>by
  have:=List.all_eq_true.1 (List.all_eq_true.1 ySm c hc) k hk
  unfold qav at this
  simp only[Bool.and_eq_true,decide_eq_true_iff]at this
  rw[qjU]
  exact this.2.2.1
 hb:=by decide
 hok:=fun _ a ha=>Atom.small_ok (List.all_eq_true.1 yBs a ha)
set_option maxHeartbeats 1000000 in
theorem qgf(ob:List (Nat×qc))(n:Nat)(hni:qQ ob){kv kp:HP}(hk:∀n',n<=n'->kv (.bool true) ⟨ob,n'⟩):cP E0 F0 21 [] ⟨ob,n⟩ kv kp:=by
 refine ur c21 fun hH=>⟨Nat.le_of_ble_eq_true rfl,?_⟩
 have hOb:qn ob n:=hH
 have ha:=Atom.small_ok yAs
 simp(disch:=omega)[b21]
 refine qvT _ _ _ ?_
 simp(disch:=omega)
 refine qvU _ _ _ ?_
 simp(disch:=omega)
 refine(qsX qbA .full 150 yIn.toCustIn).go fun n1 hn1=>?_
 rw[yR1]
 simp(disch:=omega)
 refine qjx _ _ _ ?_
 simp(disch:=omega)
 refine qok _ _ _ ?_
 simp(disch:=omega)
 refine qih yIn .full .no 150 qdc ha _ _ (hni.cons _ rfl) fun o1 n2 hn2=>?_
 rw[yR2]
 simp(disch:=omega)
 refine qjx _ _ _ ?_
 simp(disch:=omega)
 refine qok _ _ _ ?_
 simp(disch:=omega)
 refine qih yIn .full .no 250 qdc ha _ _ (hni.cons _ rfl) fun o2 n3 hn3=>?_
 rw[yR3]
 simp(disch:=omega)
 refine qjx _ _ _ ?_
 simp(disch:=omega)
 refine qlL yIn .full .no 150 1 _ _ (hni.cons _ rfl) fun o3 o4 n4 hn4=>?_
 obtain⟨q1,q2,q3⟩:=yR4
 obtain⟨V,hV⟩:∃V,vc qbA qbB 150 1=V:=⟨_,rfl⟩
 rw[hV]at q1 q2 q3 ⊢
 simp(disch:=omega)[q1,q2,q3]
 refine(qhS [1] o1 .full (by decide)).go fun n5 hn5=>?_
 simp(disch:=omega)[q1,q2,q3]
 refine(qhS [2] o2 .full (by decide)).go fun n6 hn6=>?_
 simp(disch:=omega)[q1,q2,q3]
 exact⟨⟨ob,n6⟩,y9 (hOb.mono hn1) (Nat.le_refl _),fun _=>hOb.mono (by dsimp only;omega),hk n6 (by omega)⟩
section
variable{l:List qv}{base:List Atom}
theorem qgw{A:List qv}{y:Int}{base:List Atom}{a:Atom}{now:Bool}:∀(r:List qv)(out:List Int),(qbH A y base a now r out).1.length<=out.length+r.length
 |[],out=>Nat.le_refl _
 |c::r,out=>by
  unfold qbH
  split
  ·split
   ·simp
   ·rw[List.length_cons]
    by_cases hn:qaq (qB A y c.id) base a=now
    ·rw[if_pos hn]
     have:=qgw (A:=A) (y:=y) (base:=base) (a:=a) (now:=now) r out
     omega
    ·rw[if_neg hn]
     have:=qgw (A:=A) (y:=y) (base:=base) (a:=a) (now:=now) r (out++[c.id])
     rw[List.length_append,List.length_singleton]at this
     omega
  ·have:=qgw (A:=A) (y:=y) (base:=base) (a:=a) (now:=now) r out
   rw[List.length_cons]
   omega
theorem qtx(l:List qv)(base:List Atom)(y:Int)(a:Atom):(qao l base y a).1.length<2^60:=by
 unfold qao
 split
 ·simp
 ·rename_i h
  have h30:=(qbT (l:=l) (y:=y) (by omega) y 0).1
  split
  ·simp
  ·split
   ·simp
   ·split
    ·simp
    ·have:=qgw (A:=l) (y:=y) (base:=base) (a:=a) (now:=qaq (qB l y 0) base a) l []
     simp only[List.length_nil]at this
     omega
theorem qnt{A B:List Atom}(hl:A.length<=300)(hg:∀a∈A,qI a):(vR A B).length<2^60/\∀a∈vR A B,a.ok:=by
 unfold vR
 have:=List.length_filter_le (fun x=>!ws B x) A
 exact⟨by omega,fun a ha=>wX (hg a (List.mem_filter.1 ha).1).1⟩
theorem qwV(hI:qcV l base)(y i:Int):((vc l base y i).1.length<2^60/\∀a∈(vc l base y i).1,a.ok)/\((vc l base y i).2.1.length<2^60/\∀a∈(vc l base y i).2.1,a.ok):=by
 by_cases h:wD l base y i=0
 ·rw[qjP h]
  have ha:uP l y=0:=by
   unfold wD at h
   by_cases h1:uP l y≠0
   ·rw[if_pos h1]at h;exact absurd h h1
   ·omega
  obtain⟨_,_,_,_,hM⟩:=qbP hI ha y 0
  obtain⟨_,_,_,_,hM2⟩:=qbP hI ha y i
  exact⟨qnt hM.len hM.good,qnt hM2.len hM2.good⟩
 ·rw[qjQ h]
  exact⟨⟨by simp,fun a ha=>by cases ha⟩,by simp,fun a ha=>by cases ha⟩
theorem qwu{l:List qv}(h:qcO l=true):qbE l=true:=by
 unfold qcO at h
 split at h
 ·cases h
 ·simp only[Bool.and_eq_true]at h
  exact h.1
theorem qtl{l:List Atom}(h:qcA l=true):l.length<=100->∀x∈l,x.ok:=by
 intro hl x hx
 unfold qcA at h
 rw[if_neg (by omega)]at h
 split at h
 ·rename_i hall
  exact Atom.small_ok (List.all_eq_true.1 hall x hx)
 ·cases h
theorem qwv(hl:l.length<2^63)(hbl:base.length<2^63)(h1:qcO l=true)(h2:qcA base=true):qcV l base:=by
 obtain⟨hI,_,hk⟩:=qtk hl (qwu h1)
 exact⟨hI,fun h30 c hc h40 k hkc=>by
  have:=hk h30 c hc h40 k hkc
  unfold qav at this
  simp only[Bool.and_eq_true,decide_eq_true_iff]at this
  rw[qjU]
  exact this.2.2.1,hbl,qtl h2⟩
end
set_option maxHeartbeats 2000000 in
theorem qsg(l:List qv)(base:List Atom)(y:Int)(a:Atom)(i:Int)(hl:l.length<2^63)(hb:qfY l)(hbl:base.length<2^63)(ob:List (Nat×qc))(n:Nat)(hni:qQ ob){kv kp:HP}
  (hk:∀n',n<=n'->kv (.bool true) ⟨ob,n'⟩):cP E0 F0 5 [.sl (l.map qY) .no,.sl (base.map qd) .no,.int y,qd a,.int i] ⟨ob,n⟩ kv kp:=by
 refine ur c5 fun hH=>⟨Nat.le_of_ble_eq_true rfl,?_⟩
 simp(disch:=omega)[b5]
 refine(t_few l .no hl hb).go fun n1 hn1=>?_
 obtain⟨OB,hOB⟩:∃OB,(n,qc.cells [.str a.pred,qk a.args])::ob=OB:=⟨_,rfl⟩
 have hla:look n OB=some (.cells [.str a.pred,qk a.args]):=by rw[<-hOB];exact qp _ _ _
 have hniO:qQ OB:=by rw[<-hOB];exact hni.cons _ rfl
 have fin1:∀(m:Nat)(ob1:List (Nat×qc)),(∀i,i<n+1->look i ob1=look i OB)->n<=m->∃H'',HWk ⟨ob1,m⟩ H''/\(qa.Ok ⟨ob1,m⟩->H''.Ok)/\kv (.bool true) H'':=fun m ob1 ho hm=>⟨⟨ob,m⟩,vV hH (fun i hi=>by rw[ho i (by omega),<-hOB,qe (by omega)]) (Nat.le_refl _),fun _=>qn.mono hH hm,hk m hm⟩
 rw[hOB]
 cases h1:qcO l
 ·simp(disch:=omega)
  refine qgf _ _ hniO fun n2 hn2=>?_
  simp(disch:=omega)
  exact fin1 _ _ (fun _ _=>rfl) (by omega)
 simp(disch:=omega)
 refine(qrA base (by omega)).go fun n2 hn2=>?_
 cases h2:qcA base
 ·simp(disch:=omega)
  refine qgf _ _ hniO fun n3 hn3=>?_
  simp(disch:=omega)
  exact fin1 _ _ (fun _ _=>rfl) (by omega)
 simp(disch:=omega)[hla]
 refine(qgi a).go fun n3 hn3=>?_
 cases h3:a.small
 ·simp(disch:=omega)
  refine qgf _ _ hniO fun n4 hn4=>?_
  simp(disch:=omega)
  exact fin1 _ _ (fun _ _=>rfl) (by omega)
 have hI:=qwv hl hbl h1 h2
 have ha:=Atom.small_ok h3
 simp(disch:=omega)[hla]
 refine qih hI .no .no y a ha _ _ hniO fun o1 n4 hn4=>?_
 simp(disch:=omega)[hla]
 refine qrV hI .no .no y a ha _ fun n5 hn5=>?_
 dsimp only at hn5
 simp(disch:=omega)
 refine qlL hI .no .no y i _ _ (hniO.cons _ rfl) fun o2 o3 n6 hn6=>?_
 simp(disch:=omega)
 refine qrX hI .no .no y i _ fun n7 hn7=>?_
 dsimp only at hn7
 obtain⟨⟨e1,e2⟩,e3,e4⟩:=qwV hI y i
 have e5:=qtx l base y a
 obtain⟨R,hR⟩:∃R,qao l base y a=R:=⟨_,rfl⟩
 obtain⟨V,hV⟩:∃V,vc l base y i=V:=⟨_,rfl⟩
 rw[hR]at e5 ⊢
 rw[hV]at e1 e2 e3 e4 ⊢
 simp(disch:=omega)
 refine qgf _ _ ((hniO.cons _ rfl).cons _ rfl) fun n8 hn8=>?_
 simp(disch:=omega)
 refine(qhS R.1 o1 .no e5).go fun n9 hn9=>?_
 simp(disch:=omega)
 refine(qlb V.1 o2 .no e1 e2).go fun n10 hn10=>?_
 simp(disch:=omega)
 refine(qlb V.2.1 o3 .no e3 e4).go fun n11 hn11=>?_
 simp(disch:=omega)
 exact fin1 _ _ (fun i hi=>by rw[qe (by omega),qe (by omega)]) (by omega)
end Go.Abs.Tz
namespace Go.Abs.Tz
set_option maxRecDepth 20000
open Go Go.Abs Go.Proofs Go.ChangeShapes Go.WideShapes Go.RowKit Go.Proofs.YtjbhehjoaalhiaaGreatDoor
section
variable{H:Type}{enc:TypeId×Value->H}{P:Program}{w:World}{base:Nat}{spare:Nat->Bool}{held:Bool}
theorem trodAll_five{t0 t1 t2 t3 t4:TypeId}{args:Array Value}{ds:List (DataW H)}{ps:List MemPlace}(h:DataW.TrodAll enc P w base spare held [t0,t1,t2,t3,t4] args.toList ds ps):
  ∃v0 v1 v2 v3 v4 d0 d1 d2 d3 d4 p0 p1 p2 p3 p4,args=#[v0,v1,v2,v3,v4]/\ds=[d0,d1,d2,d3,d4]/\ps=p0++p1++p2++p3++p4/\DataW.Trod enc P w base spare held t0 v0 d0 p0/\DataW.Trod enc P w base spare held t1 v1 d1 p1/\DataW.Trod enc P w base spare held t2 v2 d2 p2/\DataW.Trod enc P w base spare held t3 v3 d3 p3/\DataW.Trod enc P w base spare held t4 v4 d4 p4:=by
 obtain⟨v0,x0,d0,y0,p0,q0,hargs,rfl,rfl,k0,r0⟩:=trodAll_cons h
 obtain⟨v1,x1,d1,y1,p1,q1,rfl,rfl,rfl,k1,r1⟩:=trodAll_cons r0
 obtain⟨v2,x2,d2,y2,p2,q2,rfl,rfl,rfl,k2,r2⟩:=trodAll_cons r1
 obtain⟨v3,x3,d3,y3,p3,q3,rfl,rfl,rfl,k3,r3⟩:=trodAll_cons r2
 obtain⟨v4,x4,d4,y4,p4,q4,rfl,rfl,rfl,k4,r4⟩:=trodAll_cons r3
 obtain⟨rfl,rfl,rfl⟩:=trodAll_nil r4
 exact⟨v0,v1,v2,v3,v4,d0,d1,d2,d3,d4,p0,p1,p2,p3,p4,by cases args;simp_all,rfl,by simp,k0,k1,k2,k3,k4⟩
end
theorem law_run11(l:List qv)(bs:List Atom)(y:Int)(a:Atom)(i:Int)(hl:l.length<2^63)(hb:qfY l)(hbl:bs.length<2^63)(W:World)(hW:laidMetH Tryz.prog Rows.customYearsAsSpecifiedRow.laid W)(us:Array Value)(h0:us.size=5)
  (h1:VR (gOf W) W (.sl (l.map qY) .no) (us.getD 0 undef)) (h2:VR (gOf W) W (.sl (bs.map qd) .no) (us.getD 1 undef)) (h3:us.getD 2 undef=.int .i64 y) (h4:VR (gOf W) W (qd a) (us.getD 3 undef)) (h5:us.getD 4 undef=.int .i64 i):
  Calls Tryz.prog 5 us W fun e W'=>e=.returned (.bool true)/\Below W.heap.size W W':=by
 have hO:cP E0 F0 5 [.sl (l.map qY) .no,.sl (bs.map qd) .no,.int y,qd a,.int i] ⟨[],1⟩ (fun v _=>v=.bool true) (fun _ _=>False):=
  qsg l bs y a i hl hb hbl [] 1 (fun i m l k n=>by simp[look]) fun _ _=>rfl
 have hC:qZ Tryz.prog E0 5 [.sl (l.map qY) .no,.sl (bs.map qd) .no,.int y,qd a,.int i] ⟨[],1⟩ _:=qbD qds qcl (hO trivial)
 refine(hC.2 (gOf W) W us (qvZ W 1) (qwa W hW) ⟨h0,fun i x hi=>?_⟩).mono fun e W' hp=>?_
 ·match i,hi with
  |0,hi=>simp at hi;subst hi;exact h1
  |1,hi=>simp at hi;subst hi;exact h2
  |2,hi=>simp at hi;subst hi;rw[h3];exact .sc _
  |3,hi=>simp at hi;subst hi;exact h4
  |4,hi=>simp at hi;subst hi;rw[h5];exact .sc _
  |i+5,hi=>simp at hi
 ·cases e with
  |outgrown=>exact hp.elim
  |panicked ch=>
   obtain⟨_,_,_,_,hT,_⟩:=hp
   rcases hT with⟨_,_,he,_⟩|⟨_,_,he,_,hf⟩
   ·cases he
   ·exact hf.elim
  |returned u=>
   obtain⟨v,H',G',hT,hV,_,hx⟩:=hp
   rcases hT with⟨v',H'',he,_,hv⟩|⟨_,_,he,_⟩
   ·cases he
    subst hv
    obtain rfl:=hV.sc_inv
    exact⟨rfl,hx.os,hx.tape,hx.output,hx.size,fun k hk=>hx.block k (by simp[gOf,hk])⟩
   ·cases he
end Go.Abs.Tz
