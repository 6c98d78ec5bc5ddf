/- Part of the proof that the law CustomYearsAsSpecified holds. Conditions: none. -/
import Derived.Test.YtjbhehjoaalhiaaGreatDoorPartN
import Derived.Test.YtjbhehjoaalhiaaGreatDoorRows
import Derived.ProofKit
import Derived.Deep.Slices
import Derived.Deep.Strs
import Derived.Lib.LaidTab
import Derived.LaidSub
import Derived.Test.YtjbhehjoaalhiaaGreatDoorPartH
import Derived.Test.YtjbhehjoaalhiaaGreatDoorPartJ
import Derived.Test.YtjbhehjoaalhiaaGreatDoorPartK
import Derived.Test.YtjbhehjoaalhiaaGreatDoorPartC
import Derived.RangeFuncRecord
import Derived.RecoverIn
import Derived.Test.YtjbhehjoaalhiaaGreatDoorPartG
import Derived.KernelRfl
set_option linter.unusedVariables false
set_option linter.unusedSimpArgs false
set_option linter.unusedSectionVars false
namespace Go.Abs.Tz
set_option maxRecDepth 20000
open Go Go.Abs Go.Proofs Go.ChangeShapes Go.WideShapes Go.RowKit Go.Proofs.YtjbhehjoaalhiaaGreatDoor
noncomputable def gOf(W:World):qb:=⟨fun b=>if b<W.heap.size then some true else none,0,fun _=>0,fun _=>(0,0),fun _=>none,fun _ _=>.free,E0.rc⟩
theorem qwc{W:World}{b x:Nat}{v:Value}(h:W.cell? (at_ b x)=some v):(gOf W).Cl b x:=by
 left
 have:b<W.heap.size:=by
  rcases Nat.lt_or_ge b W.heap.size with h'|h'
  ·exact h'
  ·unfold World.cell? at h
   rw[show (at_ b x).block=b from rfl,Array.getElem?_eq_none h']at h
   cases h
 simp[gOf,this]
theorem qwa(W:World)(m:Nat):Inv (gOf W) W ⟨[],m⟩:=by
 refine⟨Nat.zero_le _,fun b hb=>?_,fun _ _ _=>rfl,fun _ _ _=>rfl,fun o x hx=>by simp[look]at hx⟩
 simp only[gOf]at hb
 split at hb
 ·assumption
 ·cases hb
abbrev qfe:String:=(Rows.customYearsAsSpecifiedRow.laid.map Prod.fst)[2]!
theorem qtZ{W:World}(h:laidMetH Tryz.prog Rows.customYearsAsSpecifiedRow.laid W):∃t fz,W.heap[(3:Nat)]? = some (.cells (Lib.pow10Tab.map fun z=>Value.int .u64 z).toArray t fz):=by
 have h1:=laidMetH.filter (fun x=>x.1==qfe) h
 have e:Rows.customYearsAsSpecifiedRow.laid.filter (fun x=>x.1==qfe)=[(qfe,Lib.tabData .u64 Lib.pow10Tab)]:=rfl
 rw[e]at h1
 change laidMet Tryz.prog [(qfe,Lib.tabData .u64 Lib.pow10Tab)] W at h1
 have h2:=Lib.tabIs_of_head (g:=3) (t:=324) (e:=268) (n:=20) (by kernel_rfl) (by kernel_rfl) (by kernel_rfl) (by kernel_rfl) (by kernel_rfl) (by kernel_rfl) h1
 unfold Lib.TabIs World.var? at h2
 rw[show Tryz.prog.globalNamed qfe=some 3 by kernel_rfl]at h2
 simp only[Option.bind_some]at h2
 split at h2
 ·rename_i cs t fz hh
  cases h2
  exact⟨t,fz,hh⟩
 ·cases h2
theorem qwb(W:World)(h:laidMetH Tryz.prog Rows.customYearsAsSpecifiedRow.laid W):yS E0 (gOf W) W:=by
 refine⟨fun g=>.bot _,rfl,fun p hp=>?_⟩
 obtain⟨t,fz,hh⟩:=qtZ h
 have hp':p=(3,(Lib.pow10Tab.map fun z=>Value.int .u64 z).toArray):=by simpa [E0,powT] using hp
 subst hp'
 have hlt:3<W.heap.size:=(Array.getElem?_eq_some_iff.1 hh).1
 exact⟨by simp[gOf,hlt],t,fz,hh⟩
theorem qyt{a:Addr}(h:a.spot=none)(x y:Nat):(a.add x).add y=at_ a.block (a.off+x+y):=by
 obtain⟨b,o,s⟩:=a
 simp only at h
 subst h
 unfold Addr.add
 by_cases hx:x=0<;>by_cases hy:y=0<;>simp[hx,hy,Nat.add_assoc]
theorem z9:Tryz.prog.cellsOf 9=1:=by kernel_rfl
theorem z3:Tryz.prog.cellsOf 3=1:=by kernel_rfl
theorem z23:Tryz.prog.cellsOf 23=1:=by kernel_rfl
theorem z30:Tryz.prog.cellsOf 30=1:=by kernel_rfl
theorem z106:Tryz.prog.cellsOf 106=1:=by kernel_rfl
theorem z32:Tryz.prog.cellsOf 32=2:=by kernel_rfl
theorem z97:Tryz.prog.cellsOf 97=3:=by kernel_rfl
theorem z126:Tryz.prog.cellsOf 126=9:=by kernel_rfl
theorem z108:Tryz.prog.cellsOf 108=3:=by kernel_rfl
def yH(W:World)(cl:List LV)(cs:List Value):Prop:=cs.length=cl.length/\∀(j:Nat)(c:LV),cl[j]? = some c->∃v,cs[j]? = some v/\VR (gOf W) W c v/\v.oneCell'=true
theorem yH.nil(W:World):yH W [] []:=⟨rfl,fun j c h=>by simp at h⟩
theorem yH.cons{W:World}{c:LV}{v:Value}{cl:List LV}{cs:List Value}(h:VR (gOf W) W c v)(h1:v.oneCell'=true)(hr:yH W cl cs):yH W (c::cl) (v::cs):=
 ⟨by simp[hr.1],fun j x hx=>by
  cases j with
  |zero=>simp at hx;subst hx;exact⟨v,rfl,h,h1⟩
  |succ j=>simp at hx;simpa using hr.2 j x hx⟩
theorem yH.append{W:World}{cl dl:List LV}{cs ds:List Value}(h:yH W cl cs)(k:yH W dl ds):yH W (cl++dl) (cs++ds):=by
 refine⟨by simp[h.1,k.1],fun j c hc=>?_⟩
 rcases Nat.lt_or_ge j cl.length with hj|hj
 ·rw[List.getElem?_append_left hj]at hc
  rw[List.getElem?_append_left (by rw[h.1];exact hj)]
  exact h.2 j c hc
 ·rw[List.getElem?_append_right hj]at hc
  rw[List.getElem?_append_right (by rw[h.1];exact hj),h.1]
  exact k.2 _ c hc
theorem yH.agg{W:World}{cl:List LV}{cs:List Value}(h:yH W cl cs):VR (gOf W) W (.agg cl) (.agg cs.toArray):=by
 refine .agg (by simp[h.1]) (fun i c hc=>?_) (fun i hi=>?_)
 ·obtain⟨v,h1,h2,_⟩:=h.2 i c hc
  have:cs.toArray.getD i undef=v:=by simp[Array.getD_eq_getD_getElem?,h1]
  rw[this];exact h2
 ·obtain⟨v,h1,_,h3⟩:=h.2 i _ (List.getElem?_eq_getElem hi)
  have:cs.toArray.getD i undef=v:=by simp[Array.getD_eq_getD_getElem?,h1]
  rw[this];exact h3
section
variable{H:Type}{enc:TypeId×Value->H}{W:World}{hd:Bool}
theorem fld{m:Nat}{cs:List Value}{f:Field}{t:TypeId}{off c:Nat}{r:Option (DataW H×List MemPlace)}(h:DataW.trod enc Tryz.prog W 0 (fun _=>true) hd m f.type ((cs.drop f.offset).take (Tryz.prog.cellsOf f.type))=r)
  (h1:f.type=t) (h2:f.offset=off) (h3:Tryz.prog.cellsOf t=c):DataW.trod enc Tryz.prog W 0 (fun _=>true) hd m t ((cs.drop off).take c)=r:=by
 subst h1;subst h2;subst h3;exact h
theorem qgC{α:Type}(ec:α->List LV){S E:TypeId}{k:Nat}(hu:Tryz.prog.underlying S=some (.slice E))(hk:Tryz.prog.cellsOf E=k)(hk0:0<k)
  (hec:∀a,(ec a).length=k) (a0:α)
  (hop:∀(n:Nat)(cs:List Value)(x:DataW H×List MemPlace),DataW.trod enc Tryz.prog W 0 (fun _=>true) hd n E cs=some x->∃a:α,yH W (ec a) cs)
  {n:Nat} {u:Value} {x:DataW H×List MemPlace} (h:DataW.trod enc Tryz.prog W 0 (fun _=>true) hd n S [u]=some x):
  ∃l:List α,l.length<2^63/\VR (gOf W) W (.sl (l.map fun a=>.agg (ec a)) .no) u/\u.oneCell'=true:=by
 rcases Deep.open_slice hu h with⟨e1,_⟩|⟨a,len,cap,m,n',D,Pl,e1,_,hlc,hmax,hm,_,hel⟩
 ·simp only[List.cons.injEq,and_true]at e1
  subst e1
  exact⟨[],by simp,.sln trivial,rfl⟩
 ·simp only[List.cons.injEq,and_true]at e1
  subst e1
  simp only[if_true]at hm
  have hm:=hm.symm
  subst hm
  have hmax2:cap<2^63:=by unfold maxLen at hmax;omega
  by_cases hc0:cap=0
  ·subst hc0
   obtain rfl:len=0:=by omega
   exact⟨[],by simp,.sle a,rfl⟩
  have hspot:a.spot=none:=by
   obtain⟨cs',q1,_⟩:=hel 0 (by omega)
   rw[hk]at q1
   obtain⟨_,q2,q3⟩:=World.cells?_some q1
   have:=q3 0 hk0
   rw[List.getElem?_eq_getElem (by omega)]at this
   have:=World.cell?_spot this
   simpa [Addr.add] using this
  have ht:∀i,∃t:α,i<len->∃cs,yH W (ec t) cs/\∀j,j<k->W.cell? (at_ a.block (a.off+i*k+j))=cs[j]?:=by
   intro i
   by_cases hi:i<len
   ·obtain⟨cs',q1,q2⟩:=hel i (by omega)
    rw[hk]at q1
    obtain⟨_,_,q3⟩:=World.cells?_some q1
    obtain⟨t,ht⟩:=hop _ _ _ q2
    refine⟨t,fun _=>⟨cs',ht,fun j hj=>?_⟩⟩
    rw[<-q3 j hj,qyt hspot]
   ·exact⟨a0,fun h=>absurd h hi⟩
  let T:Nat->α:=fun i=>Classical.choose (ht i)
  have hT:∀i,i<len->∃cs,yH W (ec (T i)) cs/\∀j,j<k->W.cell? (at_ a.block (a.off+i*k+j))=cs[j]?:=fun i=>Classical.choose_spec (ht i)
  have hX:∀i j,∃v:Value,i<len->∀c,(ec (T i))[j]? = some c->W.cell? (at_ a.block (a.off+i*k+j))=some v/\VR (gOf W) W c v/\v.oneCell'=true:=by
   intro i j
   by_cases hi:i<len
   ·obtain⟨cs,h1,h2⟩:=hT i hi
    by_cases hj:j<k
    ·obtain⟨v,h3,h4,h5⟩:=h1.2 j _ (List.getElem?_eq_getElem (by rw[hec];exact hj))
     refine⟨v,fun _ c hc=>?_⟩
     rw[List.getElem?_eq_getElem (by rw[hec];exact hj)]at hc
     cases hc
     exact⟨by rw[h2 j hj,h3],h4,h5⟩
    ·exact⟨undef,fun _ c hc=>by rw[List.getElem?_eq_none (by rw[hec];omega)]at hc;cases hc⟩
   ·exact⟨undef,fun h=>absurd h hi⟩
  let V:Nat->Nat->Value:=fun i j=>Classical.choose (hX i j)
  have hV:∀i j,i<len->∀c,(ec (T i))[j]? = some c->W.cell? (at_ a.block (a.off+i*k+j))=some (V i j)/\VR (gOf W) W c (V i j)/\(V i j).oneCell'=true:=fun i j=>Classical.choose_spec (hX i j)
  have ha:a=at_ a.block a.off:=by
   obtain⟨b,o,sp⟩:=a
   simp only at hspot
   subst hspot
   rfl
  have hget:∀(i:Nat)(e:LV),(((List.range len).map T).map fun a=>LV.agg (ec a))[i]? = some e->i<len/\e=.agg (ec (T i)):=by
   intro i e he
   rw[List.getElem?_map,List.getElem?_map]at he
   cases hr:(List.range len)[i]? with
   |none=>rw[hr]at he;cases he
   |some q=>
    rw[hr]at he
    obtain⟨hlt,rfl⟩:=List.getElem?_eq_some_iff.1 hr
    simp at hlt he
    exact⟨hlt,he.symm⟩
  refine⟨(List.range len).map T,by simp;omega,?_,rfl⟩
  have hlen:(((List.range len).map T).map fun a=>LV.agg (ec a)).length=len:=by simp
  have hR:=VR.sl (G:=gOf W) (w:=W) (es:=((List.range len).map T).map fun a=>LV.agg (ec a)) (own:=.no) (b:=a.block) (off:=a.off) (sz:=k) (cap:=cap) (xs:=V) (by rw[hlen];exact hlc)
   (fun i e he=>by obtain⟨_,rfl⟩:=hget i e he;exact hec _)
   (fun i e j c he hc=>by
    obtain⟨hi,rfl⟩:=hget i e he
    obtain⟨g1,_,g3⟩:=hV i j hi c hc
    exact⟨qwc g1,g1,g3⟩)
   (fun i e j c he hc=>by
    obtain⟨hi,rfl⟩:=hget i e he
    exact(hV i j hi c hc).2.1) trivial
  rw[hlen,<-ha]at hR
  exact hR
theorem qeb{n:Nat}{u:Value}{x:DataW H×List MemPlace}(h:DataW.trod enc Tryz.prog W 0 (fun _=>true) hd n 3 [u]=some x):∃k:Int,u=.int .i64 k:=by
 obtain⟨k,e,_⟩:=DataW.trod_int Tryz.underlying3 h
 simp only[List.cons.injEq,and_true]at e
 exact⟨k,e⟩
theorem qnb{n:Nat}{u:Value}{x:DataW H×List MemPlace}(h:DataW.trod enc Tryz.prog W 0 (fun _=>true) hd n 9 [u]=some x):∃s:ByteArray,u=.string s:=by
 obtain⟨s,e,_⟩:=DataW.trod_string Tryz.underlying9 h
 simp only[List.cons.injEq,and_true]at e
 exact⟨s,e⟩
theorem qiM{n:Nat}{cs:List Value}{x:DataW H×List MemPlace}(h:DataW.trod enc Tryz.prog W 0 (fun _=>true) hd n 97 cs=some x):∃t:Term,yH W (zP t) cs:=by
 obtain⟨xs,m,_,rfl,hl,hlen,hf⟩:=DataW.trod_struct Tryz.underlying97 h
 rw[z97]at hl
 match xs,hlen,cs,hl with
 |[y0,y1,y2],_,[u0,u1,u2],_=>
  have h0:=fld (t:=3) (off:=0) (c:=1) (hf 0 _ rfl) rfl rfl z3
  have h1:=fld (t:=3) (off:=1) (c:=1) (hf 1 _ rfl) rfl rfl z3
  have h2:=fld (t:=9) (off:=2) (c:=1) (hf 2 _ rfl) rfl rfl z9
  obtain⟨k,rfl⟩:=qeb (show DataW.trod enc Tryz.prog W 0 (fun _=>true) hd m 3 [u0]=some y0 from h0)
  obtain⟨l,rfl⟩:=qeb (show DataW.trod enc Tryz.prog W 0 (fun _=>true) hd m 3 [u1]=some y1 from h1)
  obtain⟨s,rfl⟩:=qnb (show DataW.trod enc Tryz.prog W 0 (fun _=>true) hd m 9 [u2]=some y2 from h2)
  exact⟨⟨k,l,s⟩,.cons (.sc _) rfl (.cons (.sc _) rfl (.cons (.sc _) rfl (.nil W)))⟩
theorem qnd{n:Nat}{cs:List Value}{x:DataW H×List MemPlace}(h:DataW.trod enc Tryz.prog W 0 (fun _=>true) hd n 32 cs=some x):∃a:Atom,yH W [.str a.pred,qt a.args] cs:=by
 obtain⟨xs,m,_,rfl,hl,hlen,hf⟩:=DataW.trod_struct Tryz.underlying32 h
 rw[z32]at hl
 match xs,hlen,cs,hl with
 |[y0,y1],_,[u0,u1],_=>
  have h0:=fld (t:=9) (off:=0) (c:=1) (hf 0 _ rfl) rfl rfl z9
  have h1:=fld (t:=30) (off:=1) (c:=1) (hf 1 _ rfl) rfl rfl z30
  obtain⟨s,rfl⟩:=qnb (show DataW.trod enc Tryz.prog W 0 (fun _=>true) hd m 9 [u0]=some y0 from h0)
  obtain⟨ts,_,hv,h1c⟩:=qgC zP Tryz.underlying30 z97 (by omega) (fun _=>rfl) ⟨0,0,⟨#[]⟩⟩ (fun n cs x h=>qiM h) (show DataW.trod enc Tryz.prog W 0 (fun _=>true) hd m 30 [u1]=some y1 from h1)
  exact⟨⟨s,ts⟩,.cons (.sc _) rfl (.cons hv h1c (.nil W))⟩
theorem qun{n:Nat}{cs:List Value}{x:DataW H×List MemPlace}(h:DataW.trod enc Tryz.prog W 0 (fun _=>true) hd n 126 cs=some x):∃l:Lit,yH W (yU l) cs:=by
 obtain⟨xs,m,_,rfl,hl,hlen,hf⟩:=DataW.trod_struct Tryz.underlying126 h
 rw[z126]at hl
 match xs,hlen,cs,hl with
 |[y0,y1,y2,y3],_,[u0,u1,u2,u3,u4,u5,u6,u7,u8],_=>
  have h0:=fld (t:=3) (off:=0) (c:=1) (hf 0 _ rfl) rfl rfl z3
  have h1:=fld (t:=32) (off:=1) (c:=2) (hf 1 _ rfl) rfl rfl z32
  have h2:=fld (t:=97) (off:=3) (c:=3) (hf 2 _ rfl) rfl rfl z97
  have h3:=fld (t:=97) (off:=6) (c:=3) (hf 3 _ rfl) rfl rfl z97
  obtain⟨k,rfl⟩:=qeb (show DataW.trod enc Tryz.prog W 0 (fun _=>true) hd m 3 [u0]=some y0 from h0)
  obtain⟨a,ha⟩:=qnd (show DataW.trod enc Tryz.prog W 0 (fun _=>true) hd m 32 [u1,u2]=some y1 from h1)
  obtain⟨s,hs⟩:=qiM (show DataW.trod enc Tryz.prog W 0 (fun _=>true) hd m 97 [u3,u4,u5]=some y2 from h2)
  obtain⟨t,ht⟩:=qiM (show DataW.trod enc Tryz.prog W 0 (fun _=>true) hd m 97 [u6,u7,u8]=some y3 from h3)
  exact⟨⟨k,a,s,t⟩,.cons (.sc _) rfl (ha.append (hs.append ht))⟩
theorem qup{n:Nat}{cs:List Value}{x:DataW H×List MemPlace}(h:DataW.trod enc Tryz.prog W 0 (fun _=>true) hd n 108 cs=some x):∃c:{c:qe // c.body.length<2^63},yH W (wq c.1) cs:=by
 obtain⟨xs,m,_,rfl,hl,hlen,hf⟩:=DataW.trod_struct Tryz.underlying108 h
 rw[z108]at hl
 match xs,hlen,cs,hl with
 |[y0,y1],_,[u0,u1,u2],_=>
  have h0:=fld (t:=32) (off:=0) (c:=2) (hf 0 _ rfl) rfl rfl z32
  have h1:=fld (t:=106) (off:=2) (c:=1) (hf 1 _ rfl) rfl rfl z106
  obtain⟨a,ha⟩:=qnd (show DataW.trod enc Tryz.prog W 0 (fun _=>true) hd m 32 [u0,u1]=some y0 from h0)
  obtain⟨b,hb,hv,h1c⟩:=qgC yU Tryz.underlying106 z126 (by omega) (fun _=>rfl) ⟨0,⟨⟨#[]⟩,[]⟩,⟨0,0,⟨#[]⟩⟩,⟨0,0,⟨#[]⟩⟩⟩ (fun n cs x h=>qun h) (show DataW.trod enc Tryz.prog W 0 (fun _=>true) hd m 106 [u2]=some y1 from h1)
  exact⟨⟨⟨a,b⟩,hb⟩,ha.append (.cons hv h1c (.nil W))⟩
theorem open_intP{base:Nat}{v:Value}(hv:Value.okWide Tryz.prog W .any base 3 v):∃n:Int,v=.int .i64 n:=by
 unfold Value.okWide at hv
 rw[Tryz.underlying3]at hv
 simp only at hv
 unfold Cell.okWide at hv
 rw[Tryz.underlying3]at hv
 simp only at hv
 unfold Cell.ok at hv
 rw[Tryz.underlying3]at hv
 cases v<;>first|(obtain⟨rfl,_⟩:=hv;exact⟨_,rfl⟩)|exact hv.elim
theorem z66:Tryz.prog.cellsOf 66=4:=by kernel_rfl
abbrev Fits(c:qg):Prop:=c.cls.length<2^63/\∀k∈c.cls,k.body.length<2^63
theorem qnc{n:Nat}{cs:List Value}{x:DataW H×List MemPlace}(h:DataW.trod enc Tryz.prog W 0 (fun _=>true) hd n 66 cs=some x):∃c:{c:qg // Fits c},yH W (qS c.1) cs:=by
 obtain⟨xs,m,_,rfl,hl,hlen,hf⟩:=DataW.trod_struct Tryz.underlying66 h
 rw[z66]at hl
 match xs,hlen,cs,hl with
 |[y0,y1,y2,y3],_,[u0,u1,u2,u3],_=>
  have h0:=fld (t:=3) (off:=0) (c:=1) (hf 0 _ rfl) rfl rfl z3
  have h1:=fld (t:=3) (off:=1) (c:=1) (hf 1 _ rfl) rfl rfl z3
  have h2:=fld (t:=3) (off:=2) (c:=1) (hf 2 _ rfl) rfl rfl z3
  have h3:=fld (t:=23) (off:=3) (c:=1) (hf 3 _ rfl) rfl rfl z23
  obtain⟨i,rfl⟩:=qeb (show DataW.trod enc Tryz.prog W 0 (fun _=>true) hd m 3 [u0]=some y0 from h0)
  obtain⟨f,rfl⟩:=qeb (show DataW.trod enc Tryz.prog W 0 (fun _=>true) hd m 3 [u1]=some y1 from h1)
  obtain⟨t,rfl⟩:=qeb (show DataW.trod enc Tryz.prog W 0 (fun _=>true) hd m 3 [u2]=some y2 from h2)
  obtain⟨l,hlk,hV,h1c⟩:=qgC (fun c:{c:qe // c.body.length<2^63}=>wq c.1) Tryz.underlying23 z108 (by omega) (fun _=>rfl) ⟨⟨⟨⟨#[]⟩,[]⟩,[]⟩,by simp⟩ (fun n cs x h=>qup h) (show DataW.trod enc Tryz.prog W 0 (fun _=>true) hd m 23 [u3]=some y3 from h3)
  have e:(l.map (·.1)).map uo=l.map fun c=>LV.agg (wq c.1):=by rw[List.map_map];rfl
  refine⟨⟨⟨i,f,t,l.map (·.1)⟩,by rw[List.length_map];exact hlk,fun c hc=>?_⟩,.cons (.sc _) rfl (.cons (.sc _) rfl (.cons (.sc _) rfl (.cons ?_ h1c (.nil W))))⟩
  ·obtain⟨q,_,rfl⟩:=List.mem_map.1 hc
   exact q.2
  ·show VR (gOf W) W (.sl ((l.map (·.1)).map uo) .no) u3
   rw[e]
   exact hV
theorem open_customs{base:Nat}{v:Value}{d:DataW H}{p:List MemPlace}(h:DataW.Trod enc Tryz.prog W 0 (fun _=>true) hd 47 v d p)(hv:Value.okWide Tryz.prog W .any base 47 v):∃l:List qg,l.length<2^63/\BodC l/\VR (gOf W) W (.sl (l.map qm) .no) v:=by
 have h1:v.cells=#[v]:=by
  unfold Value.okWide at hv
  rw[Tryz.underlying47]at hv
  simp only at hv
  unfold Cell.okWide at hv
  rw[Tryz.underlying47]at hv
  simp only at hv
  unfold Cell.ok at hv
  rw[Tryz.underlying47]at hv
  cases v<;>first|rfl|exact hv.elim
 obtain⟨fuel,h⟩:=h
 rw[h1]at h
 obtain⟨l,hlk,hV,_⟩:=qgC (fun c:{c:qg // Fits c}=>qS c.1) Tryz.underlying47 z66 (by omega) (fun _=>rfl) ⟨⟨0,0,0,[]⟩,by simp,fun k hk=>by cases hk⟩ (fun n cs x h=>qnc h) (show DataW.trod enc Tryz.prog W 0 (fun _=>true) hd fuel 47 [v]=some _ from h)
 refine⟨l.map (·.1),by rw[List.length_map];exact hlk,fun c hc=>?_,?_⟩
 ·obtain⟨q,_,rfl⟩:=List.mem_map.1 hc
  exact q.2
 ·have e:(l.map (·.1)).map qm=l.map fun c=>LV.agg (qS c.1):=by rw[List.map_map];rfl
  rw[e]
  exact hV
theorem open_customP{base:Nat}{v:Value}{d:DataW H}{p:List MemPlace}(h:DataW.Trod enc Tryz.prog W 0 (fun _=>true) hd 66 v d p)(hv:Value.okWide Tryz.prog W .any base 66 v):∃c:qg,Fits c/\VR (gOf W) W (qm c) v:=by
 have hv':∃cs,v=.agg cs:=by
  unfold Value.okWide at hv
  rw[Tryz.underlying66]at hv
  obtain⟨cs,h,_⟩:=hv
  exact⟨cs,h⟩
 obtain⟨cs,rfl⟩:=hv'
 obtain⟨fuel,h⟩:=h
 obtain⟨a,ha⟩:=qnc (show DataW.trod enc Tryz.prog W 0 (fun _=>true) hd fuel 66 cs.toList=some _ from h)
 exact⟨a.1,a.2,by simpa using ha.agg⟩
end
end Go.Abs.Tz
namespace Go.Abs.Tz
open Go Go.Abs Go.Proofs
set_option maxRecDepth 20000
set_option linter.unusedSimpArgs false
attribute [local simp ↓] gT gS jh jg gv ug q9 zu jf ub yD yE gU gW gY gV jm jp ju jn jv jw jq jr jo jk ji jl jj yB yz yC yA gN gL gO gM g8 g6 g7 uh zG jy qX jz gy yF yG yb yd yc g9 ya ym jD jI jL jH jJ jK gh gg jR jT uQ uN ja jd uO uW u9 uZ uY uX uU uJ uK uL uM jb uS uT uH jc je uP uR uV uI jX jS gd gk jU j8 gc gb ga j9 j6 jP gf j3 j5 jM gj gp jV jZ j7 jN gt gi jO gq j0 jW jY jQ ge jE jG jF yg yk yf yh yj qp ur
attribute [local simp] faL fdL iaL ixL qD qY qT eqK eqL qO zi uD ye yy yn yp yr yu yw yx yo yt yq yv zy LV.cells LV.whole qp uq zU jA stL zz zP uc qa.alloc gw gu gx gK gJ gI gH gG gF gD gC gA gz qd ui
theorem qpH:∀b:List Lit,(qV b).length=qbj b
 |[]=>rfl
 |x::r=>by
  have ih:=qpH r
  rw[qmO]
  unfold qbj
  by_cases h:x.kind=1
  ·rw[if_pos h,if_pos h,List.length_cons,ih];omega
  ·rw[if_neg h,if_neg h,ih];omega
section
variable{l:List qe}{fuel:Nat}{R:Option (List (PK×Int))}{base:List Atom}
theorem qlC(hI:qeG l fuel R base)(hM:qfQ l R base)(ownB:Own)(ob:List (Nat×qc))(n:Nat)(hni:qL ob){kv kp:HP}
  (hk:∀(ow:Own) n',n<=n'->kv (.tup [.sl ((yL l base).map ql) ow,.int (vt l base)]) ⟨ob,n'⟩):
  cP E0 F0 79 [qy l,.sl (base.map ql) ownB] ⟨ob,n⟩ kv kp:=by
 refine qte hI ownB ob n hni (fun h0 n' hn'=>?_) (fun h0 B ow n' hB hn'=>?_)
 ·have e:yL l base=[]:=by unfold yL;rw[<-hM.err,if_pos h0]
  rw[hM.err]
  have:=hk .full n' hn'
  rw[e]at this
  exact this
 ·have:=hk ow n' hn'
  rw[<-hM.row h0 B hB,<-hM.err,h0]at this
  exact this
theorem qlF(hI:qeG l fuel R base)(hM:qfQ l R base)(ownB:Own)(a:Atom)(ha:a.ok)(ob:List (Nat×qc))(n:Nat)(hni:qL ob){kv kp:HP}
  (hk:∀n',n<=n'->kv (.tup [.bool (qdl l base a),.int (qbD l base a)]) ⟨ob,n'⟩):
  cP E0 F0 38 [qy l,.sl (base.map ql) ownB,ql a] ⟨ob,n⟩ kv kp:=by
 unfold qdl qbD at hk
 rw[<-hM.err]at hk
 refine qtf hI ownB a ha ob n hni (fun h0 n' hn'=>?_) (fun h0 hb n' hn'=>?_) (fun h0 hb n' hn'=>?_)
 ·rw[if_pos h0,if_pos h0]at hk
  exact hk n' hn'
 ·rw[h0,hb]at hk
  exact hk n' hn'
 ·have hao:qM a=true:=by
   unfold zE at hb
   simp only[Bool.and_eq_true]at hb
   exact hb.1
  rw[h0,hb,<-hM.has h0 a hao]at hk
  exact hk n' hn'
end
theorem qlp(base:List Atom)(ownB:Own)(hb:base.length<2^63)(hok:base.length<=100->∀a∈base,a.ok)(ob:List (Nat×qc))(n:Nat)(hni:qL ob){kv kp:HP}(hk:∀n',n<=n'->kv (.int (gE base)) ⟨ob,n'⟩):
  cP E0 F0 67 [.sl (base.map ql) ownB] ⟨ob,n⟩ kv kp:=by
 refine zR c67 fun hH=>⟨Nat.le_of_ble_eq_true rfl,?_⟩
 simp(disch:=omega)[b67]
 refine qxC (a':=qy []) (b':=.sl (base.map ql) ownB) (H':=⟨ob,n⟩) (.inr (.inl rfl)) (.inl rfl) (HWk.refl _) (fun h=>h) ?_
 refine qly [] ⟨fun _ c hc=>by cases hc⟩ 1 (some []) (fun _=>rfl) base ownB hb hok ob n hni (fun e he h n' hn=>?_) (fun _ m hm h100 hall om fo am ob' n' own' hn hB=>?_)
 ·have hg:gE base=e:=by
   unfold gE zZ
   rw[if_neg (by simp[qJ,vV]),if_neg (by simp)]
   rcases h with⟨h,_⟩|⟨_,h,_⟩|⟨_,_,h,rfl⟩|⟨_,_,h1,h2,rfl⟩
   ·exact absurd rfl h
   ·cases h
   ·rw[if_pos h]
   ·rw[if_neg (by omega),h2,if_neg (by simp)]
  rw[hg]at hk
  simp(disch:=omega)
  exact keep (hk n' hn)
 ·have hg:gE base=0:=by
   unfold gE zZ
   rw[if_neg (by simp[qJ,vV]),if_neg (by simp),if_neg (by omega),hall,if_pos rfl]
  rw[hg]at hk
  simp(disch:=omega)
  exact⟨⟨ob,n'⟩,qaJ hH (fun i hi=>hB.old i hi) (Nat.le_refl _),fun _=>qn.mono hH hn,hk n' hn⟩
theorem qsf(x y:Atom)(hx:x.ok)(hy:y.ok)(m:Nat)(ob:List (Nat×qc))(n:Nat)(hl:look m ob=some (.cells [.str x.pred,qt x.args])){kv kp:HP}(hk:∀n',n<=n'->kv (.bool (decide (cmpA y x=0))) ⟨ob,n'⟩):
  cP E0 F0 142 [ql y,.ptr m 0] ⟨ob,n⟩ kv kp:=by
 refine zR c142 fun hH=>⟨Nat.le_of_ble_eq_true rfl,?_⟩
 have hm:m<n:=hH.look hl
 simp(disch:=omega)[b142,hl]
 refine(qth x y hx hy).go fun n1 hn1=>?_
 have e:decide (cmpA y x=0)=decide (cmpA x y=0):=decide_eq_decide.2 (by rw[vK.zero,vK.zero];exact eq_comm)
 rw[e]at hk
 simp(disch:=omega)
 exact⟨⟨ob,n1⟩,yM hH (Nat.le_refl _),fun _=>qn.mono hH (show n<=n1 by omega),hk _ (by omega)⟩
theorem qst(l:List Atom)(hl:l.length<=2^20)(own:Own)(g:FuncId)(p:Atom->Bool)(m:Nat)(ob:List (Nat×qc))(n:Nat)(hg:qhy g ql m ob n p l){kv kp:HP}(hk:∀n',n<=n'->kv (.int (wP p l 0)) ⟨ob,n'⟩):
  cP E0 F0 183 [.sl (l.map ql) own,.fn (.func g) [] [.ptr m 0]] ⟨ob,n⟩ kv kp:=by
 refine zR c183 fun hH=>⟨Nat.le_of_ble_eq_true rfl,?_⟩
 simp(disch:=omega)[b183]
 obtain⟨A,hA⟩:∃A,wP p l 0=A:=⟨_,rfl⟩
 rw[hA]at hk
 refine qA (σ:=NN) (fun q=>(.nd (.sl (l.map ql) own) (.nd (.fn (.func g) [] [.ptr m 0]) (.nd .bot (.nd (.int l.length) .nil .nil) .nil) .nil) (.nd .bot (.nd .bot (.nd (.int q.i) .nil .nil) .nil) (.nd (.sl (l.map ql) own) .nil .nil)))) (fun q=>⟨ob,q.n⟩) (fun q=>l.length - q.i)
  (fun q=>n<=q.n/\q.i<=l.length/\wP p (l.drop q.i) q.i=A) ⟨0,n⟩ ⟨Nat.le_refl _,Nat.zero_le _,hA⟩ (by simp[FT.Le,Wk]) ⟨HWk.refl _,fun h=>h⟩ ?_
 rintro⟨q,k⟩ ⟨hn,hq,he⟩ hok
 dsimp only at hn hq he hok
 by_cases hlt:q<l.length
 ·rw[List.drop_eq_getElem_cons hlt]at he
  simp(disch:=omega)[hlt]
  refine hg l[q] (List.getElem_mem hlt) k _ _ hn fun n1 h1=>?_
  cases ht:p l[q]
  ·simp[wP,ht]at he
   simp(disch:=omega)[qk (show q<2^62 by omega)]
   exact⟨⟨q+1,n1⟩,by dsimp only;omega,⟨by dsimp only;omega,by dsimp only;omega,he⟩,by simp[FT.Le,Wk],HWk.refl _,fun h=>h⟩
  ·simp[wP,ht]at he
   simp(disch:=omega)
   exact keep (by rw[<-he]at hk;exact hk n1 (by omega))
 ·obtain rfl:q=l.length:=by omega
  rw[List.drop_eq_nil_of_le (Nat.le_refl _)]at he
  simp(disch:=omega)
  simp[wP]at he
  exact keep (by rw[<-he]at hk;exact hk k hn)
theorem qta(l:List Atom)(hl:l.length<=2^20)(own:Own)(g:FuncId)(p:Atom->Bool)(m:Nat)(ob:List (Nat×qc))(n:Nat)(hg:qhy g ql m ob n p l){kv kp:HP}(hk:∀n',n<=n'->kv (.bool (l.any p)) ⟨ob,n'⟩):
  cP E0 F0 141 [.sl (l.map ql) own,.fn (.func g) [] [.ptr m 0]] ⟨ob,n⟩ kv kp:=by
 refine zR c141 fun hH=>⟨Nat.le_of_ble_eq_true rfl,?_⟩
 simp(disch:=omega)[b141]
 refine qst l hl own g p m ob n hg fun n1 hn1=>?_
 simp(disch:=omega)
 exact keep (by rw[qjr];exact hk n1 hn1)
structure NNcM where
 i:Nat
 n:Nat
 es:List Atom
 own:Own
 ob:List (Nat×qc)
theorem quV{A:List Atom}{i:Nat}(h:i<A.length)(B:List Atom):qbb (A.drop i) B=(if qaK B A[i] then [] else [A[i]])++qbb (A.drop (i+1)) B:=by
 rw[List.drop_eq_getElem_cons h]
 unfold qbb
 rw[List.filter_cons]
 cases qaK B A[i]<;>simp
theorem qll(A B:List Atom)(o1 o2:Own)(hA:A.length<=2^18)(hB:B.length<=2^18)(hao:∀a∈A,a.ok)(hbo:∀a∈B,a.ok):qf 80 [.sl (A.map ql) o1,.sl (B.map ql) o2] (.sl ((qbb A B).map ql) .no):=by
 intro H kv kp hk
 refine qeB c80 fun hH=>⟨Nat.le_of_ble_eq_true rfl,?_⟩
 simp(disch:=omega)[b80]
 obtain⟨L,hL⟩:∃L,qbb A B=L:=⟨_,rfl⟩
 rw[hL]at hk
 refine qA (σ:=NNcM) (fun q=>(.nd .bot (.nd (.sl (B.map ql) o2) .nil (.nd (.sl (q.es.map ql) q.own) (.nd (.int A.length) .nil .nil) .nil)) (.nd .bot (.nd .bot (.nd (.sl (A.map ql) o1) .nil .nil) .nil) (.nd .bot (.nd (.int q.i) .nil .nil) .nil)))) (fun q=>⟨q.ob,q.n⟩) (fun q=>A.length - q.i)
  (fun q=>uw H 2 q.es.length q.own q.ob q.n/\H.next<=q.n/\q.i<=A.length/\q.es.length<=q.i/\q.es++qbb (A.drop q.i) B=L) ⟨0,H.next,[],.full,H.objs⟩ ⟨.inl ⟨rfl,rfl,Nat.le_refl _⟩,Nat.le_refl _,Nat.zero_le _,Nat.le_refl _,hL⟩ (by simp[FT.Le,Wk]) ⟨HWk.refl _,fun h=>h⟩ ?_
 rintro⟨i,n,es,ow,ob⟩ ⟨hr,hn,hi,hes,he⟩ hok
 dsimp only at hr hn hi hes he hok
 by_cases hlt:i<A.length
 case neg=>
  rw[List.drop_eq_nil_of_le (by omega)]at he
  have he2:es=L:=by simpa [qbb] using he
  subst he2
  simp(disch:=omega)[hlt]
  exact⟨.sl (es.map ql) .no,qtj es ow,⟨H.objs,n⟩,hr.keep hH,fun _=>qn.mono hH hn,hk n hn⟩
 rw[quV hlt]at he
 have hai:=hao _ (List.getElem_mem hlt)
 simp(disch:=omega)[hlt]
 refine qta B (by omega) o2 142 (fun y=>decide (cmpA y A[i]=0)) n _ _ (fun y hy n' kv kp hn' hk=>qsf A[i] y hai (hbo y hy) n _ n' (qp _ _ _) hk) fun n2 hn2=>?_
 obtain⟨V,hV⟩:∃V,qaK B A[i]=V:=⟨_,rfl⟩
 have hV2:(B.any fun y=>decide (cmpA y A[i]=0))=V:=hV
 rw[hV]at he
 rw[hV2]
 cases V
 ·rw[if_neg (by simp),<-List.append_assoc]at he
  simp(disch:=omega)
  refine zd ?_
  simp(disch:=omega)
  obtain⟨own2,ob2,ob3,n3,e1,hr3,hn3,hw3,ho3⟩:=qij (m:=n) (k:=n2) (cs:=.cells [.str A[i].pred,qt A[i].args]) hH (sz:=2) (es:=es.map ql) (Y:=[ql A[i]]) (by omega) (qht es) rfl (by rw[List.length_map,List.length_singleton];omega) (by rw[List.length_map];exact hr) (Nat.le_refl _) (by omega)
  rw[List.length_map,List.length_singleton]at hr3
  have e2:es.map ql++[ql A[i]]=(es++[A[i]]).map ql:=by simp
  rw[e2]at e1
  rw[show apL ⟨(n,.cells [.str A[i].pred,qt A[i].args])::ob,n2⟩ 2 (.sl (es.map ql) ow) (.sl [.agg [.str A[i].pred,qt A[i].args]] _)=_ from e1 _]
  simp(disch:=omega)[qk (show i<2^62 by omega)]
  exact⟨⟨i+1,n3,es++[A[i]],own2,ob3⟩,by dsimp only;omega,⟨by rw[List.length_append,List.length_singleton];exact hr3,by dsimp only;omega,by dsimp only;omega,by simp;omega,he⟩,by simp[FT.Le,Wk],hw3,ho3⟩
 ·rw[if_pos rfl,List.nil_append]at he
  simp(disch:=omega)[qk (show i<2^62 by omega)]
  exact⟨⟨i+1,n2,es,ow,ob⟩,by dsimp only;omega,⟨hr.mono (by dsimp only;omega),by dsimp only;omega,by dsimp only;omega,by dsimp only;omega,he⟩,by simp[FT.Le,Wk],yM hok (Nat.le_refl _),fun _=>qn.mono hok (by dsimp only;omega)⟩
theorem uw.noit{H:qa}{sz len:Nat}{own:Own}{ob:List (Nat×qc)}{n:Nat}(hni:qL H.objs)(h:uw H sz len own ob n):qL ob:=by
 rcases h with⟨_,rfl,_⟩|⟨t,_,_,_,rfl⟩
 ·exact hni
 ·exact hni.cons _ rfl
structure qhz(l:List qg)(base:List Atom):Prop extends CustIn l where
 pos3:l.length<=30->∀c∈l,c.cls.length<=40->∀k∈c.cls,(qV k.body).length<=3
 hb:base.length<2^63
 hok:base.length<=100->∀a∈base,a.ok
section
variable{l:List qg}{base:List Atom}
theorem qgY(hI:qhz l base){y:Int}(h:zO l y=0)(x w:Int):RIn (qH l x w) base/\∃fuel R,qeG (qH l x w) fuel R base/\qfQ (qH l x w) R base:=by
 obtain⟨hcu,_⟩:=qhv h
 obtain⟨hC,_,h30⟩:=qck hcu
 have h40:∀c∈l,c.cls.length<=40:=fun c hc=>(qez (hC.ok c hc).2).1
 have hS:qat (qH l x w):=⟨fun _ k hk=>by
  obtain⟨c,hc,hkc⟩:=qgG hk
  exact(hI.sm h30 c hc).ok3 (h40 c hc) k hkc⟩
 obtain⟨fuel,R,hR,hRb,hM⟩:=qva (qH l x w) base
 exact⟨⟨hS,fun _ k hk=>by
  obtain⟨c,hc,hkc⟩:=qgG hk
  exact hI.pos3 h30 c hc (h40 c hc) k hkc,hI.hb,hI.hok⟩,fuel,R,⟨hS,hR,hRb,hI.hb,hI.hok⟩,hM⟩
structure NNcS where
 i:Nat
 n:Nat
 out:List Int
 own:Own
 ob:List (Nat×qc)
theorem qtC{A:List qg}{y:Int}{base:List Atom}{a:Atom}{now:Bool}{l:List qg}{i:Nat}(h:i<l.length)(out:List Int):
  qdi A y base a now (l.drop i) out=if l[i].fr<=y/\y<=l[i].to then (if qbD (qH A y l[i].id) base a≠0 then ([],qbD (qH A y l[i].id) base a) else
   qdi A y base a now (l.drop (i+1)) (if qdl (qH A y l[i].id) base a=now then out else out++[l[i].id])) else qdi A y base a now (l.drop (i+1)) out:=by
 rw[List.drop_eq_getElem_cons h]
 rfl
set_option maxHeartbeats 1000000 in
theorem qlB(hI:qhz l base)(own ownB:Own)(y:Int)(a:Atom)(ha:a.ok)(ob:List (Nat×qc))(n:Nat)(hni:qL ob){kv kp:HP}
  (hk:∀(ow:Own) n',n<=n'->kv (.tup [.sl (uB (qdW l base y a).1) ow,.int (qdW l base y a).2]) ⟨ob,n'⟩):
  cP E0 F0 22 [.sl (l.map qm) own,.sl (base.map ql) ownB,.int y,ql a] ⟨ob,n⟩ kv kp:=by
 refine zR c22 fun hH=>⟨Nat.le_of_ble_eq_true rfl,?_⟩
 have hOb:qn ob n:=hH
 obtain⟨V,hV⟩:∃V,qdW l base y a=V:=⟨_,rfl⟩
 rw[hV]at hk
 have fin:∀(m:Nat)(x:qc)(ow:Own)(v1:List Int)(v2:Int),n<=m->V=(v1,v2)->∃H'',HWk ⟨(n,x)::ob,m⟩ H''/\(qa.Ok ⟨(n,x)::ob,m⟩->H''.Ok)/\kv (.tup [.sl (uB v1) ow,.int v2]) H'':=fun m x ow v1 v2 hm e=>by
  subst e
  exact⟨⟨ob,m⟩,yM hOb (Nat.le_refl _),fun _=>hOb.mono hm,hk ow m hm⟩
 unfold qdW at hV
 simp(disch:=omega)[b22]
 refine(qeU l own y hI.toCustIn).go fun n1 hn1=>?_
 by_cases h1:zO l y=0
 case neg=>
  rw[if_pos h1]at hV
  simp(disch:=omega)[h1]
  exact fin _ _ .full [] _ (by omega) hV.symm
 rw[if_neg (by simpa using h1)]at hV
 rw[h1]
 simp(disch:=omega)
 refine qlp base ownB hI.hb hI.hok _ _ (hni.cons _ rfl) fun n2 hn2=>?_
 by_cases h2:gE base=0
 case neg=>
  rw[if_pos h2]at hV
  simp(disch:=omega)[h2]
  exact fin _ _ .full [] _ (by omega) hV.symm
 rw[if_neg (by simpa using h2)]at hV
 rw[h2]
 simp(disch:=omega)
 refine(qeT a ha).go fun n3 hn3=>?_
 have ret1:zE a=false->V=([],1):=fun h=>by rw[if_pos h]at hV;exact hV.symm
 cases ho:qM a
 ·have hb0:zE a=false:=by simp[zE,ho]
  simp(disch:=omega)
  exact fin _ _ .full [] 1 (by omega) (ret1 hb0)
 simp(disch:=omega)
 refine(qhQ a ha).go fun n4 hn4=>?_
 cases hg:a.args.all wL
 ·have hb0:zE a=false:=by simp[zE,hg]
  simp(disch:=omega)
  exact fin _ _ .full [] 1 (by omega) (ret1 hb0)
 have hb1:zE a=true:=by simp[zE,ho,hg]
 rw[if_neg (by rw[hb1];simp)]at hV
 obtain⟨hl30,_⟩:=qcp h1 y 0
 have hfl:=fun w=>(qcp h1 y w).2
 have k1:look n ((n,qc.cells [.str a.pred,qt a.args])::ob)=some (.cells [.str a.pred,qt a.args]):=qp _ _ _
 simp(disch:=omega)[k1]
 refine(qdR l own y 0 (by omega) (by have:=hfl 0;omega)).go fun n5 hn5=>?_
 obtain⟨_,fuel,R,hMI,hM⟩:=qgY hI h1 y 0
 simp(disch:=omega)[k1]
 refine qlF hMI hM ownB a ha _ _ (hni.cons _ rfl) fun n6 hn6=>?_
 by_cases h3:qbD (qH l y 0) base a=0
 case neg=>
  rw[if_pos h3]at hV
  simp(disch:=omega)[h3]
  exact fin _ _ .full [] _ (by omega) hV.symm
 rw[if_neg (by simpa using h3)]at hV
 obtain⟨now,hnow⟩:∃x,qdl (qH l y 0) base a=x:=⟨_,rfl⟩
 rw[hnow]at hV
 rw[hnow,h3]
 simp(disch:=omega)
 have hH1:qa.Ok ⟨(n,.cells [.str a.pred,qt a.args])::ob,n+1⟩:=⟨Nat.lt_succ_self _,hOb⟩
 refine qA (σ:=NNcS) (fun q=>(.nd (.sl (l.map qm) own) (.nd (.sl (base.map ql) ownB) (.nd .bot (.nd (.ptr n 0) .nil .nil) (.nd .bot (.nd .bot .nil (.nd (.int l.length) .nil .nil)) .nil)) .nil) (.nd (.int y) (.nd .bot .nil (.nd (.bool now) (.nd .bot .nil (.nd (.int q.i) .nil .nil)) .nil)) (.nd .bot (.nd .bot (.nd .bot .nil (.nd (.sl (l.map qm) own) .nil .nil)) .nil) (.nd (.sl (uB q.out) q.own) .nil .nil))))) (fun q=>⟨q.ob,q.n⟩) (fun q=>l.length - q.i)
  (fun q=>uw ⟨(n,.cells [.str a.pred,qt a.args])::ob,n+1⟩ 1 q.out.length q.own q.ob q.n/\n+1<=q.n/\q.i<=l.length/\q.out.length<=q.i/\qdi l y base a now (l.drop q.i) q.out=V) ⟨0,n6,[],.full,(n,.cells [.str a.pred,qt a.args])::ob⟩ ⟨.inl ⟨rfl,rfl,by dsimp only;omega⟩,by dsimp only;omega,Nat.zero_le _,Nat.le_refl _,hV⟩ (by simp[FT.Le,Wk]) ⟨HWk.refl _,fun h=>h⟩ ?_
 rintro⟨i,m,out,ow,ob2⟩ ⟨hr,hm,hi,hol,he⟩ hok
 dsimp only at hr hm hi hol he hok
 have hold:=hr.old
 dsimp only at hold
 have kq:∀x:qc,look n ((m,x)::ob2)=some (.cells [.str a.pred,qt a.args]):=fun x=>by rw[qd (by omega),hold.2 n (by omega)];exact qp _ _ _
 have holdq:∀(x:qc)(j:Nat),j<n->look j ((m,x)::ob2)=look j ob:=fun x j hj=>by rw[qd (by omega),hold.2 j (by omega),qd (by omega)]
 have finq:∀(q:Nat)(x:qc)(ow:Own)(v1:List Int)(v2:Int),n<=q->V=(v1,v2)->∃H'',HWk ⟨(m,x)::ob2,q⟩ H''/\(qa.Ok ⟨(m,x)::ob2,q⟩->H''.Ok)/\kv (.tup [.sl (uB v1) ow,.int v2]) H'':=fun q x ow v1 v2 hq e=>by
  subst e
  exact⟨⟨ob,q⟩,qaJ hH (holdq x) (Nat.le_refl _),fun _=>hOb.mono hq,hk ow q hq⟩
 by_cases hlt:i<l.length
 case neg=>
  rw[List.drop_eq_nil_of_le (by omega)]at he
  have he2:V=(out,0):=he.symm
  simp(disch:=omega)[hlt]
  subst he2
  exact⟨⟨ob,m⟩,qaJ hH (fun j hj=>by rw[hold.2 j (by omega),qd (by omega)]) (Nat.le_refl _),fun _=>hOb.mono (by dsimp only;omega),hk ow m (by omega)⟩
 rw[qtC hlt]at he
 have hok2:qn ob2 m:=hok
 simp(disch:=omega)[hlt]
 refine(qeP y l[i].fr l[i].to).go fun m2 hm2=>?_
 obtain⟨B,hB⟩:∃B,(decide (l[i].fr<=y)&&decide (y<=l[i].to))=B:=⟨_,rfl⟩
 rw[hB]
 cases B
 ·have hf:¬(l[i].fr<=y/\y<=l[i].to):=fun h=>by rw[decide_eq_true h.1,decide_eq_true h.2]at hB;cases hB
  rw[if_neg hf]at he
  simp(disch:=omega)[qk (show i<2^62 by omega)]
  exact⟨⟨i+1,m2,out,ow,ob2⟩,by dsimp only;omega,⟨hr.mono (by dsimp only;omega),by dsimp only;omega,by dsimp only;omega,by dsimp only;omega,he⟩,by simp[FT.Le,Wk],yM hok2 (Nat.le_refl _),fun _=>hok2.mono (by dsimp only;omega)⟩
 have hf:l[i].fr<=y/\y<=l[i].to:=by
  rw[Bool.and_eq_true,decide_eq_true_iff,decide_eq_true_iff]at hB
  exact hB
 rw[if_pos hf]at he
 simp(disch:=omega)[kq]
 refine(qdR l own y l[i].id (by omega) (by have:=hfl l[i].id;omega)).go fun m3 hm3=>?_
 obtain⟨_,fuel2,R2,hMI2,hM2⟩:=qgY hI h1 y l[i].id
 simp(disch:=omega)[kq]
 refine qlF hMI2 hM2 ownB a ha _ _ ((hr.noit (hni.cons _ rfl)).cons _ rfl) fun m4 hm4=>?_
 by_cases h4:qbD (qH l y l[i].id) base a=0
 case neg=>
  rw[if_pos h4]at he
  simp(disch:=omega)[h4]
  exact finq _ _ .full [] _ (by omega) he.symm
 rw[if_neg (by simpa using h4)]at he
 rw[h4]
 obtain⟨now2,hnow2⟩:∃x,qdl (qH l y l[i].id) base a=x:=⟨_,rfl⟩
 rw[hnow2]at he ⊢
 by_cases hs:now2=now
 ·rw[if_pos hs]at he
  simp(disch:=omega)[hs,qk (show i<2^62 by omega)]
  exact⟨⟨i+1,m4,out,ow,ob2⟩,by dsimp only;omega,⟨hr.mono (by dsimp only;omega),by dsimp only;omega,by dsimp only;omega,by dsimp only;omega,he⟩,by simp[FT.Le,Wk],yM hok2 (Nat.le_refl _),fun _=>hok2.mono (by dsimp only;omega)⟩
 ·rw[if_neg hs]at he
  have hs1:(now2==now)=false:=by simpa using hs
  have hs2:(!now2==now)=true:=by cases now2<;>cases now<;>first|rfl|exact absurd rfl hs
  simp(disch:=omega)[hs,hs1,hs2]
  refine zd ?_
  simp(disch:=omega)
  obtain⟨own2,ob3,ob4,m5,e1,hr3,hn3,hw3,ho3⟩:=qij (m:=m) (k:=m4) (cs:=.cells [.int l[i].id,.int l[i].fr,.int l[i].to,qy l[i].cls]) hH1 (sz:=1) (es:=uB out) (Y:=[.int l[i].id]) (by omega) (wj out) rfl (by rw[List.length_map,List.length_singleton];omega) (by rw[List.length_map];exact hr) (Nat.le_refl _) (by omega)
  rw[List.length_map,List.length_singleton]at hr3
  have e2:uB out++[.int l[i].id]=uB (out++[l[i].id]):=by simp
  rw[e2]at e1
  rw[e1]
  simp(disch:=omega)[qk (show i<2^62 by omega)]
  exact⟨⟨i+1,m5,out++[l[i].id],own2,ob4⟩,by dsimp only;omega,⟨by rw[List.length_append,List.length_singleton];exact hr3,by dsimp only;omega,by dsimp only;omega,by simp;omega,he⟩,by simp[FT.Le,Wk],hw3,ho3⟩
end
section
variable{l:List qg}{base:List Atom}
def qan(l:List qg)(base:List Atom)(y i:Int):List Atom×List Atom×Int:=(effW l base y i,effO l base y i,qbO l base y i)
theorem qwW{l:List qg}{base:List Atom}{y i:Int}(h:qbO l base y i≠0):qan l base y i=([],[],qbO l base y i):=by
 unfold qan effW effO
 rw[if_pos h,if_pos h]
theorem qwV{l:List qg}{base:List Atom}{y i:Int}(h:qbO l base y i=0):qan l base y i=(qbb (yL (qH l y 0) base) (yL (qH l y i) base),qbb (yL (qH l y i) base) (yL (qH l y 0) base),0):=by
 unfold qan effW effO
 rw[if_neg (by omega),if_neg (by omega),h]
set_option maxHeartbeats 1000000 in
theorem qtg(hI:qhz l base)(own ownB:Own)(y i:Int)(ob:List (Nat×qc))(n:Nat)(hni:qL ob){kv kp:HP}
  (hk:∀(o1 o2:Own) n',n<=n'->kv (.tup [.sl ((qan l base y i).1.map ql) o1,.sl ((qan l base y i).2.1.map ql) o2,.int (qan l base y i).2.2]) ⟨ob,n'⟩):
  cP E0 F0 24 [.sl (l.map qm) own,.sl (base.map ql) ownB,.int y,.int i] ⟨ob,n⟩ kv kp:=by
 refine zR c24 fun hH=>⟨Nat.le_of_ble_eq_true rfl,?_⟩
 have hOb:qn ob n:=hH
 have fin:∀(m:Nat)(x:qc)(o1 o2:Own)(v1 v2:List Atom)(v3:Int),n<=m->qan l base y i=(v1,v2,v3)->∃H'',HWk ⟨(n,x)::ob,m⟩ H''/\(qa.Ok ⟨(n,x)::ob,m⟩->H''.Ok)/\kv (.tup [.sl (v1.map ql) o1,.sl (v2.map ql) o2,.int v3]) H'':=fun m x o1 o2 v1 v2 v3 hm e=>by
  rw[e]at hk
  exact⟨⟨ob,m⟩,yM hOb (Nat.le_refl _),fun _=>hOb.mono hm,hk o1 o2 m hm⟩
 have err:∀e:Int,qbO l base y i=e->e≠0->qan l base y i=([],[],e):=fun e h h0=>by rw[<-h]at h0 ⊢;exact qwW h0
 obtain⟨E,hE⟩:∃E,qbO l base y i=E:=⟨_,rfl⟩
 have hE0:=hE
 unfold qbO at hE
 simp(disch:=omega)[b24]
 refine(qeU l own y hI.toCustIn).go fun n1 hn1=>?_
 by_cases h1:zO l y=0
 case neg=>
  rw[if_pos h1]at hE
  simp(disch:=omega)[h1]
  exact fin _ _ .full .full [] [] _ (by omega) (err _ (by rw[hE0,hE]) h1)
 rw[if_neg (by simpa using h1)]at hE
 obtain⟨hl30,_⟩:=qcp h1 y 0
 have hfl:=fun w=>(qcp h1 y w).2
 rw[h1]
 simp(disch:=omega)
 refine qhT l (by omega) own 78 (fun x=>decide (x.id=i)) n _ _ (fun x _ n' kv kp hn' hk=>qsz x i n _ n' (qp _ _ _) hk) fun n2 hn2=>?_
 obtain⟨B,hB⟩:∃B,qbg l i=B:=⟨_,rfl⟩
 have hB':(l.any fun x=>decide (x.id=i))=B:=hB
 rw[hB']
 rw[hB]at hE
 cases B
 ·rw[if_pos rfl]at hE
  simp(disch:=omega)
  exact fin _ _ .full .full [] [] 5 (by omega) (err _ (by rw[hE0,<-hE]) (by decide))
 rw[if_neg (by simp)]at hE
 simp(disch:=omega)
 refine qlp base ownB hI.hb hI.hok _ _ (hni.cons _ rfl) fun n3 hn3=>?_
 by_cases h2:gE base=0
 case neg=>
  rw[if_pos h2]at hE
  simp(disch:=omega)[h2]
  exact fin _ _ .full .full [] [] _ (by omega) (err _ (by rw[hE0,hE]) h2)
 rw[if_neg (by simpa using h2)]at hE
 rw[h2]
 simp(disch:=omega)
 refine(qdR l own y 0 (by omega) (by have:=hfl 0;omega)).go fun n4 hn4=>?_
 obtain⟨_,fuel,R,hMI,hM⟩:=qgY hI h1 y 0
 simp(disch:=omega)
 refine qlC hMI hM ownB _ _ (hni.cons _ rfl) fun o1 n5 hn5=>?_
 by_cases h3:vt (qH l y 0) base=0
 case neg=>
  rw[if_pos h3]at hE
  simp(disch:=omega)[h3]
  exact fin _ _ .full .full [] [] _ (by omega) (err _ (by rw[hE0,hE]) h3)
 rw[if_neg (by simpa using h3)]at hE
 rw[h3]
 simp(disch:=omega)
 refine(qdR l own y i (by omega) (by have:=hfl i;omega)).go fun n6 hn6=>?_
 obtain⟨_,fuel2,R2,hMI2,hM2⟩:=qgY hI h1 y i
 simp(disch:=omega)
 refine qlC hMI2 hM2 ownB _ _ (hni.cons _ rfl) fun o2 n7 hn7=>?_
 by_cases h4:vt (qH l y i) base=0
 case neg=>
  simp(disch:=omega)[h4]
  exact fin _ _ .full .full [] [] _ (by omega) (err _ (by rw[hE0,hE]) h4)
 rw[h4]
 have hz:qbO l base y i=0:=by rw[hE0,<-hE,h4]
 have g1:∀a∈yL (qH l y 0) base,a.ok:=fun a h=>qhu (hM.good a h).1
 have g2:∀a∈yL (qH l y i) base,a.ok:=fun a h=>qhu (hM2.good a h).1
 have L1:=hM.len
 have L2:=hM2.len
 have hv:=qwV hz
 obtain⟨A1,hA1⟩:∃A,yL (qH l y 0) base=A:=⟨_,rfl⟩
 obtain⟨A2,hA2⟩:∃A,yL (qH l y i) base=A:=⟨_,rfl⟩
 rw[hA1,hA2]at hv
 rw[hA1]at g1 L1 ⊢
 rw[hA2]at g2 L2 ⊢
 simp(disch:=omega)
 refine(qll A1 A2 o1 o2 (by omega) (by omega) g1 g2).go fun n8 hn8=>?_
 simp(disch:=omega)
 refine(qll A2 A1 o2 o1 (by omega) (by omega) g2 g1).go fun n9 hn9=>?_
 simp(disch:=omega)
 exact fin _ _ .no .no _ _ 0 (by omega) hv
structure NNcE where
 i:Nat
 n:Nat
 is:Bool
end
end Go.Abs.Tz
namespace Go.Abs.Tz
open Go Go.Abs Go.Proofs
noncomputable def tabP:List (FuncId×FnI):=[
 (121,⟨b121,5,false,false,false⟩),
 (108,⟨b108,6,false,false,false⟩),
 (122,⟨b122,7,false,false,false⟩),
 (55,⟨b55,7,false,false,false⟩),
 (9,⟨b9,5,false,false,false⟩),
 (43,⟨b43,4,false,false,false⟩),
 (44,⟨b44,4,false,false,false⟩),
 (48,⟨b48,6,false,true,false⟩),
 (49,⟨b49,5,false,true,false⟩),
 (11,⟨b11,5,false,false,false⟩),
 (106,⟨b106,3,false,true,false⟩),
 (107,⟨b107,6,false,false,false⟩),
 (50,⟨b50,6,false,false,false⟩),
 (54,⟨b54,5,false,true,false⟩),
 (164,⟨b164,8,false,false,false⟩),
 (109,⟨b109,5,false,false,false⟩),
 (110,⟨b110,4,false,false,false⟩),
 (70,⟨b70,4,false,false,false⟩),
 (165,⟨b165,5,false,false,false⟩),
 (166,⟨b166,3,false,false,false⟩),
 (167,⟨b167,4,false,false,false⟩),
 (168,⟨b168,4,false,false,false⟩),
 (169,⟨b169,4,false,false,false⟩),
 (170,⟨b170,4,false,false,false⟩),
 (173,⟨b173,5,false,false,false⟩),
 (174,⟨b174,6,false,false,false⟩),
 (131,⟨b131,4,false,false,false⟩)]
def qfp:List (FuncId×FnI)->FuncId->Option FnI
 |[],_=>none
 |(g,i)::r,f=>match Nat.beq g f with
  |true=>some i
  |false=>qfp r f
def allP:List (FuncId×FnI)->Prop
 |[]=>True
 |(g,i)::r=>qi Tryz.prog g=some i.b/\allP r
theorem qnD:∀{l:List (FuncId×FnI)},allP l->∀f i,qfp l f=some i->F0.fn f i.b
 |[],_,_,_,h=>by cases h
 |(g,j)::r,h,f,i,hl=>by
  unfold qfp at hl
  split at hl
  ·rename_i he
   cases hl
   rw[<-Nat.eq_of_beq_eq_true he];exact h.1
  ·exact qnD h.2 f i hl
theorem qrA:allP tabP:=⟨c121,c108,c122,c55,c9,c43,c44,c48,c49,c11,c106,c107,c50,c54,c164,c109,c110,c70,c165,c166,c167,c168,c169,c170,c173,c174,c131,trivial⟩
end Go.Abs.Tz
set_option maxRecDepth 20000
namespace Go.Abs.Tz
open Go Go.Abs Go.Proofs
end Go.Abs.Tz
namespace Go.Abs.Tz
open Go Go.Abs Go.Proofs
def qto(s:ByteArray):Bool:=Nat.ble s.size 1000000
theorem qtQ{f:FuncId}{args:List LV}{H:qa}{kv kp:HK}(h:cP E0 F0 f args H (fun v H'=>kv v H'=true) (fun v H'=>kp v H'=true))(hH:H.Ok):Out E0 F0 (.call f args H) (CS kv kp):=
 .mono (h hH) fun r hr=>hr
abbrev qeE:=List LV->qa->HK->HK->Bool
theorem qmJ{f:FuncId}{args:List LV}{v:LV}(h:qf f args v)(hv:Bel 0 v){H:qa}{kv kp:HK}(hH:H.Ok)(hk:kv v H=true):Out E0 F0 (.call f args H) (CS kv kp):=qtQ (h.x hv hk) hH
noncomputable def qiz:qeE:=fun args H kv _=>match args with
 |[.sc (.string s),.sc (.int .u8 c)]=>kInt .i64 (Lib.indexByte s.data.toList c.toNat.toUInt8) fun v=>kv v H
 |_=>false
theorem qtU{args:List LV}{H:qa}{kv kp:HK}(hH:H.Ok)(h:qiz args H kv kp=true):Out E0 F0 (.call 172 args H) (CS kv kp):=by
 unfold qiz at h
 split at h
 ·rw[qjj]at h
  exact qmJ (qsq _ _) (.sc _) hH h
 ·cases h
noncomputable def qiA:qeE:=fun args H kv _=>match args with
 |[.sc (.string s)]=>match Lib.atoiAll s.data.toList with
  |.ok v=>zH (qto s) (qha v fun v=>kv (.tup [.sc (.int .i64 v),.sc .nilIface]) H)
  |_=>false
 |_=>false
theorem qtV{args:List LV}{H:qa}{kv kp:HK}(hH:H.Ok)(h:qiA args H kv kp=true):Out E0 F0 (.call 171 args H) (CS kv kp):=by
 unfold qiA at h
 split at h
 ·split at h
  ·rename_i h0
   obtain⟨h1,h2⟩:=zS h
   rw[qjz]at h2
   have h1':=Nat.le_of_ble_eq_true (show Nat.ble _ 1000000=true from h1)
   refine qmJ (qsY _ (by omega) _ h0) (.tup fun i c hi=>?_) hH h2
   match i with
   |0=>simp at hi;subst hi;exact .sc _
   |1=>simp at hi;subst hi;exact .sc _
   |i+2=>simp at hi
  ·cases h
 ·cases h
end Go.Abs.Tz
namespace Go.Abs
open Go
section
variable{P:Program}{N:Nat}{code:Code}{o:Oper}
theorem qqj{x:BO}{ps:List Nat}{ba bb:qo}(h:qw P N code=some (.rf x ps ba bb)):∃d pa a b,code=.rangeFunc d pa a b/\cO d=some x/\pa.toList=ps/\qw P N a=some ba/\qw P N b=some bb:=by
 cases code with
 |region id ops d=>rcases qcD h with⟨_,h⟩|⟨_,h⟩|h<;>cases h
 |rangeFunc d pa a b=>
  simp only[qw,Option.bind_eq_bind,Option.bind_eq_some_iff,Option.some.injEq]at h
  obtain⟨d',h1,a',h2,b',h3,h4⟩:=h
  cases h4
  exact⟨d,pa,a,b,rfl,h1,rfl,h2,h3⟩
 |seq a b=>simp[qw,Option.bind_eq_some_iff]at h
 |cond c a b=>simp[qw,Option.bind_eq_some_iff]at h
 |_=>simp[qw]at h
theorem qvG(h:cOp P o=some .rc):∃c,o.op=.call c/\c.callee=.builtin .recover/\c.args.toList=[]:=by
 unfold cOp at h
 split at h
 all_goals ((repeat' split at h)<;>simp[Option.map_eq_some_iff,Option.bind_eq_some_iff]at h)
 all_goals exact⟨_,by assumption,rfl,by assumption⟩
end
section
variable{G:qb}{w:World}{H:qa}
theorem Inv.setDel(hI:Inv G w H){m:Nat}{lo:qc}{ob ob':Obj}(hl:look m H.objs=some lo)(h:w.heap[G.loc m]? = some ob)(hne:∀vs el fz,ob≠.cells vs el fz)(hB:¬(G.B (G.loc m)).isSome)
  (hown:G.own (G.loc m) 0=.obj m):Ext G w G (w.putObj (G.loc m) ob')/\Inv G (w.putObj (G.loc m) ob') (H.del m):=by
 have hx:Ext G w G (w.putObj (G.loc m) ob'):=qph h hne hB rfl (Nat.le_refl _) (fun _ _=>rfl) (fun _ _=>rfl) (fun _ _=>rfl) (fun _ _ h=>h) w.drawn
 have hd:∀i x,look i (H.del m).objs=some x->i≠m/\look i H.objs=some x:=fun i x hy=>by
  simp only[qa.del,qcH]at hy
  split at hy
  ·cases hy
  ·rename_i hi;exact⟨hi,hy⟩
 refine⟨hx,Inv.step (fun i=>i=m) hI hx (qkR h hne w.drawn) hI.n (fun b x hb=>hI.free b x (by simpa using hb)) hI.old (fun i x hi hh=>(hd i x hh).2)
  (fun _ _ _ _ _ h=>h) (fun i hi ho hc=>?_) (fun _ _ _ _=>⟨fun h=>h,fun h=>h⟩) (fun _ _ _=>rfl) (fun j es' hj hh=>?_) (fun i x hi hh=>absurd hi (hd i x hh).1)⟩
 ·rw[hc,hown]at ho
  simp at ho
  exact hi ho.symm
 ·obtain⟨hjm,hh⟩:=hd j _ hh
  obtain⟨_,ents,clock,q1,_,q3,_⟩:=hI.objs j _ hh
  have:G.loc j≠G.loc m:=by
   intro e
   rw[e,hown]at q3
   simp at q3
   exact hjm q3.symm
  refine⟨es',hh,Nat.le_refl _,fun _ ents' clock' hp=>?_⟩
  have e2:(w.putObj (G.loc m) ob').heap[G.loc j]? = w.heap[G.loc j]?:=World.putObj_heap_other this
  rw[e2]at hp
  exact⟨ents',clock',hp,rfl,fun _=>rfl⟩
end
def frL(fr:Fr)(N:Nat):List LV:=(List.range N).map fr
section
variable{P:Program}{E:Env}{G:qb}{w:World}{fr:Fr}{H:qa}{N:Nat}{a:Act}{T:Res->Prop}
theorem rf_wp{nf:Nat}{Q:Exit->Act->World->Prop}{code:Code}{x:BO}{ps:List Nat}{ba bb:qo}{k f:Nat}{cap:List LV}(hc:qw P N code=some (.rf x ps ba bb))(hrc:∀d pa a b,code=.rangeFunc d pa a b->E.rc k=(a,b))
  (hI:Inv G w H) (hE:yS E G w) (hf:FR G w N fr a) (hx:E.ev fr x=.fn (.func f) [] cap)
  (hcall:qW P E f (.fn (.yield (H.next+1)) [] []::cap) ((H.alloc .dfr).alloc (.rcd false (frL fr N) ps k)) T)
  (hT:∀r,T r->∃v H',r=.ret v H'/\isR (H.next+1) false H'=true)
  (hK:∀v H' G' w',T (.ret v H')->Inv G' w' (H'.del (H.next+1))->Ext G w G' w'->H.next<G'.n->Q .normal { a with defers:={ target:=.collected (G'.loc H.next),args:=#[] }::a.defers } w'):
  code.wpIn (fen none) nf P Q a w:=by
 obtain⟨d,pa,ca,cb,rfl,hd,rfl,_,_⟩:=qqj hc
 have hv:=qal hE hf d x hd
 rw[hx]at hv
 obtain⟨us,vs,hv,hu0,hvs,_,hvr⟩:=hv.fn_inv
 obtain rfl:us=#[]:=Array.eq_empty_of_size_eq_zero (by simpa using hu0)
 have hv:a.eval d=.func (.func f) #[] vs:=hv
 refine wpIn_rangeFunc fun fn _=>?_
 obtain⟨i1,x1⟩:=hI.alloc (.deferred (some [])) .dfr (0,0) (fun hx=>⟨by rw[qb.add_loc];exact heap_alloc_new,by rw[qb.add_loc];exact hI.hB',by rw[qb.add_loc];exact qb.add_own _ _ _ _ _⟩)
 have hrck:=hrc _ _ _ _ rfl
 have hEr:=hE.rc
 let L:Loop:={ state:=.ready,pending:=none,fn:=fn,tmps:=a.tmps,params:=pa,assign:=ca,body:=cb,defers:=w.heap.size }
 obtain⟨i2,x2⟩:=i1.alloc (.loop L) (.rcd false (frL fr N) pa.toList k) (0,0) (fun hx=>by
  refine⟨fn,a.tmps,w.heap.size,?_,by rw[qb.add_loc];exact i1.hB',by rw[qb.add_loc];exact qb.add_own _ _ _ _ _,by rw[hf.size];simp[frL],fun i y hi=>?_⟩
  ·rw[qb.add_loc]
   have e1:(((G.add H.next w.heap.size (0,0)).add (H.alloc .dfr).next (w.alloc (.deferred (some []))).heap.size (0,0)).rc k)=(ca,cb):=by
    show G.rc k=_
    rw[hEr,hrck]
   rw[e1]
   exact heap_alloc_new
  ·obtain⟨j,hj,rfl⟩:=List.getElem?_eq_some_iff.1 hi
   simp only[frL,List.getElem_map,List.getElem_range]
   exact((hf.slot i).mono x1).mono hx)
 have x12:=x1.trans x2
 have hE2:=hE.mono x12
 generalize hG2:(G.add H.next w.heap.size (0,0)).add (H.alloc .dfr).next (w.alloc (.deferred (some []))).heap.size (0,0)=G2 at i2 x2 x12 hE2
 have hl2:G2.loc (H.next+1)=w.heap.size+1:=by rw[<-hG2];simp[qb.add,qa.alloc]
 have hn2:G2.n=H.next+2:=by rw[<-hG2];simp[qb.add,qa.alloc]
 have hargs:yI G2 ((w.alloc (.deferred (some []))).alloc (.loop L)) (.fn (.yield (H.next+1)) [] []::cap) (#[.func (.yield (w.heap.size+1)) #[] #[]]++vs):=by
  have h1:yI G2 ((w.alloc (.deferred (some []))).alloc (.loop L)) [.fn (.yield (H.next+1)) [] []] #[.func (.yield (w.heap.size+1)) #[] #[]]:=by
   refine⟨rfl,fun i y hi=>?_⟩
   match i with
   |0=>
    simp at hi;subst hi
    have:=VR.fn (G:=G2) (w:=(w.alloc (.deferred (some []))).alloc (.loop L)) (f:=.yield (H.next+1)) (a:=[]) (c:=[]) (us:=#[]) (vs:=#[]) (by show _<G2.n;rw[hn2];omega) rfl rfl (fun i x h=>by simp at h) (fun i x h=>by simp at h)
    simpa [fnW,hl2] using this
   |i+1=>simp at hi
  exact h1.append ⟨hvs,fun i y hi=>(hvr i y hi).mono x12⟩
 obtain⟨he,hc2⟩:=hcall
 refine⟨w.heap.size+1,[{ target:=.collected w.heap.size,args:=#[] }],(w.alloc (.deferred (some []))).alloc (.loop L),{ target:=.fn (.func f) vs,args:=#[.func (.yield (w.heap.size+1)) #[] #[]] },(w.alloc (.deferred (some []))).alloc (.loop L),f,
  #[.func (.yield (w.heap.size+1)) #[] #[]]++vs,(w.alloc (.deferred (some []))).alloc (.loop L),run_enterLoop_outer _ _ _ _ _,?_,fun _ _=>trivial,?_,fun h=>(by cases h),?_⟩
 ·simp only[resolve,hv]
  simp[go_sem]
 ·obtain⟨fn',hf',hb',hn'⟩:=he
  simp only[invoke]
  exact qjS hf' hb' hn' _
 ·refine CallsIn.mono (F:=fen none) (callsIn_wide.2 (hc2 G2 _ _ i2 hE2 hargs)) fun e w' hp=>?_
  cases e with
  |outgrown=>exact hp.elim
  |panicked ch=>
   obtain⟨v,u,H',G',hTT,_⟩:=hp
   obtain⟨_,_,h,_⟩:=hT _ hTT
   cases h
  |returned u=>
   obtain⟨v,H',G',hTT,hv',hI',hx'⟩:=hp
   obtain⟨v1,H1,h,hR⟩:=hT _ hTT
   cases h
   obtain⟨fo1,ps1,k1,hl,_⟩:=qjl (b':=false) hR
   obtain⟨hm,fn1,tmps1,df1,q1,q2,q3,_⟩:=hI'.objs _ _ hl
   have hloc:G'.loc (H.next+1)=w.heap.size+1:=by rw[hx'.loc _ (by omega),hl2]
   have hlD:G'.loc H.next=w.heap.size:=by
    rw[hx'.loc _ (by omega),<-hG2]
    simp[qb.add,qa.alloc]
   have hend:=run_endLoop (P:=P) q1 (by simp)
   rw[hloc]at hend
   obtain⟨y1,y2⟩:=hI'.setDel (ob':=.loop { (rcL G' false fn1 tmps1 ps1 k1 df1) with state:=.exhausted }) hl q1 (by simp) q2 q3
   rw[hloc]at y1 y2
   refine⟨_,_,hend,?_⟩
   have:=hK v H' G' _ hTT y2 (x12.trans (hx'.trans y1)) (by have:=hx'.n;omega)
   rw[hlD]at this
   exact this
theorem qtF{f:FuncId}{fn:Func}{nf d n:Nat}{rest:qo}{args:List LV}{us:Array Value}{u:FrameMode}{y:LV}(hfn:P.funcs[f]? = some fn)(hc:cFn P fn=some ⟨.seq (.ops [⟨some d,none,.rc⟩]) rest,n,[]⟩)
  (hlen:args.length<=n) (hI:Inv G w H) (hE:yS E G w) (ha:yI G w args us) (hu:(u=.returning/\y=.sc .nilIface)\/∃v,u=.panicking [{ v:=v,recovered:=false }]/\VR G w y v)
  (hrest:qfU P E rest (upd (zw args) d y) H T) (hT:∀e fr' df' H',T (.code e fr' df' H')->e=.normal\/e=.ret):
  CallsDIn (fen none) nf P f us u w fun e u' w'=>∃v le fr' df' H' G',e=.returned v/\settle u'=.returning/\T (.code le fr' df' H')/\Inv G' w' H'/\Ext G w G' w':=by
 obtain⟨c,hb,hcode,hbn,hres⟩:=qeC hc
 simp only at hcode hbn hres
 obtain⟨c1,c2,rfl,e1,e2⟩:=qap hcode
 obtain⟨id,ops,rfl,hm⟩:=qjT e1
 obtain⟨o,ol,hol,ho,hnil⟩:=qcF hm
 obtain rfl:=qiY hnil
 obtain⟨k1,k2,k3,k4⟩:=wT ho
 obtain⟨cc,hoc,hcal,hca⟩:=qvG (k1 (by simp))
 have hg:o.guard=none:=by
  rcases k4 with⟨h,_⟩|⟨_,_,_,_,_,h⟩
  ·exact h
  ·cases h
 have hops:ops=#[o]:=by
  apply Array.toList_inj.1
  simpa using hol
 subst hops
 simp only at k2
 have hca:cc.args=#[]:=Array.toList_inj.1 (by simpa using hca)
 have hrun:∀ρ w,(execOp ρ o).run P w=.ok .recover w:=by
  intro ρ w
  simp[execOp,hoc,resolve,hcal,hca,invoke,builtin,go_sem]
 have hF:=qkj (n:=fn.ntmps) ha (hbn▸hlen)
 refine callsDIn_of_wpSIn hfn hb trivial fun c₀ cs hc₀=>?_
 refine wpSIn_seq (wpSIn_region ?_)
 have fin:∀(v:Value)(cs':List Frame)(u':FrameMode),VR G w y v->cs'={ c₀ with mode:=u' }::cs->settle u'=.returning ->
   c2.wpSIn (fen none) nf P (bodyPostS P fn c₀ cs fun e u' w'=>∃v le fr' df' H' G',e=.returned v/\settle u'=.returning/\T (.code le fr' df' H')/\Inv G' w' H'/\Ext G w G' w')
    (({ tmps:=us++Array.replicate (fn.ntmps - us.size) undef,defers:=[] }:Act).put o.dst v) cs' w:=by
  intro v cs' u' hv hcs hst
  refine wpSIn_of_wpIn rfl ?_
  have hd:(some d:Option Nat).all (fun x=>decide (x<fn.ntmps))=true:=by rw[<-k2]at k3;exact k3
  rw[<-k2]
  refine hrest none nf fn.ntmps c2 G w _ _ e2 hI hE (hF.put hd hv) fun e a' w' hp=>?_
  obtain⟨le,fr',df',H',G',hTT,he,hI',hf',hdf,hx⟩:=hp
  have hle:=hT _ _ _ _ hTT
  obtain⟨r,hr,_⟩:=qgm (v:=.tup []) hI' hf' hres rfl
  rw[qaZ]at hdf
  rcases hle with rfl|rfl<;>(cases e<;>try exact he.elim)<;>exact⟨hdf,u',hcs,r,hr,r,_,fr',df',H',G',rfl,hst,hTT,hI',hx⟩
 show wpOpsSIn _ _ _ _ _ [0] _ _ _
 have hw:∀yl,Region.wanted o yl=true:=by intro yl;simp[Region.wanted,hg]
 have e0:(#[o]:Array Oper)[0]? = some o:=rfl
 simp only[wpOpsSIn,e0]
 refine⟨fun _ _=>trivial,?_⟩
 rw[if_pos (hw _)]
 rw[hrun]
 rcases hu with⟨rfl,rfl⟩|⟨v,rfl,hv⟩
 ·have:recoverD (c₀::cs)=none:=by simp[recoverD,hc₀]
  simp only[this]
  exact fin .nilIface _ .returning (.sc _) (by rw[<-hc₀]) rfl
 ·have:recoverD (c₀::cs)=some (v,{ c₀ with mode:=.panicking [{ v:=v,recovered:=true }] }::cs):=by simp[recoverD,hc₀]
  simp only[this]
  exact fin v _ (.panicking [{ v:=v,recovered:=true }]) hv rfl rfl
end
end Go.Abs
namespace Go.Abs
open Go
def rfOf:Code->Code×Code
 |.seq _ (.seq _ (.seq _ (.seq (.seq _ (.block _ (.rangeFunc _ _ a b))) _)))=>(a,b)
 |_=>(.skip,.skip)
structure RFn where
 A:qo
 I:qo
 B:qo
 C:qo
 id:Nat
 x:BO
 ps:List Nat
 ba:qo
 bb:qo
 k:Nat
 dd:Nat
 g:FuncId
 cs:List BO
 Z:qo
 n:Nat
 res:List qcw
 dep:Nat
 dr:Nat
 rest:qo
 ng:Nat
 depg:Nat
def RFn.fn(r:RFn):BFn:=⟨.seq r.A (.seq r.I (.seq r.B (.seq (.seq r.C (.blk r.id (.rf r.x r.ps r.ba r.bb))) (.seq (.ops [⟨some r.dd,none,.mf (.func r.g) [] r.cs⟩,⟨none,none,.df (.t r.dd) []⟩]) r.Z)))),r.n,r.res⟩
def RFn.gn(r:RFn):BFn:=⟨.seq (.ops [⟨some r.dr,none,.rc⟩]) r.rest,r.ng,[]⟩
def isNR(e:qax):Bool:=match e with
 |.normal=>true
 |.ret=>true
 |_=>false
theorem qvC{e:qax}(h:isNR e=true):e=.normal\/e=.ret:=by cases e<;>simp_all [isNR]
def qjn(o:Nat)(H:qa):Bool:=match look o H.objs with
 |some .dfr=>true
 |_=>false
theorem qvD{o:Nat}{H:qa}(h:qjn o H=true):look o H.objs=some .dfr:=by
 unfold qjn at h;split at h
 ·assumption
 ·cases h
noncomputable def frF(t:FT)(N:Nat):List LV:=(List.range N).map t.get
noncomputable def qfs(r:RFn)(run:qo->ux)(t:FT)(cl:List LV)(m n0:Nat)(kv:HK)(y:LV)(H:qa):Bool:=
 FT.args cl 0 (FT.full r.depg) fun u=>u.setK r.dr y fun u=>run r.rest u H fun e _ H=>zH (isNR e) (zH (qjn m H) (uj (wV (H.del m) t.get r.res) fun v=>kv v (gcH n0 (H.del m))))
noncomputable def qkd(E:Env)(r:RFn)(run:qo->ux)(m n0:Nat)(kv:HK):ux->FT->qa->Bool:=fun z t H=>
 zH (Nat.ble r.cs.length r.ng) (t.setK r.dd (.fn (.func r.g) [] (qaL E r.cs t)) fun t1=>z t1 H fun e t2 H2=>match e with
  |.normal=>qfs r run t2 (qaL E r.cs t) m n0 kv (.sc .nilIface) H2
  |.ret=>qfs r run t2 (qaL E r.cs t) m n0 kv (.sc .nilIface) H2
  |.pan v=>qfs r run t2 (qaL E r.cs t) m n0 kv v H2
  |.exit _=>false)
noncomputable def qmG(r:RFn)(call:qcv)(v:LV)(t:FT)(H:qa)(k:Nat->qa->Bool):Bool:=match v with
 |.fn (.func f) [] cap=>qbM H.next fun m=>qbM (Nat.succ m) fun m1=>call f (.fn (.yield m1) [] []::cap) ⟨(m1,.rcd false (frF t r.n) r.ps r.k)::(m,.dfr)::H.objs,Nat.succ m1⟩ (fun _ H2=>zH (isR m1 false H2) (k m (H2.del m1))) (fun _ _=>false)
 |_=>false
noncomputable def qmK(E:Env)(run:qo->ux)(call:qcv)(r:RFn)(args:List LV)(H:qa)(kv:HK):Bool:=
 zH (Nat.ble args.length r.n) (FT.args args 0 (FT.full r.dep) fun t=>run r.A t H fun e t1 H1=>zH (isN e) (run r.I t1 H1 fun e t2 H2=>zH (isN e) (run r.B t2 H2 fun e t3 H3=>zH (isN e) (run r.C t3 H3 fun e t4 H4=>zH (isN e)
  (qmG r call (ev E r.x t4) t4 H4 fun m H5=>qkd E r run m H.next kv (run r.Z) t4 H5)))))
section
variable{P:Program}{E:Env}{F:Fns}
theorem qgi{c:qo}{rr:ux}{code:Code}{N nf:Nat}{G:qb}{w:World}{a:Act}{t:FT}{H:qa}{K:FT->qa->Bool}{next:Act->World->Prop}{Q:Exit->Act->World->Prop}(hmix:P.follows .mixedOrders=true)(hF:qeI P E F)
  (hev:qda E F c rr) (hcc:qw P N code=some c) (hI:Inv G w H) (hE:yS E G w) (hf:FR G w N t.get a) (hH:H.Ok) (h:rr t H (fun e t1 H1=>zH (isN e) (K t1 H1))=true)
  (hK:∀t' H' G' w' a',K t' H'=true->H'.Ok->Inv G' w' H'->FR G' w' N t'.get a'->a'.defers=a.defers->Ext G w G' w'->next a' w'):code.wpIn (fen none) nf P (Exit.then next Q) a w:=by
 have hs:zt P E c t.get H _:=qby hmix hF (hev t H _ hH h)
 refine hs.wp none nf N code G w a _ hcc hI hE hf fun e a' w' hp=>?_
 obtain⟨le,fr',df',H',G',hX,he,hI',hf',hd,hx⟩:=hp
 obtain⟨e0,t',H'',hr,hok,hk⟩:=hX
 cases hr
 obtain⟨hn,hk⟩:=zS hk
 obtain rfl:=qjm hn
 cases e<;>try exact he.elim
 exact hK _ _ _ _ _ hk hok hI' hf' hd hx
theorem yI.mono{G G':qb}{w w':World}{vs:List LV}{us:Array Value}(hx:Ext G w G' w')(h:yI G w vs us):yI G' w' vs us:=⟨h.1,fun i x hi=>(h.2 i x hi).mono hx⟩
theorem qxi{N nf d:Nat}{code:Code}{g:FuncId}{cs:List BO}{G:qb}{w:World}{H:qa}{fr:Fr}{a:Act}{next:Act->World->Prop}{Q:Exit->Act->World->Prop}
  (hc:qw P N code=some (.ops [⟨some d,none,.mf (.func g) [] cs⟩,⟨none,none,.df (.t d) []⟩])) (hI:Inv G w H) (hE:yS E G w) (hf:FR G w N fr a)
  (hK:∀a' w' G' vs,FR G' w' N (upd fr d (.fn (.func g) [] (cs.map (E.ev fr)))) a'->yI G' w' (cs.map (E.ev fr)) vs->a'.defers={ target:=.fn (.func g) vs,args:=#[] }::a.defers->Ext G w G' w'->Inv G' w' H->next a' w'):
  code.wpIn (fen none) nf P (Exit.then next Q) a w:=by
 obtain⟨id,ops,rfl,hm⟩:=qjT hc
 obtain⟨o,ol,hol,ho,hm⟩:=qcF hm
 obtain⟨o2,ol2,rfl,ho2,hm⟩:=qcF hm
 obtain rfl:=qiY hm
 refine wpIn_region_list ?_
 rw[hol]
 obtain⟨h1,h2,h3,h4⟩:=wT ho
 obtain⟨k1,k2,k3,k4⟩:=wT ho2
 unfold wpListIn
 rw[if_pos (qaz (fr:=fr) ho rfl fun d u _=>hf.slot d)]
 obtain⟨v,w',G',hy,hv,hx,hI'⟩:=qhJ (fr:=fr) (x:=.fn (.func g) [] (cs.map (E.ev fr))) hI (qal hE hf) (fun _=>rfl) (h1 (by simp)) rfl
 refine hy.wpIn ?_
 have hf':FR G' w' N (upd fr d (.fn (.func g) [] (cs.map (E.ev fr)))) (a.put o.dst v):=by
  have h2':o.dst=some d:=h2.symm
  rw[h2']at h3 ⊢
  exact(hf.mono hx).put (d:=some d) h3 hv
 unfold wpListIn
 rw[if_pos (qaz (fr:=upd fr d (.fn (.func g) [] (cs.map (E.ev fr)))) ho2 rfl fun d u _=>hf'.slot d)]
 obtain⟨c,y,hoc,hcal,hy2,hca⟩:=qvM (k1 (by simp))
 have hca:c.args=#[]:=by
  apply Array.toList_inj.1
  cases hl:c.args.toList with
  |nil=>rfl
  |cons b bl=>
   rw[hl,List.mapM_cons]at hca
   cases hb:cO b with
   |none=>simp[hb]at hca
   |some x=>cases hbl:bl.mapM cO<;>simp[hb,hbl]at hca
 have hvy:=qal (hE.mono hx) hf' y (.t d) hy2
 have e1:E.ev (upd fr d (.fn (.func g) [] (cs.map (E.ev fr)))) (.t d)=.fn (.func g) [] (cs.map (E.ev fr)):=by simp[Env.ev,upd]
 rw[e1]at hvy
 obtain⟨us,vs,hvv,hu0,hvs,_,hvr⟩:=hvy.fn_inv
 obtain rfl:us=#[]:=Array.eq_empty_of_size_eq_zero (by simpa using hu0)
 have hvv:(a.put o.dst v).eval y=.func (.func g) #[] vs:=hvv
 have hrun:(o2.semAt none (a.put o.dst v).eval).run P w'=.ok (.defer { target:=.fn (.func g) vs,args:=#[] }) w':=by
  rw[Oper.semAt_none]
  simp only[execOp,hoc,resolve,hcal,hvv,Deferred.ofValue,Sem.run_bind,Sem.run_pure,Result.andThen_ok,hca]
  simp
 refine⟨fun _ _=>trivial,?_⟩
 rw[show (fen none).round=none from rfl,hrun,Oper.uponIn_defer]
 have k2':o2.dst=none:=k2.symm
 rw[k2']
 exact hK _ _ G' vs ⟨hf'.size,hf'.slot⟩ ⟨hvs,hvr⟩ (by show _::(a.put o.dst v).defers=_;rw[qaZ]) hx hI'
theorem qtR{run:qo->ux}{call:qcv}{r:RFn}{f:FuncId}(hmix:P.follows .mixedOrders=true)(hF:qeI P E F)(hfn:F.fn f r.fn)(hg:F.fn r.g r.gn)(hrc:∀fn c,P.funcs[f]? = some fn->fn.body=some c->rfOf c=E.rc r.k)
  (hev:∀c,qda E F c (run c)) (hcall:qhE E F call) {args:List LV} {H:qa} {kv kp:HK} (hH:H.Ok) (h:qmK E run call r args H kv=true):qW P E f args H (CS kv kp):=by
 obtain⟨fn,hf,hcF,hname⟩:=hF.fn _ _ hfn
 obtain⟨gn,hgf,hgc,hgname⟩:=hF.fn _ _ hg
 obtain⟨c,hb,hcode,hbn,hres⟩:=qeC hcF
 have hrc:=hrc fn c hf hb
 simp only[RFn.fn]at hcode hbn hres
 obtain⟨cA,c1,rfl,eA,hcode⟩:=qap hcode
 obtain⟨cI,c2,rfl,eI,hcode⟩:=qap hcode
 obtain⟨cB,c3,rfl,eB,hcode⟩:=qap hcode
 obtain⟨c4,c5,rfl,e4,e5⟩:=qap hcode
 obtain⟨cC,cl,rfl,eC,e4⟩:=qap e4
 obtain⟨cr,rfl,er⟩:=qjU e4
 obtain⟨cD,cZ,rfl,eD,eZ⟩:=qap e5
 have hrc':∀d pa a b,cr=.rangeFunc d pa a b->E.rc r.k=(a,b):=by
  intro d pa a b e
  subst e
  exact hrc.symm
 obtain⟨hn,h⟩:=zS h
 obtain⟨t,h,ht⟩:=FT.args_fr h
 refine⟨⟨fn,hf,by simp[hb],hname⟩,fun G w us hI hE ha=>(callsIn_wide (n:=0)).1 (callsIn_of_wp_marks (F:=fen none) (n:=0) hf hb trivial ?_)⟩
 have hf0:FR G w fn.ntmps t.get { tmps:=us++Array.replicate (fn.ntmps - us.size) undef,defers:=[] }:=by
  rw[ht];exact qkj ha (hbn▸Nat.le_of_ble_eq_true hn)
 refine wpIn_seq (qgi hmix hF (hev _) eA hI hE hf0 hH h fun t1 H1 G1 w1 a1 h ok1 hI1 hf1 hd1 hx1=>?_)
 have hE1:=hE.mono hx1
 refine wpIn_seq (qgi hmix hF (hev _) eI hI1 hE1 hf1 ok1 h fun t2 H2 G2 w2 a2 h ok2 hI2 hf2 hd2 hx2=>?_)
 have hE2:=hE1.mono hx2
 refine wpIn_seq (qgi hmix hF (hev _) eB hI2 hE2 hf2 ok2 h fun t3 H3 G3 w3 a3 h ok3 hI3 hf3 hd3 hx3=>?_)
 have hE3:=hE2.mono hx3
 refine wpIn_seq (wpIn_seq (qgi hmix hF (hev _) eC hI3 hE3 hf3 ok3 h fun t4 H4 G4 w4 a4 h ok4 hI4 hf4 hd4 hx4=>?_))
 have hE4:=hE3.mono hx4
 have hx04:=((hx1.trans hx2).trans hx3).trans hx4
 have hd04:a4.defers=[]:=hd4.trans (hd3.trans (hd2.trans hd1))
 refine wpIn_block ?_
 unfold qmG at h
 split at h
 ·rename_i fi cap hx
  rw[zY]at hx
  rw[qcJ,qcJ]at h
  have hO:=hcall _ _ _ _ _ (show qa.Ok ⟨(Nat.succ H4.next,.rcd false (frF t4 r.n) r.ps r.k)::(H4.next,.dfr)::H4.objs,Nat.succ (Nat.succ H4.next)⟩ from ⟨Nat.lt_succ_self _,Nat.lt_succ_self _,ok4⟩) h
  have hC:qW P E _ _ _ _:=qby hmix hF hO
  refine rf_wp (k:=r.k) (T:=CS (fun _ H2=>zH (isR (Nat.succ H4.next) false H2) (qkd E r run H4.next H.next kv (run r.Z) t4 (H2.del (Nat.succ H4.next)))) fun _ _=>false) er hrc' hI4 hE4 hf4 hx (by rw[<-hbn];exact hC) (fun q hq=>?_) (fun v H5 G5 w5 hT hI5 hx5 hlt5=>?_)
  ·rcases hq with⟨v,H',rfl,_,hk⟩|⟨v,H',rfl,_,hk⟩
   ·exact⟨v,H',rfl,(zS hk).1⟩
   ·cases hk
  rcases hT with⟨v',H',he,ok5,hk⟩|⟨v',H',he,_,hk⟩
  rotate_left
  ·cases hk
  cases he
  obtain⟨_,hk⟩:=zS hk
  have ok5':(H5.del (Nat.succ H4.next)).Ok:=qn.del ok5
  have hE5:=hE4.mono hx5
  have hx05:=hx04.trans hx5
  show (Code.seq cD cZ).wpIn (fen none) 0 P (bodyPostM (fen none) 0 P fn (qku G w (CS kv kp))) _ _
  unfold qkd at hk
  obtain⟨hcl,hk⟩:=zS hk
  obtain⟨t6,hk,ht6⟩:=FT.setK_spec hk
  rw[qes]at hk ht6
  refine wpIn_seq (qxi (fr:=t4.get) eD hI5 hE5 ⟨(hf4.mono hx5).size,(hf4.mono hx5).slot⟩ fun a6 w6 G6 vs hf6 hvs hd6 hx6 hI6=>?_)
  have hE6:=hE5.mono hx6
  have hx06:=hx05.trans hx6
  rw[<-ht6]at hf6
  have hs:zt P E r.Z t6.get (H5.del (Nat.succ H4.next)) _:=qby hmix hF (hev _ t6 _ _ ok5' hk)
  refine hs.wp none 0 fn.ntmps cZ G6 w6 a6 _ eZ hI6 hE6 hf6 fun e a7 w7 hp=>?_
  obtain⟨le,fr7,df7,H7,G7,hX,he7,hI7,hf7,hd7,hx7⟩:=hp
  obtain⟨e0,t7,H7',hr,ok7,hk⟩:=hX
  cases hr
  have hE7:=hE6.mono hx7
  have hx07:=hx06.trans hx7
  have hdefs:a7.defers=[{ target:=.fn (.func r.g) vs,args:=#[] },{ target:=.collected (G5.loc H4.next),args:=#[] }]:=by rw[hd7,hd6];simp[hd04]
  have hvs7:=(hvs.mono hx7)
  have last:∀(y:LV)(u:FrameMode),u≠.run->((u=.returning/\y=.sc .nilIface)\/∃v,u=.panicking [{ v:=v,recovered:=false }]/\VR G7 w7 y v)->qfs r run t7 (r.cs.map (E.ev t4.get)) H4.next H.next kv y H7=true ->
    LeavesInM (fen none) 0 P fn a7.tmps (qku G w (CS kv kp)) a7.defers u w7:=by
   intro y u hur hu hk
   unfold qfs at hk
   obtain⟨u1,hk,hu1⟩:=FT.args_fr hk
   obtain⟨u2,hk,hu2⟩:=FT.setK_spec hk
   rw[hu1]at hu2
   have hs:zt P E r.rest u2.get H7 _:=qby hmix hF (hev _ u2 _ _ ok7 hk)
   rw[hdefs]
   refine⟨hur,.inr ⟨fun h=>(by cases h),.func r.g,vs,r.g,vs,rfl,?_,fun _ _=>trivial,?_⟩⟩
   ·obtain⟨cg,hgb,_⟩:=qeC hgc
    have:=qjS (P:=P) (w:=w7) hgf (by simp[hgb]) hgname vs
    simpa [invoke] using this
   ·refine CallsDIn.mono (qtF (nf:=0 - 1) hgf hgc (by simpa using Nat.le_of_ble_eq_true hcl) hI7 hE7 hvs7 hu (by rw[<-hu2];exact hs.wp) fun e fr' df' H' hT=>?_) fun e u' w' hq=>?_
    ·obtain⟨e1,t',H'',he,_,hk⟩:=hT
     cases he
     exact qvC (zS hk).1
    ·obtain⟨v,le,fr',df',H8,G8,rfl,hst,hT,hI8,hx8⟩:=hq
     obtain⟨e1,t',H'',he,ok8,hk⟩:=hT
     cases he
     obtain⟨_,hk⟩:=zS hk
     obtain⟨hD,hk⟩:=zS hk
     obtain⟨vr,hvr,hk⟩:=yV hk
     have hlD:=qvD hD
     obtain⟨hlt8,q1,q2,q3⟩:=hI8.objs _ _ hlD
     have hloc:G8.loc H4.next=G5.loc H4.next:=by
      have h8:=hx8.loc H4.next
      have h7:=hx7.loc H4.next
      have h6:=hx6.loc H4.next
      have n6:=hx6.n
      have n7:=hx7.n
      rw[h8 (by omega),h7 (by omega),h6 (by omega)]
     obtain⟨y1,y2⟩:=hI8.setDel (ob':=.deferred none) hlD q1 (by simp) q2 q3
     have htd:=run_takeDeferred (P:=P) q1
     rw[hloc]at y1 y2 htd
     simp only
     rw[hst]
     refine⟨by simp,.inl ⟨_,_,rfl,htd,?_⟩⟩
     have hxx:=hx8.trans y1
     obtain⟨uv,hr1,hr2⟩:=qgm y2 (hf7.mono hxx) hres hvr
     have okd:(H8.del H4.next).Ok:=qn.del ok8
     have hgc8:=qfy okd H.next
     exact⟨uv,hr1,vr,_,G8,.inl ⟨vr,_,rfl,hgc8.1,hk⟩,hr2,y2.wk hgc8.2,hx07.trans hxx⟩
  cases le with
  |normal=>
   cases e<;>try exact he7.elim
   exact last _ .returning (by simp) (.inl ⟨rfl,rfl⟩) hk
  |ret=>
   cases e<;>try exact he7.elim
   exact last _ .returning (by simp) (.inl ⟨rfl,rfl⟩) hk
  |exit n=>cases hk
  |pan v=>
   cases e<;>try exact he7.elim
   obtain⟨u,rfl,hv⟩:=he7
   exact last v (.panicking [{ v:=u,recovered:=false }]) (by simp) (.inr ⟨u,rfl,hv⟩) hk
 ·cases h
end
end Go.Abs
namespace Go.Abs
open Go
mutual
def qdE:LV->Bool
 |.sc _=>true
 |.agg cs=>belBs cs
 |.tup cs=>belBs cs
 |.sl es .no=>belBs es
 |_=>false
def belBs:List LV->Bool
 |[]=>true
 |v::r=>match qdE v with
  |true=>belBs r
  |false=>false
end
theorem qxX{n:Nat}{e:LV}(h:Bel n e)(j:Nat)(c:LV)(hc:e.cells[j]? = some c):Bel n c:=by
 have one:e.cells=[e]->Bel n c:=by
  intro he
  rw[he]at hc
  cases j with
  |zero=>simp at hc;subst hc;exact h
  |succ j=>simp at hc
 cases e with
 |agg cs=>cases h with|agg h=>exact h j c hc
 |_=>exact one rfl
mutual
theorem qqs:∀{v:LV},qdE v=true->Bel 0 v
 |.sc _,_=>.sc _
 |.agg cs,h=>.agg fun i c hc=>belBs_ok (l:=cs) (by rw[qdE]at h;exact h) i c hc
 |.tup cs,h=>.tup fun i c hc=>belBs_ok (l:=cs) (by rw[qdE]at h;exact h) i c hc
 |.sl es .no,h=>.sl (fun i e j c he hc=>qxX (belBs_ok (l:=es) (by rw[qdE]at h;exact h) i e he) j c hc) (fun t ht=>by cases ht)
 |.sl _ .full,h|.sl _ (.tok _),h|.asl _ _ _,h|.ptr _ _,h|.cptr _ _,h|.map _,h|.fn _ _ _,h|.iface _ _,h|.bot,h=>by simp[qdE]at h
theorem belBs_ok:∀{l:List LV},belBs l=true->∀(i:Nat)(c:LV),l[i]? = some c->Bel 0 c
 |[],_,i,c,hc=>by simp at hc
 |v::r,h,i,c,hc=>by
  rw[belBs]at h
  split at h
  ·rename_i hv
   cases i with
   |zero=>simp at hc;subst hc;exact qqs hv
   |succ i=>exact belBs_ok h i c (by simpa using hc)
  ·cases h
end
theorem VR.cl0{G G':qb}{w:World}{x:LV}{v:Value}(hcl:∀b y,G.Cl b y->G'.Cl b y)(h:VR G w x v):Bel 0 x->VR G' w x v:=by
 induction h with
 |sc v=>exact fun _=>.sc v
 |bot v=>exact fun _=>.bot v
 |agg hs _ h1 ih=>intro hb;cases hb with|agg hb=>exact .agg hs (fun i c hc=>ih i c hc (hb i c hc)) h1
 |tup hs _ ih=>intro hb;cases hb with|tup hb=>exact .tup hs (fun i c hc=>ih i c hc (hb i c hc))
 |@sl es own b off sz cap xs hc hz hx _ ho ih=>
  intro hb
  cases hb with
  |sl hb ho'=>
   refine .sl hc hz (fun i e j c h1 h2=>⟨hcl _ _ (hx i e j c h1 h2).1,(hx i e j c h1 h2).2⟩) (fun i e j c h1 h2=>ih i e j c h1 h2 (hb i e j c h1 h2)) ?_
   cases own with
   |no=>exact trivial
   |full=>exact ho
   |tok t=>exact absurd (ho' t rfl) (by omega)
 |@sln own ho=>
  intro hb
  cases hb with
  |sl _ ho'=>
   refine .sln ?_
   cases own with
   |no=>exact trivial
   |full=>exact ho
   |tok t=>exact absurd (ho' t rfl) (by omega)
 |sle a=>exact fun _=>.sle a
 |asl ho hl hc=>intro hb;cases hb with|asl hb=>exact absurd hb (by omega)
 |ptr ho=>intro hb;cases hb with|ptr hb=>exact absurd hb (by omega)
 |cptr hx _ ih=>intro hb;cases hb with|cptr hb=>exact .cptr (fun j c h=>⟨hcl _ _ (hx j c h).1,(hx j c h).2⟩) (fun j c h=>ih j c h (hb j c h))
 |map ho=>intro hb;cases hb with|map hb=>exact absurd hb (by omega)
 |@fn f a c us vs hf h1 h2 _ _ ih1 ih2=>
  intro hb
  cases hb with
  |fn hbf hb1 hb2=>
   have e:fnW G f=fnW G' f:=by
    cases f<;>first|rfl|exact absurd hbf (by simp[qdx])
   rw[e]
   refine .fn ?_ h1 h2 (fun i x h=>ih1 i x h (hb1 i x h)) (fun i x h=>ih2 i x h (hb2 i x h))
   cases f<;>first|trivial|exact absurd hbf (by simp[qdx])
 |iface _ ih=>intro hb;cases hb with|iface hb=>exact .iface (ih hb)
end Go.Abs
namespace Go.Abs
open Go
theorem Inv.grownSet{G:qb}{w w':World}{H:qa}(hI:Inv G w H)(hg:w.grownBy w' none)(C:Nat->Nat->Lab)(hC:∀b x,w'.heap.size<=b->C b x≠.cl):
  ∃G',Ext G w G' w'/\Inv G' w' H/\G'.B=G.B/\∀b x,w.heap.size<=b->C b x=.cl->G'.own b x=.cl:=by
 have hb:∀k,k<w.heap.size->w'.heap[k]? = w.heap[k]?:=fun k hk=>hg.block k hk (by simp)
 have hlt:∀{k:Nat}{o:Obj},w.heap[k]? = some o->k<w.heap.size:=fun h=>(Array.getElem?_eq_some_iff.1 h).1
 let own':Nat->Nat->Lab:=fun b x=>if w.heap.size<=b then (match C b x with|.cl=>.cl|_=>.free) else G.own b x
 let G':qb:=⟨G.B,G.n,G.loc,G.asz,G.tk,own',G.rc⟩
 have hne:∀{b x:Nat}{l:Lab},G.own b x=l->l≠.free->¬w.heap.size<=b:=by
  intro b x l h hl e
  rw[hI.free b x e]at h
  exact hl h.symm
 have hold:∀{b x:Nat},¬w.heap.size<=b->own' b x=G.own b x:=fun h=>if_neg h
 have hx:Ext G w G' w':=by
  refine⟨hg.os,hg.tape,hg.output,hg.size,rfl,fun k hk=>hb k (hI.hB k hk),Nat.le_refl _,fun _ _=>rfl,fun _ _=>rfl,fun b x hc=>⟨?_,fun v hv=>?_⟩,fun t _ m b c h=>⟨m,b,c,h,Nat.le_refl _,fun _=>⟨rfl,rfl⟩⟩,rfl⟩
  ·show own' b x=.cl
   rw[hold (hne hc (by simp))];exact hc
  ·have:b<w.heap.size:=by
    rcases Nat.lt_or_ge b w.heap.size with h|h
    ·exact h
    ·rw[hI.free b x h]at hc;cases hc
   rw[qao (hb b this)];exact hv
 refine⟨G',hx,Inv.step (W:=fun _ _=>False) (V:=fun _=>False) (fun _=>False) hI hx ⟨fun k vs el fz h=>⟨vs,by rw[hb k (hlt h)];exact h,rfl,fun _ _=>rfl⟩,fun k ob h _ _=>by rw[hb k (hlt h)];exact h⟩
  hI.n (fun b x h=>?_) (fun b x h=>?_) (fun _ _ _ h=>h) (fun _ _ _ _ _ h=>h) (fun _ _ _ h=>h) (fun i k x _=>⟨fun h=>?_,fun h=>?_⟩) (fun _ _ _=>rfl) ?_ (fun _ _ h=>h.elim),rfl,fun b x h hc=>?_⟩
 ·show own' b x=.free
  have h2:w.heap.size<=b:=Nat.le_trans hg.size h
  show (if w.heap.size<=b then (match C b x with|.cl=>Lab.cl|_=>.free) else G.own b x)=.free
  rw[if_pos h2]
  have:=hC b x h
  split
  ·rename_i hcc;exact absurd hcc this
  ·rfl
 ·show own' b x=.free
  have:=hI.hB b h
  rw[hold (by omega)];exact hI.old b x h
 ·show own' k x=_
  rw[hold (hne h (by simp))];exact h
 ·show own' k x=_
  rw[hold (hne h (by simp))];exact h
 ·intro m es' hm he'
  obtain⟨_,hob⟩:=hI.objs m _ he'
  obtain⟨ents,clock,h1,_⟩:=hob
  refine⟨es',he',Nat.le_refl _,fun _ ents' clock' h'=>⟨ents,clock,h1,?_⟩⟩
  rw[hb _ (hlt h1),h1]at h'
  cases h'
  exact⟨rfl,fun _=>rfl⟩
 ·show (if w.heap.size<=b then (match C b x with|.cl=>Lab.cl|_=>.free) else G.own b x)=.cl
  rw[if_pos h,hc]
theorem qW.frame{P:Program}{E:Env}{f:FuncId}{args:List LV}{v:LV}{S:Res->Prop}(hg:∀g,E.glob g=.bot)(h:qW P E f args ⟨[],1⟩ fun r=>∃v' H',r=.ret v' H'/\v'.strip=v)
  (hb:Bel 0 v) (hba:∀(i:Nat)(x:LV),args[i]? = some x->∃u,x=.sc u) (H:qa) (hS:S (.ret v H)):qW P E f args H S:=by
 refine⟨h.1,fun G w us hI hE ha=>?_⟩
 let B1:Nat->Option Bool:=fun b=>if b<w.heap.size then some (decide (G.B b=some true)) else none
 let G0:qb:=⟨B1,0,G.loc,G.asz,G.tk,fun _ _=>.free,G.rc⟩
 have hB1:∀b,b<w.heap.size->B1 b=some (decide (G.B b=some true)):=fun b h=>if_pos h
 have hB2:∀b,¬b<w.heap.size->B1 b=none:=fun b h=>if_neg h
 have hI0:Inv G0 w ⟨[],1⟩:=by
  refine⟨Nat.zero_le _,fun b hh=>?_,fun _ _ _=>rfl,fun _ _ _=>rfl,fun o x hx=>by simp[look]at hx⟩
  rcases Nat.lt_or_ge b w.heap.size with h|h
  ·exact h
  ·rw[show G0.B b=none from hB2 b (by omega)]at hh
   cases hh
 have hE0:yS E G0 w:=⟨fun g=>by rw[hg];exact .bot _,hE.rc,fun p hp=>by
  obtain⟨h1,h2⟩:=hE.fix p hp
  have hlt:=hI.hB p.1 (by rw[h1];rfl)
  exact⟨by rw[show G0.B p.1=_ from hB1 _ hlt,h1];rfl,h2⟩⟩
 have ha0:yI G0 w args us:=⟨ha.1,fun i x hi=>by
  obtain⟨u,rfl⟩:=hba i x hi
  have:=(ha.2 i _ hi).sc_inv
  rw[this]
  exact .sc _⟩
 refine(h.2 G0 w us hI0 hE0 ha0).mono fun e w' hp=>?_
 cases e with
 |outgrown=>exact hp.elim
 |panicked ch=>
  obtain⟨_,_,_,_,⟨_,_,hn,_⟩,_⟩:=hp
  cases hn
 |returned u=>
  obtain⟨v',H',G1,⟨_,_,hn,hv⟩,hV,hI1,hx⟩:=hp
  cases hn
  have hV1:VR G1 w' v u:=by rw[<-hv];exact hV.strip
  have hgrow:w.grownBy w' none:=⟨hx.os,hx.tape,hx.output,hx.size,fun k hk _=>hx.block k (by rw[show G0.B k=_ from hB1 k hk];rfl)⟩
  obtain⟨G',hx',hI',hGB,hcl⟩:=hI.grownSet hgrow G1.own fun b x h hc=>by rw[hI1.free b x h]at hc;cases hc
  refine⟨v,H,G',hS,VR.cl0 (G:=G1) (G':=G') (fun b y hc=>?_) hV1 hb,hI',hx'⟩
  rcases hc with hc|hc
  ·rw[hx.hB]at hc
   rcases Nat.lt_or_ge b w.heap.size with h|h
   ·rw[show G0.B b=_ from hB1 b h]at hc
    exact .inl (by rw[hGB];exact of_decide_eq_true (Option.some.inj hc))
   ·rw[show G0.B b=none from hB2 b (by omega)]at hc
    cases hc
  ·rcases Nat.lt_or_ge b w.heap.size with h|h
   ·have:=hI1.old b y (by rw[hx.hB,show G0.B b=_ from hB1 b h];rfl)
    rw[this]at hc
    cases hc
   ·exact .inr (hcl b y h hc)
def scB:List LV->Bool
 |[]=>true
 |.sc _::r=>scB r
 |_=>false
theorem qmc:∀{l:List LV},scB l=true->∀(i:Nat)(x:LV),l[i]? = some x->∃u,x=.sc u
 |[],_,i,x,hx=>by simp at hx
 |v::r,h,i,x,hx=>by
  cases v with
  |sc u=>
   cases i with
   |zero=>simp at hx;exact⟨u,hx.symm⟩
   |succ i=>exact qmc (l:=r) h i x (by simpa using hx)
  |_=>cases h
end Go.Abs
namespace Go.Abs.Tz
open Go Go.Abs Go.Proofs
noncomputable def qgx(f:FuncId):Option qeE:=match f with
 |172=>some qiz
 |171=>some qiA
 |_=>none
theorem qtT(f:FuncId)(p:qeE)(h:qgx f=some p)(args:List LV)(H:qa)(kv kp:HK)(hH:H.Ok)(hp:p args H kv kp=true):Out E0 F0 (.call f args H) (CS kv kp):=by
 unfold qgx at h
 split at h
 ·cases h;exact qtU hH hp
 ·cases h;exact qtV hH hp
 ·cases h
def pP(k:Nat):qo:=match k,b48.body with
 |0,.seq a _=>a
 |1,.seq _ (.seq a _)=>a
 |2,.seq _ (.seq _ (.seq a _))=>a
 |3,.seq _ (.seq _ (.seq _ (.seq (.seq a _) _)))=>a
 |4,.seq _ (.seq _ (.seq _ (.seq (.seq _ (.blk _ (.rf _ _ a _))) _)))=>a
 |5,.seq _ (.seq _ (.seq _ (.seq (.seq _ (.blk _ (.rf _ _ _ a))) _)))=>a
 |6,.seq _ (.seq _ (.seq _ (.seq _ (.seq _ a))))=>a
 |_,_=>.bad
def qP:qo:=match b107.body with
 |.seq _ a=>a
 |_=>.bad
def rP:RFn:=⟨pP 0,pP 1,pP 2,pP 3,0,T 14,[15],pP 4,pP 5,0,31,107,[T 2,T 4,T 5,T 6],pP 6,39,[.c 4 none,.c 5 none],6,7,qP,36,6⟩
theorem qmH:rP.fn=b48:=rfl
theorem rP_gn:rP.gn=b107:=rfl
theorem rcP(fn:Func)(c:Code)(hf:Tryz.prog.funcs[48]? = some fn)(hb:fn.body=some c):rfOf c=E0.rc 0:=by
 simp only[E0,rcT,hf,hb,Option.bind_some,Option.getD_some]
theorem rngP:F0.rng 0 39 (pP 4) (pP 5):=by
 obtain⟨fn,hf,hcF,_⟩:=qcj.fn 48 rP.fn (by rw[qmH];exact c48)
 obtain⟨c,hb,hcode,hbn,_⟩:=qeC hcF
 have hrc:=rcP fn c hf hb
 simp only[RFn.fn]at hcode hbn
 obtain⟨cA,c1,rfl,eA,hcode⟩:=qap hcode
 obtain⟨cI,c2,rfl,eI,hcode⟩:=qap hcode
 obtain⟨cB,c3,rfl,eB,hcode⟩:=qap hcode
 obtain⟨c4,c5,rfl,e4,e5⟩:=qap hcode
 obtain⟨cC,cl,rfl,eC,e4⟩:=qap e4
 obtain⟨cr,rfl,er⟩:=qjU e4
 obtain⟨d,pa,a,b,rfl,_,_,h1,h2⟩:=qqj er
 show qw Tryz.prog 39 (E0.rc 0).1=_/\qw Tryz.prog 39 (E0.rc 0).2=_
 rw[<-hrc,show (39:Nat)=fn.ntmps from hbn]
 exact⟨h1,h2⟩
noncomputable def CP3:Cfg:=⟨E0,qfp tabP,qgx,fun k=>match k with
 |0=>some (pP 4,pP 5,39,6)
 |_=>none⟩
theorem qeL:qeK CP3 F0:=⟨fun f i h=>qnD qrA f i h,qtT,fun k ba bb N d h=>by
 simp only[CP3]at h
 split at h
 ·cases h;exact rngP
 ·cases h⟩
noncomputable def qmL(n:Nat):qeE:=fun args H kv _=>qmK E0 (qhf CP3 n false) (qeA CP3 (qhf CP3 n)) rP args H kv
theorem qtS(n:Nat){args:List LV}{H:qa}{kv kp:HK}(hH:H.Ok)(h:qmL n args H kv kp=true):Out E0 F0 (.call 48 args H) (CS kv kp):=
 .prim (qtR (P:=Tryz.prog) (E:=E0) (F:=F0) (r:=rP) (f:=48) qdv qcj (by rw[qmH];exact c48) (by rw[rP_gn];exact c107) rcP (fun c=>qjI qeL n false c) (qhq qeL (qjI qeL n)) hH h)
noncomputable def qmM(f:FuncId):Option qeE:=match f with
 |48=>some (qmL 1000000)
 |f=>qgx f
noncomputable def CP4:Cfg:=⟨E0,qfp tabP,qmM,CP3.rng⟩
theorem qyB:qeK CP4 F0:=⟨qeL.tab,fun f p h args H kv kp hH hp=>by
 simp only[CP4,qmM]at h
 split at h
 ·cases h;exact qtS _ hH hp
 ·exact qeL.prim _ _ h _ _ _ _ hH hp,qeL.rng⟩
noncomputable def qfa(f:FuncId)(args:List LV)(v:LV):Bool:=qqi CP4 1000000 f args ⟨[],1⟩ (fun u _=>uC u.strip v) (fun _ _=>false)
abbrev qfR(f:FuncId)(args:List LV)(v:LV):Prop:=qhA E0 F0 f args v
theorem qgR{f:FuncId}{args:List LV}{v:LV}(h:qfa f args v=true)(hb:qdE v=true)(ha:scB args=true):qfR f args v:=by
 intro H kv kp hk hH
 have hO:=qxz qyB (show qa.Ok ⟨[],1⟩ from trivial) h
 have hC:qW Tryz.prog E0 f args ⟨[],1⟩ _:=qby qdv qcj hO
 refine .prim (qW.frame (fun _=>rfl) (hC.weaken fun r hr=>?_) (qqs hb) (qmc ha) H (.inl ⟨v,_,rfl,hH,hk⟩))
 rcases hr with⟨u,H,rfl,_,hk⟩|⟨u,H,rfl,_,hk⟩
 ·exact⟨u,H,rfl,qhh hk⟩
 ·cases hk
end Go.Abs.Tz
namespace Go.Abs.Tz
open Go Go.Abs Go.Proofs
def t0Y:Term:=⟨0,0,⟨⟨[]⟩⟩⟩
def qiZ:List qe:=[⟨⟨⟨⟨[108,111,115,116]⟩⟩,[⟨3,0,⟨⟨[83]⟩⟩⟩]⟩,[⟨1,⟨⟨⟨[115,116,111,110,101]⟩⟩,[⟨3,0,⟨⟨[83]⟩⟩⟩,⟨3,0,⟨⟨[78]⟩⟩⟩]⟩,t0Y,t0Y⟩,⟨5,⟨⟨⟨[]⟩⟩,[]⟩,⟨3,0,⟨⟨[78]⟩⟩⟩,⟨1,3,⟨⟨[]⟩⟩⟩⟩]⟩]
def qjW:List qe:=[⟨⟨⟨⟨[98,111,117,110,100]⟩⟩,[⟨3,0,⟨⟨[83]⟩⟩⟩]⟩,[⟨1,⟨⟨⟨[115,116,111,110,101]⟩⟩,[⟨3,0,⟨⟨[83]⟩⟩⟩,⟨3,0,⟨⟨[78]⟩⟩⟩]⟩,t0Y,t0Y⟩,⟨2,⟨⟨⟨[108,111,115,116]⟩⟩,[⟨3,0,⟨⟨[83]⟩⟩⟩]⟩,t0Y,t0Y⟩]⟩]
def qbv:List Atom:=[⟨⟨⟨[115,116,111,110,101]⟩⟩,[⟨1,1,⟨⟨[]⟩⟩⟩,⟨1,2,⟨⟨[]⟩⟩⟩]⟩,
 ⟨⟨⟨[115,116,111,110,101]⟩⟩,[⟨1,2,⟨⟨[]⟩⟩⟩,⟨1,5,⟨⟨[]⟩⟩⟩]⟩,
 ⟨⟨⟨[115,116,111,110,101]⟩⟩,[⟨1,3,⟨⟨[]⟩⟩⟩,⟨1,0,⟨⟨[]⟩⟩⟩]⟩,
 ⟨⟨⟨[115,101,101,110]⟩⟩,[⟨1,3,⟨⟨[]⟩⟩⟩]⟩,
 ⟨⟨⟨[110,101,120,116]⟩⟩,[⟨1,1,⟨⟨[]⟩⟩⟩,⟨1,2,⟨⟨[]⟩⟩⟩]⟩,
 ⟨⟨⟨[110,101,120,116]⟩⟩,[⟨1,2,⟨⟨[]⟩⟩⟩,⟨1,3,⟨⟨[]⟩⟩⟩]⟩,
 ⟨⟨⟨[110,101,120,116]⟩⟩,[⟨1,3,⟨⟨[]⟩⟩⟩,⟨1,1,⟨⟨[]⟩⟩⟩]⟩]
def qdb:Atom:=⟨⟨⟨[98,111,117,110,100]⟩⟩,[⟨1,1,⟨⟨[]⟩⟩⟩]⟩
noncomputable def qyv:List LV:=[.str ⟨⟨[108,111,115,116,40,83,41,32,105,102,32,115,116,111,110,101,40,83,44,32,78,41,44,32,78,32,60,32,51,46]⟩⟩]
noncomputable def qrs:LV:=.tup [.sl (qiZ.map uo) .no,.sc (.int .i64 0),.sc (.int .i64 0)]
theorem qtL:qfa 9 qyv qrs=true:=by kernel_rfl
theorem qvW:qfR 9 [.str ⟨⟨[108,111,115,116,40,83,41,32,105,102,32,115,116,111,110,101,40,83,44,32,78,41,44,32,78,32,60,32,51,46]⟩⟩] (.tup [.sl (qiZ.map uo) .no,.sc (.int .i64 0),.sc (.int .i64 0)]):=qgR qtL (by kernel_rfl) (by kernel_rfl)
noncomputable def qyw:List LV:=[.str ⟨⟨[98,111,117,110,100,40,83,41,32,105,102,32,115,116,111,110,101,40,83,44,32,78,41,44,32,110,111,116,32,108,111,115,116,40,83,41,46]⟩⟩]
noncomputable def qrt:LV:=.tup [.sl (qjW.map uo) .no,.sc (.int .i64 0),.sc (.int .i64 0)]
theorem qtM:qfa 9 qyw qrt=true:=by kernel_rfl
theorem qvX:qfR 9 [.str ⟨⟨[98,111,117,110,100,40,83,41,32,105,102,32,115,116,111,110,101,40,83,44,32,78,41,44,32,110,111,116,32,108,111,115,116,40,83,41,46]⟩⟩] (.tup [.sl (qjW.map uo) .no,.sc (.int .i64 0),.sc (.int .i64 0)]):=qgR qtM (by kernel_rfl) (by kernel_rfl)
noncomputable def qyx:List LV:=[]
noncomputable def qru:LV:=.sl (qbv.map ql) .no
theorem qtN:qfa 43 qyx qru=true:=by kernel_rfl
theorem qju:qfR 43 [] (.sl (qbv.map ql) .no):=qgR qtN (by kernel_rfl) (by kernel_rfl)
noncomputable def qyy:List LV:=[.str ⟨⟨[98,111,117,110,100,40,49,41]⟩⟩]
noncomputable def qrv:LV:=ql qdb
theorem qtO:qfa 44 qyy qrv=true:=by kernel_rfl
theorem qor:qfR 44 [.str ⟨⟨[98,111,117,110,100,40,49,41]⟩⟩] (ql qdb):=qgR qtO (by kernel_rfl) (by kernel_rfl)
end Go.Abs.Tz
namespace Go.Abs.Tz
open Go Go.Abs Go.Proofs
set_option maxRecDepth 20000
set_option linter.unusedSimpArgs false
attribute [local simp ↓] gT gS jh jg gv ug q9 zu jf ub yD yE gU gW gY gV jm jp ju jn jv jw jq jr jo jk ji jl jj yB yz yC yA gN gL gO gM g8 g6 g7 uh zG jy qX jz gy yF yG yb yd yc g9 ya ym jD jI jL jH jJ jK gh gg jR jT uQ uN ja jd uO uW u9 uZ uY uX uU uJ uK uL uM jb uS uT uH jc je uP uR uV uI jX jS gd gk jU j8 gc gb ga j9 j6 jP gf j3 j5 jM gj gp jV jZ j7 jN gt gi jO gq j0 jW jY jQ ge jE jG jF yg yk yf yh yj qp ur
attribute [local simp] faL fdL iaL ixL qD qY qT eqK eqL qO zi uD ye yy yn yp yr yu yw yx yo yt yq yv zy LV.cells LV.whole qp uq zU jA stL zz zP uc qa.alloc gw gu gx gK gJ gI gH gG gF gD gC gA gz qd ui
def qbu:List qg:=[⟨1,100,200,qiZ⟩,⟨2,0,4000,qjW⟩]
theorem yR1:qaY qbu 150=(100,200,0):=of_decide_eq_true (by kernel_rfl)
theorem yR2:qdW qbu qbv 150 qdb=([1],0):=of_decide_eq_true (by kernel_rfl)
theorem yR3:qdW qbu qbv 250 qdb=([2],0):=of_decide_eq_true (by kernel_rfl)
theorem yR4:(qan qbu qbv 150 1).1.length=2/\(qan qbu qbv 150 1).2.1.length=2/\(qan qbu qbv 150 1).2.2=0:=of_decide_eq_true (by kernel_rfl)
theorem ySm:(qbu.all fun c=>c.cls.all qaO)=true:=by kernel_rfl
theorem yBs:(qbv.all fun a=>a.small)=true:=by kernel_rfl
theorem yAs:qdb.small=true:=by kernel_rfl
theorem yIn:qhz qbu qbv where
 len:=by decide
 sm:=fun _ c hc=>⟨fun _ k hk=>qic (List.all_eq_true.1 (List.all_eq_true.1 ySm c hc) k hk)⟩
 pos3:=fun _ c hc _ k hk=>by
  have:=List.all_eq_true.1 (List.all_eq_true.1 ySm c hc) k hk
  unfold qaO at this
  simp only[Bool.and_eq_true,decide_eq_true_iff]at this
  rw[qpH]
  exact this.2.2.1
 hb:=by decide
 hok:=fun _ a ha=>Atom.small_ok (List.all_eq_true.1 yBs a ha)
set_option maxHeartbeats 1000000 in
theorem qdQ(ob:List (Nat×qc))(n:Nat)(hni:qL ob){kv kp:HP}(hk:∀n',n<=n'->kv (.bool true) ⟨ob,n'⟩):cP E0 F0 21 [] ⟨ob,n⟩ kv kp:=by
 refine zR c21 fun hH=>⟨Nat.le_of_ble_eq_true rfl,?_⟩
 have hOb:qn ob n:=hH
 have ha:=Atom.small_ok yAs
 simp(disch:=omega)[b21]
 refine qvW _ _ _ ?_
 simp(disch:=omega)
 refine qvX _ _ _ ?_
 simp(disch:=omega)
 refine(qeV qbu .full 150 yIn.toCustIn).go fun n1 hn1=>?_
 rw[yR1]
 simp(disch:=omega)
 refine qju _ _ _ ?_
 simp(disch:=omega)
 refine qor _ _ _ ?_
 simp(disch:=omega)
 refine qlB yIn .full .no 150 qdb ha _ _ (hni.cons _ rfl) fun o1 n2 hn2=>?_
 rw[yR2]
 simp(disch:=omega)
 refine qju _ _ _ ?_
 simp(disch:=omega)
 refine qor _ _ _ ?_
 simp(disch:=omega)
 refine qlB yIn .full .no 250 qdb ha _ _ (hni.cons _ rfl) fun o2 n3 hn3=>?_
 rw[yR3]
 simp(disch:=omega)
 refine qju _ _ _ ?_
 simp(disch:=omega)
 refine qtg yIn .full .no 150 1 _ _ (hni.cons _ rfl) fun o3 o4 n4 hn4=>?_
 obtain⟨q1,q2,q3⟩:=yR4
 obtain⟨V,hV⟩:∃V,qan qbu qbv 150 1=V:=⟨_,rfl⟩
 rw[hV]at q1 q2 q3 ⊢
 simp(disch:=omega)[q1,q2,q3]
 refine(qlb [1] o1 .full (by decide)).go fun n5 hn5=>?_
 simp(disch:=omega)[q1,q2,q3]
 refine(qlb [2] o2 .full (by decide)).go fun n6 hn6=>?_
 simp(disch:=omega)[q1,q2,q3]
 exact⟨⟨ob,n6⟩,yM (hOb.mono hn1) (Nat.le_refl _),fun _=>hOb.mono (by dsimp only;omega),hk n6 (by omega)⟩
theorem qnf{l:List qe}(hl:l.length<=2^20)(h:∀k∈l,qe.ok3 k/\uE k=true):qdD l:=⟨hl,fun k hk=>by
 obtain⟨⟨h2,h3⟩,ho⟩:=h k hk
 unfold uE at ho
 simp only[Bool.and_eq_true,decide_eq_true_iff]at ho
 exact⟨h2.1,by omega,fun x hx=>(h2.2.2 x hx).1⟩⟩
theorem qnr{c x:qg}:∀{l:List qg},x∈qQ c l->x=c\/x∈l
 |[],h=>.inl (List.mem_singleton.1 h)
 |y::r,h=>by
  unfold qQ at h
  split at h
  ·rcases List.mem_cons.1 h with h|h
   ·exact .inr (List.mem_cons.2 (.inl h))
   ·rcases qnr h with h|h
    ·exact .inl h
    ·exact .inr (List.mem_cons.2 (.inr h))
  ·exact List.mem_cons.1 h
theorem qys{l:List qg}{c:qg}(h:vo l c=0):(zA l).1=0/\(zA (qQ c l)).1=0:=by
 unfold vo at h
 by_cases h1:(zA l).1≠0
 ·rw[if_pos h1]at h;exact absurd h h1
 rw[if_neg h1]at h
 by_cases h2:qbg l c.id=true
 ·rw[if_pos h2]at h;exact absurd h (by decide)
 rw[if_neg h2]at h
 exact⟨by omega,h⟩
theorem qxs{l:List qg}(h:(zA l).1=0)(hS:∀c∈l,qat c.cls):∀c∈l,qdD c.cls:=fun c hc=>by
 obtain⟨h40,ho⟩:=qez ((qck h).1.ok c hc).2
 exact qnf (by omega) fun k hk=>⟨(hS c hc).ok3 h40 k hk,ho k hk⟩
theorem qpO{l:List qg}{y:Int}(h:zO l y=0)(hI:CustIn l)(x:Int):qdD (qH l y x):=by
 obtain⟨h30,hf⟩:=qcp h y x
 refine qnf (by omega) fun k hk=>?_
 obtain⟨c,hc,hkc⟩:=qgG hk
 obtain⟨h40,ho⟩:=qez ((qck (qhv h).1).1.ok c hc).2
 exact⟨(hI.sm (by omega) c hc).ok3 h40 k hkc,ho k hkc⟩
set_option maxHeartbeats 2000000 in
theorem qsi(l:List qg)(c:qg)(y:Int)(hl:l.length<2^63)(hb:BodC l)(hbc:∀k∈c.cls,k.body.length<2^63)(ob:List (Nat×qc))(n:Nat)(hni:qL ob){kv kp:HP}
  (hk:∀n',n<=n'->kv (.bool true) ⟨ob,n'⟩):cP E0 F0 6 [.sl (l.map qm) .no,qm c,.int y] ⟨ob,n⟩ kv kp:=by
 refine zR c6 fun hH=>⟨Nat.le_of_ble_eq_true rfl,?_⟩
 simp(disch:=omega)[b6]
 refine(qrJ l .no hl hb).go fun n1 hn1=>?_
 obtain⟨OB,hOB⟩:∃OB,(n,qc.cells (qS c))::ob=OB:=⟨_,rfl⟩
 have hla:look n OB=some (.cells (qS c)):=by rw[<-hOB];exact qp _ _ _
 have hniO:qL OB:=by rw[<-hOB];exact hni.cons _ rfl
 have fin1:∀(m:Nat)(ob1:List (Nat×qc)),(∀i,i<n+1->look i ob1=look i OB)->n<=m->∃H'',HWk ⟨ob1,m⟩ H''/\(qa.Ok ⟨ob1,m⟩->H''.Ok)/\kv (.bool true) H'':=fun m ob1 ho hm=>⟨⟨ob,m⟩,qaJ hH (fun i hi=>by rw[ho i (by omega),<-hOB,qd (by omega)]) (Nat.le_refl _),fun _=>qn.mono hH hm,hk m hm⟩
 rw[hOB]
 cases h1:qde l
 ·simp(disch:=omega)
  refine qdQ _ _ hniO fun n2 hn2=>?_
  simp(disch:=omega)
  exact fin1 _ _ (fun _ _=>rfl) (by omega)
 simp(disch:=omega)[hla]
 refine(qkZ 4 (by omega) c.cls hbc).go fun n2 hn2=>?_
 cases h2:qbz 4 c.cls
 ·simp(disch:=omega)
  refine qdQ _ _ hniO fun n3 hn3=>?_
  simp(disch:=omega)
  exact fin1 _ _ (fun _ _=>rfl) (by omega)
 obtain⟨hI,h18,_⟩:=qtq hl h1
 have hcs:qat c.cls:=⟨fun hl k hk=>by
  unfold qbz at h2
  rw[if_neg (by omega)]at h2
  split at h2
  ·rename_i hall
   exact qic (List.all_eq_true.1 hall k hk)
  ·cases h2⟩
 simp(disch:=omega)
 refine(qeW l .no hl hI.sm).go fun n3 hn3=>?_
 simp(disch:=omega)
 refine(qeS l .no hI).go fun n4 hn4=>?_
 simp(disch:=omega)[hla]
 refine t_Add l .no c hI hcs (by omega) _ _ (fun hz n4b hn4b=>?_) (fun hz o1 n4b hn4b=>?_)
 ·have hac:vX l c=[]:=by unfold vX;rw[if_neg hz]
  obtain⟨X,hX⟩:∃X:List qg,X=[]:=⟨_,rfl⟩
  have hXl:X.length<=2^20:=by rw[hX];decide
  have hXc:∀c∈X,qdD c.cls:=fun c hc=>by rw[hX]at hc;cases hc
  have ho:(Own.full)=.full:=rfl
  obtain⟨o1,ho1⟩:∃o:Own,o=.full:=⟨_,rfl⟩
  have hNl:(Nl:LV)=.sl (X.map qm) o1:=by rw[hX,ho1];rfl
  rw[<-hX]at hac
  rw[hNl]
  simp(disch:=omega)[hla]
  refine qlk l .no c hI hcs _ fun n5 hn5=>?_
  dsimp only at hn5
  simp(disch:=omega)[hla,hac]
  by_cases h5:zO l y=0
  case neg=>
   refine(qlE l .no y hI h5).go fun n6 hn6=>?_
   simp(disch:=omega)
   refine(qli l .no y hI h5).go fun n7 hn7=>?_
   simp(disch:=omega)
   refine(qeV l .no y hI).go fun n8 hn8=>?_
   simp(disch:=omega)
   refine(qgd l .no y hI).go fun n9 hn9=>?_
   simp(disch:=omega)
   refine qdQ _ _ ((((hniO.cons _ rfl).cons _ rfl).cons _ rfl).cons _ rfl) fun n10 hn10=>?_
   simp(disch:=omega)[hz]
   refine(qgc X o1 .no hXl hXc).go fun n11 hn11=>?_
   simp(disch:=omega)
   refine(qeQ [] .full .full ⟨by decide,fun k hk=>by cases hk⟩).go fun n12 hn12=>?_
   simp(disch:=omega)
   exact fin1 _ _ (fun i hi=>by rw[qd (by omega),qd (by omega),qd (by omega),qd (by omega)]) (by omega)
  refine(qlD l .no y hI h5).go fun n6 hn6=>?_
  simp(disch:=omega)
  refine(qlh l .no y hI h5).go fun n7 hn7=>?_
  simp(disch:=omega)
  refine(qeV l .no y hI).go fun n8 hn8=>?_
  simp(disch:=omega)
  refine(qgd l .no y hI).go fun n9 hn9=>?_
  simp(disch:=omega)
  refine qdQ _ _ ((((hniO.cons _ rfl).cons _ rfl).cons _ rfl).cons _ rfl) fun n10 hn10=>?_
  simp(disch:=omega)[hz]
  refine(qgc X o1 .no hXl hXc).go fun n11 hn11=>?_
  simp(disch:=omega)
  refine(qeQ (qH l y 0) .no .no (qpO h5 hI 0)).go fun n12 hn12=>?_
  simp(disch:=omega)
  exact fin1 _ _ (fun i hi=>by rw[qd (by omega),qd (by omega),qd (by omega),qd (by omega)]) (by omega)
 ·have hac:vX l c=qQ c l:=by unfold vX;rw[if_pos hz]
  obtain⟨X,hX⟩:∃X:List qg,X=qQ c l:=⟨_,rfl⟩
  rw[<-hX]at hac ⊢
  obtain⟨a1,a2⟩:=qys hz
  have hXl:X.length<=2^20:=by rw[hX];have:=(qck a2).2.2;omega
  have h30:=(qck a1).2.2
  have hXc:∀c∈X,qdD c.cls:=by
   rw[hX]
   refine qxs a2 fun x hx=>?_
   rcases qnr hx with rfl|hx
   ·exact hcs
   ·exact hI.sm h30 x hx
  simp(disch:=omega)[hla]
  refine qlk l .no c hI hcs _ fun n5 hn5=>?_
  rw[hz]
  dsimp only at hn5
  simp(disch:=omega)[hla,hac]
  by_cases h5:zO l y=0
  case neg=>
   refine(qlE l .no y hI h5).go fun n6 hn6=>?_
   simp(disch:=omega)
   refine(qli l .no y hI h5).go fun n7 hn7=>?_
   simp(disch:=omega)
   refine(qeV l .no y hI).go fun n8 hn8=>?_
   simp(disch:=omega)
   refine(qgd l .no y hI).go fun n9 hn9=>?_
   simp(disch:=omega)
   refine qdQ _ _ ((((hniO.cons _ rfl).cons _ rfl).cons _ rfl).cons _ rfl) fun n10 hn10=>?_
   simp(disch:=omega)[hz]
   refine(qgc X o1 .no hXl hXc).go fun n11 hn11=>?_
   simp(disch:=omega)
   refine(qeQ [] .full .full ⟨by decide,fun k hk=>by cases hk⟩).go fun n12 hn12=>?_
   simp(disch:=omega)
   exact fin1 _ _ (fun i hi=>by rw[qd (by omega),qd (by omega),qd (by omega),qd (by omega)]) (by omega)
  refine(qlD l .no y hI h5).go fun n6 hn6=>?_
  simp(disch:=omega)
  refine(qlh l .no y hI h5).go fun n7 hn7=>?_
  simp(disch:=omega)
  refine(qeV l .no y hI).go fun n8 hn8=>?_
  simp(disch:=omega)
  refine(qgd l .no y hI).go fun n9 hn9=>?_
  simp(disch:=omega)
  refine qdQ _ _ ((((hniO.cons _ rfl).cons _ rfl).cons _ rfl).cons _ rfl) fun n10 hn10=>?_
  simp(disch:=omega)[hz]
  refine(qgc X o1 .no hXl hXc).go fun n11 hn11=>?_
  simp(disch:=omega)
  refine(qeQ (qH l y 0) .no .no (qpO h5 hI 0)).go fun n12 hn12=>?_
  simp(disch:=omega)
  exact fin1 _ _ (fun i hi=>by rw[qd (by omega),qd (by omega),qd (by omega),qd (by omega)]) (by omega)
end Go.Abs.Tz
namespace Go.Abs.Tz
set_option maxRecDepth 20000
open Go Go.Abs Go.Proofs Go.ChangeShapes Go.WideShapes Go.RowKit Go.Proofs.YtjbhehjoaalhiaaGreatDoor
theorem law_run12(l:List qg)(c:qg)(y:Int)(hl:l.length<2^63)(hb:BodC l)(hbc:Fits c)(W:World)(hW:laidMetH Tryz.prog Rows.customYearsAsSpecifiedRow.laid W)(us:Array Value)(h0:us.size=3)
  (h1:VR (gOf W) W (.sl (l.map qm) .no) (us.getD 0 undef)) (h2:VR (gOf W) W (qm c) (us.getD 1 undef)) (h3:us.getD 2 undef=.int .i64 y):
  Calls Tryz.prog 6 us W fun e W'=>e=.returned (.bool true)/\Below W.heap.size W W':=by
 have hO:cP E0 F0 6 [.sl (l.map qm) .no,qm c,.int y] ⟨[],1⟩ (fun v _=>v=.bool true) (fun _ _=>False):=
  qsi l c y hl hb hbc.2 [] 1 (fun i m l k n=>by simp[look]) fun _ _=>rfl
 have hC:qW Tryz.prog E0 6 [.sl (l.map qm) .no,qm c,.int y] ⟨[],1⟩ _:=qby qdv qcj (hO trivial)
 refine(hC.2 (gOf W) W us (qwa W 1) (qwb W hW) ⟨h0,fun i x hi=>?_⟩).mono fun e W' hp=>?_
 ·match i,hi with
  |0,hi=>simp at hi;subst hi;exact h1
  |1,hi=>simp at hi;subst hi;exact h2
  |2,hi=>simp at hi;subst hi;rw[h3];exact .sc _
  |i+3,hi=>simp at hi
 ·cases e with
  |outgrown=>exact hp.elim
  |panicked ch=>
   obtain⟨_,_,_,_,hT,_⟩:=hp
   rcases hT with⟨_,_,he,_⟩|⟨_,_,he,_,hf⟩
   ·cases he
   ·exact hf.elim
  |returned u=>
   obtain⟨v,H',G',hT,hV,_,hx⟩:=hp
   rcases hT with⟨v',H'',he,_,hv⟩|⟨_,_,he,_⟩
   ·cases he
    subst hv
    obtain rfl:=hV.sc_inv
    exact⟨rfl,hx.os,hx.tape,hx.output,hx.size,fun k hk=>hx.block k (by simp[gOf,hk])⟩
   ·cases he
end Go.Abs.Tz
