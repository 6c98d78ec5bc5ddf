/- Part of the proof that the law CustomKeepsYears holds. Conditions: none. -/
import Derived.Test.YtjbhehjoaalhiaaGreatDoorPartG
import Derived.Test.YtjbhehjoaalhiaaGreatDoorPartI
import Derived.Lib.AtoiErrMem
import Derived.Test.YtjbhehjoaalhiaaGreatDoorPartH
import Derived.Test.YtjbhehjoaalhiaaGreatDoorPartD
import Derived.Lib.ItoaNum
set_option linter.unusedVariables false
set_option linter.unusedSimpArgs false
set_option linter.unusedSectionVars false
namespace Go.Abs.Tz
open Go Go.Abs Go.Proofs
def qjh(P:Program)(f:FuncId):Bool:=match P.funcs[f]? with
 |some fn=>fn.body.isSome&&fn.name != "runtime.NumGoroutine"
 |none=>false
theorem enters_of{P:Program}{f:FuncId}(h:qjh P f=true):qcL P f:=by
 unfold qjh at h
 split at h
 ·rename_i fn hf
  simp only[Bool.and_eq_true,bne_iff_ne,ne_eq]at h
  exact⟨fn,hf,h.1,h.2⟩
 ·cases h
theorem qg.of_calls{f:FuncId}{args:List LV}{v:LV}(he:qjh Tryz.prog f=true)
  (h:∀(G:qb)(w:World)(us:Array Value),yC G w args us->Calls Tryz.prog f us w fun e w'=>∃u,e=.returned u/\VR G w' v u/\w.grownBy w' none):qg f args v:=
 qbc.of_calls (fun _ _ _ _ h=>h) (enters_of he) h
theorem qcF{G:qb}{w:World}{x:LV}{us:Array Value}(h:yC G w [x] us):∃u,us=#[u]/\VR G w x u:=by
 obtain⟨h1,h2⟩:=h
 obtain⟨l⟩:=us
 match l,h1 with
 |[u],_=>exact⟨u,rfl,h2 0 x rfl⟩
theorem qpD{G:qb}{w:World}{x y:LV}{us:Array Value}(h:yC G w [x,y] us):∃u v,us=#[u,v]/\VR G w x u/\VR G w y v:=by
 obtain⟨h1,h2⟩:=h
 obtain⟨l⟩:=us
 match l,h1 with
 |[u,v],_=>exact⟨u,v,rfl,h2 0 x rfl,h2 1 y rfl⟩
theorem qgH{w w':World}(h:RowKit.Below w.heap.size w w'):w.grownBy w' none:=⟨h.os,h.tape,h.output,h.size,fun k hk _=>h.block k hk⟩
theorem qkI(x:Int)(h0:0<=x)(h1:x<=18446744073709551615):qg 161 [.sc (.int .u64 x)] (.int (Lib.bitLen x.toNat)):=by
 refine qg.of_calls (by kernel_rfl) fun G w us ha=>?_
 obtain⟨u,rfl,hu⟩:=qcF ha
 obtain rfl:=hu.sc_inv
 refine(Tryz.bits_Len x w h0 h1).mono ?_
 rintro e w' ⟨rfl,rfl⟩
 exact⟨_,rfl,.sc _,qdR _⟩
theorem qrd(s:ByteArray)(c:Int):qg 172 [.str s,U c] (.int (Lib.indexByte s.data.toList c.toNat.toUInt8)):=by
 refine qg.of_calls (by kernel_rfl) fun G w us ha=>?_
 obtain⟨u,v,rfl,hu,hv⟩:=qpD ha
 obtain rfl:=hu.sc_inv
 obtain rfl:=hv.sc_inv
 refine(Tryz.strings_IndexByte s c w).mono ?_
 rintro e w' ⟨rfl,rfl⟩
 exact⟨_,rfl,.sc _,qdR _⟩
theorem quK(w:World)(k:Nat)(os:Array Obj):w.grownBy (Go.Sort.grow (w.drewN k) os) none:=
 ⟨rfl,rfl,rfl,by show w.heap.size<=(w.heap++os).size;rw[Array.size_append];omega,fun j hj _=>Array.getElem?_append_left hj⟩
theorem qsI{G:qb}{w:World}(h:yJ E0 G w){name:String}(hn:Tryz.prog.globalNamed name=some 3):Lib.TabIs Tryz.prog w name .u64 Lib.pow10Tab:=by
 obtain⟨_,t,fz,hw⟩:=h.fix _ (List.mem_cons_self)
 unfold Lib.TabIs World.var?
 rw[hn]
 simp only[Option.bind_some]
 rw[hw]
theorem qqX(n:Int)(h0:-9223372036854775808<=n)(h1:n<=9223372036854775807):qg 178 [.int n] (.str ⟨(Lib.itoa n).toArray⟩):=by
 refine qbc.of_callsE (fun _ _ _ _ h=>h) (enters_of (by kernel_rfl)) fun G w us hE ha=>?_
 obtain⟨u,rfl,hu⟩:=qcF ha
 obtain rfl:=hu.sc_inv
 refine(Tryz.strconv_Itoa n h0 h1 w (qsI hE (by kernel_rfl))).mono ?_
 rintro e w' ⟨rfl,k,os,rfl⟩
 exact⟨_,rfl,.sc _,quK w k os⟩
theorem qqW(xs:List ByteArray)(own:Own)(sep:ByteArray)(hN:xs.length<=140737488355328)(hlen:(Lib.join (xs.map (·.data.toList)) sep.data.toList).length<=140737488355328):
  qg 129 [.sl (xs.map fun x=>.str x) own,.str sep] (.str ⟨(Lib.join (xs.map (·.data.toList)) sep.data.toList).toArray⟩):=by
 refine qg.of_calls (by kernel_rfl) fun G w us ha=>?_
 obtain⟨u,v,rfl,hu,hv⟩:=qpD ha
 obtain rfl:=hv.sc_inv
 obtain⟨base,cap,rfl,hcap,_,hc⟩:=hu.sl_inv
 rw[List.length_map]at hcap ⊢
 have none_case:xs=[]->Calls Tryz.prog 129 #[.slice base xs.length cap,.string sep] w fun e w'=>∃u,e=.returned u/\VR G w' (.str ⟨(Lib.join (xs.map (·.data.toList)) sep.data.toList).toArray⟩) u/\w.grownBy w' none:=by
  rintro rfl
  refine(Tryz.strings_Join_none base cap sep w).mono ?_
  rintro e w' ⟨rfl,rfl⟩
  exact⟨_,rfl,.sc _,qdR _⟩
 rcases hc with⟨h1,_,_⟩|⟨b,off,sz,xv,rfl,hsz,hx,hr⟩
 ·exact none_case (by simpa using h1)
 ·cases hxs:xs with
  |nil=>rw[<-hxs];exact none_case hxs
  |cons x0 r=>
   rw[<-hxs]
   have h0:xs[0]? = some x0:=by rw[hxs];rfl
   have hg:∀(j:Nat) x,xs[j]? = some x->(xs.map fun x=>LV.str x)[j]? = some (.str x):=fun j x h=>by rw[List.getElem?_map,h];rfl
   have hz:sz=1:=(hsz 0 (.str x0) (hg 0 x0 h0)).symm
   subst hz
   have hcell:∀(j:Nat) x,xs[j]? = some x->w.cell? ⟨b,off+j,none⟩=some (.string x):=by
    intro j x hj
    obtain⟨_,h2,_⟩:=hx j (.str x) 0 (.str x) (hg j x hj) rfl
    have h3:=(hr j (.str x) 0 (.str x) (hg j x hj) rfl).sc_inv
    rw[h3]at h2
    simpa using h2
   have hbk:b<w.heap.size:=by
    have:=hcell 0 x0 h0
    unfold World.cell? at this
    cases ho:w.heap[b]? with
    |none=>simp[ho]at this
    |some o=>exact(Array.getElem?_eq_some_iff.1 ho).1
   refine(Tryz.strings_Join b off cap xs sep w hcell hbk hN hcap hlen).mono ?_
   rintro e w' ⟨rfl,hw⟩
   exact⟨_,rfl,.sc _,qgH hw⟩
theorem qrL(s:ByteArray)(hmax:s.size<=9223372036854775806)(v:Int)(h:Lib.atoiAll s.data.toList=.ok v):qg 171 [.str s] (.tup [.int v,.sc .nilIface]):=by
 refine qg.of_calls (by kernel_rfl) fun G w us ha=>?_
 obtain⟨u,rfl,hu⟩:=qcF ha
 obtain rfl:=hu.sc_inv
 refine(Tryz.strconv_Atoi_ok s hmax v h w).mono ?_
 rintro e w' ⟨rfl,hw⟩
 refine⟨_,rfl,.tup rfl ?_,?_⟩
 ·intro i c hi
  match i with
  |0=>simp at hi;subst hi;exact .sc _
  |1=>simp at hi;subst hi;exact .sc _
  |i+2=>simp at hi
 ·rcases hw with rfl|⟨t,rfl⟩
  ·exact qdR _
  ·exact qgH (Lib.bytesWorld_below w 5 t)
end Go.Abs.Tz
namespace Go.Abs.Tz
open Go Go.Abs Go.Proofs
set_option maxRecDepth 20000
set_option linter.unusedSimpArgs false
attribute [local simp ↓] gF gD uZ uY gd zX qW zk uX zU yq yr gG gI gJ gH jd jg jj je jk jl jh ji jf jb u9 jc ja yo ym yp yn gA gy gC gz gM gK gL ue zz jm qS jn gg yt yu gQ gT gS gN gO g8 jp jw jz jv jx jy j5 j3 jF jH uH uE uS uV uF uN uR uQ uP uO uL uA uB uC uD uT uJ uK uy uU uW uG uI uM uz jL jG jY j8 jI jT jX jW jV jU jR jD j0 jP jQ jA j7 j9 jJ jN jS jB gb j6 jC ga jO jK jM jE jZ jq ju jr gY g7 gW gZ g6 qm uo
attribute [local simp] faL fdL iaL ixL za q9 qN eqK eqL qL ze ut gV yk g9 yb yd yf yh yj ya ye yc yg zr LV.cells LV.whole qm uf zK jo stL zw zF zV qa.alloc ge gc gf gw gv gu gt gq gp gk gj gi gh qd ug
def wl(H:qa)(sz:Nat)(a x:LV):Option (LV×qa):=match wK H sz a,qbn H sz x with
 |some (cs,H0,n),some (ms,m)=>
  if m=0 then some (a,H)
  else if n+m<=2^30/\sz<=2^10 then some (.asl H0.next 0 (n+m),H0.alloc (.arr sz (cs++ms)))
  else none
 |_,_=>none
theorem qcA{E:Env}{sz:Nat}{a x:BO}{t:FT}{H:qa}{k:HP}(h:evP E a t fun u=>evP E x t fun v=>eP (wl H sz u v) k):vS E (.ap sz a x) t H k:=.inr h
theorem qbu{a b n:Nat}{x y:qc}{r r':List (Nat×qc)}(hr:qt r' b)(h:∀i z,look i r'=some z->look i r=some z):HWk ⟨(a,x)::(b,y)::r,n⟩ ⟨(a,x)::r',n⟩:=by
 refine⟨Nat.le_refl _,fun i z hz=>?_⟩
 simp only[look]at hz ⊢
 split at hz
 ·rename_i hi;rw[if_pos hi];exact hz
 ·rename_i hi
  have:=hr.look hz
  rw[if_neg hi,if_neg (by omega)]
  exact h i z hz
structure NNS where
 left:List Nat
 cur:Option Nat
 acc:List qX
theorem qjV{n:Nat}(h:n<=12):IntKind.wrap .u64 (n:Int)=n:=by
 have e:IntKind.u64.bits=64:=rfl
 have e2:IntKind.u64.signed=false:=rfl
 simp only[IntKind.wrap,e,e2,Bool.false_and]
 rw[if_neg (by decide)]
 omega
def qeY(x:qX)(k:PK):Bool:=lessB x.pred k.1||(eqBA x.pred k.1&&decide (x.args<k.2))
def qdG:List qX->PK->Nat
 |[],_=>0
 |x::r,k=>if qeY x k then qdG r k+1 else 0
def qbN(A:List qX)(k:PK):List qX:=A.take (qdG A k)++[⟨k.1,k.2,0⟩]++A.drop (qdG A k)
def qgK(A:List qX)(a:Atom):Prop:=0<=qdW A (ofA a) 0
instance (A:List qX) (a:Atom):Decidable (qgK A a):=by unfold qgK;infer_instance
def wQ(A:List qX)(a:Atom):List qX:=if qgK A a then A else qbN A (ofA a)
theorem qmb:∀(A:List qX)(k:PK),qdG A k<=A.length
 |[],_=>Nat.le_refl _
 |x::r,k=>by
  have:=qmb r k
  simp only[qdG,List.length_cons]
  split<;>omega
theorem quy(A:List qX)(k:PK):(qbN A k).length=A.length+1:=by
 have:=qmb A k
 unfold qbN
 simp
 omega
theorem qsH(A:List qX)(a:Atom):(wQ A a).length<=A.length+1/\A.length<=(wQ A a).length:=by
 unfold wQ
 split
 ·omega
 ·rw[quy];omega
theorem qnP:∀(aa:List Atom)(A:List qX),(aa.foldl wQ A).length<=A.length+aa.length/\A.length<=(aa.foldl wQ A).length
 |[],A=>by simp
 |a::r,A=>by
  have h1:=qnP r (wQ A a)
  have h2:=qsH A a
  rw[List.foldl_cons,List.length_cons]
  omega
inductive RepO (H:qa) (A:List qX):LV->List (Nat×qc)->Nat->Prop
 |sl (own:Own) (n:Nat):H.next<=n->RepO H A (.sl (A.map qkU) own) H.objs n
 |asl (o n:Nat):H.next<=o->o<n->RepO H A (.asl o 0 A.length) ((o,arrS A)::H.objs) n
inductive RepS (H:qa):List qX->LV->List (Nat×qc)->Nat->Prop
 |nil (n:Nat):H.next<=n->RepS H [] Nl H.objs n
 |asl (A:List qX) (o n:Nat):H.next<=o->o<n->RepS H A (.asl o 0 A.length) ((o,arrS A)::H.objs) n
theorem qgU{H:qa}(hH:H.Ok){o:Nat}(ho:H.next<=o):zB o H.objs=H.objs:=by
 have go:∀(l:List (Nat×qc))(n:Nat),qt l n->n<=o->zB o l=l:=by
  intro l
  induction l with
  |nil=>intro n _ _;rfl
  |cons e l ih=>
   obtain⟨i,x⟩:=e
   intro n hd hn
   have h1:i<n:=hd.1
   simp only[zB]
   rw[if_neg (by omega),ih i hd.2 (by omega)]
 exact go _ _ hH ho
structure NNP2 where
 i:Nat
 n:Nat
 a:List qX
 v:LV
 ob:List (Nat×qc)
def qeJ(l:List qe):List qX:=(qbZ l).foldl wQ []
def qrW(m:List (PK×Int)):List qX:=m.map fun e=>⟨e.1.1,e.1.2,e.2⟩
theorem qmF{x:qX}{k:PK}:qgw x k=true↔qaz x=k:=by
 obtain⟨p,a,v⟩:=x
 obtain⟨q,b⟩:=k
 simp[qgw,qaz,wB]
section
variable{m:List (PK×Int)}{V:List PK}{k:PK}(hV:qB m=V)(hk:k∈V){o n:Nat}{ob:List (Nat×qc)}(hl:look o ob=some (arrS (qrW m)))
include hV hk hl
end
structure NNR where
 i:Nat
 n:Nat
 m:List (PK×Int)
 ch:Bool
structure qbb(l:List qe):Prop where
 ok3:l.length<=40->∀c∈l,qe.ok3 c
theorem qpd:∀(l:List qe)(i:Nat),(wh l i).1=0->∀c∈l,wF c=true
 |[],_,_,c,hc=>by cases hc
 |c::l,i,h,d,hd=>by
  simp only[wh]at h
  by_cases hf:wF c=false
  ·rw[if_pos hf]at h;simp at h
  ·rw[if_neg hf]at h
   by_cases hs:qbD c=false
   ·rw[if_pos hs]at h;simp at h
   ·rw[if_neg hs]at h
    rcases List.mem_cons.1 hd with rfl|hd
    ·simpa using hf
    ·exact qpd l (i+1) h d hd
theorem qfv{l:List qe}(h:(qQ l).1=0):l.length<=40/\∀c∈l,wF c=true:=by
 unfold qQ at h
 split at h
 ·simp at h
 ·rename_i h1
  exact⟨by omega,qpd l 0 h⟩
theorem qtT{x:Lit}(h:y7 x=true):1<=x.kind/\x.kind<=6:=by
 unfold y7 at h
 split at h
 ·omega
 ·split at h
  ·omega
  ·cases h
structure qen(l:List qe):Prop where
 len:l.length<=40
 body:∀c∈l,c.body.length<=5
 kind:∀c∈l,∀x∈c.body,1<=x.kind/\x.kind<=6
theorem qiP{l:List qe}(h:(qQ l).1=0):qen l:=by
 obtain⟨h1,h2⟩:=qfv h
 exact⟨h1,fun c hc=>(qbV (h2 c hc)).2.1,fun c hc x hx=>qtT ((qbV (h2 c hc)).2.2 x hx)⟩
theorem qen.initLen{l:List qe}(h:qen l):(l.foldl yN []).length<=240:=by
 have h1:=(qiJ l [] fun _=>rfl).2.2.2
 have h2:∀l:List qe,(∀c∈l,c.body.length<=5)->(l.map fun c=>c.body.length+1).sum<=6*l.length:=by
  intro l
  induction l with
  |nil=>intro _;exact Nat.le_refl _
  |cons c l ih=>
   intro hb
   have a:=ih fun c hc=>hb c (List.mem_cons_of_mem _ hc)
   have b:=hb c List.mem_cons_self
   simp only[List.map_cons,List.sum_cons,List.length_cons]
   omega
 have h3:=h2 l h.body
 have h4:=h.len
 simp only[List.length_nil]at h1
 omega
theorem qen.allLen{l:List qe}(h:qen l):(qbZ l).length<=240:=by
 have h2:∀l:List qe,(∀c∈l,c.body.length<=5)->(qbZ l).length<=6*l.length:=by
  intro l
  induction l with
  |nil=>intro _;exact Nat.le_refl _
  |cons c l ih=>
   intro hb
   have a:=ih fun c hc=>hb c (List.mem_cons_of_mem _ hc)
   have b:=hb c List.mem_cons_self
   have e:(qef c).length<=c.body.length+1:=by
    unfold qef
    have g:∀b:List Lit,(b.flatMap qdN).length<=b.length:=by
     intro b
     induction b with
     |nil=>exact Nat.le_refl _
     |cons x b ih=>
      rw[List.flatMap_cons,List.length_append,List.length_cons]
      have:(qdN x).length<=1:=by unfold qdN;split<;>simp
      omega
    have:=g c.body
    simp only[List.length_cons]
    omega
   have:qbZ (c::l)=qef c++qbZ l:=rfl
   rw[this,List.length_append,List.length_cons]
   omega
 have h3:=h2 l h.body
 have h4:=h.len
 omega
theorem qrD(l:List qe)(hl:qbb l)(fuel:Nat)(R:Option (List (PK×Int)))(hR:(qQ l).1=0->vN l fuel (l.foldl yN [])=some R)(H:qa){kv kp:HP}
  (h0:(qQ l).1≠0->∀n,H.next<=n->kv (.tup [.sc (.map none),.int (qQ l).1]) ⟨H.objs,n⟩)
  (h1:(qQ l).1=0->R=none->∀n,H.next<=n->kv (.tup [.sc (.map none),.int 81]) ⟨H.objs,n⟩)
  (h2:(qQ l).1=0->∀m,R=some m->∀o n,H.next<=o->o<n->kv (.tup [.map o,.int 0]) ⟨(o,.map (qO m))::H.objs,n⟩):cP E0 F0 99 [qF l] H kv kp:=by
 refine ub c99 fun hH=>⟨Nat.le_of_ble_eq_true rfl,?_⟩
 simp(disch:=omega)[b99]
 refine(qkP l hl.ok3).go fun n hn=>?_
 by_cases hc:(qQ l).1=0
 case neg=>
  simp(disch:=omega)[hc]
  exact keep (h0 hc n hn)
 have hg:=qiP hc
 simp(disch:=omega)[hc]
 refine qkx l (by have:=hg.len;omega) (fun c hcm=>by have:=hg.body c hcm;omega) (by have:=hg.initLen;omega) fuel R (hR hc) _ (fun hRn n2 hn2=>?_) (fun m hRm n2 hn2=>?_)
 ·dsimp only at hn2
  simp(disch:=omega)
  exact keep (h1 hc hRn n2 (by omega))
 ·dsimp only at hn2
  simp(disch:=omega)
  exact keep (h2 hc m hRm n n2 hn hn2)
theorem qcs{L:List Nat}{j:Nat}(h:L.contains j=false):∀{l:List (Nat×qc)},look j (vx L l)=look j l
 |[]=>rfl
 |(i,x)::r=>by
  simp only[vx]
  by_cases hi:L.contains i=true
  ·rw[if_pos hi,qcs h]
   simp only[look]
   rw[if_neg]
   rintro rfl
   rw[hi]at h;cases h
  ·rw[if_neg hi]
   simp only[look]
   rw[qcs h]
def wP(l:List qe):List (PK×Int):=(qeJ l).map fun s=>((s.pred,s.args),s.level)
structure qxo(l:List qe):Prop where
 zero:∀k,qp (wP l) k=0
 has:∀c∈l,∀k∈vp c,k∈qB (wP l)
def wt(l:List qe):Option (List (PK×Int)):=qbG l ((wP l).length+2) (wP l)
theorem qiZ{k:PK}:∀{A:List qX}{i:Nat},0<=qdW A k i↔∃x∈A,qaz x=k
 |[],i=>by simp[qdW]
 |x::r,i=>by
  have ih:=qiZ (k:=k) (A:=r) (i:=i+1)
  simp only[qdW]
  by_cases h:qgw x k=true
  ·rw[if_pos h]
   exact⟨fun _=>⟨x,List.mem_cons_self,qmF.1 h⟩,fun _=>by omega⟩
  ·rw[if_neg h,ih]
   constructor
   ·rintro⟨y,h1,h2⟩;exact⟨y,List.mem_cons_of_mem _ h1,h2⟩
   ·rintro⟨y,h1,h2⟩
    rcases List.mem_cons.1 h1 with rfl|h1
    ·exact absurd (qmF.2 h2) h
    ·exact⟨y,h1,h2⟩
theorem qnm(k:PK):qbN [] k=[⟨k.1,k.2,0⟩]:=rfl
theorem qnn(x:qX)(r:List qX)(k:PK):qbN (x::r) k=if qeY x k then x::qbN r k else ⟨k.1,k.2,0⟩::x::r:=by
 unfold qbN
 simp only[qdG]
 split
 ·simp
 ·simp
theorem qeT{x:qX}{k:PK}:∀{A:List qX},x∈qbN A k↔x=⟨k.1,k.2,0⟩\/x∈A
 |[]=>by rw[qnm];simp
 |y::r=>by
  rw[qnn]
  split
  ·rw[List.mem_cons,qeT,List.mem_cons]
   exact⟨fun h=>h.elim (fun h=>.inr (.inl h)) fun h=>h.elim .inl fun h=>.inr (.inr h),fun h=>h.elim (fun h=>.inr (.inl h)) fun h=>h.elim .inl fun h=>.inr (.inr h)⟩
  ·exact List.mem_cons
theorem qmJ{x:qX}{k:PK}:qeY x k=true↔vk x ⟨k.1,k.2,0⟩:=by
 unfold qeY vk
 simp[wB]
theorem qkZ{k:PK}:∀{A:List qX},A.Pairwise vk->(∀x∈A,qaz x≠k)->(qbN A k).Pairwise vk
 |[],_,_=>by rw[qnm];exact List.pairwise_singleton _ _
 |y::r,h,hk=>by
  obtain⟨h1,h2⟩:=List.pairwise_cons.1 h
  rw[qnn]
  by_cases hy:qeY y k=true
  ·rw[if_pos hy]
   refine List.pairwise_cons.2 ⟨fun z hz=>?_,qkZ h2 fun x hx=>hk x (List.mem_cons_of_mem _ hx)⟩
   rcases qeT.1 hz with rfl|hz
   ·exact qmJ.1 hy
   ·exact h1 z hz
  ·rw[if_neg hy]
   have hlt:vk ⟨k.1,k.2,0⟩ y:=by
    apply Classical.byContradiction
    intro hn
    have hy':¬vk y ⟨k.1,k.2,0⟩:=fun e=>hy (qmJ.2 e)
    obtain⟨e1,e2⟩:=que hy' hn
    refine hk y List.mem_cons_self ?_
    unfold qaz
    rw[e1,e2]
   refine List.pairwise_cons.2 ⟨fun z hz=>?_,h⟩
   rcases List.mem_cons.1 hz with rfl|hz
   ·exact hlt
   ·exact qud hlt (h1 z hz)
structure qpM(aa:List Atom)(A B:List qX):Prop where
 sub:∀x∈A,x∈B
 new:∀x∈B,x∈A\/(x.level=0/\∃a∈aa,qaz x=ofA a)
 all:∀a∈aa,∃x∈B,qaz x=ofA a
 ord:A.Pairwise vk->B.Pairwise vk
theorem qnO:∀(aa:List Atom)(A:List qX),qpM aa A (aa.foldl wQ A)
 |[],A=>⟨fun _ h=>h,fun _ h=>.inl h,fun _ h=>(by cases h),id⟩
 |a::r,A=>by
  have ih:=qnO r (wQ A a)
  rw[List.foldl_cons]
  have hp:(∀x∈A,x∈wQ A a)/\(∀x∈wQ A a,x∈A\/(x.level=0/\qaz x=ofA a))/\(∃x∈wQ A a,qaz x=ofA a)/\(A.Pairwise vk->(wQ A a).Pairwise vk):=by
   unfold wQ
   by_cases hf:qgK A a
   ·rw[if_pos hf]
    exact⟨fun _ h=>h,fun _ h=>.inl h,qiZ.1 hf,id⟩
   ·rw[if_neg hf]
    refine⟨fun x hx=>qeT.2 (.inr hx),fun x hx=>?_,⟨_,qeT.2 (.inl rfl),rfl⟩,fun h=>qkZ h fun x hx e=>hf (qiZ.2 ⟨x,hx,e⟩)⟩
    rcases qeT.1 hx with rfl|hx
    ·exact .inr ⟨rfl,rfl⟩
    ·exact .inl hx
  obtain⟨p1,p2,⟨x0,p3,p4⟩,p5⟩:=hp
  refine⟨fun x hx=>ih.sub x (p1 x hx),fun x hx=>?_,fun b hb=>?_,fun h=>ih.ord (p5 h)⟩
  ·rcases ih.new x hx with h|⟨h1,b,hb,h2⟩
   ·rcases p2 x h with h|⟨h1,h2⟩
    ·exact .inl h
    ·exact .inr ⟨h1,a,List.mem_cons_self,h2⟩
   ·exact .inr ⟨h1,b,List.mem_cons_of_mem _ hb,h2⟩
  ·rcases List.mem_cons.1 hb with rfl|hb
   ·exact⟨x0,ih.sub x0 p3,p4⟩
   ·exact ih.all b hb
theorem qic(l:List qe):qpM (qbZ l) [] (qeJ l):=qnO (qbZ l) []
theorem qil(l:List qe):qB (wP l)=(qeJ l).map qaz:=by
 unfold qB wP
 rw[List.map_map]
 rfl
theorem qmi:∀{m:List (PK×Int)},(∀e∈m,e.2=0)->∀k,qp m k=0
 |[],_,_=>rfl
 |(j,u)::r,h,k=>by
  have ih:=qmi (m:=r) (fun e he=>h e (List.mem_cons_of_mem _ he)) k
  unfold qp at ih ⊢
  simp only[wb]
  split
  ·exact h _ List.mem_cons_self
  ·exact ih
theorem qtJ{l:List qe}(hk:∀c∈l,∀x∈c.body,1<=x.kind){k:PK}:(∃a∈qbZ l,k=ofA a)↔∃c∈l,k∈vp c:=by
 have hc:∀c∈l,(∃a∈qef c,k=ofA a)↔k∈vp c:=by
  intro c hcm
  unfold qef vp
  constructor
  ·rintro⟨a,ha,rfl⟩
   rcases List.mem_cons.1 ha with rfl|ha
   ·exact List.mem_cons_self
   ·obtain⟨x,hx,ha⟩:=List.mem_flatMap.1 ha
    unfold qdN at ha
    split at ha
    ·rename_i h2
     rw[List.mem_singleton.1 ha]
     have h1:=hk c hcm x hx
     have h12:x.kind=1\/x.kind=2:=by omega
     exact List.mem_cons_of_mem _ (List.mem_map.2 ⟨x,List.mem_filter.2 ⟨hx,by simpa using h12⟩,rfl⟩)
    ·cases ha
  ·intro h
   rcases List.mem_cons.1 h with rfl|h
   ·exact⟨c.head,List.mem_cons_self,rfl⟩
   ·obtain⟨x,hx,rfl⟩:=List.mem_map.1 h
    obtain⟨h1,h2⟩:=List.mem_filter.1 hx
    refine⟨x.atom,List.mem_cons_of_mem _ (List.mem_flatMap.2 ⟨x,h1,?_⟩),rfl⟩
    have:x.kind=1\/x.kind=2:=by simpa using h2
    unfold qdN
    rw[if_pos (by omega)]
    exact List.mem_singleton.2 rfl
 constructor
 ·rintro⟨a,ha,e⟩
  obtain⟨c,hcm,ha⟩:=List.mem_flatMap.1 ha
  exact⟨c,hcm,(hc c hcm).1 ⟨a,ha,e⟩⟩
 ·rintro⟨c,hcm,h⟩
  obtain⟨a,ha,e⟩:=(hc c hcm).2 h
  exact⟨a,List.mem_flatMap.2 ⟨c,hcm,ha⟩,e⟩
theorem qtH{l:List qe}(hk:∀c∈l,∀x∈c.body,1<=x.kind){k:PK}:k∈qB (wP l)↔∃c∈l,k∈vp c:=by
 rw[<-qtJ hk,qil,List.mem_map]
 have h:=qic l
 constructor
 ·rintro⟨x,hx,rfl⟩
  rcases h.new x hx with h|⟨_,a,ha,e⟩
  ·cases h
  ·exact⟨a,ha,e⟩
 ·rintro⟨a,ha,rfl⟩
  exact h.all a ha
theorem qma{l:List qe}(hk:∀c∈l,∀x∈c.body,1<=x.kind):qxo l where
 zero:=qmi fun e he=>by
  unfold wP at he
  obtain⟨s,hs,rfl⟩:=List.mem_map.1 he
  rcases (qic l).new s hs with h|⟨h,_⟩
  ·cases h
  ·exact h
 has c hc k hkc:=(qtH hk).2 ⟨c,hc,hkc⟩
theorem quf{x y:qX}(h:vk x y):qaz x≠qaz y:=by
 intro e
 have e1:x.pred=y.pred:=congrArg Prod.fst e
 have e2:x.args=y.args:=congrArg Prod.snd e
 rcases h with h|⟨_,h⟩
 ·rw[e1,qiy,qjx]at h;cases h
 ·omega
theorem qtA(l:List qe):(qB (wP l)).Nodup:=by
 rw[qil]
 have h:(qeJ l).Pairwise vk:=(qic l).ord .nil
 exact List.pairwise_map.2 (h.imp quf)
end Go.Abs.Tz
namespace Go.Abs.Tz
open Go Go.Abs Go.Proofs
theorem qmE:∀(l:List Int)(t:Int),t<=gx t l/\(∀x∈l,x<=gx t l)/\∀N,t<=N->(∀x∈l,x<=N)->gx t l<=N
 |[],t=>⟨Int.le_refl _,fun x hx=>(by cases hx),fun N h _=>h⟩
 |a::l,t=>by
  obtain⟨h1,h2,h3⟩:=qmE l (mx t a)
  have e:gx t (a::l)=gx (mx t a) l:=rfl
  have hm:t<=mx t a/\a<=mx t a/\∀N,t<=N->a<=N->mx t a<=N:=by
   unfold mx
   split<;>exact⟨by omega,by omega,fun N _ _=>by omega⟩
  rw[e]
  refine⟨Int.le_trans hm.1 h1,fun x hx=>?_,fun N h k=>h3 N (hm.2.2 N h (k a List.mem_cons_self)) fun x hx=>k x (List.mem_cons_of_mem _ hx)⟩
  rcases List.mem_cons.1 hx with rfl|hx
  ·exact Int.le_trans hm.2.1 h1
  ·exact h2 x hx
theorem qmk{k:PK}:∀{m:List (PK×Int)},k∉qB m->wb k m=none
 |[],_=>rfl
 |(j,v)::r,h=>by
  have h1:¬j=k:=fun e=>h (by simp[qB,e])
  have h2:k∉qB r:=fun e=>h (by simp only[qB,List.map_cons];exact List.mem_cons_of_mem _ e)
  unfold wb
  have ih:=qmk h2
  split
  ·rename_i he
   exact absurd (vR.1 he).symm h1
  ·exact ih
structure vU(l:List qe)(m:List (PK×Int)):Prop where
 nd:(qB m).Nodup
 has:∀c∈l,∀k∈vp c,k∈qB m
 nn:∀k,0<=qp m k
 sol:yH (yS l) (qJ m)
 len:m.length<=240
 bd:∀k,qp m k<=m.length
theorem qmU{l:List qe}(hg:qen l){V:List PK}(hN:V.Nodup)(hV:∀c∈l,∀k∈vp c,k∈V)(hVl:V.length<=240){m:List (PK×Int)}(h:qcc l V m):vU l m:=by
 have hl:m.length=V.length:=by rw[<-h.keys,wR]
 refine⟨by rw[h.keys];exact hN,fun c hc k hk=>by rw[h.keys];exact hV c hc k hk,h.nn,h.sol,by omega,fun k=>?_⟩
 by_cases hk:k∈V
 ·have hb:=qgB h.sol (V:=V) (fun g hg=>qkQ fun k _=>h.le g hg k) (fun e he=>⟨(qfr hV e he).1,(qfr hV e he).2.1⟩) (fun e he=>(qfr hV e he).2.2) hk
  have h0:=h.nn k
  unfold qJ at hb
  omega
 ·have:qp m k=0:=by
   unfold qp
   have:wb k m=none:=by
    rw[<-h.keys]at hk
    exact qmk hk
   rw[this];rfl
  omega
theorem qmS(l:List qe)(hc:(qQ l).1=0):∃fuel R,vN l fuel (l.foldl yN [])=some R /\
  ((R=none/\wt l=none)\/∃m q,R=some m/\wt l=some q/\vU l m/\vU l q/\∀k,qp m k=qp q k):=by
 have hg:=qiP hc
 have hk:∀c∈l,∀x∈c.body,1<=x.kind:=fun c hc x hx=>(hg.kind c hc x hx).1
 obtain⟨i1,i2,i3,i4⟩:=qiJ l [] fun _=>rfl
 have i5:=hg.initLen
 obtain⟨m0,hm0⟩:∃m0,l.foldl yN []=m0:=⟨_,rfl⟩
 rw[hm0]at i1 i2 i3 i5 ⊢
 have hV:∀c∈l,∀k∈vp c,k∈qB m0:=fun c hc k hkc=>(i3 k).2 (.inr ⟨c,hc,hkc⟩)
 have hz:∀k,qJ m0 k=0:=fun k=>by unfold qJ;rw[i1 k];rfl
 obtain⟨R,hR,hE⟩:=qwa hV ((qB m0).length*(qB m0).length) m0 rfl (fun k=>by rw[i1 k];omega) (fun g _ k=>by rw[hz k];omega) (Nat.le_add_left _ _)
 have hW:∀c∈l,∀k∈vp c,k∈qB (wP l):=(qma hk).has
 have hN:=qtA l
 have hE2:qfH l (qB (wP l)) (wt l):=qso hW hN (wP l) rfl (qma hk).zero ((wP l).length+1) (by rw[wR];omega)
 have hPl:(qB (wP l)).length<=240:=by
  rw[qil,List.length_map]
  have h1:=(qnP (qbZ l) []).1
  have h2:=hg.allLen
  unfold qeJ
  simp only[List.length_nil,Nat.zero_add]at h1
  omega
 refine⟨_,R,hR,?_⟩
 rcases qsd hE hE2 with h|⟨m,q,h1,h2,h3,h4,h5⟩
 ·exact .inl h
 ·exact .inr ⟨m,q,h1,h2,qmU hg (i2 .nil) hV (by rw[wR];exact i5) h3,qmU hg hN hW hPl h4,h5⟩
theorem vU.max{l:List qe}{m:List (PK×Int)}(h:vU l m):0<=gx 0 (m.map (·.2))/\gx 0 (m.map (·.2))<=240/\∀k∈qB m,qp m k<=gx 0 (m.map (·.2)):=by
 obtain⟨h1,h2,h3⟩:=qmE (m.map (·.2)) 0
 have hl:=h.len
 refine⟨h1,h3 240 (by omega) fun x hx=>?_,fun k hk=>?_⟩
 ·obtain⟨e,he,rfl⟩:=List.mem_map.1 hx
  have:=h.bd e.1
  rw[qgl h.nd e he]at this
  omega
 ·obtain⟨e,he,rfl⟩:=List.mem_map.1 hk
  rw[qgl h.nd e he]
  exact h2 _ (List.mem_map.2 ⟨e,he,rfl⟩)
theorem vU.lits{l:List qe}{m:List (PK×Int)}(h:vU l m){c:qe}(hc:c∈l){x:Lit}(hx:x∈c.body):(x.kind=1->qp m (ofA x.atom)<=qp m (ofA c.head))/\(x.kind=2->qp m (ofA x.atom)<qp m (ofA c.head)):=by
 have hn1:=h.nn (ofA x.atom)
 have hn2:=h.nn (ofA c.head)
 constructor
 ·intro hk
  have he:wE (ofA c.head) x=some (ofA c.head,ofA x.atom,0):=by unfold wE;rw[if_pos hk]
  have:=h.sol _ (List.mem_flatMap.2 ⟨c,hc,List.mem_filterMap.2 ⟨x,hx,he⟩⟩)
  simp only[qJ]at this
  omega
 ·intro hk
  have he:wE (ofA c.head) x=some (ofA c.head,ofA x.atom,1):=by unfold wE;rw[if_neg (by omega),if_pos hk]
  have:=h.sol _ (List.mem_flatMap.2 ⟨c,hc,List.mem_filterMap.2 ⟨x,hx,he⟩⟩)
  simp only[qJ]at this
  omega
end Go.Abs.Tz
namespace Go.Abs
open Go
section
variable{E:Env}{F:Fns}
theorem qjq{b:BFn}{f:FuncId}{args:List LV}{H:qa}{kv kp:HP}(hf:F.fn f b)
  (h:H.Ok->fnP E F b args H (fun v H'=>∃v' H'',Wk v v'/\HWk H' H''/\(H'.Ok->H''.Ok)/\kv v' H'') kp):cP E F f args H kv kp:=by
 intro hH
 obtain⟨hn,h⟩:=h hH
 obtain⟨t,h1,h2⟩:=qfz h
 have ht:t.get=zu args:=by
  funext j
  rw[h2 j]
  simp only[zu]
  by_cases hj:j<args.length
  ·rw[if_pos (by omega)];simp
  ·rw[if_neg (by omega)]
   have:args[j]? = none:=List.getElem?_eq_none (by omega)
   simp[List.getD_eq_getElem?_getD,this,FT.get_nil]
 have hb:=qaP b.body t H _ hH h1
 rw[ht]at hb
 refine .enter hf hn hb (fun fr df H' hT=>?_) (fun v fr df H' hT=>?_) (fun n fr df H' hT=>?_)
 ·have:∃(t':FT),fr=t'.get/\df=[]/\H'.Ok/\yZ E b.res t' H' fun v=>∃v' H'',Wk v v'/\HWk H' H''/\(H'.Ok->H''.Ok)/\kv v' H'':=by
   rcases hT with⟨e,t',H'',he,hok,hk⟩|⟨e,t',H'',he,hok,hk⟩<;>cases he
   ·exact⟨t',rfl,rfl,hok,hk⟩
   ·exact⟨t',rfl,rfl,hok,hk⟩
  obtain⟨t',rfl,rfl,hok,v,hv,v',H1,hw,h3,h4,h5⟩:=this
  exact⟨rfl,v,v',H1,hv,hw,h3,.inl ⟨v',H1,rfl,h4 hok,h5⟩⟩
 ·obtain⟨e,t',H'',he,hok,hk⟩:=hT
  cases he
  exact⟨rfl,v,H',.inl rfl,⟨Nat.le_refl _,fun _ _ h=>h⟩,.inr ⟨v,H',rfl,hok,hk⟩⟩
 ·obtain⟨e,t',H'',he,hok,hk⟩:=hT
  cases he
  cases hk
end
end Go.Abs
namespace Go.Abs.Tz
open Go Go.Abs Go.Proofs
set_option maxRecDepth 20000
set_option linter.unusedSimpArgs false
attribute [local simp ↓] gF gD uZ uY gd zX qW zk uX zU yq yr gG gI gJ gH jd jg jj je jk jl jh ji jf jb u9 jc ja yo ym yp yn gA gy gC gz gM gK gL ue zz jm qS jn gg yt yu gQ gT gS gN gO g8 jp jw jz jv jx jy j5 j3 jF jH uH uE uS uV uF uN uR uQ uP uO uL uA uB uC uD uT uJ uK uy uU uW uG uI uM uz jL jG jY j8 jI jT jX jW jV jU jR jD j0 jP jQ jA j7 j9 jJ jN jS jB gb j6 jC ga jO jK jM jE jZ jq ju jr gY g7 gW gZ g6 qm uo
attribute [local simp] faL fdL iaL ixL za q9 qN eqK eqL qL ze ut gV yk g9 yb yd yf yh yj ya ye yc yg zr LV.cells LV.whole qm uf zK jo stL zw zF zV qa.alloc ge gc gf gw gv gu gt gq gp gk gj gi gh qd ug
theorem qnZ{k:ByteArray}:∀{K:qv},(uq K).Nodup->we (.pl 1) (.str k) (qI K)=some ((zc k K).map zl)
 |[],_=>rfl
 |(j,v)::r,hn=>by
  obtain⟨h1,h2⟩:=List.nodup_cons.1 (show (j::uq r).Nodup from hn)
  have ih:=qnZ (k:=k) h2
  show (match eqK (.pl 1) (.str k) (.str j),we (.pl 1) (.str k) (qI r) with
   |some true,some none=>some (some (zl v))
   |some false,some x=>some x
   |_,_=>none)=_
  rw[ih]
  by_cases he:k=j
  ·subst he
   have hnone:zc k r=none:=by
    cases hf:zc k r with
    |none=>rfl
    |some t=>exact absurd (List.mem_map.2 ⟨_,(qfo h2).1 hf,rfl⟩) h1
   simp[hnone,zc,qaV]
  ·have:eqBA k j=false:=by
    cases h:eqBA k j with
    |false=>rfl
    |true=>exact absurd (wB.1 h) he
   simp[zc,this]
theorem lkU{H:qa}{o:Nat}{K:qv}(hl:look o H.objs=some (.um (qI K)))(hn:(uq K).Nodup)(k:ByteArray)(z:LV):lkL H (.pl 1) false z (.map o) (.str k)=some (match zc k K with|some t=>zl t|none=>z):=by
 simp only[lkL,hl,qnZ hn]
 cases zc k K<;>rfl
def zT:Term:=⟨0,0,⟨⟨[]⟩⟩⟩
def zH(K:qv)(t:Term):Term:=if t.kind=3 then (zc t.s K).getD zT else t
def zm(K:qv)(a:Atom):Atom:=⟨a.pred,a.args.map (zH K)⟩
theorem qht(t:Term)(K:qv)(hn:(uq K).Nodup)(o:Nat)(H:qa)(hl:look o H.objs=some (.um (qI K))){kv kp:HP}(hk:∀n,H.next<=n->kv (zl (zH K t)) ⟨H.objs,n⟩):
  cP E0 F0 211 [zl t,.map o] H kv kp:=by
 refine ub c211 fun hH=>⟨Nat.le_of_ble_eq_true rfl,?_⟩
 have ho:o<H.next:=hH.look hl
 have fin:∀(x y:qc)(v:LV),v=zl (zH K t)->∃H'',HWk ⟨(H.next+1,x)::(H.next,y)::H.objs,H.next+1+1⟩ H''/\(qa.Ok ⟨(H.next+1,x)::(H.next,y)::H.objs,H.next+1+1⟩->H''.Ok)/\kv v H'':=fun x y v hv=>by
  obtain⟨g1,g2⟩:=zO hH (qj.cons' hH (i:=H.next+1) (m:=H.next+1+1) (o:=x) (by omega) (by omega) (qj.cons' hH (i:=H.next) (m:=H.next) (o:=y) (by omega) (by omega) (qj.refl' _)))
  exact⟨_,g1,g2,by rw[hv];exact hk _ (by omega)⟩
 by_cases h3:t.kind=3
 ·simp(disch:=omega)[b211,h3]
  rw[lkU (by rw[qd (by omega),qd (by omega)];exact hl) hn]
  cases hf:zc t.s K with
  |none=>
   simp(disch:=omega)[hf]
   exact fin _ _ _ (by simp[zH,h3,hf,zT])
  |some u=>
   simp(disch:=omega)[hf]
   exact fin _ _ _ (by simp[zH,h3,hf])
 ·simp(disch:=omega)[b211,h3]
  exact fin _ _ _ (by simp[zH,h3])
theorem qjH{H:qa}{sz:Nat}{X:List LV}{x:LV}{ow:Own}(hX:(X.all fun e=>e.cells.length==sz)=true)(hx:x.cells.length=sz)(hc:X.length+1<=2^30)(hs:sz<=2^10):
  apL H sz (.sl X .full) (.sl [x] ow)=some (.sl (X++[x]) (.tok H.next),H.alloc (.tok (X.length+1) sz)):=by
 have hxs:([x].all fun e=>e.cells.length==sz)=true:=by
  show (x.cells.length==sz&&true)=true
  rw[hx];simp
 unfold apL
 simp only
 rw[hX,hxs]
 simp only[Bool.and_self,if_true]
 rw[if_pos ⟨hc,hs,rfl⟩]
 rfl
theorem qjG{H:qa}{sz t:Nat}{X:List LV}{x:LV}{ow:Own}(hX:(X.all fun e=>e.cells.length==sz)=true)(hx:x.cells.length=sz)(hc:X.length+1<=2^30)(hs:sz<=2^10)(h0:0<sz)(hl:look t H.objs=some (.tok X.length sz)):
  apL H sz (.sl X (.tok t)) (.sl [x] ow)=some (.sl (X++[x]) (.tok t),H.put t (.tok (X.length+1) sz)):=by
 have hxs:([x].all fun e=>e.cells.length==sz)=true:=by
  show (x.cells.length==sz&&true)=true
  rw[hx];simp
 have hcan:qaG H sz (.tok t) X.length=true:=by
  have:sz≠0:=by omega
  simp[qaG,hl,this]
 unfold apL
 simp only
 rw[hX,hxs]
 simp only[Bool.and_self,if_true]
 rw[if_pos ⟨hc,hs,hcan⟩]
 rfl
structure NNFl where
 i:Nat
 n:Nat
 xs:List Term
 own:Own
 ob:List (Nat×qc)
abbrev qcy(K:Term->Term)(l:List Term):List LV:=l.map fun t=>zl (K t)
theorem qvh(K:Term->Term)(l:List Term):(qcy K l).all (fun e=>e.cells.length==3)=true:=by
 rw[List.all_map,List.all_eq_true]
 intro x _
 rfl
theorem qkC(a:Atom)(hA:a.args.length<=2^20)(K:Term->Term)(mv:LV)(H:qa)(hf:∀t∈a.args,∀(l:List (Nat×qc)) (n:Nat) (kv kp:HP),H.next<=n->(∀i,i<H.next->look i l=look i H.objs)->(∀n',n<=n'->kv (zl (K t)) ⟨l,n'⟩)->cP E0 F0 211 [zl t,mv] ⟨l,n⟩ kv kp)
  {kv kp:HP} (hk:∀n,H.next<=n->kv (qh ⟨a.pred,a.args.map K⟩) ⟨H.objs,n⟩):cP E0 F0 181 [qh a,mv] H kv kp:=by
 refine qjq c181 fun hH=>⟨Nat.le_of_ble_eq_true rfl,?_⟩
 obtain⟨N,hN⟩:∃N,H.next=N:=⟨_,rfl⟩
 obtain⟨ob0,nx0⟩:=H
 dsimp only at hN hf hk
 subst hN
 simp(disch:=omega)[b181]
 refine qE (σ:=NNFl) (fun q=>(.nd (qh a) (.nd (mv) .nil (.nd (.ptr (nx0+1+1) 0) .nil (.nd (.int a.args.length) .nil .nil))) (.nd (.ptr nx0 0) (.nd (.ptr (nx0+1) 0) .nil (.nd (qz a.args) .nil .nil)) (.nd .bot .nil (.nd (.int q.i) .nil .nil))))) (fun q=>⟨q.ob,q.n⟩) (fun q=>a.args.length - q.i)
  (fun q=>vA ⟨(nx0+1+1,.cells [.str a.pred,.sl (qcy K q.xs) q.own])::(nx0+1,.cells [S [],Nl])::(nx0,.cells [.str a.pred,qz a.args])::ob0,nx0+1+1+1⟩ 3 q.i q.own q.ob q.n/\q.i<=a.args.length/\q.xs.length=q.i/\q.xs++a.args.drop q.i=a.args)
  ⟨0,nx0+1+1+1,[],.full,(nx0+1+1,.cells [.str a.pred,Nl])::(nx0+1,.cells [S [],Nl])::(nx0,.cells [.str a.pred,qz a.args])::ob0⟩ ⟨.inl ⟨rfl,rfl,Nat.le_refl _⟩,Nat.zero_le _,rfl,by simp⟩ (by simp[FT.Le,Wk]) ⟨HWk.refl _,fun h=>h⟩ ?_
 rintro⟨i,n,xs,own,ob⟩ ⟨hr,hi,hxl,hxs⟩ hok
 dsimp only at hr hi hok hxl hxs
 have hfin:∀(ow:Own)(H':qa),HWk H' ⟨ob0,n⟩->xs=a.args->∃v',Wk (LV.agg [.str a.pred,.sl (qcy K xs) ow]) v'/\∃H'',HWk H' H''/\(H'.Ok->H''.Ok)/\kv v' H'':=by
  intro ow H' hw hx
  have hn0:nx0<=n:=by
   rcases hr with⟨_,_,h3⟩|⟨t,_,g1,g2,_⟩
   ·dsimp only at h3;omega
   ·dsimp only at g1;omega
  refine⟨qh ⟨a.pred,a.args.map K⟩,.inr (.inl ?_),⟨ob0,n⟩,hw,fun _=>qt.mono hH hn0,hk n hn0⟩
  subst hx
  simp[LV.strip,qdC,List.map_map,Function.comp_def]
 by_cases hlt:i<a.args.length
 case neg=>
  have hall:xs=a.args:=by rw[List.drop_eq_nil_of_le (by omega),List.append_nil]at hxs;exact hxs
  rcases hr with⟨rfl,rfl,h3⟩|⟨t,rfl,g1,g2,rfl⟩
  ·dsimp only at h3
   simp(disch:=omega)[hlt]
   refine hfin _ _ ⟨Nat.le_refl _,fun i x hx=>?_⟩ hall
   have:i<nx0:=hH.look hx
   rw[qd (by omega),qd (by omega),qd (by omega)]
   exact hx
  ·dsimp only at g1
   simp(disch:=omega)[hlt]
   refine hfin _ _ ⟨Nat.le_refl _,fun i x hx=>?_⟩ hall
   have:i<nx0:=hH.look hx
   rw[qd (by omega),qd (by omega),qd (by omega),qd (by omega)]
   exact hx
 have hX:=qvh K xs
 obtain⟨X,hXe⟩:∃X,qcy K xs=X:=⟨_,rfl⟩
 have hXl:X.length=i:=by rw[<-hXe,List.length_map];exact hxl
 have hnew:qcy K (xs++[a.args[i]])=X++[zl (K a.args[i])]:=by rw[<-hXe];simp[qcy]
 have hxl2:(xs++[a.args[i]]).length=i+1:=by simp[hxl]
 have hxs2:(xs++[a.args[i]])++a.args.drop (i+1)=a.args:=by
  rw[List.append_assoc]
  show xs++(a.args[i]::a.args.drop (i+1))=a.args
  rw[<-List.drop_eq_getElem_cons hlt]
  exact hxs
 rw[hXe]at hX hr
 have hcan:i+1<=2^30:=by omega
 rcases hr with⟨rfl,rfl,h3⟩|⟨t,rfl,g1,g2,rfl⟩
 ·dsimp only at h3
  simp(disch:=omega)[hlt]
  refine hf a.args[i] (List.getElem_mem hlt) _ _ _ _ (by omega) (fun j hj=>by rw[qd (by omega),qd (by omega),qd (by omega),qd (by omega)]) fun n2 hn2=>?_
  simp(disch:=omega)
  refine qbS ?_
  simp(disch:=omega)
  rw[qjH hX rfl (by rw[hXl];exact hcan) (by omega)]
  simp(disch:=omega)[hXl,qw (show i<2^62 by omega)]
  refine⟨⟨i+1,n2+1,xs++[a.args[i]],.tok n2,(n2,.tok (i+1) 3)::(nx0+1+1,.cells [.str a.pred,.sl (qcy K (xs++[a.args[i]])) (.tok n2)])::(nx0+1,.cells [S [],Nl])::(nx0,.cells [.str a.pred,qz a.args])::ob0⟩,by dsimp only;omega,⟨.inr ⟨n2,rfl,by dsimp only;omega,Nat.lt_succ_self _,rfl⟩,by dsimp only;omega,hxl2,hxs2⟩,by simp[FT.Le,Wk],?_⟩
  dsimp only
  rw[hnew]
  have hB:qt ((nx0+1+1,qc.cells [.str a.pred,.sl (X++[zl (K a.args[i])]) (.tok n2)])::(nx0+1,.cells [S [],Nl])::(nx0,.cells [.str a.pred,qz a.args])::ob0) n:=⟨by omega,by omega,by omega,hH⟩
  exact⟨qbu hB fun _ _ h=>h,fun _=>⟨Nat.lt_succ_self _,hB.mono (by omega)⟩⟩
 ·dsimp only at g1
  simp(disch:=omega)[hlt]
  refine hf a.args[i] (List.getElem_mem hlt) _ _ _ _ (by omega) (fun j hj=>by rw[qd (by omega),qd (by omega),qd (by omega),qd (by omega),qd (by omega)]) fun n2 hn2=>?_
  simp(disch:=omega)
  refine qbS ?_
  simp(disch:=omega)
  rw[qjG hX rfl (by rw[hXl];exact hcan) (by omega) (by omega) (by rw[qd (by omega),hXl];simp[look])]
  simp(disch:=omega)[hXl,qw (show i<2^62 by omega)]
  refine⟨⟨i+1,n2,xs++[a.args[i]],.tok t,(t,.tok (i+1) 3)::(nx0+1+1,.cells [.str a.pred,.sl (qcy K (xs++[a.args[i]])) (.tok t)])::(nx0+1,.cells [S [],Nl])::(nx0,.cells [.str a.pred,qz a.args])::ob0⟩,by dsimp only;omega,⟨.inr ⟨t,rfl,g1,by dsimp only;omega,rfl⟩,by dsimp only;omega,hxl2,hxs2⟩,by simp[FT.Le,Wk],?_⟩
  dsimp only
  rw[hnew]
  have hOk3:qa.Ok ⟨(t,.tok (i+1) 3)::(nx0+1+1,qc.cells [.str a.pred,.sl (X++[zl (K a.args[i])]) (.tok t)])::(nx0+1,.cells [S [],Nl])::(nx0,.cells [.str a.pred,qz a.args])::ob0,n⟩:=⟨g2,g1,by omega,by omega,hH⟩
  exact zO hOk3 (qj.cons hOk3 (Nat.le_refl _) (qj.refl (Nat.le_refl _)) (by dsimp only;omega))
theorem qkB(a:Atom)(hA:a.args.length<=2^20)(K:qv)(hn:(uq K).Nodup)(o:Nat)(H:qa)(hl:look o H.objs=some (.um (qI K))){kv kp:HP}(hk:∀n,H.next<=n->kv (qh (zm K a)) ⟨H.objs,n⟩):
  cP E0 F0 181 [qh a,.map o] H kv kp:=fun hH=>
 qkC a hA (zH K) (.map o) H (fun t _ l n kv kp _ hs hk2=>qht t K hn o ⟨l,n⟩ (by dsimp only;rw[hs o (hH.look hl)];exact hl) hk2) hk hH
theorem qrl(t:Term)(h3:t.kind≠3)(H:qa){kv kp:HP}(hk:∀n,H.next<=n->kv (zl t) ⟨H.objs,n⟩):cP E0 F0 211 [zl t,.sc (.map none)] H kv kp:=by
 refine ub c211 fun hH=>⟨Nat.le_of_ble_eq_true rfl,?_⟩
 simp(disch:=omega)[b211,h3]
 obtain⟨g1,g2⟩:=zO hH (qj.cons' hH (i:=H.next+1) (m:=H.next+1+1) (o:=.cells [.int t.kind,.int t.n,.str t.s]) (by omega) (by omega) (qj.cons' hH (i:=H.next) (m:=H.next) (o:=.cells [.int t.kind,.int t.n,.str t.s]) (by omega) (by omega) (qj.refl' _)))
 exact⟨_,g1,g2,hk _ (by omega)⟩
theorem qrk(a:Atom)(hA:a.args.length<=2^20)(hg:∀t∈a.args,t.kind≠3)(H:qa){kv kp:HP}(hk:∀n,H.next<=n->kv (qh a) ⟨H.objs,n⟩):cP E0 F0 181 [qh a,.sc (.map none)] H kv kp:=
 qkC a hA id (.sc (.map none)) H (fun t ht l n kv kp _ _ hk2=>qrl t (hg t ht) ⟨l,n⟩ hk2) (by simpa using hk)
def qbL(t:Term):Bool:=decide (t.kind=1)
def qbU(K:qv)(x:Lit):Bool:=
 if x.kind=3 then eqT (zH K x.a) (zH K x.b)
 else if x.kind=4 then !eqT (zH K x.a) (zH K x.b)
 else if x.kind=5 then qbL (zH K x.a)&&qbL (zH K x.b)&&decide ((zH K x.a).n<(zH K x.b).n)
 else qbL (zH K x.a)&&qbL (zH K x.b)&&decide ((zH K x.a).n<=(zH K x.b).n)
theorem qrq(x:Lit)(K:qv)(hn:(uq K).Nodup)(o:Nat)(H:qa)(hl:look o H.objs=some (.um (qI K))){kv kp:HP}(hk:∀n,H.next<=n->kv (.bool (qbU K x)) ⟨H.objs,n⟩):
  cP E0 F0 193 [qfc x,.map o] H kv kp:=by
 refine ub c193 fun hH=>⟨Nat.le_of_ble_eq_true rfl,?_⟩
 have ho:o<H.next:=hH.look hl
 obtain⟨ob0,nx0⟩:=H
 dsimp only at hl ho hk
 simp(disch:=omega)[b193]
 refine qht x.a K hn o _ (by dsimp only;rw[qd (by omega)];exact hl) fun n2 hn2=>?_
 dsimp only at hn2
 simp(disch:=omega)
 refine qht x.b K hn o _ (by dsimp only;rw[qd (by omega)];exact hl) fun n3 hn3=>?_
 dsimp only at hn3
 have hfin:∀(H':qa)(v:LV),HWk H' ⟨ob0,n3+1+1⟩->v=.bool (qbU K x)->∃H'',HWk H' H''/\(H'.Ok->H''.Ok)/\kv v H'':=fun H' v hw hv=>⟨⟨ob0,n3+1+1⟩,hw,fun _=>qt.mono hH (by dsimp only;omega),by rw[hv];exact hk _ (by omega)⟩
 have hw:∀(c1 c2 c3:qc),HWk ⟨(n3+1,c1)::(n3,c2)::(nx0,c3)::ob0,n3+1+1⟩ ⟨ob0,n3+1+1⟩:=fun c1 c2 c3=>⟨Nat.le_refl _,fun i y hy=>by
  have:i<nx0:=hH.look hy
  rw[qd (by omega),qd (by omega),qd (by omega)]
  exact hy⟩
 obtain⟨P,hP⟩:∃P,zH K x.a=P:=⟨_,rfl⟩
 obtain⟨Q,hQ⟩:∃Q,zH K x.b=Q:=⟨_,rfl⟩
 have hcl:qbU K x=if x.kind=3 then eqT P Q else if x.kind=4 then !eqT P Q else if x.kind=5 then qbL P&&qbL Q&&decide (P.n<Q.n) else qbL P&&qbL Q&&decide (P.n<=Q.n):=by rw[<-hP,<-hQ];rfl
 rw[hcl]at hfin
 rw[hP,hQ]
 simp(disch:=omega)
 rcases Classical.em (P.kind=1) with p1|p1<;>rcases Classical.em (Q.kind=1) with q1|q1<;>rcases Classical.em (x.kind=3) with k3|k3<;>rcases Classical.em (x.kind=4) with k4|k4<;>rcases Classical.em (x.kind=5) with k5|k5<;>(try (exfalso;omega))
 all_goals (simp(disch:=omega)[p1,q1,k3,k4,k5])
 all_goals (exact hfin _ _ (hw _ _ _) (by simp[k3,k4,k5,qbL,eqT,p1,q1]))
end Go.Abs.Tz
namespace Go.Abs.Tz
open Go
def qjQ(p:UInt8->Bool)(r:List UInt8):Prop:=∀c t,r=c::t->p c=false
theorem qhz{p:UInt8->Bool}:∀{xs ys r s:List UInt8},(∀x∈xs,p x=true)->(∀y∈ys,p y=true)->qjQ p r->qjQ p s->xs++r=ys++s->xs=ys/\r=s
 |[],[],_,_,_,_,_,_,h=>⟨rfl,h⟩
 |[],y::ys,r,s,_,hy,hr,_,h=>by
  have:=hr y (ys++s) h
  rw[hy y List.mem_cons_self]at this
  cases this
 |x::xs,[],r,s,hx,_,_,hs,h=>by
  have:=hs x (xs++r) h.symm
  rw[hx x List.mem_cons_self]at this
  cases this
 |x::xs,y::ys,r,s,hx,hy,hr,hs,h=>by
  simp only[List.cons_append,List.cons.injEq]at h
  obtain⟨h1,h2⟩:=qhz (fun z hz=>hx z (List.mem_cons_of_mem _ hz)) (fun z hz=>hy z (List.mem_cons_of_mem _ hz)) hr hs h.2
  exact⟨by rw[h.1,h1],h2⟩
theorem qeb{d:Nat}(h:d<10):(UInt8.ofNat (48+d)).toNat=48+d:=by
 rw[UInt8.toNat_ofNat']
 omega
theorem qjj(u:Nat):Lib.decDigits u≠[]:=by
 rw[Lib.decDigits]
 split<;>simp
theorem qgV{u:Nat}(h:u<10):Lib.decDigits u=[UInt8.ofNat (48+u)]:=by rw[Lib.decDigits,dif_pos h]
theorem qgW{u:Nat}(h:¬u<10):Lib.decDigits u=Lib.decDigits (u / 10)++[UInt8.ofNat (48+u % 10)]:=by rw[Lib.decDigits,dif_neg h]
theorem qoJ(u:Nat):∀v,Lib.decDigits u=Lib.decDigits v->u=v:=by
 induction u using Nat.strongRecOn with
 |_ u ih=>
  intro v h
  by_cases hu:u<10
  ·rw[qgV hu]at h
   by_cases hv:v<10
   ·rw[qgV hv]at h
    have:=congrArg UInt8.toNat (List.cons.inj h).1
    rw[qeb hu,qeb hv]at this
    omega
   ·rw[qgW hv]at h
    have hl:=congrArg List.length h
    rw[List.length_append]at hl
    have:=List.length_pos_iff.2 (qjj (v / 10))
    simp only[List.length_cons,List.length_nil]at hl
    omega
  ·rw[qgW hu]at h
   by_cases hv:v<10
   ·rw[qgV hv]at h
    have hl:=congrArg List.length h
    rw[List.length_append]at hl
    have:=List.length_pos_iff.2 (qjj (u / 10))
    simp only[List.length_cons,List.length_nil]at hl
    omega
   ·rw[qgW hv]at h
    obtain⟨h1,h2⟩:=List.append_inj' h rfl
    have e1:=ih (u / 10) (by omega) (v / 10) h1
    have:=congrArg UInt8.toNat (List.cons.inj h2).1
    rw[qeb (Nat.mod_lt _ (by omega)),qeb (Nat.mod_lt _ (by omega))]at this
    omega
theorem qjk(u:Nat):∀c∈Lib.decDigits u,48<=c.toNat/\c.toNat<=57:=by
 induction u using Nat.strongRecOn with
 |_ u ih=>
  intro c hc
  by_cases hu:u<10
  ·rw[qgV hu,List.mem_singleton]at hc
   subst hc
   rw[qeb hu];omega
  ·rw[qgW hu,List.mem_append,List.mem_singleton]at hc
   rcases hc with hc|rfl
   ·exact ih (u / 10) (by omega) c hc
   ·rw[qeb (Nat.mod_lt _ (by omega))]
    have:=Nat.mod_lt u (show 0<10 by omega)
    omega
theorem qne(n:Int):∀c∈Lib.itoa n,c=45\/(48<=c.toNat/\c.toNat<=57):=by
 intro c hc
 unfold Lib.itoa at hc
 split at hc
 ·rcases List.mem_cons.1 hc with h|h
  ·exact .inl h
  ·exact .inr (qjk _ c h)
 ·exact .inr (qjk _ c hc)
theorem qug(n:Int):Lib.itoa n≠[]:=by
 unfold Lib.itoa
 split
 ·simp
 ·exact qjj _
theorem quh{m n:Int}(h:Lib.itoa m=Lib.itoa n):m=n:=by
 have no:∀(u:Nat)(r:List UInt8),Lib.decDigits u≠45::r:=by
  intro u r e
  have:=qjk u 45 (by rw[e];exact List.mem_cons_self)
  have h45:(45:UInt8).toNat=45:=rfl
  omega
 unfold Lib.itoa at h
 by_cases hm:m<0
 ·rw[if_pos hm]at h
  by_cases hn:n<0
  ·rw[if_pos hn]at h
   have:=qoJ _ _ (List.cons.inj h).2
   omega
  ·rw[if_neg hn]at h
   exact absurd h.symm (no _ _)
 ·rw[if_neg hm]at h
  by_cases hn:n<0
  ·rw[if_pos hn]at h
   exact absurd h (no _ _)
  ·rw[if_neg hn]at h
   have:=qoJ _ _ h
   omega
end Go.Abs.Tz
namespace Go.Abs.Tz
open Go Go.Abs Go.Proofs
set_option maxRecDepth 20000
set_option linter.unusedSimpArgs false
attribute [local simp ↓] gF gD uZ uY gd zX qW zk uX zU yq yr gG gI gJ gH jd jg jj je jk jl jh ji jf jb u9 jc ja yo ym yp yn gA gy gC gz gM gK gL ue zz jm qS jn gg yt yu gQ gT gS gN gO g8 jp jw jz jv jx jy j5 j3 jF jH uH uE uS uV uF uN uR uQ uP uO uL uA uB uC uD uT uJ uK uy uU uW uG uI uM uz jL jG jY j8 jI jT jX jW jV jU jR jD j0 jP jQ jA j7 j9 jJ jN jS jB gb j6 jC ga jO jK jM jE jZ jq ju jr gY g7 gW gZ g6 qm uo
attribute [local simp] faL fdL iaL ixL za q9 qN eqK eqL qL ze ut gV yk g9 yb yd yf yh yj ya ye yc yg zr LV.cells LV.whole qm uf zK jo stL zw zF zV qa.alloc ge gc gf gw gv gu gt gq gp gk gj gi gh qd ug
theorem qpx(a b:List UInt8):((⟨⟨a⟩⟩:ByteArray)++(⟨⟨b⟩⟩:ByteArray))=⟨⟨a++b⟩⟩:=by
 apply ByteArray.ext
 simp
theorem qpv(a:List UInt8):(⟨⟨a⟩⟩:ByteArray).size=a.length:=rfl
theorem qoH:∀(k u:Nat),u<10^(k+1)->(Lib.decDigits u).length<=k+1
 |0,u,h=>by
  have h':u<10:=by simpa using h
  rw[Lib.decDigits,dif_pos h'];simp
 |k+1,u,h=>by
  by_cases h':u<10
  ·rw[Lib.decDigits,dif_pos h'];simp
  ·have:=qoH k (u / 10) (by rw[Nat.pow_succ]at h;omega)
   rw[Lib.decDigits,dif_neg h',List.length_append]
   simp only[List.length_cons,List.length_nil]
   omega
theorem qoI{u:Nat}(h:u<=2^40):(Lib.decDigits u).length<=13:=qoH 12 u (by omega)
def zY(t:Term):ByteArray:=if t.kind=1 then ⟨⟨Lib.itoa t.n⟩⟩ else t.s
theorem qqH(t:Term)(h:t.kind=1->-(2^40)<=t.n/\t.n<=2^40):qg 128 [zl t] (.str (zY t)):=by
 refine qg.of c128 fun H hH=>⟨Nat.le_of_ble_eq_true rfl,?_⟩
 by_cases h1:t.kind=1
 ·have:=h h1
  simp(disch:=omega)[b128,h1]
  refine(qqX t.n (by omega) (by omega)).go fun n hn=>?_
  simp(disch:=omega)
  exact qq hH (by simp[zY,h1])
 ·simp(disch:=omega)[b128,h1]
  exact qq hH (by simp[zY,h1])
def yQ:List Term->Bool->List UInt8
 |[],first=>if first then [] else [41]
 |t::r,first=>(if first then [40] else [44,32])++(zY t).data.toList++yQ r false
def qG(a:Atom):ByteArray:=⟨⟨a.pred.data.toList++yQ a.args true⟩⟩
theorem qwP(a:ByteArray):a.data.toList.length=a.size:=rfl
theorem qdz{lo hi:Int}{s:ByteArray}(h:yR lo hi s=true):s.size<=24:=by
 unfold yR at h
 simp only[Bool.and_eq_true,decide_eq_true_eq]at h
 omega
theorem qkn{t:Term}(h:zg t=true):(zY t).size<=24/\(t.kind=1->-(2^40)<=t.n/\t.n<=2^40):=by
 unfold zg at h
 unfold zY
 by_cases h1:t.kind=1
 ·rw[if_pos h1]at h ⊢
  simp only[Bool.and_eq_true,decide_eq_true_eq]at h
  refine⟨?_,fun _=>by omega⟩
  show (Lib.itoa t.n).length<=24
  unfold Lib.itoa
  split
  ·have:=qoI (u:=t.n.natAbs) (by omega)
   rw[List.length_cons];omega
  ·have:=qoI (u:=t.n.toNat) (by omega)
   omega
 ·rw[if_neg h1]at h ⊢
  refine⟨?_,fun h=>absurd h h1⟩
  split at h
  ·simp only[Bool.and_eq_true]at h;exact qdz h.2
  ·split at h
   ·simp only[Bool.and_eq_true]at h;exact qdz h.2
   ·cases h
theorem qpE:∀{l:List Term}{b:Bool},l.all zg=true->(yQ l b).length<=26*l.length+1
 |[],b,_=>by unfold yQ;split<;>simp
 |t::r,b,h=>by
  simp only[List.all_cons,Bool.and_eq_true]at h
  have h1:=(qkn h.1).1
  have h2:=qpE (b:=false) h.2
  have h3:(zY t).data.toList.length<=24:=h1
  simp only[yQ,List.length_append,List.length_cons]
  split<;>simp only[List.length_cons,List.length_nil]<;>omega
theorem qpz{a:Atom}(h:qR a=true):a.pred.size<=24/\a.args.length<=3/\a.args.all zg=true:=by
 unfold qR at h
 simp only[Bool.and_eq_true,decide_eq_true_eq]at h
 exact⟨qdz h.1,h.2⟩
theorem qwQ{a:Atom}(h:qR a=true):(qG a).size<=110:=by
 obtain⟨h1,h2,h3⟩:=qpz h
 have:=qpE (b:=true) h3
 show (a.pred.data.toList++yQ a.args true).length<=110
 rw[List.length_append,qwP]
 omega
structure NNX where
 i:Nat
 n:Nat
 s:List UInt8
theorem qnd(sep:List UInt8):∀(x:List UInt8)(r:List (List UInt8)),Lib.join (x::r) sep=x++(r.map (sep++·)).flatten
 |x,[]=>by simp[Lib.join,List.intercalate,List.intersperse]
 |x,y::r=>by
  have ih:=qnd sep y r
  unfold Lib.join at ih ⊢
  unfold List.intercalate at ih ⊢
  rw[show List.intersperse sep (x::y::r)=x::sep::List.intersperse sep (y::r) from rfl]
  rw[List.flatten_cons,List.flatten_cons,ih]
  simp
theorem qpG:∀l:List Term,yQ l false=((l.map fun t=>(zY t).data.toList).map ([44,32]++·)).flatten++[41]
 |[]=>rfl
 |t::r=>by
  have ih:=qpG r
  rw[yQ,ih]
  simp
theorem qwT{l:List Term}(h:l≠[]):yQ l true=[40]++Lib.join (l.map fun t=>(zY t).data.toList) [44,32]++[41]:=by
 cases l with
 |nil=>exact absurd rfl h
 |cons t r=>
  rw[List.map_cons,qnd,yQ,qpG]
  simp
structure NNY where
 i:Nat
 n:Nat
 xs:List ByteArray
 own:Own
 ob:List (Nat×qc)
abbrev qkT(xs:List ByteArray):List LV:=xs.map fun x=>.str x
theorem qkS(xs:List ByteArray):(qkT xs).all (fun e=>e.cells.length==1)=true:=by
 rw[List.all_map,List.all_eq_true]
 intro x _
 rfl
theorem qfQ(a:Atom)(h:qR a=true):qg 62 [qh a] (.str (qG a)):=by
 obtain⟨h1,h2,h3⟩:=qpz h
 have hX:(qG a).size<=110:=qwQ h
 refine qg.of c62 fun H hH=>⟨Nat.le_of_ble_eq_true rfl,?_⟩
 by_cases h0:a.args.length=0
 ·have h0':(a.args.length:Int)=0:=by omega
  have hn:a.args=[]:=List.length_eq_zero_iff.1 h0
  have hX2:qG a=a.pred:=by
   unfold qG
   rw[hn]
   simp[yQ]
  simp(disch:=omega)[b62,h0,h0']
  exact qq hH (by simp[hX2])
 have h0':¬(a.args.length:Int)=0:=by omega
 simp(disch:=omega)[b62,h0,h0']
 have hbase:qa.Ok ⟨(H.next,.cells [.str a.pred,qz a.args])::H.objs,H.next+1⟩:=⟨Nat.lt_succ_self _,hH⟩
 obtain⟨L,hL⟩:∃L,a.args.map zY=L:=⟨_,rfl⟩
 have hLl:L.length<=3:=by rw[<-hL,List.length_map];exact h2
 refine qE (σ:=NNY) (fun q=>(.nd .bot (.nd (.ptr H.next 0) (.nd (.sl (qkT q.xs) q.own) (.nd .bot (.nd (.int q.i) .nil .nil) .nil) .nil) (.nd .bot .nil (.nd (qz a.args) .nil .nil))) (.nd .bot .nil (.nd .bot .nil (.nd (.int a.args.length) .nil .nil))))) (fun q=>⟨q.ob,q.n⟩) (fun q=>a.args.length - q.i)
  (fun q=>vA ⟨(H.next,.cells [.str a.pred,qz a.args])::H.objs,H.next+1⟩ 1 q.xs.length q.own q.ob q.n/\H.next<q.n/\q.i<=a.args.length/\q.xs++(a.args.drop q.i).map zY=L) ⟨0,H.next+1,[],.full,(H.next,.cells [.str a.pred,qz a.args])::H.objs⟩
  ⟨.inl ⟨rfl,rfl,Nat.le_refl _⟩,Nat.lt_succ_self _,Nat.zero_le _,by simpa using hL⟩ (by simp[FT.Le,Wk]) ⟨HWk.refl _,fun h=>h⟩ ?_
 rintro⟨i,n,xs,own,ob⟩ ⟨hr,hn,hi,he⟩ hok
 dsimp only at hr hn hi he hok
 have hxl:xs.length<=3:=by
  have:=congrArg List.length he
  rw[List.length_append]at this
  omega
 have hob:ob=(H.next,.cells [.str a.pred,qz a.args])::H.objs\/∃t,H.next<t/\ob=(t,.tok xs.length 1)::(H.next,.cells [.str a.pred,qz a.args])::H.objs:=by
  rcases hr with⟨_,rfl,_⟩|⟨t,_,g1,g2,rfl⟩
  ·exact .inl rfl
  ·exact .inr ⟨t,g1,rfl⟩
 have hlk:look H.next ob=some (.cells [.str a.pred,qz a.args]):=by
  rcases hob with rfl|⟨t,g1,rfl⟩
  ·simp[look]
  ·rw[qd (by omega)];simp[look]
 have hfg:HWk ⟨ob,n⟩ ⟨H.objs,n⟩:=⟨Nat.le_refl _,fun j x hx=>by
  have:=hH.look hx
  rcases hob with rfl|⟨t,g1,rfl⟩
  ·simp only[look];rw[if_neg (by omega)];exact hx
  ·simp only[look];rw[if_neg (by omega),if_neg (by omega)];exact hx⟩
 by_cases hlt:i<a.args.length
 case neg=>
  rw[List.drop_eq_nil_of_le (by omega),List.map_nil,List.append_nil]at he
  subst he
  have hdata:xs.map (·.data.toList)=a.args.map fun t=>(zY t).data.toList:=by rw[<-hL,List.map_map];rfl
  have hne:a.args≠[]:=fun e=>h0 (by rw[e];rfl)
  obtain⟨J,hJ⟩:∃J,Lib.join (xs.map (·.data.toList)) [44,32]=J:=⟨_,rfl⟩
  have hAX:qG a=⟨⟨a.pred.data.toList++[40]++J++[41]⟩⟩:=by
   unfold qG
   rw[qwT hne,<-hdata,hJ]
   simp
  obtain⟨P8,hP8⟩:∃P8,a.pred.data.toList=P8:=⟨_,rfl⟩
  have hpr:a.pred=⟨⟨P8⟩⟩:=by rw[<-hP8]
  have hPl:P8.length<=24:=by rw[<-hP8];exact h1
  rw[hP8]at hAX
  have hJl:J.length<=110:=by
   rw[hAX]at hX
   have:(P8++[40]++J++[41]).length<=110:=hX
   simp only[List.length_append]at this
   omega
  have hb1:P8.length+1<=2^40:=by omega
  have hb2:P8.length+1+J.length<=2^40:=by omega
  have hb3:P8.length+(1+J.length)<=2^40:=by omega
  have hb4:P8.length+1+J.length+1<=2^40:=by omega
  have hb5:P8.length+(1+(J.length+1))<=2^40:=by omega
  have hb6:P8.length+(J.length+1)+1<=2^40:=by omega
  have hb7:P8.length+(J.length+1)<=2^40:=by omega
  have hb8:P8.length+(J.length+1+1)<=2^40:=by omega
  rw[hpr]at hlk
  have lk1:za ⟨ob,n⟩ none (.ptr H.next 0)=some (.str ⟨⟨P8⟩⟩):=by simp[za,hlk,q9]
  simp(disch:=omega)[hlt,hlk,qpx,qpv,hb1]
  refine(qqW xs own ⟨⟨[44,32]⟩⟩ (by omega) (by show (Lib.join _ [44,32]).length<=_;rw[hJ];omega)).x (.sc _) ?_
  rw[show Lib.join (xs.map (·.data.toList)) (ByteArray.mk ⟨[44,32]⟩).data.toList=J from hJ]
  have hJa:(⟨J.toArray⟩:ByteArray)=⟨⟨J⟩⟩:=rfl
  rw[hJa]
  simp(disch:=omega)[hlk,qpx,qpv,hb1,hb2,hb3,hb4,hb5,hb6,hb7,hb8]
  refine⟨⟨H.objs,n⟩,hfg,fun _=>qt.mono hH (by first|omega|(dsimp only;omega)),?_,n,by first|omega|(dsimp only;omega),rfl⟩
  rw[hAX]
  simp
 rw[List.drop_eq_getElem_cons hlt,List.map_cons]at he
 have he':(xs++[zY a.args[i]])++(a.args.drop (i+1)).map zY=L:=by rw[List.append_assoc];exact he
 have htk:=List.all_eq_true.1 h3 _ (up hlt)
 obtain⟨g1,g2⟩:=qkn htk
 simp(disch:=omega)[hlt]
 refine(qqH _ g2).x (.sc _) ?_
 simp(disch:=omega)
 refine qbS ?_
 have hcan:xs.length+1<=2^30:=by omega
 have hlen1:(xs++[zY a.args[i]]).length=xs.length+1:=by simp
 rcases hr with⟨rfl,rfl,h3⟩|⟨t,rfl,f1,f2,rfl⟩
 ·dsimp only at h3
  simp(disch:=omega)[apL,qaG,qkS,hcan,qw (show i<2^62 by omega)]
  refine⟨⟨i+1,n+1+1,xs++[zY a.args[i]],.tok (n+1),(n+1,.tok (xs.length+1) 1)::(H.next,.cells [.str a.pred,qz a.args])::H.objs⟩,by dsimp only;omega,⟨.inr ⟨n+1,rfl,by dsimp only;omega,Nat.lt_succ_self _,by dsimp only;rw[hlen1]⟩,by dsimp only;omega,by dsimp only;omega,by simpa using he'⟩,by simp[FT.Le,Wk],?_,fun _=>⟨Nat.lt_succ_self _,⟨by omega,hH⟩⟩⟩
  exact qbu (show qt ((H.next,qc.cells [.str a.pred,qz a.args])::H.objs) n from ⟨hn,hH⟩) fun _ _ h=>h
 ·dsimp only at f1
  simp(disch:=omega)[apL,qaG,qkS,hcan,qw (show i<2^62 by omega)]
  refine⟨⟨i+1,n+1,xs++[zY a.args[i]],.tok t,(t,.tok (xs.length+1) 1)::(H.next,.cells [.str a.pred,qz a.args])::H.objs⟩,by dsimp only;omega,⟨.inr ⟨t,rfl,f1,by dsimp only;omega,by dsimp only;rw[hlen1]⟩,by dsimp only;omega,by dsimp only;omega,by simpa using he'⟩,by simp[FT.Le,Wk],?_⟩
  have hOk3:qa.Ok ⟨(t,.tok (xs.length+1) 1)::(H.next,.cells [.str a.pred,qz a.args])::H.objs,n⟩:=⟨f2,⟨by omega,hH⟩⟩
  exact zO hOk3 (qj.cons hOk3 (Nat.le_refl _) (qj.refl (Nat.le_refl _)) (Nat.le_succ _))
end Go.Abs.Tz
namespace Go.Abs.Tz
open Go Go.Abs Go.Proofs
def pW(c:UInt8):Bool:=qaL c.toNat||decide (c=45)
theorem qlA(p:Int->Bool):∀{l:List UInt8},wL p l=l.length->∀c∈l,p c.toNat=true
 |[],_,c,hc=>by cases hc
 |a::l,h,c,hc=>by
  unfold wL at h
  by_cases ha:p a.toNat=true
  ·rw[if_pos ha]at h
   have h':wL p l=l.length:=by simpa using h
   rcases List.mem_cons.1 hc with rfl|hc
   ·exact ha
   ·exact qlA p h' c hc
  ·rw[if_neg ha]at h
   simp at h
theorem qfM{lo hi:Int}{s:ByteArray}(h:yR lo hi s=true):∀c∈s.data.toList,pW c=true:=by
 unfold yR at h
 simp only[Bool.and_eq_true,decide_eq_true_eq]at h
 obtain⟨_,_,_,_,_,h⟩:=h
 intro c hc
 unfold pW
 rw[qlA qaL h c hc]
 rfl
theorem qev{lo hi:Int}{s:ByteArray}(h:yR lo hi s=true):∃c r,s.data.toList=c::r/\lo<=(c.toNat:Int)/\(c.toNat:Int)<=hi:=by
 unfold yR at h
 simp only[Bool.and_eq_true,decide_eq_true_eq]at h
 obtain⟨h1,_,_,_,hf,_⟩:=h
 have e:sL s=s.data.toList:=rfl
 rw[e]at hf
 cases hs:s.data.toList with
 |nil=>rw[hs]at hf;simp[qfn]at hf
 |cons c r=>
  rw[hs]at hf
  simp[qfn]at hf
  exact⟨c,r,rfl,hf.1,hf.2⟩
theorem qko{t:Term}(h:zg t=true):∀c∈(zY t).data.toList,pW c=true:=by
 unfold zg at h
 unfold zY
 by_cases h1:t.kind=1
 ·rw[if_pos h1]
  intro c hc
  rcases qne t.n c (by simpa using hc) with rfl|h
  ·rfl
  ·unfold pW qaL qft
   simp
   omega
 ·rw[if_neg h1]at h ⊢
  by_cases h2:t.kind=2
  ·rw[if_pos h2]at h
   simp only[Bool.and_eq_true]at h
   exact qfM h.2
  ·rw[if_neg h2]at h
   by_cases h3:t.kind=3
   ·rw[if_pos h3]at h
    simp only[Bool.and_eq_true]at h
    exact qfM h.2
   ·rw[if_neg h3]at h;cases h
theorem qpw{a b:ByteArray}(h:a.data.toList=b.data.toList):a=b:=by
 obtain⟨⟨x⟩⟩:=a
 obtain⟨⟨y⟩⟩:=b
 simp at h
 rw[h]
theorem qho{t:Term}(h:zg t=true):(t.kind=1/\t.s=⟨⟨[]⟩⟩)\/(t.kind=2/\t.n=0/\yR 97 122 t.s=true)\/(t.kind=3/\t.n=0/\yR 65 90 t.s=true):=by
 unfold zg at h
 by_cases h1:t.kind=1
 ·rw[if_pos h1]at h
  simp only[Bool.and_eq_true]at h
  exact .inl ⟨h1,wB.1 h.1⟩
 ·rw[if_neg h1]at h
  by_cases h2:t.kind=2
  ·rw[if_pos h2]at h
   simp only[Bool.and_eq_true,decide_eq_true_eq]at h
   exact .inr (.inl ⟨h2,h.1,h.2⟩)
  ·rw[if_neg h2]at h
   by_cases h3:t.kind=3
   ·rw[if_pos h3]at h
    simp only[Bool.and_eq_true,decide_eq_true_eq]at h
    exact .inr (.inr ⟨h3,h.1,h.2⟩)
   ·rw[if_neg h3]at h;cases h
theorem qkp{t:Term}(h:t.kind=1):(zY t).data.toList=Lib.itoa t.n:=by
 unfold zY
 rw[if_pos h]
theorem qbA{t:Term}(h:t.kind≠1):zY t=t.s:=by
 unfold zY
 rw[if_neg h]
theorem qui(n:Int):∃c r,Lib.itoa n=c::r/\c.toNat<=57:=by
 cases h:Lib.itoa n with
 |nil=>exact absurd h (qug n)
 |cons c r=>
  refine⟨c,r,rfl,?_⟩
  rcases qne n c (by rw[h];exact List.mem_cons_self) with rfl|h
  ·decide
  ·exact h.2
theorem qqy{t u:Term}(ht:zg t=true)(hu:zg u=true)(h:zY t=zY u):t=u:=by
 have num_word:∀{t u:Term},t.kind=1->u.kind≠1->(∃lo hi,(65:Int)<=lo/\yR lo hi u.s=true)->zY t≠zY u:=by
  intro t u h1 h2 ⟨lo,hi,hlo,hw⟩ e
  have e1:=congrArg (fun x:ByteArray=>x.data.toList) e
  simp only[qkp h1,qbA h2]at e1
  obtain⟨c,r,hc,hc2⟩:=qui t.n
  obtain⟨d,r2,hd,hd2,_⟩:=qev hw
  rw[hc,hd]at e1
  obtain⟨rfl,_⟩:=List.cons.inj e1
  omega
 obtain⟨tk,tn,ts⟩:=t
 obtain⟨uk,un,us⟩:=u
 rcases qho ht with⟨h1,h2⟩|⟨h1,h2,h3⟩|⟨h1,h2,h3⟩<;>rcases qho hu with⟨g1,g2⟩|⟨g1,g2,g3⟩|⟨g1,g2,g3⟩<;>dsimp only at h1 h2 g1 g2
 ·subst h1;subst g1;subst h2;subst g2
  have e1:=congrArg (fun x:ByteArray=>x.data.toList) h
  simp only[qkp]at e1
  rw[quh e1]
 ·exact absurd h (num_word h1 (by show uk≠1;omega) ⟨97,122,by omega,g3⟩)
 ·exact absurd h (num_word h1 (by show uk≠1;omega) ⟨65,90,by omega,g3⟩)
 ·exact absurd h.symm (num_word g1 (by show tk≠1;omega) ⟨97,122,by omega,h3⟩)
 ·rw[qbA (by show tk≠1;omega),qbA (by show uk≠1;omega)]at h
  dsimp only at h
  rw[h1,h2,g1,g2,h]
 ·rw[qbA (by show tk≠1;omega),qbA (by show uk≠1;omega)]at h
  dsimp only at h h3 g3
  subst h
  obtain⟨c,r,e,a1,a2⟩:=qev h3
  obtain⟨d,r2,e2,b1,b2⟩:=qev g3
  rw[e]at e2
  obtain⟨rfl,_⟩:=List.cons.inj e2
  omega
 ·exact absurd h.symm (num_word g1 (by show tk≠1;omega) ⟨65,90,by omega,h3⟩)
 ·rw[qbA (by show tk≠1;omega),qbA (by show uk≠1;omega)]at h
  dsimp only at h h3 g3
  subst h
  obtain⟨c,r,e,a1,a2⟩:=qev h3
  obtain⟨d,r2,e2,b1,b2⟩:=qev g3
  rw[e]at e2
  obtain⟨rfl,_⟩:=List.cons.inj e2
  omega
 ·rw[qbA (by show tk≠1;omega),qbA (by show uk≠1;omega)]at h
  dsimp only at h
  rw[h1,h2,g1,g2,h]
theorem qhc(l:List Term)(b:Bool):qjQ pW (yQ l b):=by
 intro c t h
 cases l with
 |nil=>
  cases b<;>simp[yQ]at h
  rw[<-h.1];rfl
 |cons x l=>
  cases b<;>simp[yQ]at h
  ·rw[<-h.1];rfl
  ·rw[<-h.1];rfl
theorem qpF:∀{l m:List Term},l.all zg=true->m.all zg=true->∀b,yQ l b=yQ m b->l=m
 |[],[],_,_,_,_=>rfl
 |[],u::m,_,_,b,h=>by cases b<;>simp[yQ]at h
 |t::l,[],_,_,b,h=>by cases b<;>simp[yQ]at h
 |t::l,u::m,hl,hm,b,h=>by
  simp only[List.all_cons,Bool.and_eq_true]at hl hm
  have h':(zY t).data.toList++yQ l false=(zY u).data.toList++yQ m false:=by
   cases b<;>simpa [yQ] using h
  obtain⟨h1,h2⟩:=qhz (qko hl.1) (qko hm.1) (qhc _ _) (qhc _ _) h'
  rw[qqy hl.1 hm.1 (qpw h1),qpF hl.2 hm.2 false h2]
theorem qjB{a b:Atom}(ha:qR a=true)(hb:qR b=true)(h:qG a=qG b):a=b:=by
 have e:=congrArg (fun x:ByteArray=>x.data.toList) h
 have e':a.pred.data.toList++yQ a.args true=b.pred.data.toList++yQ b.args true:=e
 unfold qR at ha hb
 simp only[Bool.and_eq_true,decide_eq_true_eq]at ha hb
 obtain⟨h1,h2⟩:=qhz (qfM ha.1) (qfM hb.1) (qhc _ _) (qhc _ _) e'
 obtain⟨ap,aa⟩:=a
 obtain⟨bp,ba⟩:=b
 dsimp only at h1 h2 ha hb
 rw[qpw h1,qpF ha.2.2 hb.2.2 true h2]
end Go.Abs.Tz
namespace Go.Abs.Tz
open Go Go.Abs Go.Proofs
set_option maxRecDepth 20000
set_option linter.unusedSimpArgs false
attribute [local simp ↓] gF gD uZ uY gd zX qW zk uX zU yq yr gG gI gJ gH jd jg jj je jk jl jh ji jf jb u9 jc ja yo ym yp yn gA gy gC gz gM gK gL ue zz jm qS jn gg yt yu gQ gT gS gN gO g8 jp jw jz jv jx jy j5 j3 jF jH uH uE uS uV uF uN uR uQ uP uO uL uA uB uC uD uT uJ uK uy uU uW uG uI uM uz jL jG jY j8 jI jT jX jW jV jU jR jD j0 jP jQ jA j7 j9 jJ jN jS jB gb j6 jC ga jO jK jM jE jZ jq ju jr gY g7 gW gZ g6 qm uo
attribute [local simp] faL fdL iaL ixL za q9 qN eqK eqL qL ze ut gV yk g9 yb yd yf yh yj ya ye yc yg zr LV.cells LV.whole qm uf zK jo stL zw zF zV qa.alloc ge gc gf gw gv gu gt gq gp gk gj gi gh qd ug
def hasP(k:PK)(W:List PK):Bool:=W.any (wf k)
structure NNG where
 f:Nat
 c:Nat
 n:Nat
 w:List PK
structure NNF where
 i:Nat
 n:Nat
 w:List PK
structure NNI2 where
 i:Nat
 n:Nat
 ns:List Int
 own:Own
 ob:List (Nat×qc)
abbrev ui(ns:List Int):List LV:=ns.map LV.int
abbrev arrB(bits:List Bool):qc:=.arr 1 (bits.map LV.bool)
def qwH(V U:List PK):List Bool:=V.map fun k=>hasP k U
section
variable{V U:List PK}{k:PK}(hk:k∈V){o n:Nat}{ob:List (Nat×qc)}(hl:look o ob=some (arrB (qwH V U)))
include hk hl
end
theorem wy{i j:Nat}{x:qc}(h:i≠j):∀{l:List (Nat×qc)},look i (qx j x l)=look i l
 |[]=>rfl
 |(k,y)::r=>by
  simp only[qx]
  by_cases hk:j=k
  ·subst hk
   rw[if_pos rfl]
   simp only[look]
   rw[if_neg h,if_neg h]
  ·rw[if_neg hk]
   simp only[look]
   rw[wy h]
structure NNB where
 i:Nat
 n:Nat
 bs:List Bool
structure Stp where
 atom:Atom
 cl:Int
 frm:List Int
abbrev qeC(s:Stp):List LV:=[.str s.atom.pred,qz s.atom.args,.int s.cl,.sl (s.frm.map LV.int) .no]
abbrev ve(s:Stp):LV:=.agg (qeC s)
abbrev qaC(M:List (ByteArray×Int)):List (LV×LV):=M.map fun e=>(.str e.1,.int e.2)
def vj(k:ByteArray):List (ByteArray×Int)->Option Int
 |[]=>none
 |(j,v)::r=>if eqBA k j then some v else vj k r
theorem qod(k:ByteArray):∀M:List (ByteArray×Int),vm (.pl 1) (.str k) (qaC M)=some ((vj k M).map LV.int)
 |[]=>rfl
 |(j,v)::r=>by
  have ih:=qod k r
  show (match eqK (.pl 1) (.str k) (.str j) with
   |some true=>some (some (LV.int v))
   |some false=>vm (.pl 1) (.str k) (qaC r)
   |none=>none)=_
  rw[ih]
  simp only[eqK,ze,vj]
  cases eqBA k j<;>rfl
theorem qll(k:ByteArray)(v:Int):∀M:List (ByteArray×Int),vj k M=none->vE (.pl 1) (.str k) (.int v) (qaC M)=some (qaC (M++[(k,v)]))
 |[],_=>rfl
 |(j,u)::r,h=>by
  simp only[vj]at h
  by_cases he:eqBA k j=true
  ·rw[if_pos he]at h;cases h
  ·rw[if_neg he]at h
   have he':eqBA k j=false:=by simpa using he
   have ih:=qll k v r h
   show (match eqK (.pl 1) (.str k) (.str j) with
    |some true=>some ((LV.str j,LV.int v)::qaC r)
    |some false=>(vE (.pl 1) (.str k) (.int v) (qaC r)).map ((LV.str j,LV.int u)::·)
    |none=>none)=_
   rw[ih]
   simp only[eqK,ze,he']
   rfl
def y8:List Stp->Int->List (ByteArray×Int)
 |[],_=>[]
 |s::r,i=>(qG s.atom,i)::y8 r (i+1)
theorem qnv(s:Stp):∀(F:List Stp)(i:Int),y8 (F++[s]) i=y8 F i++[(qG s.atom,i+F.length)]
 |[],i=>by simp[y8]
 |q::F,i=>by
  have ih:=qnv s F (i+1)
  simp only[List.cons_append,y8,ih,List.length_cons]
  congr 4
  omega
theorem qfb{k:ByteArray}:∀{F:List Stp}{i:Int},vj k (y8 F i)=none↔∀q∈F,qG q.atom≠k
 |[],_=>by simp[y8,vj]
 |q::F,i=>by
  have ih:=qfb (k:=k) (F:=F) (i:=i+1)
  simp only[y8,vj]
  by_cases he:eqBA k (qG q.atom)=true
  ·rw[if_pos he]
   have:=wB.1 he
   constructor
   ·intro h;cases h
   ·intro h;exact absurd this.symm (h q List.mem_cons_self)
  ·rw[if_neg he,ih]
   have hne:qG q.atom≠k:=fun e=>he (wB.2 e.symm)
   constructor
   ·intro h x hx
    rcases List.mem_cons.1 hx with rfl|hx
    ·exact hne
    ·exact h x hx
   ·exact fun h x hx=>h x (List.mem_cons_of_mem _ hx)
structure ud(ob:List (Nat×qc))(fo am:Nat)(F:List Stp)(own:Own):Prop where
 pair:look fo ob=some (.cells [.map am,.sl (F.map ve) own])
 map:look am ob=some (.map (qaC (y8 F 0)))
 ne:fo≠am
 row:(own=.full/\F=[])\/∃t,own=.tok t/\t≠fo/\t≠am/\look t ob=some (.tok F.length 4)
def qK(ob:List (Nat×qc)):Prop:=∀i m l k n,look i ob≠some (.iter m l k n)
def qff:qc->Bool
 |.iter _ _ _ _=>true
 |_=>false
theorem qdK{ob:List (Nat×qc)}:qK ob↔∀i x,look i ob=some x->qff x=false:=by
 constructor
 ·intro h i x hx
  cases x<;>first|rfl|exact absurd hx (h _ _ _ _ _)
 ·intro h i m l k n hx
  exact absurd (h i _ hx) (by simp[qff])
theorem qK.cons{ob:List (Nat×qc)}(h:qK ob)(m:Nat){x:qc}(hx:qff x=false):qK ((m,x)::ob):=qdK.2 fun i y hy=>by
 simp only[look]at hy
 split at hy
 ·cases hy;exact hx
 ·exact qdK.1 h i y hy
theorem qmL{o:Nat}{x:qc}:∀{l:List (Nat×qc)}{i:Nat}{y:qc},look i (qx o x l)=some y->y=x\/look i l=some y
 |[],_,_,h=>by cases h
 |(j,z)::r,i,y,h=>by
  simp only[qx]at h
  split at h
  ·simp only[look]at h ⊢
   split at h
   ·cases h;exact .inl rfl
   ·rename_i hne;exact .inr (by rw[if_neg hne];exact h)
  ·simp only[look]at h ⊢
   split at h
   ·rename_i he;exact .inr (by rw[if_pos he];exact h)
   ·rename_i hne;rw[if_neg hne];exact qmL h
theorem qK.put{ob:List (Nat×qc)}(h:qK ob)(m:Nat){x:qc}(hx:qff x=false):qK (qx m x ob):=qdK.2 fun i y hy=>by
 rcases qmL hy with rfl|hy
 ·exact hx
 ·exact qdK.1 h i y hy
def qjO(n:Nat)(own own':Own):Prop:=own'=own\/∃t,own'=.tok t/\n<=t
theorem lkM{H:qa}{o:Nat}{M:List (ByteArray×Int)}(h:look o H.objs=some (.map (qaC M)))(k:ByteArray)(z:LV):lkL H (.pl 1) true z (.map o) (.str k)=some (match vj k M with|some t=>.tup [.int t,.bool true]|none=>.tup [z,.bool false]):=by
 unfold lkL
 simp only[eqK,ze,qaV,Option.isSome_some,if_true,h,qod]
 cases vj k M<;>rfl
theorem muM{H:qa}{o:Nat}{M:List (ByteArray×Int)}{k:ByteArray}(h:look o H.objs=some (.map (qaC M)))(hn:vj k M=none)(v:Int):muL H (.pl 1) (.map o) (.str k) (.int v)=some (H.put o (.map (qaC (M++[(k,v)])))):=by
 unfold muL
 simp only[h,eqK,ze,qaV,Option.isNone_some,Bool.false_eq_true,if_false,qll _ _ _ hn,Option.map_some]
theorem qrX(F:List Stp):(F.map ve).all (fun e=>e.cells.length==4)=true:=by
 rw[List.all_map,List.all_eq_true]
 intro x _
 rfl
theorem qkL(s:Stp)(hs:qR s.atom=true)(fo am:Nat)(F:List Stp)(hF:F.length<=2^20)(own:Own)(ob:List (Nat×qc))(n:Nat)(hA:ud ob fo am F own){kv kp:HP}
  (h0:(∃q∈F,qG q.atom=qG s.atom)->∀n',n<=n'->kv (.tup []) ⟨ob,n'⟩)
  (h1:(∀q∈F,qG q.atom≠qG s.atom)->∀ob' n' own',n<=n'->ud ob' fo am (F++[s]) own'->qjO n own own'->(qK ob->qK ob')->(∀i,i<n->i≠fo->i≠am->(∀t,own=.tok t->i≠t)->look i ob'=look i ob)->kv (.tup []) ⟨ob',n'⟩):
  cP E0 F0 155 [.ptr fo 0,ve s] ⟨ob,n⟩ kv kp:=by
 refine ub c155 fun hH=>⟨Nat.le_of_ble_eq_true rfl,?_⟩
 have hfo:fo<n:=hH.look hA.pair
 have ham:am<n:=hH.look hA.map
 simp(disch:=omega)[b155]
 refine(qfQ s.atom hs).go fun n2 hn2=>?_
 simp(disch:=omega)[hA.pair]
 rw[lkM (by rw[qd (by omega)];exact hA.map)]
 cases hl:vj (qG s.atom) (y8 F 0) with
 |some t=>
  simp(disch:=omega)[qS]
  have hex:∃q∈F,qG q.atom=qG s.atom:=by
   apply Classical.byContradiction
   intro hno
   have:=qfb (i:=0).2 fun q hq e=>hno ⟨q,hq,e⟩
   rw[hl]at this;cases this
  obtain⟨g1,g2⟩:=zO (l:=(n,qc.cells (qeC s))::ob) (n:=n2) hH (qj.cons' hH (Nat.le_refl _) (by dsimp only;omega) (qj.refl' _))
  exact⟨_,g1,g2,h0 hex n2 (by omega)⟩
 |none=>
  have hnone:=qfb.1 hl
  simp(disch:=omega)[hA.pair,hA.map]
  rw[muM (by rw[qd (by omega)];exact hA.map) hl]
  obtain⟨S,hS⟩:∃S,F.map ve=S:=⟨_,rfl⟩
  have hall:=qrX F
  have hpair:=hA.pair
  have hSl:S.length=F.length:=by rw[<-hS,List.length_map]
  have hF2:(F++[s]).map ve=S++[ve s]:=by rw[<-hS];simp
  have hidx:y8 (F++[s]) 0=y8 F 0++[(qG s.atom,(F.length:Int))]:=by rw[qnv];simp
  rw[hS]at hall hpair
  rw[<-hidx]
  obtain⟨M2,hM2⟩:∃M2,qc.map (qaC (y8 (F++[s]) 0))=M2:=⟨_,rfl⟩
  have hMi:qff M2=false:=by rw[<-hM2];rfl
  rw[hM2]
  have hna:fo≠am:=hA.ne
  have hlp:look fo (qx am M2 ob)=some (.cells [.map am,.sl S own]):=by rw[wy hna];exact hpair
  simp(disch:=omega)[hlp]
  refine qbS ?_
  simp(disch:=omega)
  have hmap:look am (qx am M2 ob)=some M2:=vL hA.map
  rcases hA.row with⟨rfl,hFn⟩|⟨t,rfl,t1,t2,t3⟩
  ·rw[qjH hall rfl (by rw[hSl];omega) (by omega)]
   simp(disch:=omega)[hlp,qS]
   refine⟨_,HWk.refl _,fun h=>h,h1 hnone _ _ (.tok n2) (by omega) ⟨?_,?_,hna,.inr ⟨n2,rfl,by omega,by omega,?_⟩⟩ (.inr ⟨n2,rfl,by omega⟩) ?_ fun i hi hif hia _=>?_⟩
   ·rw[qd (by omega),qd (by omega),hF2]
    exact vL hlp
   ·rw[qd (by omega),qd (by omega),wy (Ne.symm hna),hM2]
    exact hmap
   ·simp[look,hSl]
   ·exact fun hI=>qK.cons (qK.cons (qK.put (qK.put hI _ hMi) _ rfl) _ rfl) _ rfl
   ·rw[qd (by omega),qd (by omega),wy hif,wy hia]
  ·have htn:t<n:=hH.look t3
   have hlp2:look fo (qx t (qc.tok (S.length+1) 4) (qx am M2 ob))=some (.cells [.map am,.sl S (.tok t)]):=by rw[wy (Ne.symm t1)];exact hlp
   have htt:look t (qx am M2 ob)=some (.tok F.length 4):=by rw[wy t2];exact t3
   rw[qjG hall rfl (by rw[hSl];omega) (by omega) (by omega) (by rw[qd (by omega),hSl];exact htt)]
   simp(disch:=omega)[hlp2,qS]
   refine⟨_,HWk.refl _,fun h=>h,h1 hnone _ _ (.tok t) (by omega) ⟨?_,?_,hna,.inr ⟨t,rfl,t1,t2,?_⟩⟩ (.inl rfl) ?_ fun i hi hif hia hit=>?_⟩
   ·rw[qd (by omega),hF2]
    exact vL hlp2
   ·rw[qd (by omega),wy (Ne.symm hna),wy (Ne.symm t2),hM2]
    exact hmap
   ·rw[qd (by omega),wy t1,vL htt]
    simp[hSl]
   ·exact fun hI=>qK.cons (qK.put (qK.put (qK.put hI _ hMi) _ rfl) _ rfl) _ rfl
   ·rw[qd (by omega),wy hif,wy (hit t rfl),wy hia]
def zh(k:ByteArray)(F:List Stp):Bool:=(vj k (y8 F 0)).isSome
theorem wW{k:ByteArray}{F:List Stp}:zh k F=true↔∃q∈F,qG q.atom=k:=by
 unfold zh
 constructor
 ·intro h
  apply Classical.byContradiction
  intro hno
  rw[qfb.2 fun q hq e=>hno ⟨q,hq,e⟩]at h
  cases h
 ·rintro⟨q,hq,e⟩
  cases hl:vj k (y8 F 0) with
  |some v=>rfl
  |none=>exact absurd e (qfb.1 hl q hq)
def zj(F:List Stp)(s:Stp):List Stp:=if zh (qG s.atom) F then F else F++[s]
def zE(F G:List Stp)(s:Stp):List Stp:=if zh (qG s.atom) F then G else if G.length<=300 then zj G s else G
theorem ud.cons{ob:List (Nat×qc)}{fo am n m:Nat}{F:List Stp}{own:Own}(h:ud ob fo am F own)(hH:qa.Ok ⟨ob,n⟩)(hm:n<=m)(x:qc):ud ((m,x)::ob) fo am F own:=by
 have b1:fo<n:=hH.look h.pair
 have b2:am<n:=hH.look h.map
 refine⟨by rw[qd (by omega)];exact h.pair,by rw[qd (by omega)];exact h.map,h.ne,?_⟩
 rcases h.row with h1|⟨t,h1,h2,h3,h4⟩
 ·exact .inl h1
 ·have b3:t<n:=hH.look h4
  exact .inr ⟨t,h1,h2,h3,by rw[qd (by omega)];exact h4⟩
theorem t_do(a:Atom)(ha:qR a=true)(frm:List Int)(fv hv iv:Nat)(i:Int)(fo am go gm:Nat)(F G:List Stp)(hG:G.length<=2^20)(ownF own:Own)(ob:List (Nat×qc))(n:Nat)
  (hF:ud ob fo am F ownF) (hA:ud ob go gm G own) (l1:look fv ob=some (.cells [.ptr fo 0])) (l2:look hv ob=some (.cells [.ptr go 0])) (l3:look iv ob=some (.cells [.int i])) {kv kp:HP}
  (hk:∀ob' n' own',n<=n'->ud ob' go gm (zE F G ⟨a,i,frm⟩) own'->qjO n own own'->(qK ob->qK ob')->(∀i,i<n->i≠go->i≠gm->(∀t,own=.tok t->i≠t)->look i ob'=look i ob)->kv (.tup []) ⟨ob',n'⟩):
  cP E0 F0 154 [qh a,.sl (frm.map LV.int) .no,.ptr fv 0,.ptr hv 0,.ptr iv 0] ⟨ob,n⟩ kv kp:=by
 refine ub c154 fun hH=>⟨Nat.le_of_ble_eq_true rfl,?_⟩
 have b1:fv<n:=hH.look l1
 have b2:hv<n:=hH.look l2
 have b3:iv<n:=hH.look l3
 have b4:fo<n:=hH.look hF.pair
 have b5:am<n:=hH.look hF.map
 have b6:go<n:=hH.look hA.pair
 simp(disch:=omega)[b154,l1,hF.pair]
 refine(qfQ a ha).go fun n2 hn2=>?_
 simp(disch:=omega)
 rw[lkM (by rw[qd (by omega)];exact hF.map)]
 have hlast:∀(l:qc),zE F G ⟨a,i,frm⟩=G->∃H'',HWk ⟨(n,l)::ob,n2⟩ H''/\(qa.Ok ⟨(n,l)::ob,n2⟩->H''.Ok)/\kv (.tup []) H'':=fun l e=>by
  obtain⟨g1,g2⟩:=zO (l:=(n,l)::ob) (n:=n2) hH (qj.cons' hH (Nat.le_refl _) (by dsimp only;omega) (qj.refl' _))
  exact⟨_,g1,g2,hk ob n2 own (by omega) (by rw[e];exact hA) (.inl rfl) id fun _ _ _ _ _=>rfl⟩
 have hGl:(G.map ve).length=G.length:=List.length_map ..
 cases hl:vj (qG a) (y8 F 0) with
 |some t=>
  simp(disch:=omega)[qS,l1,l2,l3,hF.pair,hA.pair]
  exact hlast _ (by simp[zE,zh,hl])
 |none=>
  by_cases h300:G.length<=300
  ·have h300':(G.length:Int)<=300:=by omega
   simp(disch:=omega)[l1,l2,l3,hF.pair,hA.pair,h300']
   have hnF:zh (qG a) F=false:=by simp[zh,hl]
   refine qkL ⟨a,i,frm⟩ ha go gm G hG own _ n2 (hA.cons hH (Nat.le_refl _) _) (fun hex n3 hn3=>?_) (fun hno ob' n3 own' hn3 hA' hnear hnoit hsame=>?_)
   ·simp(disch:=omega)[qS]
    have e:zE F G ⟨a,i,frm⟩=G:=by simp[zE,hnF,h300,zj,wW.2 hex]
    refine⟨_,HWk.refl _,fun h=>h,hk _ n3 own (by omega) (by rw[e];exact hA.cons hH (Nat.le_refl _) _) (.inl rfl) (fun hI=>hI.cons _ rfl) fun j hj _ _ _=>by rw[qd (by omega)]⟩
   ·simp(disch:=omega)[qS]
    have hnG:zh (qG a) G=false:=by
     cases h:zh (qG a) G with
     |false=>rfl
     |true=>
      obtain⟨q,hq,e⟩:=wW.1 h
      exact absurd e (hno q hq)
    have e:zE F G ⟨a,i,frm⟩=G++[⟨a,i,frm⟩]:=by simp[zE,hnF,h300,zj,hnG]
    refine⟨_,HWk.refl _,fun h=>h,hk ob' n3 own' (by omega) (by rw[e];exact hA') (hnear.imp id fun⟨t,h1,h2⟩=>⟨t,h1,by omega⟩) (fun hI=>hnoit (hI.cons _ rfl)) fun j hj h1 h2 h3=>?_⟩
    rw[hsame j (by omega) h1 h2 h3,qd (by omega)]
  ·have h300':¬(G.length:Int)<=300:=by omega
   simp(disch:=omega)[l1,l2,l3,hF.pair,hA.pair,h300',qS]
   exact hlast _ (by simp[zE,h300])
end Go.Abs.Tz
namespace Go.Abs.Tz
open Go Go.Abs Go.Proofs
def qad(F:List Stp)(K:qv):List Lit->Bool
 |[]=>true
 |x::r=>if x.kind=1 then qad F K r else if x.kind=2 then !zh (qG (zm K x.atom)) F&&qad F K r else qbU K x&&qad F K r
def qT(b:List Lit):List Atom:=(b.filter fun x=>decide (x.kind=1)).map Lit.atom
def vt(F:List Stp)(c:qe):List Atom->qv->List Int->List (qv×List Int)
 |[],K,frm=>if qad F K c.body then [(K,frm)] else []
 |p::ps,K,frm=>(List.range F.length).flatMap fun j=>match F[j]? with
  |some s=>match vy K p s.atom with
   |some R=>vt F c ps R (frm++[(j:Int)])
   |none=>[]
  |none=>[]
def vu{σ:Type}(step:σ->Atom->List Int->σ)(c:qe)(l:List (qv×List Int))(s:σ):σ:=l.foldl (fun s x=>step s (zm x.1 c.head) x.2) s
theorem qnH(F G:List Stp)(s:Stp):G.length<=(zE F G s).length/\(zE F G s).length<=G.length+1:=by
 unfold zE zj
 by_cases h1:zh (qG s.atom) F=true
 ·rw[if_pos h1];omega
 ·rw[if_neg h1]
  by_cases h2:G.length<=300
  ·rw[if_pos h2]
   by_cases h3:zh (qG s.atom) G=true
   ·rw[if_pos h3];omega
   ·rw[if_neg h3];simp
  ·rw[if_neg h2];omega
theorem qnG{F G:List Stp}{s:Stp}(h:G.length<=301):(zE F G s).length<=301:=by
 have h1:=(qnH F G s).2
 by_cases h2:G.length<=300
 ·omega
 ·have:zE F G s=G:=by
   unfold zE
   by_cases h3:zh (qG s.atom) F=true
   ·rw[if_pos h3]
   ·rw[if_neg h3,if_neg h2]
  rw[this];exact h
end Go.Abs.Tz
namespace Go.Abs.Tz
open Go Go.Abs Go.Proofs
def zf(a:Atom):Prop:=qR a=true/\a.args.all ww=true
structure vW(K:qv):Prop where
 nd:(uq K).Nodup
 ok:∀e∈K,zg e.2=true/\ww e.2=true
theorem vW.nil:vW []:=⟨.nil,fun e h=>by cases h⟩
def w9(K R:qv):Prop:=∀k v,zc k K=some v->zc k R=some v
theorem w9.refl(K:qv):w9 K K:=fun _ _ h=>h
theorem w9.trans{K L R:qv}(h:w9 K L)(k:w9 L R):w9 K R:=fun x v hx=>k x v (h x v hx)
def wo(K:qv)(ts:List Term):Prop:=∀t∈ts,t.kind=3->(zc t.s K).isSome=true
theorem wo.ext{K R:qv}{ts:List Term}(h:wo K ts)(he:w9 K R):wo R ts:=fun t ht hk=>by
 obtain⟨v,hv⟩:=Option.isSome_iff_exists.1 (h t ht hk)
 rw[he _ _ hv];rfl
theorem qog{k:ByteArray}{v:Term}:∀{E X:qv},zc k E=some v->zc k (E++X)=some v
 |[],_,h=>by cases h
 |(j,u)::r,X,h=>by
  simp only[zc,List.cons_append]at h ⊢
  split
  ·rename_i hj;rw[if_pos hj]at h;exact h
  ·rename_i hj;rw[if_neg hj]at h;exact qog h
theorem qof{k:ByteArray}{v:Term}:∀{E:qv},zc k E=none->zc k (E++[(k,v)])=some v
 |[],_=>by simp[zc,qaV]
 |(j,u)::r,h=>by
  simp only[zc,List.cons_append]at h ⊢
  split
  ·rename_i hj;rw[if_pos hj]at h;cases h
  ·rename_i hj;rw[if_neg hj]at h;exact qof h
theorem qvj{K R:qv}(h:w9 K R){t:Term}(hb:t.kind=3->(zc t.s K).isSome=true):zH R t=zH K t:=by
 unfold zH
 by_cases hk:t.kind=3
 ·obtain⟨v,hv⟩:=Option.isSome_iff_exists.1 (hb hk)
  rw[if_pos hk,if_pos hk,hv,h _ _ hv]
 ·rw[if_neg hk,if_neg hk]
theorem qvk{K R:qv}(h:w9 K R){a:Atom}(hb:wo K a.args):zm R a=zm K a:=by
 unfold zm
 congr 1
 exact List.map_congr_left fun t ht=>qvj h (hb t ht)
theorem qjy:∀(ps qs:List Term)(K R:qv),vW K->(∀q∈qs,zg q=true/\ww q=true)->ps.length=qs.length->yF K ps qs=some R ->
  vW R/\w9 K R/\wo R ps/\ps.map (zH R)=qs
 |[],[],K,R,hK,_,_,h=>by
  simp only[yF,Option.some.injEq]at h
  subst h
  exact⟨hK,.refl _,fun t ht=>(by cases ht),rfl⟩
 |[],_::_,_,_,_,_,hl,_=>by simp at hl
 |_::_,[],_,_,_,_,hl,_=>by simp at hl
 |p::ps,q::qs,K,R,hK,hq,hl,h=>by
  have hl':ps.length=qs.length:=by simpa using hl
  have hq':∀x∈qs,zg x=true/\ww x=true:=fun x hx=>hq x (List.mem_cons_of_mem _ hx)
  simp only[yF]at h
  by_cases hk:p.kind=3
  ·rw[if_pos hk]at h
   have fin:∀K':qv,vW K'->w9 K K'->zc p.s K'=some q->yF K' ps qs=some R->vW R/\w9 K R/\wo R (p::ps)/\(p::ps).map (zH R)=q::qs:=by
    intro K' h1 h2 h3 h4
    obtain⟨g1,g2,g3,g4⟩:=qjy ps qs K' R h1 hq' hl' h4
    refine⟨g1,h2.trans g2,fun t ht htk=>?_,?_⟩
    ·rcases List.mem_cons.1 ht with rfl|ht
     ·rw[g2 _ _ h3];rfl
     ·exact g3 t ht htk
    ·rw[List.map_cons,g4]
     congr 1
     unfold zH
     rw[if_pos hk,g2 _ _ h3];rfl
   cases hf:zc p.s K with
   |some old=>
    rw[hf]at h
    simp only at h
    split at h
    ·rename_i he
     have:=qjd he
     subst this
     exact fin K hK (.refl _) hf h
    ·cases h
   |none=>
    rw[hf]at h
    simp only at h
    refine fin _ ⟨?_,fun e he=>?_⟩ (fun k v hv=>qog hv) (qof hf) h
    ·unfold uq
     rw[List.map_append]
     refine List.nodup_append.2 ⟨hK.nd,by simp,fun x hx y hy e=>?_⟩
     simp at hy
     subst hy
     subst e
     exact qgP hf hx
    ·rcases List.mem_append.1 he with he|he
     ·exact hK.ok e he
     ·simp at he
      subst he
      exact hq q List.mem_cons_self
  ·rw[if_neg hk]at h
   split at h
   ·rename_i he
    have e:=qjd he
    obtain⟨g1,g2,g3,g4⟩:=qjy ps qs K R hK hq' hl' h
    refine⟨g1,g2,fun t ht htk=>?_,?_⟩
    ·rcases List.mem_cons.1 ht with rfl|ht
     ·exact absurd htk hk
     ·exact g3 t ht htk
    ·rw[List.map_cons,g4]
     congr 1
     unfold zH
     rw[if_neg hk,e]
   ·cases h
theorem zf.args{a:Atom}(h:zf a):∀q∈a.args,zg q=true/\ww q=true:=fun q hq=>
 ⟨List.all_eq_true.1 (qdq h.1).2 q hq,List.all_eq_true.1 h.2 q hq⟩
theorem qpr{K R:qv}{p a:Atom}(hK:vW K)(ha:zf a)(h:vy K p a=some R):vW R/\w9 K R/\wo R p.args/\zm R p=a:=by
 unfold vy at h
 split at h
 ·rename_i hc
  simp only[Bool.and_eq_true,decide_eq_true_eq]at hc
  obtain⟨g1,g2,g3,g4⟩:=qjy _ _ K R hK ha.args hc.2 h
  refine⟨g1,g2,g3,?_⟩
  unfold zm
  rw[g4,wB.1 hc.1]
 ·cases h
theorem vW.find{K:qv}(h:vW K){k:ByteArray}{v:Term}(hf:zc k K=some v):zg v=true/\ww v=true:=h.ok _ ((qfo h.nd).1 hf)
theorem qvi{K:qv}(h:vW K){t:Term}(ht:zg t=true)(hb:t.kind=3->(zc t.s K).isSome=true):zg (zH K t)=true/\ww (zH K t)=true:=by
 unfold zH
 by_cases hk:t.kind=3
 ·obtain⟨v,hv⟩:=Option.isSome_iff_exists.1 (hb hk)
  rw[if_pos hk,hv]
  exact h.find hv
 ·rw[if_neg hk]
  exact⟨ht,by simp[ww,hk]⟩
theorem qoi{K:qv}(h:vW K){a:Atom}(ha:qR a=true)(hb:wo K a.args):zf (zm K a):=by
 have h1:=qdq ha
 have h2:∀t∈(zm K a).args,zg t=true/\ww t=true:=by
  intro t ht
  obtain⟨u,hu,rfl⟩:=List.mem_map.1 (show t∈a.args.map (zH K) from ht)
  exact qvi h (List.all_eq_true.1 h1.2 u hu) (hb u hu)
 refine⟨?_,List.all_eq_true.2 fun t ht=>(h2 t ht).2⟩
 have h3:yR 97 122 a.pred=true:=by
  unfold qR at ha
  simp only[Bool.and_eq_true]at ha
  exact ha.1
 unfold qR
 rw[show (zm K a).pred=a.pred from rfl,h3,show (zm K a).args.length=a.args.length from List.length_map _,List.all_eq_true.2 fun t ht=>(h2 t ht).1]
 simp[h1.1]
theorem qms(K:qv)(a:Atom):ofA (zm K a)=ofA a:=by
 unfold ofA zm
 simp
theorem qqz{t:Term}(h:zg t=true):t.ok:=by
 unfold Term.ok
 rcases qho h with⟨_,e⟩|⟨_,_,e⟩|⟨_,_,e⟩
 ·rw[e];exact Nat.pow_pos (by omega)
 ·have:=qdz e;omega
 ·have:=qdz e;omega
theorem qfy{a:Atom}(h:qR a=true):a.ok:=by
 have h1:=qdq h
 unfold qR at h
 simp only[Bool.and_eq_true]at h
 have:=qdz h.1
 exact⟨by omega,by omega,fun t ht=>qqz (List.all_eq_true.1 h1.2 t ht)⟩
structure yv(c:qe):Prop where
 ok:wF c=true
 safe:qbD c=true
theorem qsL{c:qe}{p:Atom}(h:p∈qT c.body):∃x∈c.body,x.kind=1/\x.atom=p:=by
 obtain⟨x,hx,e⟩:=List.mem_map.1 h
 obtain⟨h1,h2⟩:=List.mem_filter.1 hx
 exact⟨x,h1,by simpa using h2,e⟩
theorem qtI{c:qe}{x:Lit}(h:x∈c.body)(hk:x.kind=1):x.atom∈qT c.body:=List.mem_map.2 ⟨x,List.mem_filter.2 ⟨h,by simp[hk]⟩,rfl⟩
theorem qmP{x:Lit}(h:y7 x=true)(hk:x.kind=1\/x.kind=2):qR x.atom=true:=by
 unfold y7 at h
 rw[if_pos hk]at h
 simp only[Bool.and_eq_true]at h
 exact h.1
theorem yv.posOk{c:qe}(h:yv c):∀p∈qT c.body,qR p=true:=fun p hp=>by
 obtain⟨x,hx,hk,rfl⟩:=qsL hp
 exact qmP ((qbV h.ok).2.2 x hx) (.inl hk)
theorem yv.bound{c:qe}(h:yv c){K:qv}(hp:∀p∈qT c.body,wo K p.args):wo K c.head.args/\(∀x∈c.body,x.kind=2->wo K x.atom.args)/\∀x∈c.body,x.kind≠1->x.kind≠2->wo K [x.a,x.b]:=by
 have hs:=h.safe
 unfold qbD at hs
 rw[List.all_eq_true]at hs
 have key:∀v,v∈(wU c.body ([],vg c.head.args [])).2->(zc v K).isSome=true:=by
  intro v hv
  have h1:=qnx.1 (hs v hv)
  rcases qmN.1 h1 with h2|⟨x,hx,hk,t,ht,htk,rfl⟩
  ·cases h2
  ·exact hp _ (qtI hx hk) t ht htk
 refine⟨fun t ht hk=>key _ (qgA.2 (.inl (qeU.2 (.inr ⟨t,ht,hk,rfl⟩)))),fun x hx hk t ht htk=>key _ (qgA.2 (.inr ⟨x,hx,by omega,t,by rw[if_pos hk];exact ht,htk,rfl⟩)),fun x hx h1 h2 t ht htk=>key _ (qgA.2 (.inr ⟨x,hx,h1,t,by rw[if_neg h2];exact ht,htk,rfl⟩))⟩
theorem yv.leaf{c:qe}(h:yv c){K:qv}(hK:vW K)(hp:∀p∈qT c.body,wo K p.args):(∀x∈c.body,x.kind=2->zf (zm K x.atom))/\zf (zm K c.head):=by
 obtain⟨h1,h2,_⟩:=h.bound hp
 exact⟨fun x hx hk=>qoi hK (qmP ((qbV h.ok).2.2 x hx) (.inr hk)) (h2 x hx hk),qoi hK (qbV h.ok).1 h1⟩
end Go.Abs.Tz
namespace Go.Abs.Tz
open Go Go.Abs Go.Proofs
def qhi(F:List Stp):List Atom->qv->List Int->qv->Prop
 |[],K,js,R=>js=[]/\R=K
 |p::ps,K,js,R=>∃(j:Nat)(s:Stp)(K':qv)(js':List Int),F[j]? = some s/\vy K p s.atom=some K'/\js=(j:Int)::js'/\qhi F ps K' js' R
def qbe(S:Atom->Prop):List Atom->qv->qv->Prop
 |[],K,R=>R=K
 |p::ps,K,R=>∃(a:Atom)(K':qv),S a/\vy K p a=some K'/\qbe S ps K' R
def qap(F:List Stp)(a:Atom):Prop:=∃s∈F,s.atom=a
theorem qjo{F:List Stp}:∀{ps:List Atom}{K:qv}{js:List Int}{R:qv},qhi F ps K js R->qbe (qap F) ps K R
 |[],_,_,_,h=>h.2
 |_::_,_,_,_,⟨_,s,K',_,h1,h2,_,h4⟩=>⟨s.atom,K',⟨s,List.mem_iff_getElem?.2 ⟨_,h1⟩,rfl⟩,h2,qjo h4⟩
theorem qmr{F:List Stp}:∀{ps:List Atom}{K:qv}{R:qv},qbe (qap F) ps K R->∃js,qhi F ps K js R
 |[],_,_,h=>⟨[],rfl,h⟩
 |_::_,_,_,⟨a,K',⟨s,hs,e⟩,h2,h3⟩=>by
  obtain⟨js,hjs⟩:=qmr h3
  obtain⟨j,hj⟩:=List.mem_iff_getElem?.1 hs
  exact⟨(j:Int)::js,j,s,K',js,hj,by rw[e];exact h2,rfl,hjs⟩
theorem qbe.mono{S T:Atom->Prop}(h:∀a,S a->T a):∀{ps:List Atom}{K R:qv},qbe S ps K R->qbe T ps K R
 |[],_,_,hc=>hc
 |_::_,_,_,⟨a,K',h1,h2,h3⟩=>⟨a,K',h a h1,h2,qbe.mono h h3⟩
theorem qgY{S:Atom->Prop}(hS:∀a,S a->zf a):∀{ps:List Atom}{K R:qv},vW K->qbe S ps K R->vW R/\w9 K R/\(∀p∈ps,wo R p.args)/\∀p∈ps,S (zm R p)
 |[],K,R,hK,h=>by
  have e:R=K:=h
  subst e
  exact⟨hK,.refl _,fun p hp=>(by cases hp),fun p hp=>(by cases hp)⟩
 |p::ps,K,R,hK,⟨a,K',h1,h2,h3⟩=>by
  obtain⟨g1,g2,g3,g4⟩:=qpr hK (hS a h1) h2
  obtain⟨f1,f2,f3,f4⟩:=qgY hS g1 h3
  refine⟨f1,g2.trans f2,fun q hq=>?_,fun q hq=>?_⟩
  ·rcases List.mem_cons.1 hq with rfl|hq
   ·exact g3.ext f2
   ·exact f3 q hq
  ·rcases List.mem_cons.1 hq with rfl|hq
   ·rw[qvk f2 g3,g4];exact h1
   ·exact f4 q hq
def qca(S:Atom->Prop)(K:qv)(b:List Lit):Prop:=∀x∈b,(x.kind=2->¬S (zm K x.atom))/\(x.kind≠1->x.kind≠2->qbU K x=true)
def wm(S:Atom->Prop)(c:qe)(h:Atom):Prop:=∃R,qbe S (qT c.body) [] R/\qca S R c.body/\h=zm R c.head
theorem wm.good{S:Atom->Prop}(hS:∀a,S a->zf a){c:qe}(hc:yv c){h:Atom}(hh:wm S c h):zf h:=by
 obtain⟨R,h1,_,rfl⟩:=hh
 obtain⟨g1,_,g3,_⟩:=qgY hS .nil h1
 exact(hc.leaf g1 g3).2
theorem qny{F:List Stp}(hF:∀s∈F,qR s.atom=true){a:Atom}(ha:qR a=true):zh (qG a) F=true↔qap F a:=by
 rw[wW]
 constructor
 ·rintro⟨q,hq,e⟩
  exact⟨q,hq,qjB (hF q hq) ha e⟩
 ·rintro⟨q,hq,e⟩
  exact⟨q,hq,by rw[e]⟩
theorem qlL{F:List Stp}(hF:∀s∈F,qR s.atom=true){K:qv}:∀{b:List Lit},(∀x∈b,x.kind=2->qR (zm K x.atom)=true)->(qad F K b=true↔qca (qap F) K b)
 |[],_=>⟨fun _ x hx=>(by cases hx),fun _=>rfl⟩
 |x::r,hb=>by
  have ih:=qlL hF (K:=K) (b:=r) fun y hy=>hb y (List.mem_cons_of_mem _ hy)
  have split:qca (qap F) K (x::r)↔((x.kind=2->¬qap F (zm K x.atom))/\(x.kind≠1->x.kind≠2->qbU K x=true))/\qca (qap F) K r:=by
   constructor
   ·intro h
    exact⟨h x List.mem_cons_self,fun y hy=>h y (List.mem_cons_of_mem _ hy)⟩
   ·rintro⟨h1,h2⟩ y hy
    rcases List.mem_cons.1 hy with rfl|hy
    ·exact h1
    ·exact h2 y hy
  rw[split]
  unfold qad
  by_cases h1:x.kind=1
  ·rw[if_pos h1,ih]
   exact⟨fun h=>⟨⟨fun h2=>by omega,fun h3=>absurd h1 h3⟩,h⟩,fun h=>h.2⟩
  ·rw[if_neg h1]
   by_cases h2:x.kind=2
   ·rw[if_pos h2,Bool.and_eq_true,ih]
    have e:(!zh (qG (zm K x.atom)) F)=true↔¬qap F (zm K x.atom):=by
     rw[<-qny hF (hb x List.mem_cons_self h2)]
     simp
    rw[e]
    exact⟨fun h=>⟨⟨fun _=>h.1,fun _ h3=>absurd h2 h3⟩,h.2⟩,fun h=>⟨h.1.1 h2,h.2⟩⟩
   ·rw[if_neg h2,Bool.and_eq_true,ih]
    exact⟨fun h=>⟨⟨fun h3=>absurd h3 h2,fun _ _=>h.1⟩,h.2⟩,fun h=>⟨h.1.2 h1 h2,h.2⟩⟩
theorem qeS{F:List Stp}{c:qe}:∀{ps:List Atom}{K:qv}{frm:List Int}{x:qv×List Int},x∈vt F c ps K frm↔∃js,qhi F ps K js x.1/\qad F x.1 c.body=true/\x.2=frm++js
 |[],K,frm,x=>by
  unfold vt
  constructor
  ·intro h
   split at h
   ·rename_i hr
    simp at h
    subst h
    exact⟨[],⟨rfl,rfl⟩,hr,by simp⟩
   ·cases h
  ·rintro⟨js,⟨rfl,h2⟩,h3,h4⟩
   rw[<-h2,if_pos h3]
   obtain⟨x1,x2⟩:=x
   simp at h4
   subst h4
   simp
 |p::ps,K,frm,x=>by
  unfold vt
  rw[List.mem_flatMap]
  constructor
  ·rintro⟨j,hj,h⟩
   split at h
   ·rename_i s hs
    split at h
    ·rename_i R hR
     obtain⟨js,h1,h2,h3⟩:=qeS.1 h
     exact⟨(j:Int)::js,⟨j,s,R,js,hs,hR,rfl,h1⟩,h2,by rw[h3];simp⟩
    ·cases h
   ·cases h
  ·rintro⟨js,⟨j,s,K',js',h1,h2,h3,h4⟩,h5,h6⟩
   refine⟨j,List.mem_range.2 (List.getElem?_eq_some_iff.1 h1).1,?_⟩
   rw[h1]
   simp only[h2]
   exact qeS.2 ⟨js',h4,h5,by rw[h6,h3];simp⟩
def qgF(F:List Stp)(c:qe)(ci:Int):List Stp:=(vt F c (qT c.body) [] []).map fun x=>⟨zm x.1 c.head,ci,x.2⟩
theorem qiV(F:List Stp)(c:qe)(ci:Int)(l:List (qv×List Int))(G:List Stp):vu (fun G a frm=>zE F G ⟨a,ci,frm⟩) c l G=(l.map fun x=>(⟨zm x.1 c.head,ci,x.2⟩:Stp)).foldl (zE F) G:=by
 unfold vu
 rw[List.foldl_map]
theorem qnI(F G:List Stp)(s:Stp):zE F G s=G\/(zE F G s=G++[s]/\zh (qG s.atom) F=false/\zh (qG s.atom) G=false):=by
 unfold zE zj
 cases h1:zh (qG s.atom) F
 ·rw[if_neg (by simp)]
  by_cases h2:G.length<=300
  ·rw[if_pos h2]
   cases h3:zh (qG s.atom) G
   ·rw[if_neg (by simp)];exact .inr ⟨rfl,rfl,rfl⟩
   ·exact .inl (if_pos rfl)
  ·rw[if_neg h2];exact .inl rfl
 ·exact .inl (if_pos rfl)
theorem quQ{F G:List Stp}{s:Stp}(h:(zE F G s).length<=300):zh (qG s.atom) F=true\/zh (qG s.atom) (zE F G s)=true:=by
 cases h1:zh (qG s.atom) F
 ·right
  have hG:G.length<=300:=by have:=(qnH F G s).1;omega
  unfold zE zj
  rw[h1,if_neg (by simp),if_pos hG]
  cases h3:zh (qG s.atom) G
  ·rw[if_neg (by simp)]
   exact wW.2 ⟨s,by simp,rfl⟩
  ·rw[if_pos rfl];exact h3
 ·exact .inl rfl
theorem quH{k:ByteArray}{G X:List Stp}(h:zh k G=true):zh k (G++X)=true:=by
 obtain⟨q,hq,e⟩:=wW.1 h
 exact wW.2 ⟨q,List.mem_append_left _ hq,e⟩
theorem qfl(F:List Stp):∀(l G:List Stp),∃X,l.foldl (zE F) G=G++X/\∀q∈X,q∈l
 |[],G=>⟨[],by simp,fun q hq=>by cases hq⟩
 |s::l,G=>by
  obtain⟨X,hX,hX2⟩:=qfl F l (zE F G s)
  rw[List.foldl_cons,hX]
  rcases qnI F G s with e|⟨e,_⟩
  ·exact⟨X,by rw[e],fun q hq=>List.mem_cons_of_mem _ (hX2 q hq)⟩
  ·refine⟨s::X,by rw[e];simp,fun q hq=>?_⟩
   rcases List.mem_cons.1 hq with rfl|hq
   ·exact List.mem_cons_self
   ·exact List.mem_cons_of_mem _ (hX2 q hq)
theorem qnE(F:List Stp):∀(l G:List Stp),(l.foldl (zE F) G).length<=300->∀s∈l,zh (qG s.atom) F=true\/zh (qG s.atom) (l.foldl (zE F) G)=true
 |[],G,_,s,hs=>by cases hs
 |q::l,G,h,s,hs=>by
  rw[List.foldl_cons]at h ⊢
  rcases List.mem_cons.1 hs with rfl|hs
  ·obtain⟨X,hX,_⟩:=qfl F l (zE F G s)
   rw[hX]at h ⊢
   rw[List.length_append]at h
   rcases quQ (F:=F) (G:=G) (s:=s) (by omega) with h1|h1
   ·exact .inl h1
   ·exact .inr (quH h1)
  ·exact qnE F l _ h s hs
theorem qnD(F:List Stp):∀(l G:List Stp),G.length<=301->(l.foldl (zE F) G).length<=301
 |[],_,h=>h
 |s::l,G,h=>qnD F l _ (qnG h)
def qbz(F G:List Stp):Prop:=(G.map fun q=>qG q.atom).Nodup/\∀q∈G,zh (qG q.atom) F=false
theorem qbz.nil(F:List Stp):qbz F []:=⟨.nil,fun q hq=>by cases hq⟩
theorem quR{F G:List Stp}{s:Stp}(h:qbz F G):qbz F (zE F G s):=by
 rcases qnI F G s with e|⟨e,h1,h2⟩
 ·rw[e];exact h
 ·rw[e]
  refine⟨?_,fun q hq=>?_⟩
  ·rw[List.map_append]
   refine List.nodup_append.2 ⟨h.1,by simp,fun x hx y hy hxy=>?_⟩
   simp at hy
   subst hy
   obtain⟨q,hq,e⟩:=List.mem_map.1 hx
   have:zh (qG s.atom) G=true:=wW.2 ⟨q,hq,by rw[e,hxy]⟩
   rw[h2]at this
   cases this
  ·rcases List.mem_append.1 hq with hq|hq
   ·exact h.2 q hq
   ·simp at hq
    subst hq
    exact h1
theorem qnF(F:List Stp):∀(l G:List Stp),qbz F G->qbz F (l.foldl (zE F) G)
 |[],_,h=>h
 |_::l,_,h=>qnF F l _ (quR h)
theorem qpK:∀{G F:List Stp},qbz F G->G.foldl zj F=F++G
 |[],F,_=>by simp
 |s::G,F,h=>by
  obtain⟨h1,h2⟩:=h
  have e:zj F s=F++[s]:=by unfold zj;rw[h2 s List.mem_cons_self,if_neg (by simp)]
  rw[List.map_cons,List.nodup_cons]at h1
  rw[List.foldl_cons,e,qpK ⟨h1.2,fun q hq=>?_⟩]
  ·simp
  ·cases hh:zh (qG q.atom) (F++[s])
   ·rfl
   ·obtain⟨r,hr,er⟩:=wW.1 hh
    rcases List.mem_append.1 hr with hr|hr
    ·have:zh (qG q.atom) F=true:=wW.2 ⟨r,hr,er⟩
     rw[h2 q (List.mem_cons_of_mem _ hq)]at this
     cases this
    ·simp at hr
     subst hr
     exact absurd (List.mem_map.2 ⟨q,hq,er.symm⟩) h1.1
end Go.Abs.Tz
namespace Go.Abs.Tz
open Go Go.Abs Go.Proofs
set_option maxRecDepth 20000
set_option linter.unusedSimpArgs false
attribute [local simp ↓] gF gD uZ uY gd zX qW zk uX zU yq yr gG gI gJ gH jd jg jj je jk jl jh ji jf jb u9 jc ja yo ym yp yn gA gy gC gz gM gK gL ue zz jm qS jn gg yt yu gQ gT gS gN gO g8 jp jw jz jv jx jy j5 j3 jF jH uH uE uS uV uF uN uR uQ uP uO uL uA uB uC uD uT uJ uK uy uU uW uG uI uM uz jL jG jY j8 jI jT jX jW jV jU jR jD j0 jP jQ jA j7 j9 jJ jN jS jB gb j6 jC ga jO jK jM jE jZ jq ju jr gY g7 gW gZ g6 qm uo
attribute [local simp] faL fdL iaL ixL za q9 qN eqK eqL qL ze ut gV yk g9 yb yd yf yh yj ya ye yc yg zr LV.cells LV.whole qm uf zK jo stL zw zF zV qa.alloc ge gc gf gw gv gu gt gq gp gk gj gi gh qd ug
structure NNG2 where
 i:Nat
 n:Nat
 e:qv
structure NNRs where
 i:Nat
 n:Nat
def qgi:qk:=match qaY.body with
 |.seq _ (.seq r _)=>r
 |_=>.bad
theorem qqM(c:qe)(hb:c.body.length<2^40)(K:qv)(hn:(uq K).Nodup)(hargs:∀x∈c.body,x.atom.args.length<=2^20)(hok:∀x∈c.body,x.kind=2->qR (zm K x.atom)=true)
  (F:List Stp) (fo am:Nat) (ownF:Own) (ko t1 t3 t5 t6:Nat) (k:Int) (z2 z4:LV) (ob:List (Nat×qc)) (n:Nat) (hF:ud ob fo am F ownF) (hko:look ko ob=some (.um (qI K))) (l3:look t3 ob=some (.cells [.ptr fo 0])) (l5:look t5 ob=some (.cells (vT c)))
  {KX:XP} (hx1:qad F K c.body=true->∀n',n<=n'->KX .normal ((.nd (.map ko) (.nd (.ptr t1 0) (.nd (.ptr t3 0) .nil (.nd .bot .nil (.nd .bot .nil (.nd (.int c.body.length) .nil .nil)))) (.nd (.ptr t5 0) (.nd .bot .nil (.nd .bot .nil (.nd (wi c.body) .nil .nil))) .nil)) (.nd .bot (.nd .bot .nil (.nd .bot .nil (.nd .bot .nil (.nd (.sc (.bool false)) .nil .nil)))) (.nd (.ptr t6 0) (.nd .bot .nil (.nd .bot .nil (.nd (.int c.body.length) .nil .nil))) .nil)))) ⟨ob,n'⟩)
  (hx2:qad F K c.body=false->∀t' H' n',n<=n'->HWk H' ⟨ob,n'⟩->(H'.Ok->qa.Ok ⟨ob,n'⟩)->KX .ret t' H'):
  lP E0 F0 qgi ((.nd (.map ko) (.nd (.ptr t1 0) (.nd (.ptr t3 0) .nil .nil) (.nd (.ptr t5 0) .nil .nil)) (.nd .bot .nil (.nd (.ptr t6 0) .nil .nil)))) ⟨ob,n⟩ KX:=by
 refine qnb fun hH=>zD ?_
 have b3:t3<n:=hH.look l3
 have b5:t5<n:=hH.look l5
 have bf:fo<n:=hH.look hF.pair
 have bm:am<n:=hH.look hF.map
 have bk:ko<n:=hH.look hko
 simp(disch:=omega)[qgi,qaY,l5]
 obtain⟨A,hA⟩:∃A,qad F K c.body=A:=⟨_,rfl⟩
 rw[hA]at hx1 hx2
 refine qE (σ:=NNRs) (fun q=>(.nd (.map ko) (.nd (.ptr t1 0) (.nd (.ptr t3 0) .nil (.nd .bot .nil (.nd .bot .nil (.nd (.int q.i) .nil .nil)))) (.nd (.ptr t5 0) (.nd .bot .nil (.nd .bot .nil (.nd (wi c.body) .nil .nil))) .nil)) (.nd .bot .nil (.nd (.ptr t6 0) (.nd .bot .nil (.nd .bot .nil (.nd (.int c.body.length) .nil .nil))) .nil)))) (fun q=>⟨ob,q.n⟩) (fun q=>c.body.length - q.i)
  (fun q=>n<=q.n/\q.i<=c.body.length/\qad F K (c.body.drop q.i)=A) ⟨0,n⟩ ⟨Nat.le_refl _,Nat.zero_le _,by simpa using hA⟩ (by simp[FT.Le,Wk]) ⟨HWk.refl _,fun h=>h⟩ ?_
 rintro⟨i,m⟩ ⟨hm,hi,he⟩ hok1
 dsimp only at hm hi he hok1
 by_cases hlt:i<c.body.length
 case neg=>
  rw[List.drop_eq_nil_of_le (by omega)]at he
  have hA1:A=true:=he.symm
  obtain rfl:i=c.body.length:=by omega
  simp(disch:=omega)[hlt]
  exact hx1 hA1 m hm
 rw[List.drop_eq_getElem_cons hlt]at he
 simp only[qad]at he
 have hback:∀(m2:Nat)(x:qc),m+1<=m2->HWk ⟨(m,x)::ob,m2⟩ ⟨ob,m2⟩/\(qa.Ok ⟨(m,x)::ob,m2⟩->qa.Ok ⟨ob,m2⟩):=fun m2 x h2=>zO (H:=⟨ob,m⟩) hok1 (qj.cons hok1 (Nat.le_refl _) (qj.refl (Nat.le_refl _)) (by dsimp only;omega))
 have hmem:c.body[i]∈c.body:=List.getElem_mem hlt
 have hnx:IntKind.wrap .i64 ((i:Int)+1)=((i+1:Nat):Int):=qw (show i<2^62 by omega)
 by_cases k1:c.body[i].kind=1
 ·rw[if_pos k1]at he
  simp(disch:=omega)[hlt,k1,qw (show i<2^62 by omega)]
  obtain⟨g1,g2⟩:=hback (m+1) (.cells (wV c.body[i])) (Nat.le_refl _)
  exact⟨⟨i+1,m+1⟩,by dsimp only;omega,⟨by dsimp only;omega,by dsimp only;omega,he⟩,by simp[FT.Le,Wk],by simpa [wV,k1] using g1,by simpa [wV,k1] using g2⟩
 rw[if_neg k1]at he
 by_cases k2:c.body[i].kind=2
 ·rw[if_pos k2]at he
  simp(disch:=omega)[hlt,k1,k2,l3,hF.pair]
  refine qkB c.body[i].atom (hargs _ hmem) K hn ko _ (by dsimp only;rw[qd (by omega)];exact hko) fun m2 hm2=>?_
  dsimp only at hm2
  simp(disch:=omega)[l3,hF.pair]
  refine(qfQ _ (hok _ hmem k2)).go fun m3 hm3=>?_
  simp(disch:=omega)[l3,hF.pair]
  rw[lkM (by rw[qd (by omega)];exact hF.map)]
  have hh:zh (qG (zm K c.body[i].atom)) F=(vj (qG (zm K c.body[i].atom)) (y8 F 0)).isSome:=rfl
  cases hl:vj (qG (zm K c.body[i].atom)) (y8 F 0) with
  |some v=>
   rw[hh,hl]at he
   have hA0:A=false:=he.symm
   simp(disch:=omega)[l3,hF.pair]
   obtain⟨g1,g2⟩:=hback m3 (.cells (wV c.body[i])) (by omega)
   exact hx2 hA0 _ _ m3 (by omega) (by simpa [wV,k2] using g1) (by simpa [wV,k2] using g2)
  |none=>
   rw[hh,hl]at he
   simp(disch:=omega)[l3,hF.pair,qw (show i<2^62 by omega)]
   obtain⟨g1,g2⟩:=hback m3 (.cells (wV c.body[i])) (by omega)
   exact⟨⟨i+1,m3⟩,by dsimp only;omega,⟨by dsimp only;omega,by dsimp only;omega,by simpa using he⟩,by simp[FT.Le,Wk],by simpa [wV,k2] using g1,by simpa [wV,k2] using g2⟩
 rw[if_neg k2]at he
 simp(disch:=omega)[hlt,k1,k2]
 refine qrq c.body[i] K hn ko _ (by dsimp only;rw[qd (by omega)];exact hko) fun m2 hm2=>?_
 dsimp only at hm2
 cases hc:qbU K c.body[i]
 ·rw[hc]at he
  have hA0:A=false:=he.symm
  simp(disch:=omega)
  obtain⟨g1,g2⟩:=hback m2 (.cells (wV c.body[i])) hm2
  exact hx2 hA0 _ _ m2 (by omega) g1 g2
 ·rw[hc]at he
  simp(disch:=omega)[qw (show i<2^62 by omega)]
  obtain⟨g1,g2⟩:=hback m2 (.cells (wV c.body[i])) hm2
  exact⟨⟨i+1,m2⟩,by dsimp only;omega,⟨by dsimp only;omega,by dsimp only;omega,by simpa using he⟩,by simp[FT.Le,Wk],g1,g2⟩
end Go.Abs.Tz
namespace Go.Abs.Tz
open Go Go.Abs Go.Proofs
theorem qoR(b off n c:Nat)(zs:List Int)(w:World)(hz:zs.length=n)(hbig:n<=2^40)(hc:∀j z,zs[j]? = some z->w.cell? ⟨b,off+j,none⟩=some (.int .i64 z)):
  Calls Tryz.prog 194 #[.slice (some ⟨b,off,none⟩) n c] w fun e w'=>∃v,e=.returned v/\w.grownBy w' none /\
   ((v=.slice none 0 0/\zs=[])\/∃g cap,v=.slice (some (at_ g 0)) zs.length cap/\w.heap.size<=g/\g<w'.heap.size/\zs.length<=cap/\∀i z,zs[i]? = some z->w'.cell? (at_ g i)=some (.int .i64 z)):=by
 refine(Tryz.slices_Clone_int b off n c zs w (by omega) (by omega) (fun j hj=>?_)).mono ?_
 ·rw[hc j zs[j] (List.getElem?_eq_getElem hj),List.getD_eq_getElem?_getD,List.getElem?_eq_getElem hj];rfl
 ·rintro e w' ⟨v',rfl,⟨hl,hr⟩,hne,hw⟩
  refine⟨v',rfl,qgH hw,?_⟩
  rcases hr with⟨h1,_⟩|⟨g,cap,cur,h1,h2,h3,h4,h5,h6,h7⟩
  ·exact absurd h1 hne
  ·subst hz
   refine .inr ⟨g,cap,h1,h2,(Array.getElem?_eq_some_iff.1 h3).1,h4,fun i z hi=>?_⟩
   have hil:i<zs.length:=(List.getElem?_eq_some_iff.1 hi).1
   have h8:(cur.toList.take (zs.length*1))[i]? = some (.int .i64 z):=by
    rw[h7,List.take_length,List.getElem?_map,hi];rfl
   rw[List.getElem?_take,if_pos (by omega)]at h8
   have h9:cur[i]? = some (.int .i64 z):=by simpa using h8
   unfold World.cell?
   simp only[h3]
   simpa using h9
theorem qrx(H:qa)(o len:Nat)(cs:List LV)(zs:List Int)(hl:look o H.objs=some (.arr 1 cs))(hlen:len<=cs.length)(hz:cs.take len=zs.map fun z=>.int z)(hbig:len<=2^40)
  {kv kp:HP} (hk:kv (.sl (zs.map fun z=>.int z) .no) H):cP E0 F0 194 [.asl o 0 len] H kv kp:=by
 intro hH
 refine .prim (qph (zs:=zs) (enters_of (by kernel_rfl)) (.inl ⟨_,H,rfl,hH,hk⟩) fun G w us hI ha=>?_)
 obtain⟨u,rfl,hu⟩:=qcF ha
 obtain⟨hon,cap,hcap,_,rfl⟩:=hu.asl_inv
 obtain⟨_,vs,el,fz,h1,h2,h3,⟨h4,_,_⟩,h5,h6,h7⟩:=hI.objs o _ hl
 have hzl:zs.length=len:=by
  have:=congrArg List.length hz
  simpa [List.length_take,Nat.min_eq_left hlen] using this.symm
 rw[Nat.zero_mul]
 refine qoR (G.loc o) 0 len cap zs w hzl hbig fun j z hj=>?_
 have hjl:j<len:=by rw[<-hzl];exact(List.getElem?_eq_some_iff.1 hj).1
 have hcj:cs[j]? = some (.int z):=by
  have:(cs.take len)[j]? = some (.int z):=by rw[hz,List.getElem?_map,hj];rfl
  rwa [List.getElem?_take,if_pos hjl]at this
 have hv:=(h7 j _ hcj).1.sc_inv
 have hjv:j<vs.size:=by omega
 unfold World.cell?
 simp only[h1,Nat.zero_add]
 rw[Array.getD_eq_getD_getElem?,Array.getElem?_eq_getElem hjv]at hv
 simp only[Option.getD_some]at hv
 rw[Array.getElem?_eq_getElem hjv,hv]
 rfl
theorem qrw(zs:List Int)(own:Own)(hbig:zs.length<=2^40)(H:qa){kv kp:HP}(hk:kv (.sl (zs.map fun z=>.int z) .no) H):cP E0 F0 194 [.sl (zs.map fun z=>.int z) own] H kv kp:=by
 intro hH
 refine .prim (qph (zs:=zs) (enters_of (by kernel_rfl)) (.inl ⟨_,H,rfl,hH,hk⟩) fun G w us hI ha=>?_)
 obtain⟨u,rfl,hu⟩:=qcF ha
 obtain⟨base,cap,rfl,hcap,_,hc⟩:=hu.sl_inv
 rw[List.length_map]at hcap ⊢
 have hg:∀(j:Nat) z,zs[j]? = some z->(zs.map fun z=>LV.int z)[j]? = some (.int z):=fun j z h=>by rw[List.getElem?_map,h];rfl
 rcases hc with⟨h1,rfl,_⟩|⟨b,off,sz,xv,rfl,hsz,hx,hr⟩
 ·have:zs=[]:=by simpa using h1
  subst this
  cases base with
  |none=>
   refine(Tryz.slices_Clone_int_nil 0 0 w).mono ?_
   rintro e w' ⟨rfl,rfl⟩
   exact⟨_,rfl,qdR _,.inl ⟨rfl,rfl⟩⟩
  |some a=>
   refine(Tryz.slices_Clone_int_zero a 0 w).mono ?_
   rintro e w' ⟨v',rfl,⟨hl,hr⟩,hne,hw⟩
   refine⟨v',rfl,qgH hw,?_⟩
   rcases hr with⟨h1,_⟩|⟨g,cap,cur,h1,h2,h3,h4,h5,h6,h7⟩
   ·exact absurd h1 hne
   ·exact .inr ⟨g,cap,h1,h2,(Array.getElem?_eq_some_iff.1 h3).1,h4,fun i z hi=>by simp at hi⟩
 ·refine qoR b off zs.length cap zs w rfl hbig fun j z hj=>?_
  have hz1:sz=1:=(hsz j _ (hg j z hj)).symm
  subst hz1
  obtain⟨_,h2,_⟩:=hx j _ 0 _ (hg j z hj) rfl
  have h3:=(hr j _ 0 _ (hg j z hj) rfl).sc_inv
  rw[h3]at h2
  simpa using h2
end Go.Abs.Tz
namespace Go.Abs.Tz
open Go Go.Abs Go.Proofs
set_option maxRecDepth 20000
set_option linter.unusedSimpArgs false
attribute [local simp ↓] gF gD uZ uY gd zX qW zk uX zU yq yr gG gI gJ gH jd jg jj je jk jl jh ji jf jb u9 jc ja yo ym yp yn gA gy gC gz gM gK gL ue zz jm qS jn gg yt yu gQ gT gS gN gO g8 jp jw jz jv jx jy j5 j3 jF jH uH uE uS uV uF uN uR uQ uP uO uL uA uB uC uD uT uJ uK uy uU uW uG uI uM uz jL jG jY j8 jI jT jX jW jV jU jR jD j0 jP jQ jA j7 j9 jJ jN jS jB gb j6 jC ga jO jK jM jE jZ jq ju jr gY g7 gW gZ g6 qm uo
attribute [local simp] faL fdL iaL ixL za q9 qN eqK eqL qL ze ut gV yk g9 yb yd yf yh yj ya ye yc yg zr LV.cells LV.whole qm uf zK jo stL zw zF zV qa.alloc ge gc gf gw gv gu gt gq gp gk gj gi gh qd ug
def qbd(ob:List (Nat×qc))(v:LV)(frm:List Int):Prop:=(v=Nl/\frm=[])\/∃ao cs,v=.asl ao 0 frm.length/\look ao ob=some (.arr 1 cs)/\frm.length<=cs.length/\cs.take frm.length=frm.map LV.int
theorem qry{ob:List (Nat×qc)}{v:LV}{frm:List Int}(h:qbd ob v frm)(hl:frm.length<=2^40){n:Nat}{kv kp:HP}(hk:kv (.sl (frm.map LV.int) .no) ⟨ob,n⟩):cP E0 F0 194 [v] ⟨ob,n⟩ kv kp:=by
 rcases h with⟨rfl,rfl⟩|⟨ao,cs,rfl,h1,h2,h3⟩
 ·exact qrw [] .full (by simp) _ hk
 ·exact qrx ⟨ob,n⟩ ao frm.length cs frm h1 h2 h3 hl hk
def qiN:qk:=match qaY.body with
 |.seq h _=>h
 |_=>.bad
def qfO:qk:=match qaY.body with
 |.seq _ (.seq _ t)=>t
 |_=>.bad
theorem qpq:qaY.body=.seq qiN (.seq qgi qfO):=rfl
theorem qbd.len{ob:List (Nat×qc)}{v:LV}{frm:List Int}(h:qbd ob v frm)(H:qa):qN H 1 v=some frm.length:=by
 rcases h with⟨rfl,rfl⟩|⟨ao,cs,rfl,_⟩<;>rfl
def qco:qc->Bool
 |.cells _=>true
 |.map _=>true
 |.tok _ _=>true
 |_=>false
def vz(L ob:List (Nat×qc)):Prop:=∀p∈L,look p.1 ob=some p.2
structure qeq(σ:Type) where
 fn:FuncId
 cap:List LV
 Stat:List (Nat×qc)
 At:List (Nat×qc)->σ->(Nat->Prop)->Prop
 step:σ->Atom->List Int->σ
 lim:σ->Prop
 lim_step:∀s a frm,lim s->lim (step s a frm)
 at_look:∀(ob:List (Nat×qc))(s:σ)(S:Nat->Prop)(i:Nat),At ob s S->S i->∃x,look i ob=some x/\qco x=true
 at_keep:∀(ob ob':List (Nat×qc))(s:σ)(S:Nat->Prop),At ob s S->(∀i,S i->look i ob'=look i ob)->At ob' s S
 ok:∀(ob:List (Nat×qc))(n:Nat)(s:σ)(S:Nat->Prop)(a:Atom)(frm:List Int)(kv kp:HP),lim s->qR a=true->At ob s S->vz Stat ob->(∀p∈Stat,¬S p.1)->qK ob ->
  (∀ob' n' S',n<=n'->At ob' (step s a frm) S'->(∀i,S' i->S i\/n<=i)->qK ob'->(∀i,i<n->¬S i->look i ob'=look i ob)->kv (.tup []) ⟨ob',n'⟩) ->
  cP E0 F0 fn ([qh a,.sl (frm.map LV.int) .no]++cap) ⟨ob,n⟩ kv kp
structure ChI where
 c:qe
 F:List Stp
 fo:Nat
 am:Nat
 ownF:Own
 ow:Own
 t1:Nat
 t2:Nat
 t3:Nat
 t4:Nat
 t5:Nat
 t6:Nat
 L:List (Nat×qc)
structure ChOk{σ:Type}(D:qeq σ)(I:ChI):Prop where
 good:yv I.c
 hDL:∀p∈D.Stat,p∈I.L
 pl:∀p∈I.L,qco p.2=true
 hF:∀ob,vz I.L ob->ud ob I.fo I.am I.F I.ownF
 Fg:∀s∈I.F,zf s.atom
 Fl:I.F.length<=2^20
 t1L:∀p∈I.L,p.1≠I.t1
 e2:(I.t2,qc.cells [.sl ((qT I.c.body).map qh) I.ow])∈I.L
 e3:(I.t3,qc.cells [.ptr I.fo 0])∈I.L
 e4:(I.t4,qc.cells [.fn (.func 192) [] [.ptr I.t1 0,.ptr I.t2 0,.ptr I.t3 0,.ptr I.t4 0,.ptr I.t5 0,.ptr I.t6 0]])∈I.L
 e5:(I.t5,qc.cells (vT I.c))∈I.L
 e6:(I.t6,qc.cells [.fn (.func D.fn) [] D.cap])∈I.L
structure qdw{σ:Type}(D:qeq σ)(I:ChI)(ob:List (Nat×qc))(G:σ)(S:Nat->Prop)(frm:List Int)(fv:LV):Prop where
 st:vz I.L ob
 at_:D.At ob G S
 sep:∀p∈I.L,¬S p.1
 c1:look I.t1 ob=some (.cells [fv])
 t1S:¬S I.t1
 fr:qbd ob fv frm
 ni:qK ob
def qjP(I:ChI)(n:Nat)(S:Nat->Prop)(fv:LV)(ob ob':List (Nat×qc)):Prop:=∀i,i<n->¬S i->i≠I.t1->(∀a o l,fv=.asl a o l->i≠a)->look i ob'=look i ob
section
variable{σ:Type}{D:qeq σ}{I:ChI}
theorem qdw.notS(hC:ChOk D I){ob:List (Nat×qc)}{G:σ}{S:Nat->Prop}{frm:List Int}{fv:LV}(h:qdw D I ob G S frm fv){i:Nat}{x:qc}(hl:look i ob=some x)(hx:qco x=false):¬S i:=fun hs=>by
 obtain⟨y,h1,h2⟩:=D.at_look _ _ _ _ h.at_ hs
 rw[hl]at h1
 cases h1
 rw[hx]at h2
 cases h2
theorem qbd.keep{ob ob':List (Nat×qc)}{v:LV}{frm:List Int}(h:qbd ob v frm)(hk:∀a o l,v=.asl a o l->look a ob'=look a ob):qbd ob' v frm:=by
 rcases h with h|⟨ao,cs,h1,h2,h3⟩
 ·exact .inl h
 ·exact .inr ⟨ao,cs,h1,by rw[hk _ _ _ h1];exact h2,h3⟩
theorem qrC(hC:ChOk D I)(K:qv)(frm:List Int)(G:σ)(hK:vW K)(hb:∀p∈qT I.c.body,wo K p.args)(hpos:(qT I.c.body).length=frm.length)(hfl:frm.length<=2^20)(hlim:D.lim G)
  (ob:List (Nat×qc)) (n:Nat) (S:Nat->Prop) (fv:LV) (ko:Nat) (h:qdw D I ob G S frm fv) (hko:look ko ob=some (.um (qI K))) {kv kp:HP}
  (hk:∀ob' n' S' fv',n<=n'->qdw D I ob' (vu D.step I.c (vt I.F I.c [] K frm) G) S' frm fv'->(∀i,S' i->S i\/n<=i)->(∀a o l,fv'=.asl a o l->n<=a\/∃o2 l2,fv=.asl a o2 l2)->qjP I n S fv ob ob'->kv (.tup []) ⟨ob',n'⟩):
  cP E0 F0 192 [.map ko,.ptr I.t1 0,.ptr I.t2 0,.ptr I.t3 0,.ptr I.t4 0,.ptr I.t5 0,.ptr I.t6 0] ⟨ob,n⟩ kv kp:=by
 refine qdn c192 (Nat.le_of_ble_eq_true rfl) fun hH=>?_
 rw[qpq]
 have hF:=hC.hF ob h.st
 have l1:=h.c1
 have l2:look I.t2 ob=some (.cells [.sl ((qT I.c.body).map qh) I.ow]):=h.st _ hC.e2
 have l3:look I.t3 ob=some (.cells [.ptr I.fo 0]):=h.st _ hC.e3
 have l5:look I.t5 ob=some (.cells (vT I.c)):=h.st _ hC.e5
 have l6:look I.t6 ob=some (.cells [.fn (.func D.fn) [] D.cap]):=h.st _ hC.e6
 have b1:I.t1<n:=hH.look l1
 have b5:I.t5<n:=hH.look l5
 have b6:I.t6<n:=hH.look l6
 obtain⟨cp1,cp2,cp3⟩:=qbV hC.good.ok
 obtain⟨g1,g2⟩:=hC.good.leaf hK hb
 have hargs:∀x∈I.c.body,x.atom.args.length<=2^20:=fun x hx=>by have:=qtU (cp3 x hx);omega
 have hh:I.c.head.args.length<=2^20:=by have:=(qdq cp1).1;omega
 have hlt:¬(frm.length:Int)<(((qT I.c.body).length:Nat):Int):=by omega
 simp(disch:=omega)
 refine yA (zD ?_)
 simp(disch:=omega)[qiN,qaY,l1,l2]
 refine⟨frm.length,h.fr.len ⟨ob,n⟩,?_⟩
 simp(disch:=omega)[l2,hlt]
 show lP E0 F0 (.seq qgi qfO) _ _ _
 refine wc (t':=(.nd (.map ko) (.nd (.ptr I.t1 0) (.nd (.ptr I.t3 0) .nil .nil) (.nd (.ptr I.t5 0) .nil .nil)) (.nd .bot .nil (.nd (.ptr I.t6 0) .nil .nil)))) (fun l h=>by cases h) (by simp[FT.Le,Wk]) (HWk.refl _) (fun h=>h) ?_
 refine yA (qqM I.c (by omega) K hK.nd hargs (fun x hx hk2=>(g1 x hx hk2).1) I.F I.fo I.am I.ownF ko I.t1 I.t3 I.t5 I.t6 0 .bot .bot ob n hF hko l3 l5 (fun hr n2 hn2=>?_) (fun hr t' H' n2 hn2 hwk hok2=>?_))
 ·show lP E0 F0 qfO _ _ _
  refine zD ?_
  simp(disch:=omega)[qfO,qaY,l1,l5,l6]
  refine qkB I.c.head hh K hK.nd ko ⟨ob,n2⟩ hko fun n3 hn3=>?_
  dsimp only at hn3
  simp(disch:=omega)[l1,l5,l6]
  refine qry h.fr (by omega) ?_
  simp(disch:=omega)[l1,l5,l6]
  have e:vu D.step I.c (vt I.F I.c [] K frm) G=D.step G (zm K I.c.head) frm:=by simp[vu,vt,hr]
  rw[e]at hk
  refine D.ok ob n3 G S (zm K I.c.head) frm _ _ hlim g2.1 h.at_ (fun p hp=>h.st p (hC.hDL p hp)) (fun p hp=>h.sep p (hC.hDL p hp)) h.ni fun ob' n4 S' hn4 hA' hS' hni hsame=>?_
  simp(disch:=omega)[qS]
  have hst:vz I.L ob':=fun p hp=>by
   rw[hsame _ ?_ (h.sep p hp)]
   ·exact h.st p hp
   ·have:p.1<n:=hH.look (h.st p hp)
    omega
  refine⟨_,HWk.refl _,fun h=>h,hk ob' n4 S' fv (by omega) ⟨hst,hA',fun p hp hs=>?_,?_,fun hs=>?_,h.fr.keep fun a o l he=>?_,hni⟩ (fun i hi=>(hS' i hi).imp id fun h=>by omega) (fun a o l he=>.inr ⟨o,l,he⟩) fun i hi h1 _ _=>hsame i (by omega) h1⟩
  ·have:p.1<n:=hH.look (h.st p hp)
   rcases hS' _ hs with h1|h1
   ·exact h.sep p hp h1
   ·omega
  ·rw[hsame _ (by omega) h.t1S];exact l1
  ·rcases hS' _ hs with h1|h1
   ·exact h.t1S h1
   ·omega
  ·rcases h.fr with⟨e1,_⟩|⟨ao,cs,e1,e2,_⟩
   ·rw[e1]at he;cases he
   ·rw[e1]at he
    simp only[LV.asl.injEq]at he
    obtain⟨rfl,rfl,rfl⟩:=he
    have:=hH.look e2
    dsimp only at this
    exact hsame _ (by omega) (h.notS hC e2 rfl)
 ·have e:vu D.step I.c (vt I.F I.c [] K frm) G=G:=by simp[vu,vt,hr]
  rw[e]at hk
  show yZ E0 qaY.res t' H' _
  rw[show qaY.res=[] from rfl,qS]
  exact⟨_,hwk,hok2,hk ob n2 S fv hn2 h (fun i hi=>.inl hi) (fun a o l he=>.inr ⟨o,l,he⟩) fun _ _ _ _ _=>rfl⟩
end
theorem qtR{i j:Nat}(h:i≠j)(l:List (Nat×qc)):look i (zB j l)=look i l:=by rw[qct,if_neg h]
theorem qtQ{j:Nat}{l:List (Nat×qc)}{i:Nat}{x:qc}(h:look i (zB j l)=some x):look i l=some x:=by
 rw[qct]at h
 split at h
 ·cases h
 ·exact h
theorem qK.del{ob:List (Nat×qc)}(h:qK ob)(m:Nat):qK (zB m ob):=qdK.2 fun i y hy=>qdK.1 h i y (qtQ hy)
theorem quP{ob:List (Nat×qc)}{v:LV}{frm:List Int}(h:qbd ob v frm)(hl:frm.length<=2^20)(j:Int)(n:Nat):
  ∃ob',wl ⟨ob,n⟩ 1 v (.sl [.int j] .full)=some (.asl n 0 (frm.length+1),⟨ob',n+1⟩)/\qbd ob' (.asl n 0 (frm.length+1)) (frm++[j])/\(qK ob->qK ob')/\∀i,i≠n->(∀a o l,v=.asl a o l->i≠a)->look i ob'=look i ob:=by
 rcases h with⟨rfl,rfl⟩|⟨ao,cs,rfl,h1,h2,h3⟩
 ·refine⟨(n,.arr 1 [.int j])::ob,rfl,.inr ⟨n,[.int j],rfl,qm _ _ _,by simp,by simp⟩,fun hI=>hI.cons _ rfl,fun i hi _=>qd hi _ _⟩
 ·have e:wK ⟨ob,n⟩ 1 (.asl ao 0 frm.length)=some (cs.take (frm.length*1),⟨zB ao ob,n⟩,frm.length):=by
   simp only[wK,h1]
   rw[if_pos ⟨trivial,by omega⟩]
   rfl
  have e2:qbn ⟨ob,n⟩ 1 (.sl [.int j] .full)=some ([.int j],1):=rfl
  refine⟨(n,.arr 1 (cs.take (frm.length*1)++[.int j]))::zB ao ob,?_,.inr ⟨n,_,by simp,qm _ _ _,?_,?_⟩,fun hI=>(hI.del _).cons _ rfl,fun i hi hne=>?_⟩
  ·unfold wl
   rw[e,e2]
   simp only
   rw[if_neg (by omega),if_pos ⟨by omega,by omega⟩]
   rfl
  ·simp only[List.length_append,List.length_take,List.length_cons,List.length_nil]
   omega
  ·rw[Nat.mul_one,h3,List.take_of_length_le (by simp),List.map_append]
   rfl
  ·rw[qd hi,qtR (hne ao 0 frm.length rfl)]
structure NNCh(σ:Type) where
 i:Nat
 n:Nat
 ob:List (Nat×qc)
 G:σ
 S:Nat->Prop
 fv:LV
section
variable{σ:Type}{D:qeq σ}{I:ChI}
def qdQ(F:List Stp)(c:qe)(p:Atom)(ps:List Atom)(K:qv)(frm:List Int)(i:Nat):List (qv×List Int):=((List.range F.length).drop i).flatMap fun j=>match F[j]? with
  |some s=>match vy K p s.atom with
   |some R=>vt F c ps R (frm++[(j:Int)])
   |none=>[]
  |none=>[]
theorem qnl(F:List Stp)(c:qe)(p:Atom)(ps:List Atom)(K:qv)(frm:List Int){i:Nat}(h:i<F.length):qdQ F c p ps K frm i=(match vy K p F[i].atom with
   |some R=>vt F c ps R (frm++[(i:Int)])
   |none=>[])++qdQ F c p ps K frm (i+1):=by
 unfold qdQ
 rw[List.drop_eq_getElem_cons (by simpa using h),List.flatMap_cons]
 congr 1
 rw[List.getElem_range,List.getElem?_eq_getElem h]
theorem quY{step:σ->Atom->List Int->σ}{c:qe}(l m:List (qv×List Int))(s:σ):vu step c (l++m) s=vu step c m (vu step c l s):=List.foldl_append ..
theorem qnQ(c:qe):∀(l:List (qv×List Int))(s:σ),D.lim s->D.lim (vu D.step c l s)
 |[],_,h=>h
 |x::l,s,h=>qnQ c l _ (D.lim_step s _ _ h)
theorem qkF(hC:ChOk D I):∀(ps:List Atom)(don:List Atom)(K:qv)(frm:List Int)(G:σ),qT I.c.body=don++ps->don.length=frm.length->vW K->(∀p∈don,wo K p.args)->D.lim G ->
  ∀(ob:List (Nat×qc))(n:Nat)(S:Nat->Prop)(fv:LV)(ko:Nat),qdw D I ob G S frm fv->look ko ob=some (.um (qI K))->∀{kv kp:HP},
  (∀ob' n' S' fv',n<=n'->qdw D I ob' (vu D.step I.c (vt I.F I.c ps K frm) G) S' frm fv'->(∀i,S' i->S i\/n<=i)->(∀a o l,fv'=.asl a o l->n<=a\/∃o2 l2,fv=.asl a o2 l2)->qjP I n S fv ob ob'->kv (.tup []) ⟨ob',n'⟩) ->
  cP E0 F0 192 [.map ko,.ptr I.t1 0,.ptr I.t2 0,.ptr I.t3 0,.ptr I.t4 0,.ptr I.t5 0,.ptr I.t6 0] ⟨ob,n⟩ kv kp
 |[],don,K,frm,G,hp,hd,hK,hb,hlim,ob,n,S,fv,ko,h,hko,_,_,hk=>by
  rw[List.append_nil]at hp
  have hpl:(qT I.c.body).length<=5:=by
   obtain⟨_,h2,_⟩:=qbV hC.good.ok
   unfold qT
   rw[List.length_map]
   exact Nat.le_trans (List.length_filter_le _ _) h2
  exact qrC hC K frm G hK (by rw[hp];exact hb) (by rw[hp,hd]) (by rw[<-hd,<-hp];omega) hlim ob n S fv ko h hko hk
 |p::ps,don,K,frm,G,hp,hd,hK,hb,hlim,ob,n,S,fv,ko,h,hko,kv,kp,hk=>by
  have hpl:(qT I.c.body).length<=5:=by
   obtain⟨_,h2,_⟩:=qbV hC.good.ok
   unfold qT
   rw[List.length_map]
   exact Nat.le_trans (List.length_filter_le _ _) h2
  have hpl2:(qT I.c.body).length=frm.length+(ps.length+1):=by rw[hp,List.length_append,hd,List.length_cons]
  have hget:(qT I.c.body)[frm.length]? = some p:=by rw[hp,List.getElem?_append_right (by omega),hd];simp
  have hpok:qR p=true:=hC.good.posOk p (by rw[hp];simp)
  refine qdn c192 (Nat.le_of_ble_eq_true rfl) fun hH=>?_
  rw[qpq]
  have hF:=hC.hF ob h.st
  have l1:=h.c1
  have l2:look I.t2 ob=some (.cells [.sl ((qT I.c.body).map qh) I.ow]):=h.st _ hC.e2
  have l3:look I.t3 ob=some (.cells [.ptr I.fo 0]):=h.st _ hC.e3
  have hlt:(frm.length:Int)<(((qT I.c.body).length:Nat):Int):=by omega
  simp(disch:=omega)
  refine yA (zD ?_)
  simp(disch:=omega)[qiN,qaY,l1,l2]
  refine⟨frm.length,h.fr.len ⟨ob,n⟩,?_⟩
  simp(disch:=omega)[l2,l3,hF.pair,hlt]
  obtain⟨A,hA⟩:∃A,vu D.step I.c (vt I.F I.c (p::ps) K frm) G=A:=⟨_,rfl⟩
  rw[hA]at hk
  refine qE (σ:=NNCh σ) (fun q=>(.nd (.map ko) (.nd (.ptr I.t1 0) (.nd (.ptr I.t3 0) .nil .nil) (.nd (.ptr I.t5 0) (.nd .bot .nil (.nd (.int I.F.length) .nil .nil)) .nil)) (.nd (.ptr I.t2 0) (.nd (.ptr I.t4 0) (.nd (.int frm.length) .nil .nil) .nil) (.nd (.ptr I.t6 0) (.nd .bot .nil (.nd (.int q.i) .nil .nil)) .nil)))) (fun q=>⟨q.ob,q.n⟩) (fun q=>I.F.length - q.i)
   (fun q=>n<=q.n/\q.i<=I.F.length/\D.lim q.G/\vu D.step I.c (qdQ I.F I.c p ps K frm q.i) q.G=A/\qdw D I q.ob q.G q.S frm q.fv/\(∀i,q.S i->S i\/n<=i)/\(∀a o l,q.fv=.asl a o l->n<=a\/∃o2 l2,fv=.asl a o2 l2)/\qjP I n S fv ob q.ob)
   ⟨0,n,ob,G,S,fv⟩ ⟨Nat.le_refl _,Nat.zero_le _,hlim,hA,h,fun i hi=>.inl hi,fun a o l he=>.inr ⟨o,l,he⟩,fun _ _ _ _ _=>rfl⟩ (by simp[FT.Le,Wk]) ⟨HWk.refl _,fun h=>h⟩ ?_
  rintro⟨i,m,ob1,G1,S1,fv1⟩ ⟨hm,hi,hlim1,hfold,h1,hS1,hfv1,hkept⟩ hok
  dsimp only at hm hi hlim1 hfold h1 hS1 hfv1 hkept hok
  by_cases hin:i<I.F.length
  case neg=>
   obtain rfl:i=I.F.length:=by omega
   have e:vu D.step I.c (qdQ I.F I.c p ps K frm I.F.length) G1=G1:=by
    unfold qdQ
    rw[List.drop_eq_nil_of_le (by simp)]
    rfl
   rw[e]at hfold
   simp(disch:=omega)[qS]
   exact⟨_,HWk.refl _,fun h=>h,hk ob1 m S1 fv1 hm (by rw[<-hfold];exact h1) hS1 hfv1 hkept⟩
  have hF1:=hC.hF ob1 h1.st
  have k1:=h1.c1
  have k2:look I.t2 ob1=some (.cells [.sl ((qT I.c.body).map qh) I.ow]):=h1.st _ hC.e2
  have k3:look I.t3 ob1=some (.cells [.ptr I.fo 0]):=h1.st _ hC.e3
  have k4:=h1.st _ hC.e4
  dsimp only at k4
  have b1:I.t1<m:=hok.look k1
  have hge:(qT I.c.body)[frm.length]'(by omega)=p:=by
   rw[List.getElem?_eq_getElem (by omega)]at hget
   exact Option.some.inj hget
  have hkn:ko<n:=hH.look hko
  have hko1:look ko ob1=some (.um (qI K)):=by
   rw[hkept ko hkn (h.notS hC hko rfl) (fun e=>by rw[e,l1]at hko;cases hko) (fun a o l he e=>?_)]
   ·exact hko
   ·rcases h.fr with⟨e1,_⟩|⟨ao,cs,e1,e2,_⟩
    ·rw[e1]at he;cases he
    ·rw[e1]at he
     simp only[LV.asl.injEq]at he
     rw[he.1,<-e,hko]at e2
     cases e2
  simp(disch:=omega)[hin,k2,k3,hF1.pair,hge,hpl2]
  refine qrG p I.F[i].atom (qfy hpok) (qfy (hC.Fg _ (List.getElem_mem hin)).1) _ ko K hko1 (fun i m l k n hl=>absurd hl (h1.ni _ _ _ _ _)) hK.nd (fun hbn=>?_) (fun R hbr=>?_)
  ·rw[qnl _ _ _ _ _ _ hin,hbn]at hfold
   simp(disch:=omega)[k2,k3,hF1.pair,qw (show i<2^62 by have:=hC.Fl;omega)]
   exact⟨⟨i+1,m,ob1,G1,S1,fv1⟩,by dsimp only;omega,⟨hm,by dsimp only;omega,hlim1,hfold,h1,hS1,hfv1,hkept⟩,by simp[FT.Le,Wk],HWk.refl _,fun h=>h⟩
  ·rw[qnl _ _ _ _ _ _ hin,hbr,quY]at hfold
   have hfr1:qbd ((m+2,.um (qI R))::ob1) fv1 frm:=h1.fr.keep fun a o l he=>by
    rcases h1.fr with⟨e1,_⟩|⟨ao,cs,e1,e2,_⟩
    ·rw[e1]at he;cases he
    ·rw[e1]at he
     simp only[LV.asl.injEq]at he
     rw[<-he.1]
     have:=hok.look e2
     dsimp only at this
     exact qd (by omega) _ _
   have hfl:frm.length<=2^20:=by omega
   obtain⟨ob2,ha,hfr2,hni2,hkeep2⟩:=quP hfr1 hfl (i:Int) (m+3)
   have hob2:∀j,j<m->(∀a o l,fv1=.asl a o l->j≠a)->look j ob2=look j ob1:=fun j hj hne=>by
    rw[hkeep2 j (by omega) hne,qd (by omega)]
   have hna:∀j x,look j ob1=some x->qco x=true->∀a o l,fv1=.asl a o l->j≠a:=fun j x hx hpx a o l he e=>by
    rcases h1.fr with⟨e1,_⟩|⟨ao,cs,e1,e2,_⟩
    ·rw[e1]at he;cases he
    ·rw[e1]at he
     simp only[LV.asl.injEq]at he
     rw[he.1,<-e,hx]at e2
     cases e2
     cases hpx
   have hpl2':∀j x,look j ob1=some x->qco x=true->look j ob2=some x:=fun j x hx hpx=>by
    rw[hob2 j (by have:=hok.look hx;exact this) (hna j x hx hpx)];exact hx
   have j1:look I.t1 ob2=some (.cells [fv1]):=hpl2' _ _ k1 rfl
   have j4:=hpl2' _ _ k4 rfl
   have ht41:I.t4≠I.t1:=hC.t1L _ hC.e4
   simp(disch:=omega)[k1,k2,k3,hF1.pair]
   refine qcA ?_
   simp(disch:=omega)[ha,j1]
   have hob3:∀j,j≠I.t1->look j (qx I.t1 (.cells [.asl (m+3) 0 (frm.length+1)]) ob2)=look j ob2:=fun j hj=>wy hj
   obtain⟨ob3,hob3e⟩:∃ob3,qx I.t1 (.cells [.asl (m+3) 0 (frm.length+1)]) ob2=ob3:=⟨_,rfl⟩
   have j14:look I.t1 ob3=some (.cells [.asl (m+3) 0 (frm.length+1)]):=by rw[<-hob3e];exact vL j1
   have hni3:qK ob3:=by rw[<-hob3e];exact(hni2 (h1.ni.cons _ rfl)).put _ rfl
   rw[hob3e]at hob3 ⊢
   have j44:=(hob3 _ ht41).trans j4
   simp(disch:=omega)[j44]
   have hpl3:∀j x,j≠I.t1->look j ob1=some x->qco x=true->look j ob3=some x:=fun j x hj hx hpx=>by rw[hob3 j hj];exact hpl2' j x hx hpx
   have hst3:vz I.L ob3:=fun q hq=>hpl3 _ _ (hC.t1L q hq) (h1.st q hq) (hC.pl q hq)
   have hS1t:∀j,S1 j->j≠I.t1:=fun j hj e=>h1.t1S (e▸hj)
   have hat3:D.At ob3 G1 S1:=D.at_keep _ _ _ _ h1.at_ fun j hj=>by
    obtain⟨x,hx,hpx⟩:=D.at_look _ _ _ _ h1.at_ hj
    rw[hx]
    exact hpl3 j x (hS1t j hj) hx hpx
   have hfr3:qbd ob3 (.asl (m+3) 0 (frm.length+1)) (frm++[(i:Int)]):=hfr2.keep fun a o l he=>by
    simp only[LV.asl.injEq]at he
    exact hob3 a (by omega)
   have hne1:m+2≠I.t1:=by omega
   have hko3:look (m+2) ob3=some (.um (qI R)):=by
    rw[hob3 _ hne1,hkeep2 _ (by omega) (fun a o l he e=>?_),qm]
    rcases h1.fr with⟨e1,_⟩|⟨ao,cs,e1,e2,_⟩
    ·rw[e1]at he;cases he
    ·rw[e1]at he
     simp only[LV.asl.injEq]at he
     have:=hok.look e2
     dsimp only at this
     omega
   obtain⟨gR,gX,gB,_⟩:=qpr hK (hC.Fg _ (List.getElem_mem hin)) hbr
   refine qkF hC ps (don++[p]) R (frm++[(i:Int)]) G1 (by rw[hp];simp) (by simp[hd]) gR (fun q hq=>?_) hlim1 ob3 (m+4) S1 _ (m+2) ⟨hst3,hat3,h1.sep,j14,h1.t1S,hfr3,hni3⟩ hko3 fun ob4 n4 S4 fv4 hn4 h4 hS4 hfv4 hkept4=>?_
   ·rcases List.mem_append.1 hq with hq|hq
    ·exact(hb q hq).ext gX
    ·simp at hq
     subst hq
     exact gB
   have m1:=h4.c1
   obtain⟨a4,cs4,e4,f1,f2,f3⟩:∃ao cs,fv4=.asl ao 0 (frm.length+1)/\look ao ob4=some (.arr 1 cs)/\frm.length+1<=cs.length/\cs.take (frm.length+1)=(frm++[(i:Int)]).map LV.int:=by
    rcases h4.fr with⟨_,e⟩|⟨ao,cs,e1,e2,e3,e5⟩
    ·simp at e
    ·simp only[List.length_append,List.length_cons,List.length_nil]at e1 e3 e5
     exact⟨ao,cs,e1,e2,e3,e5⟩
   subst e4
   have hsl:zr 1 1 (.asl a4 0 (frm.length+1)) 0 frm.length=some (.asl a4 0 frm.length):=by
    simp[zr]
   simp(disch:=omega)[m1,qw (show i<2^62 by have:=hC.Fl;omega)]
   obtain⟨ob5,hob5e⟩:∃ob5,qx I.t1 (.cells [.asl a4 0 frm.length]) ob4=ob5:=⟨_,rfl⟩
   rw[hob5e]
   have hob5:∀j,j≠I.t1->look j ob5=look j ob4:=fun j hj=>by rw[<-hob5e];exact wy hj
   have hS4t:∀j,S4 j->j≠I.t1:=fun j hj e=>h4.t1S (e▸hj)
   have ha4:n<=a4:=by
    rcases hfv4 _ _ _ rfl with h|⟨_,_,h⟩
    ·omega
    ·simp only[LV.asl.injEq]at h;omega
   refine⟨⟨i+1,n4,ob5,vu D.step I.c (vt I.F I.c ps R (frm++[(i:Int)])) G1,S4,.asl a4 0 frm.length⟩,by dsimp only;omega,⟨by dsimp only;omega,by dsimp only;omega,qnQ _ _ _ hlim1,hfold,⟨?_,?_,h4.sep,?_,h4.t1S,?_,?_⟩,?_,?_,?_⟩,by simp[FT.Le,Wk],HWk.refl _,fun h=>h⟩
   ·exact fun q hq=>by
     rw[hob5 _ (hC.t1L q hq)];exact h4.st q hq
   ·exact D.at_keep _ _ _ _ h4.at_ fun j hj=>hob5 j (hS4t j hj)
   ·dsimp only
    rw[<-hob5e];exact vL m1
   ·refine .inr ⟨a4,cs4,rfl,?_,by omega,?_⟩
    ·dsimp only
     rw[hob5 _ (fun e=>by rw[e,m1]at f1;cases f1)];exact f1
    ·have:=congrArg (List.take frm.length) f3
     rw[List.take_take,Nat.min_eq_left (by omega),<-List.map_take,List.take_left]at this
     exact this
   ·dsimp only
    rw[<-hob5e];exact h4.ni.put _ rfl
   ·intro j hj
    rcases hS4 j hj with h|h
    ·exact hS1 j h
    ·exact .inr (by omega)
   ·intro a o l he
    simp only[LV.asl.injEq]at he
    exact .inl (by omega)
   ·intro j hj hjS hjt hja
    dsimp only
    rw[hob5 j hjt,hkept4 j (by omega) (fun hs=>?_) hjt (fun a o l he=>?_),hob3 j hjt,hob2 j (by omega) (fun a o l he=>?_)]
    ·exact hkept j hj hjS hjt hja
    ·rcases hfv1 a o l he with h|⟨_,_,h⟩
     ·omega
     ·exact hja _ _ _ h
    ·rcases hS1 j hs with h|h
     ·exact hjS h
     ·omega
    ·simp only[LV.asl.injEq]at he
     omega
end
end Go.Abs.Tz
