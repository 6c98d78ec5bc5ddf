/- Part of the proof that the law CustomYearsAsSpecified holds. Conditions: none. -/
import Derived.Test.YtjbhehjoaalhiaaGreatDoorPartG
import Derived.Test.YtjbhehjoaalhiaaGreatDoorPartI
import Derived.Lib.AtoiErrMem
import Derived.Test.YtjbhehjoaalhiaaGreatDoorPartH
import Derived.Test.YtjbhehjoaalhiaaGreatDoorPartD
import Derived.Lib.ItoaNum
set_option linter.unusedVariables false
set_option linter.unusedSimpArgs false
set_option linter.unusedSectionVars false
namespace Go.Abs.Tz
open Go Go.Abs Go.Proofs
def qjL(P:Program)(f:FuncId):Bool:=match P.funcs[f]? with
 |some fn=>fn.body.isSome&&fn.name != "runtime.NumGoroutine"
 |none=>false
theorem enters_of{P:Program}{f:FuncId}(h:qjL P f=true):qcY P f:=by
 unfold qjL at h
 split at h
 ·rename_i fn hf
  simp only[Bool.and_eq_true,bne_iff_ne,ne_eq]at h
  exact⟨fn,hf,h.1,h.2⟩
 ·cases h
theorem qf.of_calls{f:FuncId}{args:List LV}{v:LV}(he:qjL Tryz.prog f=true)
  (h:∀(G:qb)(w:World)(us:Array Value),yI G w args us->Calls Tryz.prog f us w fun e w'=>∃u,e=.returned u/\VR G w' v u/\w.grownBy w' none):qf f args v:=
 qbp.of_calls (fun _ _ _ _ h=>h) (enters_of he) h
theorem qcS{G:qb}{w:World}{x:LV}{us:Array Value}(h:yI G w [x] us):∃u,us=#[u]/\VR G w x u:=by
 obtain⟨h1,h2⟩:=h
 obtain⟨l⟩:=us
 match l,h1 with
 |[u],_=>exact⟨u,rfl,h2 0 x rfl⟩
theorem qqC{G:qb}{w:World}{x y:LV}{us:Array Value}(h:yI G w [x,y] us):∃u v,us=#[u,v]/\VR G w x u/\VR G w y v:=by
 obtain⟨h1,h2⟩:=h
 obtain⟨l⟩:=us
 match l,h1 with
 |[u,v],_=>exact⟨u,v,rfl,h2 0 x rfl,h2 1 y rfl⟩
theorem qgU{w w':World}(h:RowKit.Below w.heap.size w w'):w.grownBy w' none:=⟨h.os,h.tape,h.output,h.size,fun k hk _=>h.block k hk⟩
theorem qlx(x:Int)(h0:0<=x)(h1:x<=18446744073709551615):qf 161 [.sc (.int .u64 x)] (.int (Lib.bitLen x.toNat)):=by
 refine qf.of_calls (by kernel_rfl) fun G w us ha=>?_
 obtain⟨u,rfl,hu⟩:=qcS ha
 obtain rfl:=hu.sc_inv
 refine(Tryz.bits_Len x w h0 h1).mono ?_
 rintro e w' ⟨rfl,rfl⟩
 exact⟨_,rfl,.sc _,qel _⟩
theorem qsq(s:ByteArray)(c:Int):qf 172 [.str s,U c] (.int (Lib.indexByte s.data.toList c.toNat.toUInt8)):=by
 refine qf.of_calls (by kernel_rfl) fun G w us ha=>?_
 obtain⟨u,v,rfl,hu,hv⟩:=qqC ha
 obtain rfl:=hu.sc_inv
 obtain rfl:=hv.sc_inv
 refine(Tryz.strings_IndexByte s c w).mono ?_
 rintro e w' ⟨rfl,rfl⟩
 exact⟨_,rfl,.sc _,qel _⟩
theorem qvY(w:World)(k:Nat)(os:Array Obj):w.grownBy (Go.Sort.grow (w.drewN k) os) none:=
 ⟨rfl,rfl,rfl,by show w.heap.size<=(w.heap++os).size;rw[Array.size_append];omega,fun j hj _=>Array.getElem?_append_left hj⟩
theorem qtY{G:qb}{w:World}(h:yS E0 G w){name:String}(hn:Tryz.prog.globalNamed name=some 3):Lib.TabIs Tryz.prog w name .u64 Lib.pow10Tab:=by
 obtain⟨_,t,fz,hw⟩:=h.fix _ (List.mem_cons_self)
 unfold Lib.TabIs World.var?
 rw[hn]
 simp only[Option.bind_some]
 rw[hw]
theorem qsk(n:Int)(h0:-9223372036854775808<=n)(h1:n<=9223372036854775807):qf 178 [.int n] (.str ⟨(Lib.itoa n).toArray⟩):=by
 refine qbp.of_callsE (fun _ _ _ _ h=>h) (enters_of (by kernel_rfl)) fun G w us hE ha=>?_
 obtain⟨u,rfl,hu⟩:=qcS ha
 obtain rfl:=hu.sc_inv
 refine(Tryz.strconv_Itoa n h0 h1 w (qtY hE (by kernel_rfl))).mono ?_
 rintro e w' ⟨rfl,k,os,rfl⟩
 exact⟨_,rfl,.sc _,qvY w k os⟩
theorem qsj(xs:List ByteArray)(own:Own)(sep:ByteArray)(hN:xs.length<=140737488355328)(hlen:(Lib.join (xs.map (·.data.toList)) sep.data.toList).length<=140737488355328):
  qf 129 [.sl (xs.map fun x=>.str x) own,.str sep] (.str ⟨(Lib.join (xs.map (·.data.toList)) sep.data.toList).toArray⟩):=by
 refine qf.of_calls (by kernel_rfl) fun G w us ha=>?_
 obtain⟨u,v,rfl,hu,hv⟩:=qqC ha
 obtain rfl:=hv.sc_inv
 obtain⟨base,cap,rfl,hcap,_,hc⟩:=hu.sl_inv
 rw[List.length_map]at hcap ⊢
 have none_case:xs=[]->Calls Tryz.prog 129 #[.slice base xs.length cap,.string sep] w fun e w'=>∃u,e=.returned u/\VR G w' (.str ⟨(Lib.join (xs.map (·.data.toList)) sep.data.toList).toArray⟩) u/\w.grownBy w' none:=by
  rintro rfl
  refine(Tryz.strings_Join_none base cap sep w).mono ?_
  rintro e w' ⟨rfl,rfl⟩
  exact⟨_,rfl,.sc _,qel _⟩
 rcases hc with⟨h1,_,_⟩|⟨b,off,sz,xv,rfl,hsz,hx,hr⟩
 ·exact none_case (by simpa using h1)
 ·cases hxs:xs with
  |nil=>rw[<-hxs];exact none_case hxs
  |cons x0 r=>
   rw[<-hxs]
   have h0:xs[0]? = some x0:=by rw[hxs];rfl
   have hg:∀(j:Nat) x,xs[j]? = some x->(xs.map fun x=>LV.str x)[j]? = some (.str x):=fun j x h=>by rw[List.getElem?_map,h];rfl
   have hz:sz=1:=(hsz 0 (.str x0) (hg 0 x0 h0)).symm
   subst hz
   have hcell:∀(j:Nat) x,xs[j]? = some x->w.cell? ⟨b,off+j,none⟩=some (.string x):=by
    intro j x hj
    obtain⟨_,h2,_⟩:=hx j (.str x) 0 (.str x) (hg j x hj) rfl
    have h3:=(hr j (.str x) 0 (.str x) (hg j x hj) rfl).sc_inv
    rw[h3]at h2
    simpa using h2
   have hbk:b<w.heap.size:=by
    have:=hcell 0 x0 h0
    unfold World.cell? at this
    cases ho:w.heap[b]? with
    |none=>simp[ho]at this
    |some o=>exact(Array.getElem?_eq_some_iff.1 ho).1
   refine(Tryz.strings_Join b off cap xs sep w hcell hbk hN hcap hlen).mono ?_
   rintro e w' ⟨rfl,hw⟩
   exact⟨_,rfl,.sc _,qgU hw⟩
theorem qsY(s:ByteArray)(hmax:s.size<=9223372036854775806)(v:Int)(h:Lib.atoiAll s.data.toList=.ok v):qf 171 [.str s] (.tup [.int v,.sc .nilIface]):=by
 refine qf.of_calls (by kernel_rfl) fun G w us ha=>?_
 obtain⟨u,rfl,hu⟩:=qcS ha
 obtain rfl:=hu.sc_inv
 refine(Tryz.strconv_Atoi_ok s hmax v h w).mono ?_
 rintro e w' ⟨rfl,hw⟩
 refine⟨_,rfl,.tup rfl ?_,?_⟩
 ·intro i c hi
  match i with
  |0=>simp at hi;subst hi;exact .sc _
  |1=>simp at hi;subst hi;exact .sc _
  |i+2=>simp at hi
 ·rcases hw with rfl|⟨t,rfl⟩
  ·exact qel _
  ·exact qgU (Lib.bytesWorld_below w 5 t)
end Go.Abs.Tz
namespace Go.Abs.Tz
open Go Go.Abs Go.Proofs
set_option maxRecDepth 20000
set_option linter.unusedSimpArgs false
attribute [local simp ↓] gT gS jh jg gv ug q9 zu jf ub yD yE gU gW gY gV jm jp ju jn jv jw jq jr jo jk ji jl jj yB yz yC yA gN gL gO gM g8 g6 g7 uh zG jy qX jz gy yF yG yb yd yc g9 ya ym jD jI jL jH jJ jK gh gg jR jT uQ uN ja jd uO uW u9 uZ uY uX uU uJ uK uL uM jb uS uT uH jc je uP uR uV uI jX jS gd gk jU j8 gc gb ga j9 j6 jP gf j3 j5 jM gj gp jV jZ j7 jN gt gi jO gq j0 jW jY jQ ge jE jG jF yg yk yf yh yj qp ur
attribute [local simp] faL fdL iaL ixL qD qY qT eqK eqL qO zi uD ye yy yn yp yr yu yw yx yo yt yq yv zy LV.cells LV.whole qp uq zU jA stL zz zP uc qa.alloc gw gu gx gK gJ gI gH gG gF gD gC gA gz qd ui
def vx(H:qa)(sz:Nat)(a x:LV):Option (LV×qa):=match vy H sz a,qaC H sz x with
 |some (cs,H0,n),some (ms,m)=>
  if m=0 then some (a,H)
  else if n+m<=2^30/\sz<=2^10 then some (.asl H0.next 0 (n+m),H0.alloc (.arr sz (cs++ms)))
  else none
 |_,_=>none
theorem wn{E:Env}{sz:Nat}{a x:BO}{t:FT}{H:qa}{k:HP}(h:evP E a t fun u=>evP E x t fun v=>eP (vx H sz u v) k):wo E (.ap sz a x) t H k:=.inr h
theorem qbK{a b n:Nat}{x y:qc}{r r':List (Nat×qc)}(hr:qn r' b)(h:∀i z,look i r'=some z->look i r=some z):HWk ⟨(a,x)::(b,y)::r,n⟩ ⟨(a,x)::r',n⟩:=by
 refine⟨Nat.le_refl _,fun i z hz=>?_⟩
 simp only[look]at hz ⊢
 split at hz
 ·rename_i hi;rw[if_pos hi];exact hz
 ·rename_i hi
  have:=hr.look hz
  rw[if_neg hi,if_neg (by omega)]
  exact h i z hz
structure NNS where
 left:List Nat
 cur:Option Nat
 acc:List qF
theorem qky{n:Nat}(h:n<=12):IntKind.wrap .u64 (n:Int)=n:=by
 have e:IntKind.u64.bits=64:=rfl
 have e2:IntKind.u64.signed=false:=rfl
 simp only[IntKind.wrap,e,e2,Bool.false_and]
 rw[if_neg (by decide)]
 omega
def qeg(x:qF)(k:PK):Bool:=lessB x.pred k.1||(eqBA x.pred k.1&&decide (x.args<k.2))
def we:List qF->PK->Nat
 |[],_=>0
 |x::r,k=>if qeg x k then we r k+1 else 0
def gQ(A:List qF)(k:PK):List qF:=A.take (we A k)++[⟨k.1,k.2,0⟩]++A.drop (we A k)
def wQ(A:List qF)(a:Atom):Prop:=0<=gZ A (ofA a) 0
instance (A:List qF) (a:Atom):Decidable (wQ A a):=by unfold wQ;infer_instance
def jC(A:List qF)(a:Atom):List qF:=if wQ A a then A else gQ A (ofA a)
theorem qmN:∀(A:List qF)(k:PK),we A k<=A.length
 |[],_=>Nat.le_refl _
 |x::r,k=>by
  have:=qmN r k
  simp only[we,List.length_cons]
  split<;>omega
theorem qgQ(A:List qF)(k:PK):(gQ A k).length=A.length+1:=by
 have:=qmN A k
 unfold gQ
 simp
 omega
theorem qtX(A:List qF)(a:Atom):(jC A a).length<=A.length+1/\A.length<=(jC A a).length:=by
 unfold jC
 split
 ·omega
 ·rw[qgQ];omega
theorem qjA:∀(aa:List Atom)(A:List qF),(aa.foldl jC A).length<=A.length+aa.length/\A.length<=(aa.foldl jC A).length
 |[],A=>by simp
 |a::r,A=>by
  have h1:=qjA r (jC A a)
  have h2:=qtX A a
  rw[List.foldl_cons,List.length_cons]
  omega
theorem qeX(A:List qF):(A.map qC).all (fun e=>e.cells.length==3)=true:=by
 rw[List.all_map,List.all_eq_true]
 intro x _
 rfl
inductive RepO (H:qa) (A:List qF):LV->List (Nat×qc)->Nat->Prop
 |sl (own:Own) (n:Nat):H.next<=n->RepO H A (.sl (A.map qC) own) H.objs n
 |asl (o n:Nat):H.next<=o->o<n->RepO H A (.asl o 0 A.length) ((o,qU A)::H.objs) n
inductive qeD (H:qa):List qF->LV->List (Nat×qc)->Nat->Prop
 |nil (n:Nat):H.next<=n->qeD H [] Nl H.objs n
 |asl (A:List qF) (o n:Nat):H.next<=o->o<n->qeD H A (.asl o 0 A.length) ((o,qU A)::H.objs) n
theorem qfG{H:qa}(hH:H.Ok){o:Nat}(ho:H.next<=o):zD o H.objs=H.objs:=by
 have go:∀(l:List (Nat×qc))(n:Nat),qn l n->n<=o->zD o l=l:=by
  intro l
  induction l with
  |nil=>intro n _ _;rfl
  |cons e l ih=>
   obtain⟨i,x⟩:=e
   intro n hd hn
   have h1:i<n:=hd.1
   simp only[zD]
   rw[if_neg (by omega),ih i hd.2 (by omega)]
 exact go _ _ hH ho
theorem qcq{H:qa}(hH:H.Ok){A B:List qF}{v:LV}{ob:List (Nat×qc)}{n:Nat}(h:qeD H A v ob n)(hl:A.length+B.length<=2^20):
  ∃v' ob' n',(∀ow,vx ⟨ob,n⟩ 3 v (.sl (B.map qC) ow)=some (v',⟨ob',n'⟩))/\qeD H (A++B) v' ob' n'/\n<=n':=by
 have hrow:∀ow,qaC ⟨ob,n⟩ 3 (.sl (B.map qC) ow)=some (B.flatMap zF,B.length):=by
  intro ow
  unfold qaC
  simp only
  rw[qeX,if_pos rfl]
  simp[List.flatMap_map,LV.cells]
 cases hB:B with
 |nil=>
  subst hB
  refine⟨v,ob,n,fun ow=>?_,by rw[List.append_nil];exact h,Nat.le_refl _⟩
  unfold vx
  rw[hrow]
  cases h with
  |nil=>rfl
  |asl _ o _ h1 h2=>
   have h3:(A.flatMap zF).length=A.length*3:=qbN qdd A
   have:vy ⟨(o,qU A)::H.objs,n⟩ 3 (.asl o 0 A.length)=some ((A.flatMap zF).take (A.length*3),qa.del ⟨(o,qU A)::H.objs,n⟩ o,A.length):=by
    simp only[vy,look,if_true]
    rw[if_pos ⟨trivial,by rw[h3];exact Nat.le_refl _⟩]
   rw[this]
   rfl
 |cons b B'=>
  rw[<-hB]
  have hpos:0<B.length:=by rw[hB];simp
  cases h with
  |nil _ h1=>
   refine⟨.asl n 0 B.length,(n,qU B)::H.objs,n+1,fun ow=>?_,by rw[List.nil_append];exact .asl B n _ h1 (Nat.lt_succ_self _),Nat.le_succ _⟩
   unfold vx
   rw[hrow,show vy ⟨H.objs,n⟩ 3 Nl=some ([],⟨H.objs,n⟩,0) from rfl]
   simp only[List.length_nil,Nat.zero_add]at hl ⊢
   rw[if_neg (by omega),if_pos ⟨by omega,by omega⟩]
   rfl
  |asl _ o _ h1 h2=>
   have h3:(A.flatMap zF).length=A.length*3:=qbN qdd A
   have:vy ⟨(o,qU A)::H.objs,n⟩ 3 (.asl o 0 A.length)=some (A.flatMap zF,⟨H.objs,n⟩,A.length):=by
    simp only[vy,look,if_true]
    rw[if_pos ⟨trivial,by rw[h3];exact Nat.le_refl _⟩,<-h3,List.take_length]
    simp[qa.del,zD,qfG hH h1]
   refine⟨.asl n 0 (A.length+B.length),(n,qU (A++B))::H.objs,n+1,fun ow=>?_,?_,Nat.le_succ _⟩
   ·unfold vx
    rw[hrow,this]
    simp only
    rw[if_neg (by omega),if_pos ⟨by omega,by omega⟩]
    simp[qa.alloc,List.flatMap_append]
   ·rw[<-List.length_append]
    exact .asl (A++B) n _ (by omega) (Nat.lt_succ_self _)
structure NNP2 where
 i:Nat
 n:Nat
 a:List qF
 v:LV
 ob:List (Nat×qc)
def l72b:qo:=match qaQ.body with
 |.seq _ (.seq _ (.seq _ (.seq _ (.seq x _))))=>x
 |_=>.bad
theorem qeD.toO{H:qa}{A:List qF}{v:LV}{ob:List (Nat×qc)}{n:Nat}(h:qeD H A v ob n)(hne:A≠[]):RepO H A v ob n/\∃o,v=.asl o 0 A.length:=by
 cases h with
 |nil=>exact absurd rfl hne
 |asl _ o _ h1 h2=>exact⟨.asl o _ h1 h2,o,rfl⟩
theorem vT{o:Option (LV×qa)}{k:HP}{v:LV}{H:qa}(h:o=some (v,H))(hk:k v H):eP o k:=⟨v,H,h,hk⟩
theorem qbX{H:qa}{A B:List qF}{own:Own}{ob:List (Nat×qc)}{n:Nat}(hl:A.length+B.length<=2^20)(h:uw H 3 A.length own ob n):
  ∃own' ob' n',(∀ow,apL ⟨ob,n⟩ 3 (.sl (A.map qC) own) (.sl (B.map qC) ow)=some (.sl ((A++B).map qC) own',⟨ob',n'⟩))/\uw H 3 (A++B).length own' ob' n'/\n<=n':=by
 rcases h with⟨rfl,rfl,h⟩|⟨t,rfl,h1,h2,rfl⟩
 ·refine⟨.tok n,(n,.tok (A++B).length 3)::H.objs,n+1,fun ow=>?_,.inr ⟨n,rfl,h,Nat.lt_succ_self _,rfl⟩,Nat.le_succ _⟩
  unfold apL
  simp only
  rw[qeX,qeX]
  simp only[Bool.and_self,if_true,List.length_map]
  rw[if_pos ⟨by omega,by omega,rfl⟩]
  simp[qa.alloc]
 ·refine⟨.tok t,(t,.tok (A++B).length 3)::H.objs,n,fun ow=>?_,.inr ⟨t,rfl,h1,h2,rfl⟩,Nat.le_refl _⟩
  have hcan:y9 ⟨(t,.tok A.length 3)::H.objs,n⟩ 3 (.tok t) A.length=true:=by simp[y9,look]
  unfold apL
  simp only
  rw[qeX,qeX]
  simp only[Bool.and_self,if_true,List.length_map]
  rw[if_pos ⟨by omega,by omega,hcan⟩]
  simp[qa.put,qu]
theorem t_ins(aa:List Atom)(ownA:Own)(haa:aa≠[])(hl:aa.length<2^18)(H:qa):
  lP E0 F0 l72b (.nd .bot (.nd .bot (.nd (.sl (aa.map ql) ownA) .nil .nil) .nil) (.nd .bot .nil (.nd (Nl) .nil .nil))) H (fun e t' H'=>e=.normal/\∃o n,H.next<=o/\o<n/\FT.Le (.nd .bot .nil (.nd .bot .nil (.nd (.asl o 0 (aa.foldl jC []).length) .nil .nil))) t'/\HWk H' ⟨(o,qU (aa.foldl jC []))::H.objs,n⟩/\(H'.Ok->qa.Ok ⟨(o,qU (aa.foldl jC []))::H.objs,n⟩)):=by
 refine qgP fun hH=>zj ?_
 simp(disch:=omega)[l72b,qaQ]
 obtain⟨R,hR⟩:∃R,aa.foldl jC []=R:=⟨_,rfl⟩
 rw[hR]
 refine qA (σ:=NNP2) (fun q=>(.nd .bot (.nd .bot (.nd (.sl (aa.map ql) ownA) (.nd (.int q.i) .nil .nil) .nil) .nil) (.nd .bot .nil (.nd (q.v) .nil .nil)))) (fun q=>⟨q.ob,q.n⟩) (fun q=>aa.length - q.i)
  (fun q=>RepO H q.a q.v q.ob q.n/\q.i<=aa.length/\q.a.length<=q.i/\(aa.drop q.i).foldl jC q.a=R/\((∃own,q.v=.sl (q.a.map qC) own/\∃a∈aa.drop q.i,¬wQ q.a a)\/((∃o,q.v=.asl o 0 q.a.length)/\∀a∈aa.drop q.i,wQ q.a a)))
  ⟨0,H.next,[],Nl,H.objs⟩ ⟨.sl .full _ (Nat.le_refl _),Nat.zero_le _,Nat.le_refl _,hR,.inl ⟨.full,rfl,aa.head haa,List.head_mem haa,by unfold wQ gZ;omega⟩⟩ (by simp[FT.Le,Wk]) ⟨HWk.refl _,fun h=>h⟩ ?_
 rintro⟨i,n,A,v,ob⟩ ⟨hr,hi,hAi,he,hm⟩ hok
 dsimp only at hr hi hAi he hm hok
 have hnn:H.next<=n:=by cases hr<;>omega
 by_cases hlt:i<aa.length
 case neg=>
  have hd:aa.drop i=[]:=List.drop_eq_nil_of_le (by omega)
  rw[hd]at he hm
  simp only[List.foldl_nil]at he
  subst he
  rcases hm with⟨_,_,a,ha,_⟩|⟨⟨o,rfl⟩,_⟩
  ·cases ha
  cases hr with
  |asl _ _ h1 h2=>
   simp(disch:=omega)[hlt]
   exact⟨o,h1,n,h2,by simp[FT.Le,Wk],HWk.refl _,fun h=>h⟩
 rw[List.drop_eq_getElem_cons hlt]at he hm
 rw[List.foldl_cons]at he
 rcases hm with⟨own,rfl,hex⟩|⟨⟨o,rfl⟩,hall⟩
 case inr=>
  have hf:wQ A aa[i]:=hall _ List.mem_cons_self
  have hp:jC A aa[i]=A:=by unfold jC;rw[if_pos hf]
  rw[hp]at he
  cases hr with
  |asl _ _ h1 h2=>
   simp(disch:=omega)[hlt]
   refine qlf A o _ n (by simp[look]) aa[i] (by omega) fun n1 hn1=>?_
   have hf':(0:Int)<=gZ A (ofA aa[i]) 0:=hf
   simp(disch:=omega)[hf',qk (show i<2^62 by omega)]
   exact⟨⟨i+1,n1,A,.asl o 0 A.length,(o,qU A)::H.objs⟩,by dsimp only;omega,⟨.asl o n1 h1 (by omega),by dsimp only;omega,by dsimp only;omega,he,.inr ⟨⟨o,rfl⟩,fun a ha=>hall a (List.mem_cons_of_mem _ ha)⟩⟩,by simp[FT.Le,Wk],HWk.refl _,fun h=>h⟩
 have hob:ob=H.objs:=by cases hr;rfl
 subst hob
 simp(disch:=omega)[hlt]
 refine(qrW A own aa[i] (by omega)).go fun n1 hn1=>?_
 by_cases hf:wQ A aa[i]
 ·have hf':(0:Int)<=gZ A (ofA aa[i]) 0:=hf
  have hp:jC A aa[i]=A:=by unfold jC;rw[if_pos hf]
  rw[hp]at he
  simp(disch:=omega)[hf',qk (show i<2^62 by omega)]
  obtain⟨a,ha,hna⟩:=hex
  refine⟨⟨i+1,n1,A,.sl (A.map qC) own,H.objs⟩,by dsimp only;omega,⟨.sl own n1 (by omega),by dsimp only;omega,by dsimp only;omega,he,.inl ⟨⟨own,rfl⟩,a,?_,hna⟩⟩,by simp[FT.Le,Wk],HWk.refl _,fun h=>h⟩
  rcases List.mem_cons.1 ha with rfl|ha
  ·exact absurd hf hna
  ·exact ha
 have hf':¬(0:Int)<=gZ A (ofA aa[i]) 0:=hf
 have hp:jC A aa[i]=gQ A (ofA aa[i]):=by unfold jC;rw[if_neg hf]
 rw[hp]at he
 simp(disch:=omega)[hf']
 refine qA (σ:=NN) (fun q=>(.nd .bot (.nd .bot (.nd (.sl (aa.map ql) ownA) (.nd (.int i) .nil .nil) .nil) .nil) (.nd .bot (.nd .bot (.nd (.int q.i) .nil .nil) .nil) (.nd (.sl (A.map qC) own) .nil .nil)))) (fun q=>⟨H.objs,q.n⟩) (fun q=>A.length - q.i)
  (fun q=>n1<=q.n/\q.i<=A.length/\q.i+we (A.drop q.i) (ofA aa[i])=we A (ofA aa[i])) ⟨0,n1⟩ ⟨Nat.le_refl _,Nat.zero_le _,by simp⟩ (by simp[FT.Le,Wk]) ⟨HWk.refl _,fun h=>h⟩ ?_
 rintro⟨j,n2⟩ ⟨hn2,hj,hpos⟩ hok2
 simp only at hn2 hj hpos
 by_cases hlt2:j<A.length
 case neg=>
  have hjp:we A (ofA aa[i])=j:=by
   rw[List.drop_eq_nil_of_le (by omega)]at hpos
   simpa [we] using hpos.symm
  have hDz:(A.map qC).drop j=[]:=List.drop_eq_nil_of_le (by rw[List.length_map];omega)
  simp(disch:=omega)[hlt,hlt2]
  simp(disch:=omega)[hj]
  have hTl:(A.take j).map qC=(A.map qC).take j:=List.map_take
  have hDl:(A.drop j).map qC=(A.map qC).drop j:=List.map_drop
  obtain⟨S0,hS0⟩:∃S0:qF,(⟨aa[i].pred,aa[i].args.length,0⟩:qF)=S0:=⟨_,rfl⟩
  have hIns:gQ A (ofA aa[i])=A.take j++[S0]++A.drop j:=by rw[<-hjp,<-hS0];rfl
  have hSL:[S0].map qC=[.agg [.str aa[i].pred,.int aa[i].args.length,.int 0]]:=by rw[<-hS0];rfl
  have hb1:(A.take j).length<=2^18:=by rw[List.length_take];omega
  have hb2:(A.take j++[S0]).length<=2^18+1:=by rw[List.length_append];simp only[List.length_cons,List.length_nil];omega
  have hb3:(A.drop j).length<=2^18:=by rw[List.length_drop];omega
  have hlen:=qgQ A (ofA aa[i])
  have hne:gQ A (ofA aa[i])≠[]:=fun e=>by rw[e]at hlen;simp at hlen
  by_cases hlast:∀a∈aa.drop (i+1),wQ (gQ A (ofA aa[i])) a
  ·obtain⟨v1,ob1,m1,e1,r1,q1⟩:=qcq hH (.nil n2 (by omega)) (B:=A.take j) (by simp only[List.length_nil];omega)
   obtain⟨v2,ob2,m2,e2,r2,q2⟩:=qcq hH r1 (B:=[S0]) (by rw[List.nil_append];simp only[List.length_cons,List.length_nil];omega)
   obtain⟨v3,ob3,m3,e3,r3,q3⟩:=qcq hH r2 (B:=A.drop j) (by rw[List.nil_append];omega)
   rw[List.nil_append,<-hIns]at r3
   obtain⟨r4,o4,h4⟩:=r3.toO hne
   rw[hTl]at e1
   rw[hSL]at e2
   rw[hDl]at e3
   refine wn ?_
   simp(disch:=omega)
   refine vT (v:=v1) (H:=⟨ob1,m1⟩) (by simpa [hlt2] using e1 _) ?_
   try simp(disch:=omega)
   refine wn ?_
   simp(disch:=omega)
   refine vT (v:=v2) (H:=⟨ob2,m2⟩) (by simpa using e2 _) ?_
   try simp(disch:=omega)
   refine wn ?_
   simp(disch:=omega)
   refine vT (v:=v3) (H:=⟨ob3,m3⟩) (by simpa [hlt2,hDz] using e3 _) ?_
   simp(disch:=omega)[qk (show i<2^62 by omega)]
   exact⟨⟨i+1,m3,gQ A (ofA aa[i]),v3,ob3⟩,by dsimp only;omega,⟨r4,by dsimp only;omega,by dsimp only;omega,he,.inr ⟨⟨o4,h4⟩,hlast⟩⟩,by simp[FT.Le,Wk],HWk.refl _,fun h=>h⟩
  ·obtain⟨w1,ob1,m1,e1,r1,q1⟩:=qbX (H:=H) (A:=[]) (B:=A.take j) (own:=.full) (ob:=H.objs) (n:=n2) (by simp only[List.length_nil];omega) (.inl ⟨rfl,rfl,by omega⟩)
   obtain⟨w2,ob2,m2,e2,r2,q2⟩:=qbX (B:=[S0]) (by rw[List.nil_append];simp only[List.length_cons,List.length_nil];omega) r1
   obtain⟨w3,ob3,m3,e3,r3,q3⟩:=qbX (B:=A.drop j) (by rw[List.nil_append];omega) r2
   rw[List.nil_append,<-hIns]at r3 e3
   rw[List.nil_append]at e1 e2
   obtain⟨X1,hX1⟩:∃X1,A.take j=X1:=⟨_,rfl⟩
   obtain⟨X2,hX2⟩:∃X2,A.take j++[S0]=X2:=⟨_,rfl⟩
   obtain⟨X3,hX3⟩:∃X3,gQ A (ofA aa[i])=X3:=⟨_,rfl⟩
   have e1':∀ow,apL ⟨H.objs,n2⟩ 3 Nl (.sl ((A.map qC).take j) ow)=some (.sl (X1.map qC) w1,⟨ob1,m1⟩):=fun ow=>by rw[<-hTl,<-hX1];exact e1 ow
   have e2':∀ow,apL ⟨ob1,m1⟩ 3 (.sl (X1.map qC) w1) (.sl [.agg [.str aa[i].pred,.int aa[i].args.length,.int 0]] ow)=some (.sl (X2.map qC) w2,⟨ob2,m2⟩):=fun ow=>by rw[<-hSL,<-hX1,<-hX2];exact e2 ow
   have e3':∀ow,apL ⟨ob2,m2⟩ 3 (.sl (X2.map qC) w2) (.sl ((A.map qC).drop j) ow)=some (.sl (X3.map qC) w3,⟨ob3,m3⟩):=fun ow=>by rw[<-hDl,<-hX2,<-hX3];exact e3 ow
   rw[hX3]at he r3 hlast hlen
   have hnl:∃a,a∈aa.drop (i+1)/\¬wQ X3 a:=by simpa using hlast
   have hfg:HWk ⟨ob3,m3⟩ ⟨H.objs,m3⟩:=⟨Nat.le_refl _,fun q x hx=>by
    rcases r3 with⟨_,rfl,_⟩|⟨t,_,g1,g2,rfl⟩
    ·exact hx
    ·have:=hH.look hx
     simp only[look]
     rw[if_neg (by omega)]
     exact hx⟩
   refine zd ?_
   simp(disch:=omega)
   refine vT (v:=.sl (X1.map qC) w1) (H:=⟨ob1,m1⟩) (by simpa [hlt2] using e1' _) ?_
   try simp(disch:=omega)
   refine zd ?_
   simp(disch:=omega)
   refine vT (v:=.sl (X2.map qC) w2) (H:=⟨ob2,m2⟩) (by simpa using e2' _) ?_
   try simp(disch:=omega)
   refine zd ?_
   simp(disch:=omega)
   refine vT (v:=.sl (X3.map qC) w3) (H:=⟨ob3,m3⟩) (by simpa [hlt2,hDz] using e3' _) ?_
   simp(disch:=omega)[qk (show i<2^62 by omega)]
   exact⟨⟨i+1,m3,X3,.sl (X3.map qC) w3,H.objs⟩,by dsimp only;omega,⟨.sl w3 m3 (by omega),by dsimp only;omega,by dsimp only;omega,he,.inl ⟨⟨w3,rfl⟩,hnl⟩⟩,by simp[FT.Le,Wk],hfg,fun _=>qn.mono hH (by dsimp only;omega)⟩
 rw[List.drop_eq_getElem_cons hlt2]at hpos
 have em:qeg A[j] (ofA aa[i])=(lessB A[j].pred aa[i].pred||(eqBA A[j].pred aa[i].pred&&decide (A[j].args<aa[i].args.length))):=rfl
 have hDz:((A.map qC).drop j).take (A.length - j)=(A.map qC).drop j:=List.take_of_length_le (by rw[List.length_drop,List.length_map];omega)
 simp only[we]at hpos
 cases h1:lessB A[j].pred aa[i].pred
 ·cases h2:eqBA A[j].pred aa[i].pred
  ·have hjp:we A (ofA aa[i])=j:=by simp[em,h1,h2]at hpos;omega
   simp(disch:=omega)[hlt,hlt2,h1,h2]
   simp(disch:=omega)[hj]
   have hTl:(A.take j).map qC=(A.map qC).take j:=List.map_take
   have hDl:(A.drop j).map qC=(A.map qC).drop j:=List.map_drop
   obtain⟨S0,hS0⟩:∃S0:qF,(⟨aa[i].pred,aa[i].args.length,0⟩:qF)=S0:=⟨_,rfl⟩
   have hIns:gQ A (ofA aa[i])=A.take j++[S0]++A.drop j:=by rw[<-hjp,<-hS0];rfl
   have hSL:[S0].map qC=[.agg [.str aa[i].pred,.int aa[i].args.length,.int 0]]:=by rw[<-hS0];rfl
   have hb1:(A.take j).length<=2^18:=by rw[List.length_take];omega
   have hb2:(A.take j++[S0]).length<=2^18+1:=by rw[List.length_append];simp only[List.length_cons,List.length_nil];omega
   have hb3:(A.drop j).length<=2^18:=by rw[List.length_drop];omega
   have hlen:=qgQ A (ofA aa[i])
   have hne:gQ A (ofA aa[i])≠[]:=fun e=>by rw[e]at hlen;simp at hlen
   by_cases hlast:∀a∈aa.drop (i+1),wQ (gQ A (ofA aa[i])) a
   ·obtain⟨v1,ob1,m1,e1,r1,q1⟩:=qcq hH (.nil n2 (by omega)) (B:=A.take j) (by simp only[List.length_nil];omega)
    obtain⟨v2,ob2,m2,e2,r2,q2⟩:=qcq hH r1 (B:=[S0]) (by rw[List.nil_append];simp only[List.length_cons,List.length_nil];omega)
    obtain⟨v3,ob3,m3,e3,r3,q3⟩:=qcq hH r2 (B:=A.drop j) (by rw[List.nil_append];omega)
    rw[List.nil_append,<-hIns]at r3
    obtain⟨r4,o4,h4⟩:=r3.toO hne
    rw[hTl]at e1
    rw[hSL]at e2
    rw[hDl]at e3
    refine wn ?_
    simp(disch:=omega)
    refine vT (v:=v1) (H:=⟨ob1,m1⟩) (by simpa [hlt2] using e1 _) ?_
    try simp(disch:=omega)
    refine wn ?_
    simp(disch:=omega)
    refine vT (v:=v2) (H:=⟨ob2,m2⟩) (by simpa using e2 _) ?_
    try simp(disch:=omega)
    refine wn ?_
    simp(disch:=omega)
    refine vT (v:=v3) (H:=⟨ob3,m3⟩) (by simpa [hlt2,hDz] using e3 _) ?_
    simp(disch:=omega)[qk (show i<2^62 by omega)]
    exact⟨⟨i+1,m3,gQ A (ofA aa[i]),v3,ob3⟩,by dsimp only;omega,⟨r4,by dsimp only;omega,by dsimp only;omega,he,.inr ⟨⟨o4,h4⟩,hlast⟩⟩,by simp[FT.Le,Wk],HWk.refl _,fun h=>h⟩
   ·obtain⟨w1,ob1,m1,e1,r1,q1⟩:=qbX (H:=H) (A:=[]) (B:=A.take j) (own:=.full) (ob:=H.objs) (n:=n2) (by simp only[List.length_nil];omega) (.inl ⟨rfl,rfl,by omega⟩)
    obtain⟨w2,ob2,m2,e2,r2,q2⟩:=qbX (B:=[S0]) (by rw[List.nil_append];simp only[List.length_cons,List.length_nil];omega) r1
    obtain⟨w3,ob3,m3,e3,r3,q3⟩:=qbX (B:=A.drop j) (by rw[List.nil_append];omega) r2
    rw[List.nil_append,<-hIns]at r3 e3
    rw[List.nil_append]at e1 e2
    obtain⟨X1,hX1⟩:∃X1,A.take j=X1:=⟨_,rfl⟩
    obtain⟨X2,hX2⟩:∃X2,A.take j++[S0]=X2:=⟨_,rfl⟩
    obtain⟨X3,hX3⟩:∃X3,gQ A (ofA aa[i])=X3:=⟨_,rfl⟩
    have e1':∀ow,apL ⟨H.objs,n2⟩ 3 Nl (.sl ((A.map qC).take j) ow)=some (.sl (X1.map qC) w1,⟨ob1,m1⟩):=fun ow=>by rw[<-hTl,<-hX1];exact e1 ow
    have e2':∀ow,apL ⟨ob1,m1⟩ 3 (.sl (X1.map qC) w1) (.sl [.agg [.str aa[i].pred,.int aa[i].args.length,.int 0]] ow)=some (.sl (X2.map qC) w2,⟨ob2,m2⟩):=fun ow=>by rw[<-hSL,<-hX1,<-hX2];exact e2 ow
    have e3':∀ow,apL ⟨ob2,m2⟩ 3 (.sl (X2.map qC) w2) (.sl ((A.map qC).drop j) ow)=some (.sl (X3.map qC) w3,⟨ob3,m3⟩):=fun ow=>by rw[<-hDl,<-hX2,<-hX3];exact e3 ow
    rw[hX3]at he r3 hlast hlen
    have hnl:∃a,a∈aa.drop (i+1)/\¬wQ X3 a:=by simpa using hlast
    have hfg:HWk ⟨ob3,m3⟩ ⟨H.objs,m3⟩:=⟨Nat.le_refl _,fun q x hx=>by
     rcases r3 with⟨_,rfl,_⟩|⟨t,_,g1,g2,rfl⟩
     ·exact hx
     ·have:=hH.look hx
      simp only[look]
      rw[if_neg (by omega)]
      exact hx⟩
    refine zd ?_
    simp(disch:=omega)
    refine vT (v:=.sl (X1.map qC) w1) (H:=⟨ob1,m1⟩) (by simpa [hlt2] using e1' _) ?_
    try simp(disch:=omega)
    refine zd ?_
    simp(disch:=omega)
    refine vT (v:=.sl (X2.map qC) w2) (H:=⟨ob2,m2⟩) (by simpa using e2' _) ?_
    try simp(disch:=omega)
    refine zd ?_
    simp(disch:=omega)
    refine vT (v:=.sl (X3.map qC) w3) (H:=⟨ob3,m3⟩) (by simpa [hlt2,hDz] using e3' _) ?_
    simp(disch:=omega)[qk (show i<2^62 by omega)]
    exact⟨⟨i+1,m3,X3,.sl (X3.map qC) w3,H.objs⟩,by dsimp only;omega,⟨.sl w3 m3 (by omega),by dsimp only;omega,by dsimp only;omega,he,.inl ⟨⟨w3,rfl⟩,hnl⟩⟩,by simp[FT.Le,Wk],hfg,fun _=>qn.mono hH (by dsimp only;omega)⟩
  ·by_cases h3:A[j].args<aa[i].args.length
   ·have hq:j+1+we (A.drop (j+1)) (ofA aa[i])=we A (ofA aa[i]):=by simp[em,h1,h2,h3]at hpos;omega
    simp(disch:=omega)[hlt,hlt2,h1,h2,h3,qk (show j<2^62 by omega)]
    exact⟨⟨j+1,n2⟩,by dsimp only;omega,⟨by dsimp only;omega,by dsimp only;omega,hq⟩,by simp[FT.Le,Wk],HWk.refl _,fun h=>h⟩
   ·have hjp:we A (ofA aa[i])=j:=by simp[em,h1,h2,h3]at hpos;omega
    simp(disch:=omega)[hlt,hlt2,h1,h2,h3]
    simp(disch:=omega)[hj]
    have hTl:(A.take j).map qC=(A.map qC).take j:=List.map_take
    have hDl:(A.drop j).map qC=(A.map qC).drop j:=List.map_drop
    obtain⟨S0,hS0⟩:∃S0:qF,(⟨aa[i].pred,aa[i].args.length,0⟩:qF)=S0:=⟨_,rfl⟩
    have hIns:gQ A (ofA aa[i])=A.take j++[S0]++A.drop j:=by rw[<-hjp,<-hS0];rfl
    have hSL:[S0].map qC=[.agg [.str aa[i].pred,.int aa[i].args.length,.int 0]]:=by rw[<-hS0];rfl
    have hb1:(A.take j).length<=2^18:=by rw[List.length_take];omega
    have hb2:(A.take j++[S0]).length<=2^18+1:=by rw[List.length_append];simp only[List.length_cons,List.length_nil];omega
    have hb3:(A.drop j).length<=2^18:=by rw[List.length_drop];omega
    have hlen:=qgQ A (ofA aa[i])
    have hne:gQ A (ofA aa[i])≠[]:=fun e=>by rw[e]at hlen;simp at hlen
    by_cases hlast:∀a∈aa.drop (i+1),wQ (gQ A (ofA aa[i])) a
    ·obtain⟨v1,ob1,m1,e1,r1,q1⟩:=qcq hH (.nil n2 (by omega)) (B:=A.take j) (by simp only[List.length_nil];omega)
     obtain⟨v2,ob2,m2,e2,r2,q2⟩:=qcq hH r1 (B:=[S0]) (by rw[List.nil_append];simp only[List.length_cons,List.length_nil];omega)
     obtain⟨v3,ob3,m3,e3,r3,q3⟩:=qcq hH r2 (B:=A.drop j) (by rw[List.nil_append];omega)
     rw[List.nil_append,<-hIns]at r3
     obtain⟨r4,o4,h4⟩:=r3.toO hne
     rw[hTl]at e1
     rw[hSL]at e2
     rw[hDl]at e3
     refine wn ?_
     simp(disch:=omega)
     refine vT (v:=v1) (H:=⟨ob1,m1⟩) (by simpa [hlt2] using e1 _) ?_
     try simp(disch:=omega)
     refine wn ?_
     simp(disch:=omega)
     refine vT (v:=v2) (H:=⟨ob2,m2⟩) (by simpa using e2 _) ?_
     try simp(disch:=omega)
     refine wn ?_
     simp(disch:=omega)
     refine vT (v:=v3) (H:=⟨ob3,m3⟩) (by simpa [hlt2,hDz] using e3 _) ?_
     simp(disch:=omega)[qk (show i<2^62 by omega)]
     exact⟨⟨i+1,m3,gQ A (ofA aa[i]),v3,ob3⟩,by dsimp only;omega,⟨r4,by dsimp only;omega,by dsimp only;omega,he,.inr ⟨⟨o4,h4⟩,hlast⟩⟩,by simp[FT.Le,Wk],HWk.refl _,fun h=>h⟩
    ·obtain⟨w1,ob1,m1,e1,r1,q1⟩:=qbX (H:=H) (A:=[]) (B:=A.take j) (own:=.full) (ob:=H.objs) (n:=n2) (by simp only[List.length_nil];omega) (.inl ⟨rfl,rfl,by omega⟩)
     obtain⟨w2,ob2,m2,e2,r2,q2⟩:=qbX (B:=[S0]) (by rw[List.nil_append];simp only[List.length_cons,List.length_nil];omega) r1
     obtain⟨w3,ob3,m3,e3,r3,q3⟩:=qbX (B:=A.drop j) (by rw[List.nil_append];omega) r2
     rw[List.nil_append,<-hIns]at r3 e3
     rw[List.nil_append]at e1 e2
     obtain⟨X1,hX1⟩:∃X1,A.take j=X1:=⟨_,rfl⟩
     obtain⟨X2,hX2⟩:∃X2,A.take j++[S0]=X2:=⟨_,rfl⟩
     obtain⟨X3,hX3⟩:∃X3,gQ A (ofA aa[i])=X3:=⟨_,rfl⟩
     have e1':∀ow,apL ⟨H.objs,n2⟩ 3 Nl (.sl ((A.map qC).take j) ow)=some (.sl (X1.map qC) w1,⟨ob1,m1⟩):=fun ow=>by rw[<-hTl,<-hX1];exact e1 ow
     have e2':∀ow,apL ⟨ob1,m1⟩ 3 (.sl (X1.map qC) w1) (.sl [.agg [.str aa[i].pred,.int aa[i].args.length,.int 0]] ow)=some (.sl (X2.map qC) w2,⟨ob2,m2⟩):=fun ow=>by rw[<-hSL,<-hX1,<-hX2];exact e2 ow
     have e3':∀ow,apL ⟨ob2,m2⟩ 3 (.sl (X2.map qC) w2) (.sl ((A.map qC).drop j) ow)=some (.sl (X3.map qC) w3,⟨ob3,m3⟩):=fun ow=>by rw[<-hDl,<-hX2,<-hX3];exact e3 ow
     rw[hX3]at he r3 hlast hlen
     have hnl:∃a,a∈aa.drop (i+1)/\¬wQ X3 a:=by simpa using hlast
     have hfg:HWk ⟨ob3,m3⟩ ⟨H.objs,m3⟩:=⟨Nat.le_refl _,fun q x hx=>by
      rcases r3 with⟨_,rfl,_⟩|⟨t,_,g1,g2,rfl⟩
      ·exact hx
      ·have:=hH.look hx
       simp only[look]
       rw[if_neg (by omega)]
       exact hx⟩
     refine zd ?_
     simp(disch:=omega)
     refine vT (v:=.sl (X1.map qC) w1) (H:=⟨ob1,m1⟩) (by simpa [hlt2] using e1' _) ?_
     try simp(disch:=omega)
     refine zd ?_
     simp(disch:=omega)
     refine vT (v:=.sl (X2.map qC) w2) (H:=⟨ob2,m2⟩) (by simpa using e2' _) ?_
     try simp(disch:=omega)
     refine zd ?_
     simp(disch:=omega)
     refine vT (v:=.sl (X3.map qC) w3) (H:=⟨ob3,m3⟩) (by simpa [hlt2,hDz] using e3' _) ?_
     simp(disch:=omega)[qk (show i<2^62 by omega)]
     exact⟨⟨i+1,m3,X3,.sl (X3.map qC) w3,H.objs⟩,by dsimp only;omega,⟨.sl w3 m3 (by omega),by dsimp only;omega,by dsimp only;omega,he,.inl ⟨⟨w3,rfl⟩,hnl⟩⟩,by simp[FT.Le,Wk],hfg,fun _=>qn.mono hH (by dsimp only;omega)⟩
 ·have hq:j+1+we (A.drop (j+1)) (ofA aa[i])=we A (ofA aa[i]):=by simp[em,h1]at hpos;omega
  simp(disch:=omega)[hlt,hlt2,h1,qk (show j<2^62 by omega)]
  exact⟨⟨j+1,n2⟩,by dsimp only;omega,⟨by dsimp only;omega,by dsimp only;omega,hq⟩,by simp[FT.Le,Wk],HWk.refl _,fun h=>h⟩
def qaE(l:List qe):List qF:=(vb l).foldl jC []
def p72(k:Nat):qo:=match k,qaQ.body with
 |0,.seq x _=>x
 |1,.seq _ (.seq x _)=>x
 |2,.seq _ (.seq _ (.seq _ (.seq x _)))=>x
 |3,.seq _ (.seq _ (.seq _ (.seq _ (.seq _ x))))=>x
 |_,_=>.bad
theorem qxM:qaQ.body=.seq (p72 0) (.seq (p72 1) (.seq l72a (.seq (p72 2) (.seq l72b (p72 3))))):=rfl
theorem qrO(l:List qe)(hne:l≠[])(hl:l.length<2^18)(hb:∀c∈l,c.body.length<2^18)(hA:(vb l).length<2^18)(H:qa){kv kp:HP}
  (hk:∀o n,H.next<=o->o<n->kv (.asl o 0 (qaE l).length) ⟨(o,qU (qaE l))::H.objs,n⟩):cP E0 F0 150 [qy l] H kv kp:=by
 refine qcN c150 (Nat.le_of_ble_eq_true rfl) fun hH=>?_
 rw[qxM]
 simp(disch:=omega)
 refine zW (zj ?_)
 simp(disch:=omega)[p72,qaQ]
 refine zW (zj ?_)
 simp(disch:=omega)[p72,qaQ]
 refine vv (t':=(.nd (qy l) (.nd .bot (.nd (Nl) .nil .nil) .nil) .nil)) (H':=H) (fun l h=>by cases h) (by simp[FT.Le,Wk]) (HWk.refl _) (fun h=>h) ?_
 refine zW (qft (t_all l (by omega) (fun c hc=>by have:=hb c hc;omega) (by omega) H) ?_)
 rintro e t' H' ⟨rfl,own,n,hn,hle,hwk,hok⟩
 show lP E0 F0 (.seq (p72 2) (.seq l72b (p72 3))) t' H' _
 refine vv (fun l h=>by cases h) hle hwk hok ?_
 refine zW (zj ?_)
 simp(disch:=omega)[p72,qaQ]
 have hnn:vb l≠[]:=by
  cases l with
  |nil=>exact absurd rfl hne
  |cons c r=>simp[vb,qbQ]
 refine vv (t':=(.nd .bot (.nd .bot (.nd (.sl ((vb l).map ql) own) .nil .nil) .nil) (.nd .bot .nil (.nd (Nl) .nil .nil)))) (H':=⟨H.objs,n⟩) (fun l h=>by cases h) (by simp[FT.Le,Wk]) (HWk.refl _) (fun h=>h) ?_
 refine zW (qft (t_ins (vb l) own hnn hA ⟨H.objs,n⟩) ?_)
 rintro e t2 H2 ⟨rfl,o,n2,hn2,ho2,hle2,hwk2,hok2⟩
 show lP E0 F0 (p72 3) t2 H2 _
 refine vv (fun l h=>by cases h) hle2 hwk2 hok2 ?_
 refine zj ?_
 simp(disch:=omega)[p72,qaQ,uh]
 exact keep (hk o n2 (by dsimp only at hn2;omega) ho2)
def qN(m:List (PK×Int)):List qF:=m.map fun e=>⟨e.1.1,e.1.2,e.2⟩
def uz(k:PK):List (PK×Int)->Nat
 |[]=>0
 |(j,_)::r=>if vl k j then 0 else uz k r+1
theorem qgI{x:qF}{k:PK}:qcf x k=true↔qaI x=k:=by
 obtain⟨p,a,v⟩:=x
 obtain⟨q,b⟩:=k
 simp[qcf,qaI,wD]
theorem qbx(m:List (PK×Int)):(qN m).length=m.length:=List.length_map ..
theorem qek{k:PK}:∀{m:List (PK×Int)},k∈qv m->uz k m<m.length/\(∀i,gZ (qN m) k i=i+uz k m)/\m[uz k m]? = some (k,qj m k)/\∀v,zc k v m=m.set (uz k m) (k,v)
 |[],h=>by cases h
 |(j,u)::r,h=>by
  by_cases hk:vl k j=true
  ·have e:=vk.1 hk
   subst e
   have hm:qcf ⟨k.1,k.2,u⟩ k=true:=qgI.2 rfl
   refine⟨by simp[uz,hk],fun i=>?_,by simp[uz,hk,qj,vu],fun v=>by simp[uz,hk,zc]⟩
   show gZ (⟨k.1,k.2,u⟩::qN r) k i=_
   simp[gZ,hm,uz,hk]
  ·have hr:k∈qv r:=by
    rcases List.mem_cons.1 (show k∈j::qv r from h) with e|h
    ·exact absurd (vk.2 e) hk
    ·exact h
   obtain⟨a1,a2,a3,a4⟩:=qek hr
   have hm:qcf ⟨j.1,j.2,u⟩ k=false:=by
    cases hb:qcf ⟨j.1,j.2,u⟩ k with
    |false=>rfl
    |true=>
     have e:j=k:=qgI.1 hb
     exact absurd (vk.2 e.symm) hk
   have hkf:vl k j=false:=by simpa using hk
   refine⟨by simp[uz,hkf];omega,fun i=>?_,?_,fun v=>by simp[uz,hkf,zc,a4 v]⟩
   ·show gZ (⟨j.1,j.2,u⟩::qN r) k i=_
    simp only[gZ,hm,uz,hkf,Bool.false_eq_true,if_false]
    rw[a2 (i+1)]
    omega
   ·simp only[uz,hkf,Bool.false_eq_true,if_false,List.getElem?_cons_succ,a3]
    simp[qj,vu,hkf]
theorem qhV{m:List (PK×Int)}{i:Nat}(h:i<m.length):(qN m)[i]'(by rw[qbx];exact h)=⟨m[i].1.1,m[i].1.2,m[i].2⟩:=by simp[qN]
theorem qtk(m:List (PK×Int))(i:Nat)(k:PK)(v:Int):qN (m.set i (k,v))=(qN m).set i ⟨k.1,k.2,v⟩:=by simp[qN,List.map_set]
theorem qve{m:List (PK×Int)}{k:PK}(hk:k∈qv m){o:Nat}{ob:List (Nat×qc)}{n:Nat}(hl:look o ob=some (qU (qN m))):qD ⟨ob,n⟩ none (.ptr o (uz k m*3+2))=some (.int (qj m k)):=by
 obtain⟨a1,a2,a3,a4⟩:=qek hk
 have h:=ldA (n:=n) hl (j:=uz k m) (c:=2) (by rw[qbx];exact a1) (by omega)
 rw[h,qhV a1]
 rw[List.getElem?_eq_getElem a1]at a3
 have:=Option.some.inj a3
 rw[this]
 rfl
theorem qvf{m:List (PK×Int)}{k:PK}(hk:k∈qv m){o:Nat}{ob:List (Nat×qc)}{n:Nat}(hl:look o ob=some (qU (qN m))):iaL ⟨ob,n⟩ 3 (.asl o 0 m.length) (.int (uz k m:Int))=some (.ptr o (uz k m*3)):=
 iaA hl (qek hk).1
theorem qwl(A:List qF){j:Nat}(hj:j<A.length)(v:Int):(A.flatMap zF).take (j*3+2)++[.int v]++(A.flatMap zF).drop (j*3+2+1)=(A.set j ⟨A[j].pred,A[j].args,v⟩).flatMap zF:=by
 rw[<-qoM qdd hj,List.take_add]
 have e:((A.flatMap zF).drop (j*3)).take 2=[.str A[j].pred,.int A[j].args]:=by
  have h:=qjC qdd hj
  have:((A.flatMap zF).drop (j*3)).take 2=(((A.flatMap zF).drop (j*3)).take 3).take 2:=by rw[List.take_take];rfl
  rw[this,h]
  rfl
 rw[e]
 simp
theorem qvd{m:List (PK×Int)}{k:PK}(hk:k∈qv m)(v:Int){o:Nat}{ob:List (Nat×qc)}{n:Nat}(hl:look o ob=some (qU (qN m))):stL ⟨ob,n⟩ 1 (.ptr o (uz k m*3+2)) (.int v)=some ⟨qu o (qU (qN (zc k v m))) ob,n⟩:=by
 obtain⟨a1,a2,a3,a4⟩:=qek hk
 have a1':uz k m<(qN m).length:=by rw[qbx];exact a1
 rw[a4 v,qtk]
 have hfl:((qN m).flatMap zF).length=m.length*3:=by rw[qbN qdd,qbx]
 have hs:=qwl (qN m) a1' v
 have hg:(qN m)[uz k m].pred=k.1/\(qN m)[uz k m].args=k.2:=by
  rw[qhV a1]
  rw[List.getElem?_eq_getElem a1]at a3
  rw[Option.some.inj a3]
  exact⟨rfl,rfl⟩
 rw[hg.1,hg.2]at hs
 unfold stL
 simp only[hl]
 rw[if_pos ⟨rfl,rfl,by rw[hfl];omega⟩]
 show some (qa.put ⟨ob,n⟩ o (.arr 3 (((qN m).flatMap zF).take (uz k m*3+2)++[.int v]++((qN m).flatMap zF).drop (uz k m*3+2+1))))=_
 rw[hs]
 rfl
def qbJ(k:PK):List PK->Nat
 |[]=>0
 |j::r=>if vl k j then 0 else qbJ k r+1
theorem qfu(k:PK):∀m:List (PK×Int),uz k m=qbJ k (qv m)
 |[]=>rfl
 |(j,u)::r=>by
  show uz k ((j,u)::r)=qbJ k (j::qv r)
  simp only[uz,qbJ,qfu k r]
section
variable{m:List (PK×Int)}{V:List PK}{k:PK}(hV:qv m=V)(hk:k∈V){o n:Nat}{ob:List (Nat×qc)}(hl:look o ob=some (qU (qN m)))
include hV hk hl
theorem v_ld:qD ⟨ob,n⟩ none (.ptr o (qbJ k V*3+2))=some (.int (qj m k)):=by
 subst hV;rw[<-qfu];exact qve hk hl
theorem v_ia:iaL ⟨ob,n⟩ 3 (.asl o 0 V.length) (.int (qbJ k V:Int))=some (.ptr o (qbJ k V*3)):=by
 subst hV;rw[<-qfu,vC];exact qvf hk hl
theorem v_st(v:Int):stL ⟨ob,n⟩ 1 (.ptr o (qbJ k V*3+2)) (.int v)=some ⟨qu o (qU (qN (zc k v m))) ob,n⟩:=by
 subst hV;rw[<-qfu];exact qvd hk v hl
theorem qkO{a:Atom}(ha:ofA a=k)(hN:V.length<2^40){kv kp:HP}(hkv:∀n',n<=n'->kv (.int (qbJ k V:Int)) ⟨ob,n'⟩):cP E0 F0 144 [.asl o 0 V.length,ql a] ⟨ob,n⟩ kv kp:=by
 subst hV;subst ha
 have h:=qlf (qN m) o ob n hl a (by rw[qbx];rw[vC]at hN;exact hN) (kv:=kv) (kp:=kp) fun n' hn=>by
  rw[(qek hk).2.1 0]
  have:=hkv n' hn
  rw[<-qfu]at this
  simpa using this
 rw[qbx]at h
 rw[vC]
 exact h
end
theorem InP.mono{m:List (PK×Int)}{N M:Int}(h:InP m N)(hle:N<=M):InP m M:=fun k=>⟨(h k).1,Int.le_trans (h k).2 hle⟩
theorem qyA{m:List (PK×Int)}{N:Int}(h0:∀k,0<=qj m k)(hN:0<=N)(h:m.any (fun e=>decide (N<e.2))=false):InP m N:=by
 intro k
 refine⟨h0 k,?_⟩
 by_cases hk:k∈qv m
 ·obtain⟨a1,_,a3,_⟩:=qek hk
  have:=List.any_eq_false.1 h _ (List.mem_of_getElem? a3)
  simp only[decide_eq_true_eq]at this
  omega
 ·have:qj m k=0:=by
   have go:∀{m:List (PK×Int)},k∉qv m->vu k m=none:=by
    intro m
    induction m with
    |nil=>intro _;rfl
    |cons e r ih=>
     obtain⟨j,u⟩:=e
     intro hn
     have h1:¬vl k j=true:=fun e=>hn (by rw[vk.1 e];exact List.mem_cons_self)
     simp only[vu]
     rw[if_neg h1]
     exact ih fun hm=>hn (List.mem_cons_of_mem _ hm)
   unfold qj
   rw[go hk]
   rfl
  omega
theorem qyn{α:Type}(p:α->Bool){l:List α}{i:Nat}(h:i<l.length):(l.drop i).any p=(p l[i]||(l.drop (i+1)).any p):=by
 rw[List.drop_eq_getElem_cons h,List.any_cons]
structure NNR where
 i:Nat
 n:Nat
 m:List (PK×Int)
 ch:Bool
theorem qrR(l:List qe)(hne:l≠[])(hl:l.length<2^18)(hb:∀c∈l,c.body.length<2^18)(hA:(vb l).length<2^18)(hkd:∀c∈l,∀x∈c.body,1<=x.kind)(m0:List (PK×Int))(hm0:qN m0=qaE l)(hz:∀k,qj m0 k=0)
  (hK:∀c∈l,∀k∈vB c,k∈qv m0) (R:Option (List (PK×Int))) (hR:qaD l (m0.length+2) m0=R) (H:qa) {kv kp:HP} (hk1:R=none->∀n,H.next<=n->kv (.tup [Nl,.bool false]) ⟨H.objs,n⟩)
  (hk2:∀m,R=some m->∀o n,H.next<=o->o<n->kv (.tup [.asl o 0 m.length,.bool true]) ⟨(o,qU (qN m))::H.objs,n⟩):cP E0 F0 89 [qy l] H kv kp:=by
 refine zR c89 fun hH=>⟨Nat.le_of_ble_eq_true rfl,?_⟩
 simp(disch:=omega)[b89]
 refine qrO l hne hl hb hA H fun o n0 ho hn0=>?_
 obtain⟨V,hV⟩:∃V,qv m0=V:=⟨_,rfl⟩
 rw[hV]at hK
 have hlen0:m0.length=V.length:=by rw[<-hV,vC]
 have hNb:V.length<2^18:=by
  rw[<-hlen0,<-qbx,hm0]
  have:=(qjA (vb l) []).1
  unfold qaE
  simp only[List.length_nil]at this
  omega
 rw[show (qaE l).length=V.length by rw[<-hm0,qbx,hlen0],<-hm0]
 rw[hlen0]at hR
 have hVm:∀m:List (PK×Int),qv m=V->m.length=V.length:=fun m h=>by rw[<-h,vC]
 have hOk:∀m:List (PK×Int),∀n,o<n->qa.Ok ⟨(o,qU (qN m))::H.objs,n⟩:=fun m n hn=>⟨hn,qn.mono hH ho⟩
 have hbase:∀(m:List (PK×Int))(n:Nat),o<n->HWk ⟨(o,qU (qN m))::H.objs,n⟩ ⟨H.objs,n⟩/\(qa.Ok ⟨(o,qU (qN m))::H.objs,n⟩->qa.Ok ⟨H.objs,n⟩):=fun m n hn=>
  ⟨⟨Nat.le_refl _,fun i x hx=>by
   have:=hH.look hx
   simp only[look]
   rw[if_neg (by omega)]
   exact hx⟩,fun _=>qn.mono hH (by dsimp only;omega)⟩
 simp(disch:=omega)
 refine qA (σ:=NNP) (fun q=>(.nd (qy l) (.nd .bot (.nd (.bool false) .nil .nil) (.nd (.int q.i) .nil .nil)) (.nd (Nl) (.nd (.asl o 0 V.length) .nil .nil) .nil))) (fun q=>⟨(o,qU (qN q.m))::H.objs,q.n⟩) (fun q=>V.length+2 - q.i)
  (fun q=>n0<=q.n/\q.i<=V.length+2/\qv q.m=V/\InP q.m V.length/\qaD l (V.length+2 - q.i) q.m=R) ⟨0,n0,m0⟩ ⟨Nat.le_refl _,Nat.zero_le _,hV,fun k=>by dsimp only;rw[hz k];omega,hR⟩ (by simp[FT.Le,Wk]) ⟨HWk.refl _,fun h=>h⟩ ?_
 rintro⟨r,n,m⟩ ⟨hn,hr,hkm,hin,he⟩ hok
 dsimp only at hn hr hkm hin he hok
 by_cases hrl:r<=V.length+1
 case neg=>
  have hrl':¬((r:Int)<=(V.length:Int)+1):=by omega
  rw[show V.length+2 - r=0 by omega]at he
  simp(disch:=omega)[qk (show V.length<2^62 by omega),hrl']
  obtain⟨g1,g2⟩:=hbase m n (by omega)
  exact⟨_,g1,g2,hk1 he.symm n (by omega)⟩
 have hrl':((r:Int)<=(V.length:Int)+1):=by omega
 rw[show V.length+2 - r=(V.length+1 - r)+1 by omega]at he
 obtain⟨Q,hQ⟩:∃Q,l.foldl zQ (m,false)=Q:=⟨_,rfl⟩
 rw[qaD,hQ]at he
 simp(disch:=omega)[qk (show V.length<2^62 by omega),hrl']
 refine qA (σ:=NNR) (fun q=>(.nd (qy l) (.nd .bot (.nd (.bool false) (.nd (.int q.i) .nil .nil) .nil) (.nd (.int r) .nil .nil)) (.nd (Nl) (.nd (.asl o 0 V.length) .nil .nil) (.nd (.bool q.ch) .nil .nil)))) (fun q=>⟨(o,qU (qN q.m))::H.objs,q.n⟩) (fun q=>l.length - q.i)
  (fun q=>n0<=q.n/\q.i<=l.length/\qv q.m=V/\InP q.m (V.length+q.i*2^18)/\(l.drop q.i).foldl zQ (q.m,q.ch)=Q) ⟨0,n,m,false⟩ ⟨hn,Nat.zero_le _,hkm,hin.mono (by dsimp only;omega),hQ⟩ (by simp[FT.Le,Wk]) ⟨HWk.refl _,fun h=>h⟩ ?_
 rintro⟨i,n2,m2,ch2⟩ ⟨hn2,hi,hkm2,hin2,he2⟩ hok2
 dsimp only at hn2 hi hkm2 hin2 he2 hok2
 by_cases hlt:i<l.length
 case neg=>
  rw[List.drop_eq_nil_of_le (by omega)]at he2
  simp only[List.foldl_nil]at he2
  subst he2
  cases ch2
  ·dsimp only at he
   simp(disch:=omega)[hlt]
   rw[<-hVm m2 hkm2]
   exact keep (hk2 m2 he.symm o n2 ho (by omega))
  dsimp only at he
  rw[hVm m2 hkm2]at he
  simp(disch:=omega)[hlt]
  have hnn2:∀k,0<=qj m2 k:=fun k=>(hin2 k).1
  obtain⟨B,hB⟩:∃B,m2.any (fun e=>decide ((V.length:Int)<e.2))=B:=⟨_,rfl⟩
  rw[hB]at he
  refine qA (σ:=NN) (fun q=>(.nd (qy l) (.nd .bot (.nd (.bool false) .nil .nil) (.nd (.int r) .nil .nil)) (.nd (Nl) (.nd (.asl o 0 V.length) .nil (.nd (.int q.i) .nil .nil)) .nil))) (fun q=>⟨(o,qU (qN m2))::H.objs,q.n⟩) (fun q=>V.length - q.i)
   (fun q=>n0<=q.n/\q.i<=V.length/\(m2.drop q.i).any (fun e=>decide ((V.length:Int)<e.2))=B) ⟨0,n2⟩ ⟨hn2,Nat.zero_le _,hB⟩ (by simp[FT.Le,Wk]) ⟨HWk.refl _,fun h=>h⟩ ?_
  rintro⟨j,n3⟩ ⟨hn3,hj,hB3⟩ hok3
  simp only at hn3 hj hB3
  by_cases hlt3:j<V.length
  case neg=>
   rw[List.drop_eq_nil_of_le (by rw[hVm m2 hkm2];omega),List.any_nil]at hB3
   subst hB3
   simp(disch:=omega)[hlt3,qk (show r<2^62 by omega)]
   exact⟨⟨r+1,n3,m2⟩,by dsimp only;omega,⟨by dsimp only;omega,by dsimp only;omega,hkm2,qyA hnn2 (by omega) hB,by dsimp only;rw[show V.length+2 - (r+1)=V.length+1 - r by omega];simpa using he⟩,by simp[FT.Le,Wk],HWk.refl _,fun h=>h⟩
  have hjm:j<m2.length:=by rw[hVm m2 hkm2];exact hlt3
  rw[qyn _ hjm]at hB3
  have hlo3:look o ((o,qU (qN m2))::H.objs)=some (qU (qN m2)):=by simp[look]
  have ia3:=iaA (n:=n3) hlo3 hlt3
  have l3:qD ⟨(o,qU (qN m2))::H.objs,n3⟩ none (.ptr o (j*3+2))=some (.int m2[j].2):=by
   rw[ldA (c:=2) hlo3 (by rw[qbx];exact hjm) (by omega),qhV hjm]
   rfl
  by_cases hbig:(V.length:Int)<m2[j].2
  ·simp[hbig]at hB3
   subst hB3
   simp at he
   simp(disch:=omega)[-iaL,-qD,ia3,l3,hlt3,hbig]
   obtain⟨g1,g2⟩:=hbase m2 n3 (by omega)
   exact⟨_,g1,g2,hk1 he.symm n3 (by omega)⟩
  ·simp[hbig]at hB3
   simp(disch:=omega)[-iaL,-qD,ia3,l3,hlt3,hbig,qk (show j<2^62 by omega)]
   exact⟨⟨j+1,n3⟩,by dsimp only;omega,⟨by dsimp only;omega,by dsimp only;omega,by simpa using hB3⟩,by simp[FT.Le,Wk],HWk.refl _,fun h=>h⟩
 rw[List.drop_eq_getElem_cons hlt,List.foldl_cons]at he2
 have hcm:=z7 hlt
 have hbl:=hb _ hcm
 have hhd:ofA l[i].head∈V:=hK _ hcm _ List.mem_cons_self
 have hlo:∀m':List (PK×Int),look o ((o,qU (qN m'))::H.objs)=some (qU (qN m')):=fun m'=>by simp[look]
 simp(disch:=omega)[hlt]
 refine qkO hkm2 hhd (hlo m2) rfl (by omega) fun n3 hn3=>?_
 obtain⟨W,hW⟩:∃W,zQ (m2,ch2) l[i]=W:=⟨_,rfl⟩
 rw[hW]at he2
 simp(disch:=omega)[hlt]
 refine qA (σ:=NNR) (fun q=>(.nd (qy l) (.nd .bot (.nd (.bool false) (.nd (.int i) .nil .nil) .nil) (.nd (.int r) (.nd (.int q.i) .nil .nil) .nil)) (.nd (Nl) (.nd (.asl o 0 V.length) (.nd (.int (qbJ (ofA l[i].head) V:Int)) .nil .nil) .nil) (.nd (.bool q.ch) .nil .nil)))) (fun q=>⟨(o,qU (qN q.m))::H.objs,q.n⟩) (fun q=>l[i].body.length - q.i)
  (fun q=>n0<=q.n/\q.i<=l[i].body.length/\qv q.m=V/\InP q.m (V.length+i*2^18+q.i)/\(l[i].body.drop q.i).foldl (zo (ofA l[i].head)) (q.m,q.ch)=W) ⟨0,n3,m2,ch2⟩ ⟨by dsimp only;omega,Nat.zero_le _,hkm2,hin2.mono (by dsimp only;omega),hW⟩ (by simp[FT.Le,Wk]) ⟨HWk.refl _,fun h=>h⟩ ?_
 rintro⟨j,n4,m4,ch4⟩ ⟨hn4,hj,hkm4,hin4,he4⟩ hok4
 dsimp only at hn4 hj hkm4 hin4 he4 hok4
 by_cases hlt4:j<l[i].body.length
 case neg=>
  rw[List.drop_eq_nil_of_le (by omega)]at he4
  simp only[List.foldl_nil]at he4
  subst he4
  simp(disch:=omega)[hlt,hlt4,qk (show i<2^62 by omega)]
  exact⟨⟨i+1,n4,m4,ch4⟩,by dsimp only;omega,⟨by dsimp only;omega,by dsimp only;omega,hkm4,hin4.mono (by dsimp only;omega),he2⟩,by simp[FT.Le,Wk],HWk.refl _,fun h=>h⟩
 rw[List.drop_eq_getElem_cons hlt4,List.foldl_cons]at he4
 have hkx:=hkd _ hcm _ (z7 hlt4)
 have hfg:∀(x:qc)(m':List (PK×Int))(n':Nat),n4+1<=n'->HWk ⟨(n4,x)::(o,qU (qN m'))::H.objs,n'⟩ ⟨(o,qU (qN m'))::H.objs,n'⟩/\(qa.Ok ⟨(n4,x)::(o,qU (qN m'))::H.objs,n'⟩->qa.Ok ⟨(o,qU (qN m'))::H.objs,n'⟩):=fun x m' n' hn'=>
  zN (hOk m' n4 (by omega)) (qq.cons (hOk m' n4 (by omega)) (Nat.le_refl _) (qq.refl (Nat.le_refl _)) (by dsimp only;omega))
 by_cases hk2':l[i].body[j].kind<=2
 case neg=>
  have hst:zo (ofA l[i].head) (m4,ch4) l[i].body[j]=(m4,ch4):=by
   unfold zo
   rw[if_neg]
   have h1:¬l[i].body[j].kind=1:=by omega
   have h2:¬l[i].body[j].kind=2:=by omega
   have:=(hin4 (ofA l[i].head)).1
   simp only[vi,h1,h2,if_false]
   omega
  rw[hst]at he4
  have hgt:(2:Int)<l[i].body[j].kind:=by omega
  simp(disch:=omega)[hlt,hlt4,hgt,qk (show j<2^62 by omega)]
  obtain⟨g1,g2⟩:=hfg (.cells (yU l[i].body[j])) m4 (n4+1) (Nat.le_refl _)
  exact⟨⟨j+1,n4+1,m4,ch4⟩,by dsimp only;omega,⟨by dsimp only;omega,by dsimp only;omega,hkm4,hin4.mono (by dsimp only;omega),he4⟩,by simp[FT.Le,Wk],g1,g2⟩
 have hngt:¬(2:Int)<l[i].body[j].kind:=by omega
 have hk12:l[i].body[j].kind=1\/l[i].body[j].kind=2:=by omega
 have hat:ofA l[i].body[j].atom∈V:=hK _ hcm _ (List.mem_cons_of_mem _ (List.mem_map.2 ⟨l[i].body[j],List.mem_filter.2 ⟨z7 hlt4,by simpa using hk12⟩,rfl⟩))
 have hinS:=qvp (h:=ofA l[i].head) (s:=(m4,ch4)) (x:=l[i].body[j]) hin4
 have hkS:=qjd (h:=ofA l[i].head) (s:=(m4,ch4)) (x:=l[i].body[j]) (by dsimp only;rw[hkm4];exact hhd)
 dsimp only at hinS hkS
 rw[hkm4]at hkS
 have hc:(V.length:Int)+i*2^18+(j:Int)+1=V.length+i*2^18+((j+1:Nat):Int):=by omega
 rw[hc]at hinS
 have hpv:∀k:PK,0<=qj m4 k/\qj m4 k<2^42:=fun k=>⟨(hin4 k).1,by have:=(hin4 k).2;omega⟩
 obtain⟨ob4,hob4⟩:∃ob4:List (Nat×qc),ob4=(n4,qc.cells (yU l[i].body[j]))::(o,qU (qN m4))::H.objs:=⟨_,rfl⟩
 have hlo4:look o ob4=some (qU (qN m4)):=by rw[hob4,qd (by omega)];exact hlo m4
 have hlit:look n4 ob4=some (.cells (yU l[i].body[j])):=by rw[hob4];exact qp _ _ _
 have hput:∀m':List (PK×Int),qu o (qU (qN m')) ob4=(n4,qc.cells (yU l[i].body[j]))::(o,qU (qN m'))::H.objs:=fun m'=>by
  rw[hob4,ui (by omega)]
  simp[qu]
 simp(disch:=omega)[hlt,hlt4,hngt]
 rw[show [LV.int l[i].body[j].kind,LV.str l[i].body[j].atom.pred,qt l[i].body[j].atom.args,LV.int l[i].body[j].a.kind,LV.int l[i].body[j].a.n,LV.str l[i].body[j].a.s,LV.int l[i].body[j].b.kind,LV.int l[i].body[j].b.n,LV.str l[i].body[j].b.s]=yU l[i].body[j] from rfl,<-hob4]
 refine qkO hkm4 hat hlo4 rfl (by omega) fun n5 hn5=>?_
 have ia1:=v_ia (n:=n5) hkm4 hat hlo4
 have ia2:=v_ia (n:=n5) hkm4 hhd hlo4
 have ld1:=v_ld (n:=n5) hkm4 hat hlo4
 have ld2:=v_ld (n:=n5) hkm4 hhd hlo4
 have ldk:qD ⟨ob4,n5⟩ none (.ptr n4 0)=some (.int l[i].body[j].kind):=by simp[qD,hlit,qY]
 have st:=v_st (n:=n5) hkm4 hhd hlo4
 have hpa:=hpv (ofA l[i].body[j].atom)
 rcases hk12 with hk|hk
 ·have hv:vi m4 l[i].body[j]=qj m4 (ofA l[i].body[j].atom):=by simp[vi,hk]
  by_cases hlt5:qj m4 (ofA l[i].head)<qj m4 (ofA l[i].body[j].atom)
  ·have hst:zo (ofA l[i].head) (m4,ch4) l[i].body[j]=(zc (ofA l[i].head) (qj m4 (ofA l[i].body[j].atom)) m4,true):=by
    unfold zo;dsimp only;rw[hv,if_pos hlt5]
   rw[hst]at hinS hkS he4
   simp(disch:=omega)[-iaL,-qD,-stL,ia1,ia2,ld1,ld2,ldk,st,hk,hlt5,hput,qk (show j<2^62 by omega)]
   obtain⟨g1,g2⟩:=hfg (.cells (yU l[i].body[j])) (zc (ofA l[i].head) (qj m4 (ofA l[i].body[j].atom)) m4) n5 hn5
   exact⟨⟨j+1,n5,zc (ofA l[i].head) (qj m4 (ofA l[i].body[j].atom)) m4,true⟩,by dsimp only;omega,⟨by dsimp only;omega,by dsimp only;omega,hkS,hinS,he4⟩,by simp[FT.Le,Wk],g1,g2⟩
  ·have hst:zo (ofA l[i].head) (m4,ch4) l[i].body[j]=(m4,ch4):=by
    unfold zo;dsimp only;rw[hv,if_neg hlt5]
   rw[hst]at hinS hkS he4
   simp(disch:=omega)[-iaL,-qD,-stL,ia1,ia2,ld1,ld2,ldk,hk,hlt5,qk (show j<2^62 by omega)]
   obtain⟨g1,g2⟩:=hfg (.cells (yU l[i].body[j])) m4 n5 hn5
   rw[<-hob4]at g1 g2
   exact⟨⟨j+1,n5,m4,ch4⟩,by dsimp only;omega,⟨by dsimp only;omega,by dsimp only;omega,hkS,hinS,he4⟩,by simp[FT.Le,Wk],g1,g2⟩
 ·have hv:vi m4 l[i].body[j]=qj m4 (ofA l[i].body[j].atom)+1:=by simp[vi,hk]
  by_cases hlt5:qj m4 (ofA l[i].head)<qj m4 (ofA l[i].body[j].atom)+1
  ·have hst:zo (ofA l[i].head) (m4,ch4) l[i].body[j]=(zc (ofA l[i].head) (qj m4 (ofA l[i].body[j].atom)+1) m4,true):=by
    unfold zo;dsimp only;rw[hv,if_pos hlt5]
   rw[hst]at hinS hkS he4
   simp(disch:=omega)[-iaL,-qD,-stL,ia1,ia2,ld1,ld2,ldk,st,hk,zJ,hlt5,hput,qk (show j<2^62 by omega)]
   obtain⟨g1,g2⟩:=hfg (.cells (yU l[i].body[j])) (zc (ofA l[i].head) (qj m4 (ofA l[i].body[j].atom)+1) m4) n5 hn5
   exact⟨⟨j+1,n5,zc (ofA l[i].head) (qj m4 (ofA l[i].body[j].atom)+1) m4,true⟩,by dsimp only;omega,⟨by dsimp only;omega,by dsimp only;omega,hkS,hinS,he4⟩,by simp[FT.Le,Wk],g1,g2⟩
  ·have hst:zo (ofA l[i].head) (m4,ch4) l[i].body[j]=(m4,ch4):=by
    unfold zo;dsimp only;rw[hv,if_neg hlt5]
   rw[hst]at hinS hkS he4
   simp(disch:=omega)[-iaL,-qD,-stL,ia1,ia2,ld1,ld2,ldk,hk,zJ,hlt5,qk (show j<2^62 by omega)]
   obtain⟨g1,g2⟩:=hfg (.cells (yU l[i].body[j])) m4 n5 hn5
   rw[<-hob4]at g1 g2
   exact⟨⟨j+1,n5,m4,ch4⟩,by dsimp only;omega,⟨by dsimp only;omega,by dsimp only;omega,hkS,hinS,he4⟩,by simp[FT.Le,Wk],g1,g2⟩
structure qat(l:List qe):Prop where
 ok3:l.length<=40->∀c∈l,qe.ok3 c
theorem qqb:∀(l:List qe)(i:Nat),(vV l i).1=0->∀c∈l,uE c=true
 |[],_,_,c,hc=>by cases hc
 |c::l,i,h,d,hd=>by
  simp only[vV]at h
  by_cases hf:uE c=false
  ·rw[if_pos hf]at h;simp at h
  ·rw[if_neg hf]at h
   by_cases hs:qaV c=false
   ·rw[if_pos hs]at h;simp at h
   ·rw[if_neg hs]at h
    rcases List.mem_cons.1 hd with rfl|hd
    ·simpa using hf
    ·exact qqb l (i+1) h d hd
theorem qez{l:List qe}(h:(qJ l).1=0):l.length<=40/\∀c∈l,uE c=true:=by
 unfold qJ at h
 split at h
 ·simp at h
 ·rename_i h1
  exact⟨by omega,qqb l 0 h⟩
theorem qvl{x:Lit}(h:zB x=true):1<=x.kind/\x.kind<=6:=by
 unfold zB at h
 split at h
 ·omega
 ·split at h
  ·omega
  ·cases h
structure qdL(l:List qe):Prop where
 len:l.length<=40
 body:∀c∈l,c.body.length<=5
 kind:∀c∈l,∀x∈c.body,1<=x.kind/\x.kind<=6
theorem qgV{l:List qe}(h:(qJ l).1=0):qdL l:=by
 obtain⟨h1,h2⟩:=qez h
 exact⟨h1,fun c hc=>(qaN (h2 c hc)).2.1,fun c hc x hx=>qvl ((qaN (h2 c hc)).2.2 x hx)⟩
theorem qdL.initLen{l:List qe}(h:qdL l):(l.foldl yW []).length<=240:=by
 have h1:=(qjq l [] fun _=>rfl).2.2.2
 have h2:∀l:List qe,(∀c∈l,c.body.length<=5)->(l.map fun c=>c.body.length+1).sum<=6*l.length:=by
  intro l
  induction l with
  |nil=>intro _;exact Nat.le_refl _
  |cons c l ih=>
   intro hb
   have a:=ih fun c hc=>hb c (List.mem_cons_of_mem _ hc)
   have b:=hb c List.mem_cons_self
   simp only[List.map_cons,List.sum_cons,List.length_cons]
   omega
 have h3:=h2 l h.body
 have h4:=h.len
 simp only[List.length_nil]at h1
 omega
theorem qdL.allLen{l:List qe}(h:qdL l):(vb l).length<=240:=by
 have h2:∀l:List qe,(∀c∈l,c.body.length<=5)->(vb l).length<=6*l.length:=by
  intro l
  induction l with
  |nil=>intro _;exact Nat.le_refl _
  |cons c l ih=>
   intro hb
   have a:=ih fun c hc=>hb c (List.mem_cons_of_mem _ hc)
   have b:=hb c List.mem_cons_self
   have e:(qbQ c).length<=c.body.length+1:=by
    unfold qbQ
    have g:∀b:List Lit,(b.flatMap qbe).length<=b.length:=by
     intro b
     induction b with
     |nil=>exact Nat.le_refl _
     |cons x b ih=>
      rw[List.flatMap_cons,List.length_append,List.length_cons]
      have:(qbe x).length<=1:=by unfold qbe;split<;>simp
      omega
    have:=g c.body
    simp only[List.length_cons]
    omega
   have:vb (c::l)=qbQ c++vb l:=rfl
   rw[this,List.length_append,List.length_cons]
   omega
 have h3:=h2 l h.body
 have h4:=h.len
 omega
theorem qsQ(l:List qe)(hl:qat l)(fuel:Nat)(R:Option (List (PK×Int)))(hR:(qJ l).1=0->wi l fuel (l.foldl yW [])=some R)(H:qa){kv kp:HP}
  (h0:(qJ l).1≠0->∀n,H.next<=n->kv (.tup [.sc (.map none),.int (qJ l).1]) ⟨H.objs,n⟩)
  (h1:(qJ l).1=0->R=none->∀n,H.next<=n->kv (.tup [.sc (.map none),.int 81]) ⟨H.objs,n⟩)
  (h2:(qJ l).1=0->∀m,R=some m->∀o n,H.next<=o->o<n->kv (.tup [.map o,.int 0]) ⟨(o,.map (qR m))::H.objs,n⟩):cP E0 F0 99 [qy l] H kv kp:=by
 refine zR c99 fun hH=>⟨Nat.le_of_ble_eq_true rfl,?_⟩
 simp(disch:=omega)[b99]
 refine(qlG l hl.ok3).go fun n hn=>?_
 by_cases hc:(qJ l).1=0
 case neg=>
  simp(disch:=omega)[hc]
  exact keep (h0 hc n hn)
 have hg:=qgV hc
 simp(disch:=omega)[hc]
 refine qlm l (by have:=hg.len;omega) (fun c hcm=>by have:=hg.body c hcm;omega) (by have:=hg.initLen;omega) fuel R (hR hc) _ (fun hRn n2 hn2=>?_) (fun m hRm n2 hn2=>?_)
 ·dsimp only at hn2
  simp(disch:=omega)
  exact keep (h1 hc hRn n2 (by omega))
 ·dsimp only at hn2
  simp(disch:=omega)
  exact keep (h2 hc m hRm n n2 hn hn2)
abbrev qhW(A:List qF):LV:=.sl (A.map qC) .no
theorem qpS:∀A:List qF,vU 3 A.length (A.flatMap zF)=A.map qC
 |[]=>rfl
 |x::A=>by
  have ih:=qpS A
  rw[List.length_cons,List.flatMap_cons]
  show qdr ((zF x++A.flatMap zF).take 3)::vU 3 A.length ((zF x++A.flatMap zF).drop 3)=_
  rw[show (zF x++A.flatMap zF).take 3=zF x from List.take_left (l₁:=zF x),show (zF x++A.flatMap zF).drop 3=A.flatMap zF from List.drop_left (l₁:=zF x),ih]
  rfl
theorem frzS{H:qa}{A:List qF}{o:Nat}(hl:look o H.objs=some (qU A)):wB H [o] o 0 A.length=qhW A:=by
 unfold wB
 have h1:(A.flatMap zF).length=A.length*3:=qbN qdd A
 simp only[List.contains_cons,BEq.rfl,Bool.true_or,if_true,hl]
 rw[if_pos (by rw[h1];omega)]
 rw[Nat.zero_mul,List.drop_zero,qpS]
theorem qbG{L:List Nat}{j:Nat}(h:L.contains j=false):∀{l:List (Nat×qc)},look j (vw L l)=look j l
 |[]=>rfl
 |(i,x)::r=>by
  simp only[vw]
  by_cases hi:L.contains i=true
  ·rw[if_pos hi,qbG h]
   simp only[look]
   rw[if_neg]
   rintro rfl
   rw[hi]at h;cases h
  ·rw[if_neg hi]
   simp only[look]
   rw[qbG h]
def qmB:Option (List (PK×Int))->LV
 |none=>.tup [Nl,.bool false]
 |some m=>.tup [qhW (qN m),.bool true]
def wd(l:List qe):List (PK×Int):=(qaE l).map fun s=>((s.pred,s.args),s.level)
theorem qtW(l:List qe):qN (wd l)=qaE l:=by
 unfold qN wd
 rw[List.map_map]
 conv=>rhs;rw[<-List.map_id (qaE l)]
 rfl
structure qqO(l:List qe):Prop where
 zero:∀k,qj (wd l) k=0
 has:∀c∈l,∀k∈vB c,k∈qv (wd l)
def y5(l:List qe):Option (List (PK×Int)):=qaD l ((wd l).length+2) (wd l)
theorem qrP(l:List qe)(hne:l≠[])(hg:qdL l)(hp:qqO l):qf 89 [qy l] (qmB (y5 l)):=by
 intro H kv kp hk hH
 have h1:=qrR (kv:=fun v H'=>(y5 l=none/\v=.tup [Nl,.bool false]/\∃n,H.next<=n/\H'=⟨H.objs,n⟩)\/∃m o n,y5 l=some m/\H.next<=o/\o<n/\v=.tup [.asl o 0 m.length,.bool true]/\H'=⟨(o,qU (qN m))::H.objs,n⟩) (kp:=fun _ _=>False)
  l hne (by have:=hg.len;omega) (fun c hc=>by have:=hg.body c hc;omega) (by have:=hg.allLen;omega) (fun c hc x hx=>(hg.kind c hc x hx).1) (wd l) (qtW l) hp.zero hp.has (y5 l) rfl H
  (fun hR n hn=>.inl ⟨hR,rfl,n,hn,rfl⟩) (fun m hR o n ho hn=>.inr ⟨m,o,n,hR,ho,hn,rfl,rfl⟩) hH
 refine .frz (fun v _=>match v with|.tup [.asl o _ _,_]=>[o]|_=>[]) h1 (fun v H' hT=>?_) (fun v H' hT=>?_)
 ·rcases hT with⟨u,H2,he,hok,hT⟩|⟨u,H2,he,hok,hf⟩
  ·cases he
   rcases hT with⟨hR,rfl,n,hn,rfl⟩|⟨m,o,n,hR,ho,hn,rfl,rfl⟩
   ·refine⟨⟨H.objs,n⟩,⟨Nat.le_refl _,fun i x hx=>(qbG (L:=[]) rfl).trans hx⟩,.inl ⟨_,_,rfl,qn.mono hH hn,?_⟩⟩
    have:=hk n hn
    rw[hR]at this
    exact this
   ·refine⟨⟨H.objs,n⟩,⟨Nat.le_refl _,fun i x hx=>?_⟩,.inl ⟨_,_,rfl,qn.mono hH (by dsimp only;omega),?_⟩⟩
    ·have:=hH.look hx
     have hne:¬i=o:=by omega
     have e1:look i (vw [o] ((o,qU (qN m))::H.objs))=look i ((o,qU (qN m))::H.objs):=qbG (by simp[hne])
     show look i (vw [o] ((o,qU (qN m))::H.objs))=some x
     rw[e1,qd hne]
     exact hx
    ·have:=hk n (by omega)
     rw[hR]at this
     have e:wB ⟨(o,qU (qN m))::H.objs,n⟩ [o] o 0 (qN m).length=qhW (qN m):=frzS (by simp[look])
     rw[qbx]at e
     simpa [zL,frzL,e,qmB] using this
  ·cases he
 ·rcases hT with⟨u,H2,he,hok,hT⟩|⟨u,H2,he,hok,hf⟩
  ·cases he
  ·exact hf.elim
theorem qjF{k:PK}:∀{A:List qF}{i:Nat},0<=gZ A k i↔∃x∈A,qaI x=k
 |[],i=>by simp[gZ]
 |x::r,i=>by
  have ih:=qjF (k:=k) (A:=r) (i:=i+1)
  simp only[gZ]
  by_cases h:qcf x k=true
  ·rw[if_pos h]
   exact⟨fun _=>⟨x,List.mem_cons_self,qgI.1 h⟩,fun _=>by omega⟩
  ·rw[if_neg h,ih]
   constructor
   ·rintro⟨y,h1,h2⟩;exact⟨y,List.mem_cons_of_mem _ h1,h2⟩
   ·rintro⟨y,h1,h2⟩
    rcases List.mem_cons.1 h1 with rfl|h1
    ·exact absurd (qgI.2 h2) h
    ·exact⟨y,h1,h2⟩
theorem qoa(k:PK):gQ [] k=[⟨k.1,k.2,0⟩]:=rfl
theorem qob(x:qF)(r:List qF)(k:PK):gQ (x::r) k=if qeg x k then x::gQ r k else ⟨k.1,k.2,0⟩::x::r:=by
 unfold gQ
 simp only[we]
 split
 ·simp
 ·simp
theorem qfl{x:qF}{k:PK}:∀{A:List qF},x∈gQ A k↔x=⟨k.1,k.2,0⟩\/x∈A
 |[]=>by rw[qoa];simp
 |y::r=>by
  rw[qob]
  split
  ·rw[List.mem_cons,qfl,List.mem_cons]
   exact⟨fun h=>h.elim (fun h=>.inr (.inl h)) fun h=>h.elim .inl fun h=>.inr (.inr h),fun h=>h.elim (fun h=>.inr (.inl h)) fun h=>h.elim .inl fun h=>.inr (.inr h)⟩
  ·exact List.mem_cons
theorem qnA{x:qF}{k:PK}:qeg x k=true↔vH x ⟨k.1,k.2,0⟩:=by
 unfold qeg vH
 simp[wD]
theorem qlP{k:PK}:∀{A:List qF},A.Pairwise vH->(∀x∈A,qaI x≠k)->(gQ A k).Pairwise vH
 |[],_,_=>by rw[qoa];exact List.pairwise_singleton _ _
 |y::r,h,hk=>by
  obtain⟨h1,h2⟩:=List.pairwise_cons.1 h
  rw[qob]
  by_cases hy:qeg y k=true
  ·rw[if_pos hy]
   refine List.pairwise_cons.2 ⟨fun z hz=>?_,qlP h2 fun x hx=>hk x (List.mem_cons_of_mem _ hx)⟩
   rcases qfl.1 hz with rfl|hz
   ·exact qnA.1 hy
   ·exact h1 z hz
  ·rw[if_neg hy]
   have hlt:vH ⟨k.1,k.2,0⟩ y:=by
    apply Classical.byContradiction
    intro hn
    have hy':¬vH y ⟨k.1,k.2,0⟩:=fun e=>hy (qnA.2 e)
    obtain⟨e1,e2⟩:=qvx hy' hn
    refine hk y List.mem_cons_self ?_
    unfold qaI
    rw[e1,e2]
   refine List.pairwise_cons.2 ⟨fun z hz=>?_,h⟩
   rcases List.mem_cons.1 hz with rfl|hz
   ·exact hlt
   ·exact qvw hlt (h1 z hz)
structure qqM(aa:List Atom)(A B:List qF):Prop where
 sub:∀x∈A,x∈B
 new:∀x∈B,x∈A\/(x.level=0/\∃a∈aa,qaI x=ofA a)
 all:∀a∈aa,∃x∈B,qaI x=ofA a
 ord:A.Pairwise vH->B.Pairwise vH
theorem qoH:∀(aa:List Atom)(A:List qF),qqM aa A (aa.foldl jC A)
 |[],A=>⟨fun _ h=>h,fun _ h=>.inl h,fun _ h=>(by cases h),id⟩
 |a::r,A=>by
  have ih:=qoH r (jC A a)
  rw[List.foldl_cons]
  have hp:(∀x∈A,x∈jC A a)/\(∀x∈jC A a,x∈A\/(x.level=0/\qaI x=ofA a))/\(∃x∈jC A a,qaI x=ofA a)/\(A.Pairwise vH->(jC A a).Pairwise vH):=by
   unfold jC
   by_cases hf:wQ A a
   ·rw[if_pos hf]
    exact⟨fun _ h=>h,fun _ h=>.inl h,qjF.1 hf,id⟩
   ·rw[if_neg hf]
    refine⟨fun x hx=>qfl.2 (.inr hx),fun x hx=>?_,⟨_,qfl.2 (.inl rfl),rfl⟩,fun h=>qlP h fun x hx e=>hf (qjF.2 ⟨x,hx,e⟩)⟩
    rcases qfl.1 hx with rfl|hx
    ·exact .inr ⟨rfl,rfl⟩
    ·exact .inl hx
  obtain⟨p1,p2,⟨x0,p3,p4⟩,p5⟩:=hp
  refine⟨fun x hx=>ih.sub x (p1 x hx),fun x hx=>?_,fun b hb=>?_,fun h=>ih.ord (p5 h)⟩
  ·rcases ih.new x hx with h|⟨h1,b,hb,h2⟩
   ·rcases p2 x h with h|⟨h1,h2⟩
    ·exact .inl h
    ·exact .inr ⟨h1,a,List.mem_cons_self,h2⟩
   ·exact .inr ⟨h1,b,List.mem_cons_of_mem _ hb,h2⟩
  ·rcases List.mem_cons.1 hb with rfl|hb
   ·exact⟨x0,ih.sub x0 p3,p4⟩
   ·exact ih.all b hb
theorem qiB(l:List qe):qqM (vb l) [] (qaE l):=qoH (vb l) []
theorem qiL(l:List qe):qv (wd l)=(qaE l).map qaI:=by
 unfold qv wd
 rw[List.map_map]
 rfl
theorem qmW:∀{m:List (PK×Int)},(∀e∈m,e.2=0)->∀k,qj m k=0
 |[],_,_=>rfl
 |(j,u)::r,h,k=>by
  have ih:=qmW (m:=r) (fun e he=>h e (List.mem_cons_of_mem _ he)) k
  unfold qj at ih ⊢
  simp only[vu]
  split
  ·exact h _ List.mem_cons_self
  ·exact ih
theorem quY{l:List qe}(hk:∀c∈l,∀x∈c.body,1<=x.kind){k:PK}:(∃a∈vb l,k=ofA a)↔∃c∈l,k∈vB c:=by
 have hc:∀c∈l,(∃a∈qbQ c,k=ofA a)↔k∈vB c:=by
  intro c hcm
  unfold qbQ vB
  constructor
  ·rintro⟨a,ha,rfl⟩
   rcases List.mem_cons.1 ha with rfl|ha
   ·exact List.mem_cons_self
   ·obtain⟨x,hx,ha⟩:=List.mem_flatMap.1 ha
    unfold qbe at ha
    split at ha
    ·rename_i h2
     rw[List.mem_singleton.1 ha]
     have h1:=hk c hcm x hx
     have h12:x.kind=1\/x.kind=2:=by omega
     exact List.mem_cons_of_mem _ (List.mem_map.2 ⟨x,List.mem_filter.2 ⟨hx,by simpa using h12⟩,rfl⟩)
    ·cases ha
  ·intro h
   rcases List.mem_cons.1 h with rfl|h
   ·exact⟨c.head,List.mem_cons_self,rfl⟩
   ·obtain⟨x,hx,rfl⟩:=List.mem_map.1 h
    obtain⟨h1,h2⟩:=List.mem_filter.1 hx
    refine⟨x.atom,List.mem_cons_of_mem _ (List.mem_flatMap.2 ⟨x,h1,?_⟩),rfl⟩
    have:x.kind=1\/x.kind=2:=by simpa using h2
    unfold qbe
    rw[if_pos (by omega)]
    exact List.mem_singleton.2 rfl
 constructor
 ·rintro⟨a,ha,e⟩
  obtain⟨c,hcm,ha⟩:=List.mem_flatMap.1 ha
  exact⟨c,hcm,(hc c hcm).1 ⟨a,ha,e⟩⟩
 ·rintro⟨c,hcm,h⟩
  obtain⟨a,ha,e⟩:=(hc c hcm).2 h
  exact⟨a,List.mem_flatMap.2 ⟨c,hcm,ha⟩,e⟩
theorem quW{l:List qe}(hk:∀c∈l,∀x∈c.body,1<=x.kind){k:PK}:k∈qv (wd l)↔∃c∈l,k∈vB c:=by
 rw[<-quY hk,qiL,List.mem_map]
 have h:=qiB l
 constructor
 ·rintro⟨x,hx,rfl⟩
  rcases h.new x hx with h|⟨_,a,ha,e⟩
  ·cases h
  ·exact⟨a,ha,e⟩
 ·rintro⟨a,ha,rfl⟩
  exact h.all a ha
theorem qiC{l:List qe}(hk:∀c∈l,∀x∈c.body,1<=x.kind):qqO l where
 zero:=qmW fun e he=>by
  unfold wd at he
  obtain⟨s,hs,rfl⟩:=List.mem_map.1 he
  rcases (qiB l).new s hs with h|⟨h,_⟩
  ·cases h
  ·exact h
 has c hc k hkc:=(quW hk).2 ⟨c,hc,hkc⟩
theorem qvy{x y:qF}(h:vH x y):qaI x≠qaI y:=by
 intro e
 have e1:x.pred=y.pred:=congrArg Prod.fst e
 have e2:x.args=y.args:=congrArg Prod.snd e
 rcases h with h|⟨_,h⟩
 ·rw[e1,qjf,qkb]at h;cases h
 ·omega
theorem quQ(l:List qe):(qv (wd l)).Nodup:=by
 rw[qiL]
 have h:(qaE l).Pairwise vH:=(qiB l).ord .nil
 exact List.pairwise_map.2 (h.imp qvy)
theorem qrQ:qf 89 [qy []] (.tup [Nl,.bool true]):=by
 refine qf.of c89 fun H hH=>⟨Nat.le_of_ble_eq_true rfl,?_⟩
 simp(disch:=omega)[b89]
 have hp:qf 150 [qy []] Nl:=by
  refine qf.of c150 fun H hH=>⟨Nat.le_of_ble_eq_true rfl,?_⟩
  simp(disch:=omega)[qaQ]
  refine wZ ?_
  simp(disch:=omega)
  refine wZ ?_
  simp(disch:=omega)
  exact qh hH (by first|rfl|simp[])
 refine hp.go fun n hn=>?_
 simp(disch:=omega)[zJ]
 refine wZ ?_
 simp(disch:=omega)[zJ]
 refine wZ ?_
 simp(disch:=omega)
 exact qh hH (by first|rfl|simp[])
end Go.Abs.Tz
namespace Go.Abs.Tz
open Go Go.Abs Go.Proofs
theorem qnw:∀(l:List Int)(t:Int),t<=uA t l/\(∀x∈l,x<=uA t l)/\∀N,t<=N->(∀x∈l,x<=N)->uA t l<=N
 |[],t=>⟨Int.le_refl _,fun x hx=>(by cases hx),fun N h _=>h⟩
 |a::l,t=>by
  obtain⟨h1,h2,h3⟩:=qnw l (mx t a)
  have e:uA t (a::l)=uA (mx t a) l:=rfl
  have hm:t<=mx t a/\a<=mx t a/\∀N,t<=N->a<=N->mx t a<=N:=by
   unfold mx
   split<;>exact⟨by omega,by omega,fun N _ _=>by omega⟩
  rw[e]
  refine⟨Int.le_trans hm.1 h1,fun x hx=>?_,fun N h k=>h3 N (hm.2.2 N h (k a List.mem_cons_self)) fun x hx=>k x (List.mem_cons_of_mem _ hx)⟩
  rcases List.mem_cons.1 hx with rfl|hx
  ·exact Int.le_trans hm.2.1 h1
  ·exact h2 x hx
theorem qmY{k:PK}:∀{m:List (PK×Int)},k∉qv m->vu k m=none
 |[],_=>rfl
 |(j,v)::r,h=>by
  have h1:¬j=k:=fun e=>h (by simp[qv,e])
  have h2:k∉qv r:=fun e=>h (by simp only[qv,List.map_cons];exact List.mem_cons_of_mem _ e)
  unfold vu
  have ih:=qmY h2
  split
  ·rename_i he
   exact absurd (vk.1 he).symm h1
  ·exact ih
structure ws(l:List qe)(m:List (PK×Int)):Prop where
 nd:(qv m).Nodup
 has:∀c∈l,∀k∈vB c,k∈qv m
 nn:∀k,0<=qj m k
 sol:yQ (y6 l) (qK m)
 len:m.length<=240
 bd:∀k,qj m k<=m.length
theorem qnJ{l:List qe}(hg:qdL l){V:List PK}(hN:V.Nodup)(hV:∀c∈l,∀k∈vB c,k∈V)(hVl:V.length<=240){m:List (PK×Int)}(h:qcu l V m):ws l m:=by
 have hl:m.length=V.length:=by rw[<-h.keys,vC]
 refine⟨by rw[h.keys];exact hN,fun c hc k hk=>by rw[h.keys];exact hV c hc k hk,h.nn,h.sol,by omega,fun k=>?_⟩
 by_cases hk:k∈V
 ·have hb:=qgN h.sol (V:=V) (fun g hg=>qlH fun k _=>h.le g hg k) (fun e he=>⟨(qfE hV e he).1,(qfE hV e he).2.1⟩) (fun e he=>(qfE hV e he).2.2) hk
  have h0:=h.nn k
  unfold qK at hb
  omega
 ·have:qj m k=0:=by
   unfold qj
   have:vu k m=none:=by
    rw[<-h.keys]at hk
    exact qmY hk
   rw[this];rfl
  omega
theorem qnH(l:List qe)(hc:(qJ l).1=0):∃fuel R,wi l fuel (l.foldl yW [])=some R /\
  ((R=none/\y5 l=none)\/∃m q,R=some m/\y5 l=some q/\ws l m/\ws l q/\∀k,qj m k=qj q k):=by
 have hg:=qgV hc
 have hk:∀c∈l,∀x∈c.body,1<=x.kind:=fun c hc x hx=>(hg.kind c hc x hx).1
 obtain⟨i1,i2,i3,i4⟩:=qjq l [] fun _=>rfl
 have i5:=hg.initLen
 obtain⟨m0,hm0⟩:∃m0,l.foldl yW []=m0:=⟨_,rfl⟩
 rw[hm0]at i1 i2 i3 i5 ⊢
 have hV:∀c∈l,∀k∈vB c,k∈qv m0:=fun c hc k hkc=>(i3 k).2 (.inr ⟨c,hc,hkc⟩)
 have hz:∀k,qK m0 k=0:=fun k=>by unfold qK;rw[i1 k];rfl
 obtain⟨R,hR,hE⟩:=qxl hV ((qv m0).length*(qv m0).length) m0 rfl (fun k=>by rw[i1 k];omega) (fun g _ k=>by rw[hz k];omega) (Nat.le_add_left _ _)
 have hW:∀c∈l,∀k∈vB c,k∈qv (wd l):=(qiC hk).has
 have hN:=quQ l
 have hE2:qfT l (qv (wd l)) (y5 l):=qtE hW hN (wd l) rfl (qiC hk).zero ((wd l).length+1) (by rw[vC];omega)
 have hPl:(qv (wd l)).length<=240:=by
  rw[qiL,List.length_map]
  have h1:=(qjA (vb l) []).1
  have h2:=hg.allLen
  unfold qaE
  simp only[List.length_nil,Nat.zero_add]at h1
  omega
 refine⟨_,R,hR,?_⟩
 rcases qtr hE hE2 with h|⟨m,q,h1,h2,h3,h4,h5⟩
 ·exact .inl h
 ·exact .inr ⟨m,q,h1,h2,qnJ hg (i2 .nil) hV (by rw[vC];exact i5) h3,qnJ hg hN hW hPl h4,h5⟩
theorem ws.max{l:List qe}{m:List (PK×Int)}(h:ws l m):0<=uA 0 (m.map (·.2))/\uA 0 (m.map (·.2))<=240/\∀k∈qv m,qj m k<=uA 0 (m.map (·.2)):=by
 obtain⟨h1,h2,h3⟩:=qnw (m.map (·.2)) 0
 have hl:=h.len
 refine⟨h1,h3 240 (by omega) fun x hx=>?_,fun k hk=>?_⟩
 ·obtain⟨e,he,rfl⟩:=List.mem_map.1 hx
  have:=h.bd e.1
  rw[qgA h.nd e he]at this
  omega
 ·obtain⟨e,he,rfl⟩:=List.mem_map.1 hk
  rw[qgA h.nd e he]
  exact h2 _ (List.mem_map.2 ⟨e,he,rfl⟩)
theorem ws.lits{l:List qe}{m:List (PK×Int)}(h:ws l m){c:qe}(hc:c∈l){x:Lit}(hx:x∈c.body):(x.kind=1->qj m (ofA x.atom)<=qj m (ofA c.head))/\(x.kind=2->qj m (ofA x.atom)<qj m (ofA c.head)):=by
 have hn1:=h.nn (ofA x.atom)
 have hn2:=h.nn (ofA c.head)
 constructor
 ·intro hk
  have he:wS (ofA c.head) x=some (ofA c.head,ofA x.atom,0):=by unfold wS;rw[if_pos hk]
  have:=h.sol _ (List.mem_flatMap.2 ⟨c,hc,List.mem_filterMap.2 ⟨x,hx,he⟩⟩)
  simp only[qK]at this
  omega
 ·intro hk
  have he:wS (ofA c.head) x=some (ofA c.head,ofA x.atom,1):=by unfold wS;rw[if_neg (by omega),if_pos hk]
  have:=h.sol _ (List.mem_flatMap.2 ⟨c,hc,List.mem_filterMap.2 ⟨x,hx,he⟩⟩)
  simp only[qK]at this
  omega
end Go.Abs.Tz
namespace Go.Abs
open Go
section
variable{E:Env}{F:Fns}
theorem qeB{b:BFn}{f:FuncId}{args:List LV}{H:qa}{kv kp:HP}(hf:F.fn f b)
  (h:H.Ok->fnP E F b args H (fun v H'=>∃v' H'',Wk v v'/\HWk H' H''/\(H'.Ok->H''.Ok)/\kv v' H'') kp):cP E F f args H kv kp:=by
 intro hH
 obtain⟨hn,h⟩:=h hH
 obtain⟨t,h1,h2⟩:=qfL h
 have ht:t.get=zw args:=by
  funext j
  rw[h2 j]
  simp only[zw]
  by_cases hj:j<args.length
  ·rw[if_pos (by omega)];simp
  ·rw[if_neg (by omega)]
   have:args[j]? = none:=List.getElem?_eq_none (by omega)
   simp[List.getD_eq_getElem?_getD,this,FT.get_nil]
 have hb:=qaX b.body t H _ hH h1
 rw[ht]at hb
 refine .enter hf hn hb (fun fr df H' hT=>?_) (fun v fr df H' hT=>?_) (fun n fr df H' hT=>?_)
 ·have:∃(t':FT),fr=t'.get/\df=[]/\H'.Ok/\ve E b.res t' H' fun v=>∃v' H'',Wk v v'/\HWk H' H''/\(H'.Ok->H''.Ok)/\kv v' H'':=by
   rcases hT with⟨e,t',H'',he,hok,hk⟩|⟨e,t',H'',he,hok,hk⟩<;>cases he
   ·exact⟨t',rfl,rfl,hok,hk⟩
   ·exact⟨t',rfl,rfl,hok,hk⟩
  obtain⟨t',rfl,rfl,hok,v,hv,v',H1,hw,h3,h4,h5⟩:=this
  exact⟨rfl,v,v',H1,hv,hw,h3,.inl ⟨v',H1,rfl,h4 hok,h5⟩⟩
 ·obtain⟨e,t',H'',he,hok,hk⟩:=hT
  cases he
  exact⟨rfl,v,H',.inl rfl,⟨Nat.le_refl _,fun _ _ h=>h⟩,.inr ⟨v,H',rfl,hok,hk⟩⟩
 ·obtain⟨e,t',H'',he,hok,hk⟩:=hT
  cases he
  cases hk
end
end Go.Abs
namespace Go.Abs.Tz
open Go Go.Abs Go.Proofs
set_option maxRecDepth 20000
set_option linter.unusedSimpArgs false
attribute [local simp ↓] gT gS jh jg gv ug q9 zu jf ub yD yE gU gW gY gV jm jp ju jn jv jw jq jr jo jk ji jl jj yB yz yC yA gN gL gO gM g8 g6 g7 uh zG jy qX jz gy yF yG yb yd yc g9 ya ym jD jI jL jH jJ jK gh gg jR jT uQ uN ja jd uO uW u9 uZ uY uX uU uJ uK uL uM jb uS uT uH jc je uP uR uV uI jX jS gd gk jU j8 gc gb ga j9 j6 jP gf j3 j5 jM gj gp jV jZ j7 jN gt gi jO gq j0 jW jY jQ ge jE jG jF yg yk yf yh yj qp ur
attribute [local simp] faL fdL iaL ixL qD qY qT eqK eqL qO zi uD ye yy yn yp yr yu yw yx yo yt yq yv zy LV.cells LV.whole qp uq zU jA stL zz zP uc qa.alloc gw gu gx gK gJ gI gH gG gF gD gC gA gz qd ui
theorem qoX{k:ByteArray}:∀{K:qx},(ut K).Nodup->wC (.pl 1) (.str k) (qI K)=some ((zf k K).map za)
 |[],_=>rfl
 |(j,v)::r,hn=>by
  obtain⟨h1,h2⟩:=List.nodup_cons.1 (show (j::ut r).Nodup from hn)
  have ih:=qoX (k:=k) h2
  show (match eqK (.pl 1) (.str k) (.str j),wC (.pl 1) (.str k) (qI r) with
   |some true,some none=>some (some (za v))
   |some false,some x=>some x
   |_,_=>none)=_
  rw[ih]
  by_cases he:k=j
  ·subst he
   have hnone:zf k r=none:=by
    cases hf:zf k r with
    |none=>rfl
    |some t=>exact absurd (List.mem_map.2 ⟨_,(qfB h2).1 hf,rfl⟩) h1
   simp[hnone,zf,qbi]
  ·have:eqBA k j=false:=by
    cases h:eqBA k j with
    |false=>rfl
    |true=>exact absurd (wD.1 h) he
   simp[zf,this]
theorem lkU{H:qa}{o:Nat}{K:qx}(hl:look o H.objs=some (.um (qI K)))(hn:(ut K).Nodup)(k:ByteArray)(z:LV):lkL H (.pl 1) false z (.map o) (.str k)=some (match zf k K with|some t=>za t|none=>z):=by
 simp only[lkL,hl,qoX hn]
 cases zf k K<;>rfl
def zT:Term:=⟨0,0,⟨⟨[]⟩⟩⟩
def zM(K:qx)(t:Term):Term:=if t.kind=3 then (zf t.s K).getD zT else t
def zp(K:qx)(a:Atom):Atom:=⟨a.pred,a.args.map (zM K)⟩
theorem qhS(t:Term)(K:qx)(hn:(ut K).Nodup)(o:Nat)(H:qa)(hl:look o H.objs=some (.um (qI K))){kv kp:HP}(hk:∀n,H.next<=n->kv (za (zM K t)) ⟨H.objs,n⟩):
  cP E0 F0 211 [za t,.map o] H kv kp:=by
 refine zR c211 fun hH=>⟨Nat.le_of_ble_eq_true rfl,?_⟩
 have ho:o<H.next:=hH.look hl
 have fin:∀(x y:qc)(v:LV),v=za (zM K t)->∃H'',HWk ⟨(H.next+1,x)::(H.next,y)::H.objs,H.next+1+1⟩ H''/\(qa.Ok ⟨(H.next+1,x)::(H.next,y)::H.objs,H.next+1+1⟩->H''.Ok)/\kv v H'':=fun x y v hv=>by
  obtain⟨g1,g2⟩:=zN hH (qq.cons' hH (i:=H.next+1) (m:=H.next+1+1) (o:=x) (by omega) (by omega) (qq.cons' hH (i:=H.next) (m:=H.next) (o:=y) (by omega) (by omega) (qq.refl' _)))
  exact⟨_,g1,g2,by rw[hv];exact hk _ (by omega)⟩
 by_cases h3:t.kind=3
 ·simp(disch:=omega)[b211,h3]
  rw[lkU (by rw[qd (by omega),qd (by omega)];exact hl) hn]
  cases hf:zf t.s K with
  |none=>
   simp(disch:=omega)[hf]
   exact fin _ _ _ (by simp[zM,h3,hf,zT])
  |some u=>
   simp(disch:=omega)[hf]
   exact fin _ _ _ (by simp[zM,h3,hf])
 ·simp(disch:=omega)[b211,h3]
  exact fin _ _ _ (by simp[zM,h3])
theorem qkl{H:qa}{sz:Nat}{X:List LV}{x:LV}{ow:Own}(hX:(X.all fun e=>e.cells.length==sz)=true)(hx:x.cells.length=sz)(hc:X.length+1<=2^30)(hs:sz<=2^10):
  apL H sz (.sl X .full) (.sl [x] ow)=some (.sl (X++[x]) (.tok H.next),H.alloc (.tok (X.length+1) sz)):=by
 have hxs:([x].all fun e=>e.cells.length==sz)=true:=by
  show (x.cells.length==sz&&true)=true
  rw[hx];simp
 unfold apL
 simp only
 rw[hX,hxs]
 simp only[Bool.and_self,if_true]
 rw[if_pos ⟨hc,hs,rfl⟩]
 rfl
theorem qkk{H:qa}{sz t:Nat}{X:List LV}{x:LV}{ow:Own}(hX:(X.all fun e=>e.cells.length==sz)=true)(hx:x.cells.length=sz)(hc:X.length+1<=2^30)(hs:sz<=2^10)(h0:0<sz)(hl:look t H.objs=some (.tok X.length sz)):
  apL H sz (.sl X (.tok t)) (.sl [x] ow)=some (.sl (X++[x]) (.tok t),H.put t (.tok (X.length+1) sz)):=by
 have hxs:([x].all fun e=>e.cells.length==sz)=true:=by
  show (x.cells.length==sz&&true)=true
  rw[hx];simp
 have hcan:y9 H sz (.tok t) X.length=true:=by
  have:sz≠0:=by omega
  simp[y9,hl,this]
 unfold apL
 simp only
 rw[hX,hxs]
 simp only[Bool.and_self,if_true]
 rw[if_pos ⟨hc,hs,hcan⟩]
 rfl
structure NNFl where
 i:Nat
 n:Nat
 xs:List Term
 own:Own
 ob:List (Nat×qc)
abbrev qcM(K:Term->Term)(l:List Term):List LV:=l.map fun t=>za (K t)
theorem qwr(K:Term->Term)(l:List Term):(qcM K l).all (fun e=>e.cells.length==3)=true:=by
 rw[List.all_map,List.all_eq_true]
 intro x _
 rfl
theorem qlr(a:Atom)(hA:a.args.length<=2^20)(K:Term->Term)(mv:LV)(H:qa)(hf:∀t∈a.args,∀(l:List (Nat×qc)) (n:Nat) (kv kp:HP),H.next<=n->(∀i,i<H.next->look i l=look i H.objs)->(∀n',n<=n'->kv (za (K t)) ⟨l,n'⟩)->cP E0 F0 211 [za t,mv] ⟨l,n⟩ kv kp)
  {kv kp:HP} (hk:∀n,H.next<=n->kv (ql ⟨a.pred,a.args.map K⟩) ⟨H.objs,n⟩):cP E0 F0 181 [ql a,mv] H kv kp:=by
 refine qeB c181 fun hH=>⟨Nat.le_of_ble_eq_true rfl,?_⟩
 obtain⟨N,hN⟩:∃N,H.next=N:=⟨_,rfl⟩
 obtain⟨ob0,nx0⟩:=H
 dsimp only at hN hf hk
 subst hN
 simp(disch:=omega)[b181]
 refine qA (σ:=NNFl) (fun q=>(.nd (ql a) (.nd (mv) .nil (.nd (.ptr (nx0+1+1) 0) .nil (.nd (.int a.args.length) .nil .nil))) (.nd (.ptr nx0 0) (.nd (.ptr (nx0+1) 0) .nil (.nd (qt a.args) .nil .nil)) (.nd .bot .nil (.nd (.int q.i) .nil .nil))))) (fun q=>⟨q.ob,q.n⟩) (fun q=>a.args.length - q.i)
  (fun q=>uw ⟨(nx0+1+1,.cells [.str a.pred,.sl (qcM K q.xs) q.own])::(nx0+1,.cells [S [],Nl])::(nx0,.cells [.str a.pred,qt a.args])::ob0,nx0+1+1+1⟩ 3 q.i q.own q.ob q.n/\q.i<=a.args.length/\q.xs.length=q.i/\q.xs++a.args.drop q.i=a.args)
  ⟨0,nx0+1+1+1,[],.full,(nx0+1+1,.cells [.str a.pred,Nl])::(nx0+1,.cells [S [],Nl])::(nx0,.cells [.str a.pred,qt a.args])::ob0⟩ ⟨.inl ⟨rfl,rfl,Nat.le_refl _⟩,Nat.zero_le _,rfl,by simp⟩ (by simp[FT.Le,Wk]) ⟨HWk.refl _,fun h=>h⟩ ?_
 rintro⟨i,n,xs,own,ob⟩ ⟨hr,hi,hxl,hxs⟩ hok
 dsimp only at hr hi hok hxl hxs
 have hfin:∀(ow:Own)(H':qa),HWk H' ⟨ob0,n⟩->xs=a.args->∃v',Wk (LV.agg [.str a.pred,.sl (qcM K xs) ow]) v'/\∃H'',HWk H' H''/\(H'.Ok->H''.Ok)/\kv v' H'':=by
  intro ow H' hw hx
  have hn0:nx0<=n:=by
   rcases hr with⟨_,_,h3⟩|⟨t,_,g1,g2,_⟩
   ·dsimp only at h3;omega
   ·dsimp only at g1;omega
  refine⟨ql ⟨a.pred,a.args.map K⟩,.inr (.inl ?_),⟨ob0,n⟩,hw,fun _=>qn.mono hH hn0,hk n hn0⟩
  subst hx
  simp[LV.strip,qcz,List.map_map,Function.comp_def]
 by_cases hlt:i<a.args.length
 case neg=>
  have hall:xs=a.args:=by rw[List.drop_eq_nil_of_le (by omega),List.append_nil]at hxs;exact hxs
  rcases hr with⟨rfl,rfl,h3⟩|⟨t,rfl,g1,g2,rfl⟩
  ·dsimp only at h3
   simp(disch:=omega)[hlt]
   refine hfin _ _ ⟨Nat.le_refl _,fun i x hx=>?_⟩ hall
   have:i<nx0:=hH.look hx
   rw[qd (by omega),qd (by omega),qd (by omega)]
   exact hx
  ·dsimp only at g1
   simp(disch:=omega)[hlt]
   refine hfin _ _ ⟨Nat.le_refl _,fun i x hx=>?_⟩ hall
   have:i<nx0:=hH.look hx
   rw[qd (by omega),qd (by omega),qd (by omega),qd (by omega)]
   exact hx
 have hX:=qwr K xs
 obtain⟨X,hXe⟩:∃X,qcM K xs=X:=⟨_,rfl⟩
 have hXl:X.length=i:=by rw[<-hXe,List.length_map];exact hxl
 have hnew:qcM K (xs++[a.args[i]])=X++[za (K a.args[i])]:=by rw[<-hXe];simp[qcM]
 have hxl2:(xs++[a.args[i]]).length=i+1:=by simp[hxl]
 have hxs2:(xs++[a.args[i]])++a.args.drop (i+1)=a.args:=by
  rw[List.append_assoc]
  show xs++(a.args[i]::a.args.drop (i+1))=a.args
  rw[<-List.drop_eq_getElem_cons hlt]
  exact hxs
 rw[hXe]at hX hr
 have hcan:i+1<=2^30:=by omega
 rcases hr with⟨rfl,rfl,h3⟩|⟨t,rfl,g1,g2,rfl⟩
 ·dsimp only at h3
  simp(disch:=omega)[hlt]
  refine hf a.args[i] (List.getElem_mem hlt) _ _ _ _ (by omega) (fun j hj=>by rw[qd (by omega),qd (by omega),qd (by omega),qd (by omega)]) fun n2 hn2=>?_
  simp(disch:=omega)
  refine zd ?_
  simp(disch:=omega)
  rw[qkl hX rfl (by rw[hXl];exact hcan) (by omega)]
  simp(disch:=omega)[hXl,qk (show i<2^62 by omega)]
  refine⟨⟨i+1,n2+1,xs++[a.args[i]],.tok n2,(n2,.tok (i+1) 3)::(nx0+1+1,.cells [.str a.pred,.sl (qcM K (xs++[a.args[i]])) (.tok n2)])::(nx0+1,.cells [S [],Nl])::(nx0,.cells [.str a.pred,qt a.args])::ob0⟩,by dsimp only;omega,⟨.inr ⟨n2,rfl,by dsimp only;omega,Nat.lt_succ_self _,rfl⟩,by dsimp only;omega,hxl2,hxs2⟩,by simp[FT.Le,Wk],?_⟩
  dsimp only
  rw[hnew]
  have hB:qn ((nx0+1+1,qc.cells [.str a.pred,.sl (X++[za (K a.args[i])]) (.tok n2)])::(nx0+1,.cells [S [],Nl])::(nx0,.cells [.str a.pred,qt a.args])::ob0) n:=⟨by omega,by omega,by omega,hH⟩
  exact⟨qbK hB fun _ _ h=>h,fun _=>⟨Nat.lt_succ_self _,hB.mono (by omega)⟩⟩
 ·dsimp only at g1
  simp(disch:=omega)[hlt]
  refine hf a.args[i] (List.getElem_mem hlt) _ _ _ _ (by omega) (fun j hj=>by rw[qd (by omega),qd (by omega),qd (by omega),qd (by omega),qd (by omega)]) fun n2 hn2=>?_
  simp(disch:=omega)
  refine zd ?_
  simp(disch:=omega)
  rw[qkk hX rfl (by rw[hXl];exact hcan) (by omega) (by omega) (by rw[qd (by omega),hXl];simp[look])]
  simp(disch:=omega)[hXl,qk (show i<2^62 by omega)]
  refine⟨⟨i+1,n2,xs++[a.args[i]],.tok t,(t,.tok (i+1) 3)::(nx0+1+1,.cells [.str a.pred,.sl (qcM K (xs++[a.args[i]])) (.tok t)])::(nx0+1,.cells [S [],Nl])::(nx0,.cells [.str a.pred,qt a.args])::ob0⟩,by dsimp only;omega,⟨.inr ⟨t,rfl,g1,by dsimp only;omega,rfl⟩,by dsimp only;omega,hxl2,hxs2⟩,by simp[FT.Le,Wk],?_⟩
  dsimp only
  rw[hnew]
  have hOk3:qa.Ok ⟨(t,.tok (i+1) 3)::(nx0+1+1,qc.cells [.str a.pred,.sl (X++[za (K a.args[i])]) (.tok t)])::(nx0+1,.cells [S [],Nl])::(nx0,.cells [.str a.pred,qt a.args])::ob0,n⟩:=⟨g2,g1,by omega,by omega,hH⟩
  exact zN hOk3 (qq.cons hOk3 (Nat.le_refl _) (qq.refl (Nat.le_refl _)) (by dsimp only;omega))
theorem qlq(a:Atom)(hA:a.args.length<=2^20)(K:qx)(hn:(ut K).Nodup)(o:Nat)(H:qa)(hl:look o H.objs=some (.um (qI K))){kv kp:HP}(hk:∀n,H.next<=n->kv (ql (zp K a)) ⟨H.objs,n⟩):
  cP E0 F0 181 [ql a,.map o] H kv kp:=fun hH=>
 qlr a hA (zM K) (.map o) H (fun t _ l n kv kp _ hs hk2=>qhS t K hn o ⟨l,n⟩ (by dsimp only;rw[hs o (hH.look hl)];exact hl) hk2) hk hH
theorem qsy(t:Term)(h3:t.kind≠3)(H:qa){kv kp:HP}(hk:∀n,H.next<=n->kv (za t) ⟨H.objs,n⟩):cP E0 F0 211 [za t,.sc (.map none)] H kv kp:=by
 refine zR c211 fun hH=>⟨Nat.le_of_ble_eq_true rfl,?_⟩
 simp(disch:=omega)[b211,h3]
 obtain⟨g1,g2⟩:=zN hH (qq.cons' hH (i:=H.next+1) (m:=H.next+1+1) (o:=.cells [.int t.kind,.int t.n,.str t.s]) (by omega) (by omega) (qq.cons' hH (i:=H.next) (m:=H.next) (o:=.cells [.int t.kind,.int t.n,.str t.s]) (by omega) (by omega) (qq.refl' _)))
 exact⟨_,g1,g2,hk _ (by omega)⟩
theorem qsx(a:Atom)(hA:a.args.length<=2^20)(hg:∀t∈a.args,t.kind≠3)(H:qa){kv kp:HP}(hk:∀n,H.next<=n->kv (ql a) ⟨H.objs,n⟩):cP E0 F0 181 [ql a,.sc (.map none)] H kv kp:=
 qlr a hA id (.sc (.map none)) H (fun t ht l n kv kp _ _ hk2=>qsy t (hg t ht) ⟨l,n⟩ hk2) (by simpa using hk)
def qce(t:Term):Bool:=decide (t.kind=1)
def qcm(K:qx)(x:Lit):Bool:=
 if x.kind=3 then eqT (zM K x.a) (zM K x.b)
 else if x.kind=4 then !eqT (zM K x.a) (zM K x.b)
 else if x.kind=5 then qce (zM K x.a)&&qce (zM K x.b)&&decide ((zM K x.a).n<(zM K x.b).n)
 else qce (zM K x.a)&&qce (zM K x.b)&&decide ((zM K x.a).n<=(zM K x.b).n)
theorem qsD(x:Lit)(K:qx)(hn:(ut K).Nodup)(o:Nat)(H:qa)(hl:look o H.objs=some (.um (qI K))){kv kp:HP}(hk:∀n,H.next<=n->kv (.bool (qcm K x)) ⟨H.objs,n⟩):
  cP E0 F0 193 [qeh x,.map o] H kv kp:=by
 refine zR c193 fun hH=>⟨Nat.le_of_ble_eq_true rfl,?_⟩
 have ho:o<H.next:=hH.look hl
 obtain⟨ob0,nx0⟩:=H
 dsimp only at hl ho hk
 simp(disch:=omega)[b193]
 refine qhS x.a K hn o _ (by dsimp only;rw[qd (by omega)];exact hl) fun n2 hn2=>?_
 dsimp only at hn2
 simp(disch:=omega)
 refine qhS x.b K hn o _ (by dsimp only;rw[qd (by omega)];exact hl) fun n3 hn3=>?_
 dsimp only at hn3
 have hfin:∀(H':qa)(v:LV),HWk H' ⟨ob0,n3+1+1⟩->v=.bool (qcm K x)->∃H'',HWk H' H''/\(H'.Ok->H''.Ok)/\kv v H'':=fun H' v hw hv=>⟨⟨ob0,n3+1+1⟩,hw,fun _=>qn.mono hH (by dsimp only;omega),by rw[hv];exact hk _ (by omega)⟩
 have hw:∀(c1 c2 c3:qc),HWk ⟨(n3+1,c1)::(n3,c2)::(nx0,c3)::ob0,n3+1+1⟩ ⟨ob0,n3+1+1⟩:=fun c1 c2 c3=>⟨Nat.le_refl _,fun i y hy=>by
  have:i<nx0:=hH.look hy
  rw[qd (by omega),qd (by omega),qd (by omega)]
  exact hy⟩
 obtain⟨P,hP⟩:∃P,zM K x.a=P:=⟨_,rfl⟩
 obtain⟨Q,hQ⟩:∃Q,zM K x.b=Q:=⟨_,rfl⟩
 have hcl:qcm K x=if x.kind=3 then eqT P Q else if x.kind=4 then !eqT P Q else if x.kind=5 then qce P&&qce Q&&decide (P.n<Q.n) else qce P&&qce Q&&decide (P.n<=Q.n):=by rw[<-hP,<-hQ];rfl
 rw[hcl]at hfin
 rw[hP,hQ]
 simp(disch:=omega)
 rcases Classical.em (P.kind=1) with p1|p1<;>rcases Classical.em (Q.kind=1) with q1|q1<;>rcases Classical.em (x.kind=3) with k3|k3<;>rcases Classical.em (x.kind=4) with k4|k4<;>rcases Classical.em (x.kind=5) with k5|k5<;>(try (exfalso;omega))
 all_goals (simp(disch:=omega)[p1,q1,k3,k4,k5])
 all_goals (exact hfin _ _ (hw _ _ _) (by simp[k3,k4,k5,qce,eqT,p1,q1]))
end Go.Abs.Tz
namespace Go.Abs.Tz
open Go
def qks(p:UInt8->Bool)(r:List UInt8):Prop:=∀c t,r=c::t->p c=false
theorem qhY{p:UInt8->Bool}:∀{xs ys r s:List UInt8},(∀x∈xs,p x=true)->(∀y∈ys,p y=true)->qks p r->qks p s->xs++r=ys++s->xs=ys/\r=s
 |[],[],_,_,_,_,_,_,h=>⟨rfl,h⟩
 |[],y::ys,r,s,_,hy,hr,_,h=>by
  have:=hr y (ys++s) h
  rw[hy y List.mem_cons_self]at this
  cases this
 |x::xs,[],r,s,hx,_,_,hs,h=>by
  have:=hs x (xs++r) h.symm
  rw[hx x List.mem_cons_self]at this
  cases this
 |x::xs,y::ys,r,s,hx,hy,hr,hs,h=>by
  simp only[List.cons_append,List.cons.injEq]at h
  obtain⟨h1,h2⟩:=qhY (fun z hz=>hx z (List.mem_cons_of_mem _ hz)) (fun z hz=>hy z (List.mem_cons_of_mem _ hz)) hr hs h.2
  exact⟨by rw[h.1,h1],h2⟩
theorem qev{d:Nat}(h:d<10):(UInt8.ofNat (48+d)).toNat=48+d:=by
 rw[UInt8.toNat_ofNat']
 omega
theorem qjN(u:Nat):Lib.decDigits u≠[]:=by
 rw[Lib.decDigits]
 split<;>simp
theorem qhl{u:Nat}(h:u<10):Lib.decDigits u=[UInt8.ofNat (48+u)]:=by rw[Lib.decDigits,dif_pos h]
theorem qhm{u:Nat}(h:¬u<10):Lib.decDigits u=Lib.decDigits (u / 10)++[UInt8.ofNat (48+u % 10)]:=by rw[Lib.decDigits,dif_neg h]
theorem qpE(u:Nat):∀v,Lib.decDigits u=Lib.decDigits v->u=v:=by
 induction u using Nat.strongRecOn with
 |_ u ih=>
  intro v h
  by_cases hu:u<10
  ·rw[qhl hu]at h
   by_cases hv:v<10
   ·rw[qhl hv]at h
    have:=congrArg UInt8.toNat (List.cons.inj h).1
    rw[qev hu,qev hv]at this
    omega
   ·rw[qhm hv]at h
    have hl:=congrArg List.length h
    rw[List.length_append]at hl
    have:=List.length_pos_iff.2 (qjN (v / 10))
    simp only[List.length_cons,List.length_nil]at hl
    omega
  ·rw[qhm hu]at h
   by_cases hv:v<10
   ·rw[qhl hv]at h
    have hl:=congrArg List.length h
    rw[List.length_append]at hl
    have:=List.length_pos_iff.2 (qjN (u / 10))
    simp only[List.length_cons,List.length_nil]at hl
    omega
   ·rw[qhm hv]at h
    obtain⟨h1,h2⟩:=List.append_inj' h rfl
    have e1:=ih (u / 10) (by omega) (v / 10) h1
    have:=congrArg UInt8.toNat (List.cons.inj h2).1
    rw[qev (Nat.mod_lt _ (by omega)),qev (Nat.mod_lt _ (by omega))]at this
    omega
theorem qjO(u:Nat):∀c∈Lib.decDigits u,48<=c.toNat/\c.toNat<=57:=by
 induction u using Nat.strongRecOn with
 |_ u ih=>
  intro c hc
  by_cases hu:u<10
  ·rw[qhl hu,List.mem_singleton]at hc
   subst hc
   rw[qev hu];omega
  ·rw[qhm hu,List.mem_append,List.mem_singleton]at hc
   rcases hc with hc|rfl
   ·exact ih (u / 10) (by omega) c hc
   ·rw[qev (Nat.mod_lt _ (by omega))]
    have:=Nat.mod_lt u (show 0<10 by omega)
    omega
theorem qnS(n:Int):∀c∈Lib.itoa n,c=45\/(48<=c.toNat/\c.toNat<=57):=by
 intro c hc
 unfold Lib.itoa at hc
 split at hc
 ·rcases List.mem_cons.1 hc with h|h
  ·exact .inl h
  ·exact .inr (qjO _ c h)
 ·exact .inr (qjO _ c hc)
theorem qvz(n:Int):Lib.itoa n≠[]:=by
 unfold Lib.itoa
 split
 ·simp
 ·exact qjN _
theorem qvA{m n:Int}(h:Lib.itoa m=Lib.itoa n):m=n:=by
 have no:∀(u:Nat)(r:List UInt8),Lib.decDigits u≠45::r:=by
  intro u r e
  have:=qjO u 45 (by rw[e];exact List.mem_cons_self)
  have h45:(45:UInt8).toNat=45:=rfl
  omega
 unfold Lib.itoa at h
 by_cases hm:m<0
 ·rw[if_pos hm]at h
  by_cases hn:n<0
  ·rw[if_pos hn]at h
   have:=qpE _ _ (List.cons.inj h).2
   omega
  ·rw[if_neg hn]at h
   exact absurd h.symm (no _ _)
 ·rw[if_neg hm]at h
  by_cases hn:n<0
  ·rw[if_pos hn]at h
   exact absurd h (no _ _)
  ·rw[if_neg hn]at h
   have:=qpE _ _ h
   omega
end Go.Abs.Tz
namespace Go.Abs.Tz
open Go Go.Abs Go.Proofs
set_option maxRecDepth 20000
set_option linter.unusedSimpArgs false
attribute [local simp ↓] gT gS jh jg gv ug q9 zu jf ub yD yE gU gW gY gV jm jp ju jn jv jw jq jr jo jk ji jl jj yB yz yC yA gN gL gO gM g8 g6 g7 uh zG jy qX jz gy yF yG yb yd yc g9 ya ym jD jI jL jH jJ jK gh gg jR jT uQ uN ja jd uO uW u9 uZ uY uX uU uJ uK uL uM jb uS uT uH jc je uP uR uV uI jX jS gd gk jU j8 gc gb ga j9 j6 jP gf j3 j5 jM gj gp jV jZ j7 jN gt gi jO gq j0 jW jY jQ ge jE jG jF yg yk yf yh yj qp ur
attribute [local simp] faL fdL iaL ixL qD qY qT eqK eqL qO zi uD ye yy yn yp yr yu yw yx yo yt yq yv zy LV.cells LV.whole qp uq zU jA stL zz zP uc qa.alloc gw gu gx gK gJ gI gH gG gF gD gC gA gz qd ui
theorem qqx(a b:List UInt8):((⟨⟨a⟩⟩:ByteArray)++(⟨⟨b⟩⟩:ByteArray))=⟨⟨a++b⟩⟩:=by
 apply ByteArray.ext
 simp
theorem qqv(a:List UInt8):(⟨⟨a⟩⟩:ByteArray).size=a.length:=rfl
theorem qqp(a b:Int)(k:IntKind)(hb:b≠0):zq .rem (.sc (.int k a)) (.sc (.int k b))=some (.sc (.int k (a.tmod b))):=by simp[zq,hb]
theorem qqq(a b:Int)(k:IntKind)(hb:b≠0):zq .quo (.sc (.int k a)) (.sc (.int k b))=some (.sc (.int k (k.wrap (a.tdiv b)))):=by simp[zq,hb]
theorem qpC:∀(k u:Nat),u<10^(k+1)->(Lib.decDigits u).length<=k+1
 |0,u,h=>by
  have h':u<10:=by simpa using h
  rw[Lib.decDigits,dif_pos h'];simp
 |k+1,u,h=>by
  by_cases h':u<10
  ·rw[Lib.decDigits,dif_pos h'];simp
  ·have:=qpC k (u / 10) (by rw[Nat.pow_succ]at h;omega)
   rw[Lib.decDigits,dif_neg h',List.length_append]
   simp only[List.length_cons,List.length_nil]
   omega
theorem qpD{u:Nat}(h:u<=2^40):(Lib.decDigits u).length<=13:=qpC 12 u (by omega)
def z1(t:Term):ByteArray:=if t.kind=1 then ⟨⟨Lib.itoa t.n⟩⟩ else t.s
theorem qrI(t:Term)(h:t.kind=1->-(2^40)<=t.n/\t.n<=2^40):qf 128 [za t] (.str (z1 t)):=by
 refine qf.of c128 fun H hH=>⟨Nat.le_of_ble_eq_true rfl,?_⟩
 by_cases h1:t.kind=1
 ·have:=h h1
  simp(disch:=omega)[b128,h1]
  refine(qsk t.n (by omega) (by omega)).go fun n hn=>?_
  simp(disch:=omega)
  exact qh hH (by simp[z1,h1])
 ·simp(disch:=omega)[b128,h1]
  exact qh hH (by simp[z1,h1])
def y4:List Term->Bool->List UInt8
 |[],first=>if first then [] else [41]
 |t::r,first=>(if first then [40] else [44,32])++(z1 t).data.toList++y4 r false
def qE(a:Atom):ByteArray:=⟨⟨a.pred.data.toList++y4 a.args true⟩⟩
theorem qyb(a:ByteArray):a.data.toList.length=a.size:=rfl
theorem qdO{lo hi:Int}{s:ByteArray}(h:zK lo hi s=true):s.size<=24:=by
 unfold zK at h
 simp only[Bool.and_eq_true,decide_eq_true_eq]at h
 omega
theorem qkT{t:Term}(h:qG t=true):(z1 t).size<=24/\(t.kind=1->-(2^40)<=t.n/\t.n<=2^40):=by
 unfold qG at h
 unfold z1
 by_cases h1:t.kind=1
 ·rw[if_pos h1]at h ⊢
  simp only[Bool.and_eq_true,decide_eq_true_eq]at h
  refine⟨?_,fun _=>by omega⟩
  show (Lib.itoa t.n).length<=24
  unfold Lib.itoa
  split
  ·have:=qpD (u:=t.n.natAbs) (by omega)
   rw[List.length_cons];omega
  ·have:=qpD (u:=t.n.toNat) (by omega)
   omega
 ·rw[if_neg h1]at h ⊢
  refine⟨?_,fun h=>absurd h h1⟩
  split at h
  ·simp only[Bool.and_eq_true]at h;exact qdO h.2
  ·split at h
   ·simp only[Bool.and_eq_true]at h;exact qdO h.2
   ·cases h
theorem qqD:∀{l:List Term}{b:Bool},l.all qG=true->(y4 l b).length<=26*l.length+1
 |[],b,_=>by unfold y4;split<;>simp
 |t::r,b,h=>by
  simp only[List.all_cons,Bool.and_eq_true]at h
  have h1:=(qkT h.1).1
  have h2:=qqD (b:=false) h.2
  have h3:(z1 t).data.toList.length<=24:=h1
  simp only[y4,List.length_append,List.length_cons]
  split<;>simp only[List.length_cons,List.length_nil]<;>omega
theorem qqy{a:Atom}(h:qM a=true):a.pred.size<=24/\a.args.length<=3/\a.args.all qG=true:=by
 unfold qM at h
 simp only[Bool.and_eq_true,decide_eq_true_eq]at h
 exact⟨qdO h.1,h.2⟩
theorem qyc{a:Atom}(h:qM a=true):(qE a).size<=110:=by
 obtain⟨h1,h2,h3⟩:=qqy h
 have:=qqD (b:=true) h3
 show (a.pred.data.toList++y4 a.args true).length<=110
 rw[List.length_append,qyb]
 omega
structure NNX where
 i:Nat
 n:Nat
 s:List UInt8
theorem qnR(sep:List UInt8):∀(x:List UInt8)(r:List (List UInt8)),Lib.join (x::r) sep=x++(r.map (sep++·)).flatten
 |x,[]=>by simp[Lib.join,List.intercalate,List.intersperse]
 |x,y::r=>by
  have ih:=qnR sep y r
  unfold Lib.join at ih ⊢
  unfold List.intercalate at ih ⊢
  rw[show List.intersperse sep (x::y::r)=x::sep::List.intersperse sep (y::r) from rfl]
  rw[List.flatten_cons,List.flatten_cons,ih]
  simp
theorem qqF:∀l:List Term,y4 l false=((l.map fun t=>(z1 t).data.toList).map ([44,32]++·)).flatten++[41]
 |[]=>rfl
 |t::r=>by
  have ih:=qqF r
  rw[y4,ih]
  simp
theorem qye{l:List Term}(h:l≠[]):y4 l true=[40]++Lib.join (l.map fun t=>(z1 t).data.toList) [44,32]++[41]:=by
 cases l with
 |nil=>exact absurd rfl h
 |cons t r=>
  rw[List.map_cons,qnR,y4,qqF]
  simp
structure NNY where
 i:Nat
 n:Nat
 xs:List ByteArray
 own:Own
 ob:List (Nat×qc)
abbrev qlK(xs:List ByteArray):List LV:=xs.map fun x=>.str x
theorem qlJ(xs:List ByteArray):(qlK xs).all (fun e=>e.cells.length==1)=true:=by
 rw[List.all_map,List.all_eq_true]
 intro x _
 rfl
theorem qgb(a:Atom)(h:qM a=true):qf 62 [ql a] (.str (qE a)):=by
 obtain⟨h1,h2,h3⟩:=qqy h
 have hX:(qE a).size<=110:=qyc h
 refine qf.of c62 fun H hH=>⟨Nat.le_of_ble_eq_true rfl,?_⟩
 by_cases h0:a.args.length=0
 ·have h0':(a.args.length:Int)=0:=by omega
  have hn:a.args=[]:=List.length_eq_zero_iff.1 h0
  have hX2:qE a=a.pred:=by
   unfold qE
   rw[hn]
   simp[y4]
  simp(disch:=omega)[b62,h0,h0']
  exact qh hH (by simp[hX2])
 have h0':¬(a.args.length:Int)=0:=by omega
 simp(disch:=omega)[b62,h0,h0']
 have hbase:qa.Ok ⟨(H.next,.cells [.str a.pred,qt a.args])::H.objs,H.next+1⟩:=⟨Nat.lt_succ_self _,hH⟩
 obtain⟨L,hL⟩:∃L,a.args.map z1=L:=⟨_,rfl⟩
 have hLl:L.length<=3:=by rw[<-hL,List.length_map];exact h2
 refine qA (σ:=NNY) (fun q=>(.nd .bot (.nd (.ptr H.next 0) (.nd (.sl (qlK q.xs) q.own) (.nd .bot (.nd (.int q.i) .nil .nil) .nil) .nil) (.nd .bot .nil (.nd (qt a.args) .nil .nil))) (.nd .bot .nil (.nd .bot .nil (.nd (.int a.args.length) .nil .nil))))) (fun q=>⟨q.ob,q.n⟩) (fun q=>a.args.length - q.i)
  (fun q=>uw ⟨(H.next,.cells [.str a.pred,qt a.args])::H.objs,H.next+1⟩ 1 q.xs.length q.own q.ob q.n/\H.next<q.n/\q.i<=a.args.length/\q.xs++(a.args.drop q.i).map z1=L) ⟨0,H.next+1,[],.full,(H.next,.cells [.str a.pred,qt a.args])::H.objs⟩
  ⟨.inl ⟨rfl,rfl,Nat.le_refl _⟩,Nat.lt_succ_self _,Nat.zero_le _,by simpa using hL⟩ (by simp[FT.Le,Wk]) ⟨HWk.refl _,fun h=>h⟩ ?_
 rintro⟨i,n,xs,own,ob⟩ ⟨hr,hn,hi,he⟩ hok
 dsimp only at hr hn hi he hok
 have hxl:xs.length<=3:=by
  have:=congrArg List.length he
  rw[List.length_append]at this
  omega
 have hob:ob=(H.next,.cells [.str a.pred,qt a.args])::H.objs\/∃t,H.next<t/\ob=(t,.tok xs.length 1)::(H.next,.cells [.str a.pred,qt a.args])::H.objs:=by
  rcases hr with⟨_,rfl,_⟩|⟨t,_,g1,g2,rfl⟩
  ·exact .inl rfl
  ·exact .inr ⟨t,g1,rfl⟩
 have hlk:look H.next ob=some (.cells [.str a.pred,qt a.args]):=by
  rcases hob with rfl|⟨t,g1,rfl⟩
  ·simp[look]
  ·rw[qd (by omega)];simp[look]
 have hfg:HWk ⟨ob,n⟩ ⟨H.objs,n⟩:=⟨Nat.le_refl _,fun j x hx=>by
  have:=hH.look hx
  rcases hob with rfl|⟨t,g1,rfl⟩
  ·simp only[look];rw[if_neg (by omega)];exact hx
  ·simp only[look];rw[if_neg (by omega),if_neg (by omega)];exact hx⟩
 by_cases hlt:i<a.args.length
 case neg=>
  rw[List.drop_eq_nil_of_le (by omega),List.map_nil,List.append_nil]at he
  subst he
  have hdata:xs.map (·.data.toList)=a.args.map fun t=>(z1 t).data.toList:=by rw[<-hL,List.map_map];rfl
  have hne:a.args≠[]:=fun e=>h0 (by rw[e];rfl)
  obtain⟨J,hJ⟩:∃J,Lib.join (xs.map (·.data.toList)) [44,32]=J:=⟨_,rfl⟩
  have hAX:qE a=⟨⟨a.pred.data.toList++[40]++J++[41]⟩⟩:=by
   unfold qE
   rw[qye hne,<-hdata,hJ]
   simp
  obtain⟨P8,hP8⟩:∃P8,a.pred.data.toList=P8:=⟨_,rfl⟩
  have hpr:a.pred=⟨⟨P8⟩⟩:=by rw[<-hP8]
  have hPl:P8.length<=24:=by rw[<-hP8];exact h1
  rw[hP8]at hAX
  have hJl:J.length<=110:=by
   rw[hAX]at hX
   have:(P8++[40]++J++[41]).length<=110:=hX
   simp only[List.length_append]at this
   omega
  have hb1:P8.length+1<=2^40:=by omega
  have hb2:P8.length+1+J.length<=2^40:=by omega
  have hb3:P8.length+(1+J.length)<=2^40:=by omega
  have hb4:P8.length+1+J.length+1<=2^40:=by omega
  have hb5:P8.length+(1+(J.length+1))<=2^40:=by omega
  have hb6:P8.length+(J.length+1)+1<=2^40:=by omega
  have hb7:P8.length+(J.length+1)<=2^40:=by omega
  have hb8:P8.length+(J.length+1+1)<=2^40:=by omega
  rw[hpr]at hlk
  have lk1:qD ⟨ob,n⟩ none (.ptr H.next 0)=some (.str ⟨⟨P8⟩⟩):=by simp[qD,hlk,qY]
  simp(disch:=omega)[hlt,hlk,qqx,qqv,hb1]
  refine(qsj xs own ⟨⟨[44,32]⟩⟩ (by omega) (by show (Lib.join _ [44,32]).length<=_;rw[hJ];omega)).x (.sc _) ?_
  rw[show Lib.join (xs.map (·.data.toList)) (ByteArray.mk ⟨[44,32]⟩).data.toList=J from hJ]
  have hJa:(⟨J.toArray⟩:ByteArray)=⟨⟨J⟩⟩:=rfl
  rw[hJa]
  simp(disch:=omega)[hlk,qqx,qqv,hb1,hb2,hb3,hb4,hb5,hb6,hb7,hb8]
  refine⟨⟨H.objs,n⟩,hfg,fun _=>qn.mono hH (by first|omega|(dsimp only;omega)),?_,n,by first|omega|(dsimp only;omega),rfl⟩
  rw[hAX]
  simp
 rw[List.drop_eq_getElem_cons hlt,List.map_cons]at he
 have he':(xs++[z1 a.args[i]])++(a.args.drop (i+1)).map z1=L:=by rw[List.append_assoc];exact he
 have htk:=List.all_eq_true.1 h3 _ (z7 hlt)
 obtain⟨g1,g2⟩:=qkT htk
 simp(disch:=omega)[hlt]
 refine(qrI _ g2).x (.sc _) ?_
 simp(disch:=omega)
 refine zd ?_
 have hcan:xs.length+1<=2^30:=by omega
 have hlen1:(xs++[z1 a.args[i]]).length=xs.length+1:=by simp
 rcases hr with⟨rfl,rfl,h3⟩|⟨t,rfl,f1,f2,rfl⟩
 ·dsimp only at h3
  simp(disch:=omega)[apL,y9,qlJ,hcan,qk (show i<2^62 by omega)]
  refine⟨⟨i+1,n+1+1,xs++[z1 a.args[i]],.tok (n+1),(n+1,.tok (xs.length+1) 1)::(H.next,.cells [.str a.pred,qt a.args])::H.objs⟩,by dsimp only;omega,⟨.inr ⟨n+1,rfl,by dsimp only;omega,Nat.lt_succ_self _,by dsimp only;rw[hlen1]⟩,by dsimp only;omega,by dsimp only;omega,by simpa using he'⟩,by simp[FT.Le,Wk],?_,fun _=>⟨Nat.lt_succ_self _,⟨by omega,hH⟩⟩⟩
  exact qbK (show qn ((H.next,qc.cells [.str a.pred,qt a.args])::H.objs) n from ⟨hn,hH⟩) fun _ _ h=>h
 ·dsimp only at f1
  simp(disch:=omega)[apL,y9,qlJ,hcan,qk (show i<2^62 by omega)]
  refine⟨⟨i+1,n+1,xs++[z1 a.args[i]],.tok t,(t,.tok (xs.length+1) 1)::(H.next,.cells [.str a.pred,qt a.args])::H.objs⟩,by dsimp only;omega,⟨.inr ⟨t,rfl,f1,by dsimp only;omega,by dsimp only;rw[hlen1]⟩,by dsimp only;omega,by dsimp only;omega,by simpa using he'⟩,by simp[FT.Le,Wk],?_⟩
  have hOk3:qa.Ok ⟨(t,.tok (xs.length+1) 1)::(H.next,.cells [.str a.pred,qt a.args])::H.objs,n⟩:=⟨f2,⟨by omega,hH⟩⟩
  exact zN hOk3 (qq.cons hOk3 (Nat.le_refl _) (qq.refl (Nat.le_refl _)) (Nat.le_succ _))
end Go.Abs.Tz
namespace Go.Abs.Tz
open Go Go.Abs Go.Proofs
def pW(c:UInt8):Bool:=qay c.toNat||decide (c=45)
theorem qmp(p:Int->Bool):∀{l:List UInt8},yK p l=l.length->∀c∈l,p c.toNat=true
 |[],_,c,hc=>by cases hc
 |a::l,h,c,hc=>by
  unfold yK at h
  by_cases ha:p a.toNat=true
  ·rw[if_pos ha]at h
   have h':yK p l=l.length:=by simpa using h
   rcases List.mem_cons.1 hc with rfl|hc
   ·exact ha
   ·exact qmp p h' c hc
  ·rw[if_neg ha]at h
   simp at h
theorem qfX{lo hi:Int}{s:ByteArray}(h:zK lo hi s=true):∀c∈s.data.toList,pW c=true:=by
 unfold zK at h
 simp only[Bool.and_eq_true,decide_eq_true_eq]at h
 obtain⟨_,_,_,_,_,h⟩:=h
 intro c hc
 unfold pW
 rw[qmp qay h c hc]
 rfl
theorem qeN{lo hi:Int}{s:ByteArray}(h:zK lo hi s=true):∃c r,s.data.toList=c::r/\lo<=(c.toNat:Int)/\(c.toNat:Int)<=hi:=by
 unfold zK at h
 simp only[Bool.and_eq_true,decide_eq_true_eq]at h
 obtain⟨h1,_,_,_,hf,_⟩:=h
 have e:sL s=s.data.toList:=rfl
 rw[e]at hf
 cases hs:s.data.toList with
 |nil=>rw[hs]at hf;simp[qcL]at hf
 |cons c r=>
  rw[hs]at hf
  simp[qcL]at hf
  exact⟨c,r,rfl,hf.1,hf.2⟩
theorem qkU{t:Term}(h:qG t=true):∀c∈(z1 t).data.toList,pW c=true:=by
 unfold qG at h
 unfold z1
 by_cases h1:t.kind=1
 ·rw[if_pos h1]
  intro c hc
  rcases qnS t.n c (by simpa using hc) with rfl|h
  ·rfl
  ·unfold pW qay qab
   simp
   omega
 ·rw[if_neg h1]at h ⊢
  by_cases h2:t.kind=2
  ·rw[if_pos h2]at h
   simp only[Bool.and_eq_true]at h
   exact qfX h.2
  ·rw[if_neg h2]at h
   by_cases h3:t.kind=3
   ·rw[if_pos h3]at h
    simp only[Bool.and_eq_true]at h
    exact qfX h.2
   ·rw[if_neg h3]at h;cases h
theorem qqw{a b:ByteArray}(h:a.data.toList=b.data.toList):a=b:=by
 obtain⟨⟨x⟩⟩:=a
 obtain⟨⟨y⟩⟩:=b
 simp at h
 rw[h]
theorem qhK{t:Term}(h:qG t=true):(t.kind=1/\t.s=⟨⟨[]⟩⟩)\/(t.kind=2/\t.n=0/\zK 97 122 t.s=true)\/(t.kind=3/\t.n=0/\zK 65 90 t.s=true):=by
 unfold qG at h
 by_cases h1:t.kind=1
 ·rw[if_pos h1]at h
  simp only[Bool.and_eq_true]at h
  exact .inl ⟨h1,wD.1 h.1⟩
 ·rw[if_neg h1]at h
  by_cases h2:t.kind=2
  ·rw[if_pos h2]at h
   simp only[Bool.and_eq_true,decide_eq_true_eq]at h
   exact .inr (.inl ⟨h2,h.1,h.2⟩)
  ·rw[if_neg h2]at h
   by_cases h3:t.kind=3
   ·rw[if_pos h3]at h
    simp only[Bool.and_eq_true,decide_eq_true_eq]at h
    exact .inr (.inr ⟨h3,h.1,h.2⟩)
   ·rw[if_neg h3]at h;cases h
theorem qkV{t:Term}(h:t.kind=1):(z1 t).data.toList=Lib.itoa t.n:=by
 unfold z1
 rw[if_pos h]
theorem qbU{t:Term}(h:t.kind≠1):z1 t=t.s:=by
 unfold z1
 rw[if_neg h]
theorem qvB(n:Int):∃c r,Lib.itoa n=c::r/\c.toNat<=57:=by
 cases h:Lib.itoa n with
 |nil=>exact absurd h (qvz n)
 |cons c r=>
  refine⟨c,r,rfl,?_⟩
  rcases qnS n c (by rw[h];exact List.mem_cons_self) with rfl|h
  ·decide
  ·exact h.2
theorem qry{t u:Term}(ht:qG t=true)(hu:qG u=true)(h:z1 t=z1 u):t=u:=by
 have num_word:∀{t u:Term},t.kind=1->u.kind≠1->(∃lo hi,(65:Int)<=lo/\zK lo hi u.s=true)->z1 t≠z1 u:=by
  intro t u h1 h2 ⟨lo,hi,hlo,hw⟩ e
  have e1:=congrArg (fun x:ByteArray=>x.data.toList) e
  simp only[qkV h1,qbU h2]at e1
  obtain⟨c,r,hc,hc2⟩:=qvB t.n
  obtain⟨d,r2,hd,hd2,_⟩:=qeN hw
  rw[hc,hd]at e1
  obtain⟨rfl,_⟩:=List.cons.inj e1
  omega
 obtain⟨tk,tn,ts⟩:=t
 obtain⟨uk,un,us⟩:=u
 rcases qhK ht with⟨h1,h2⟩|⟨h1,h2,h3⟩|⟨h1,h2,h3⟩<;>rcases qhK hu with⟨g1,g2⟩|⟨g1,g2,g3⟩|⟨g1,g2,g3⟩<;>dsimp only at h1 h2 g1 g2
 ·subst h1;subst g1;subst h2;subst g2
  have e1:=congrArg (fun x:ByteArray=>x.data.toList) h
  simp only[qkV]at e1
  rw[qvA e1]
 ·exact absurd h (num_word h1 (by show uk≠1;omega) ⟨97,122,by omega,g3⟩)
 ·exact absurd h (num_word h1 (by show uk≠1;omega) ⟨65,90,by omega,g3⟩)
 ·exact absurd h.symm (num_word g1 (by show tk≠1;omega) ⟨97,122,by omega,h3⟩)
 ·rw[qbU (by show tk≠1;omega),qbU (by show uk≠1;omega)]at h
  dsimp only at h
  rw[h1,h2,g1,g2,h]
 ·rw[qbU (by show tk≠1;omega),qbU (by show uk≠1;omega)]at h
  dsimp only at h h3 g3
  subst h
  obtain⟨c,r,e,a1,a2⟩:=qeN h3
  obtain⟨d,r2,e2,b1,b2⟩:=qeN g3
  rw[e]at e2
  obtain⟨rfl,_⟩:=List.cons.inj e2
  omega
 ·exact absurd h.symm (num_word g1 (by show tk≠1;omega) ⟨65,90,by omega,h3⟩)
 ·rw[qbU (by show tk≠1;omega),qbU (by show uk≠1;omega)]at h
  dsimp only at h h3 g3
  subst h
  obtain⟨c,r,e,a1,a2⟩:=qeN h3
  obtain⟨d,r2,e2,b1,b2⟩:=qeN g3
  rw[e]at e2
  obtain⟨rfl,_⟩:=List.cons.inj e2
  omega
 ·rw[qbU (by show tk≠1;omega),qbU (by show uk≠1;omega)]at h
  dsimp only at h
  rw[h1,h2,g1,g2,h]
theorem qhw(l:List Term)(b:Bool):qks pW (y4 l b):=by
 intro c t h
 cases l with
 |nil=>
  cases b<;>simp[y4]at h
  rw[<-h.1];rfl
 |cons x l=>
  cases b<;>simp[y4]at h
  ·rw[<-h.1];rfl
  ·rw[<-h.1];rfl
theorem qqE:∀{l m:List Term},l.all qG=true->m.all qG=true->∀b,y4 l b=y4 m b->l=m
 |[],[],_,_,_,_=>rfl
 |[],u::m,_,_,b,h=>by cases b<;>simp[y4]at h
 |t::l,[],_,_,b,h=>by cases b<;>simp[y4]at h
 |t::l,u::m,hl,hm,b,h=>by
  simp only[List.all_cons,Bool.and_eq_true]at hl hm
  have h':(z1 t).data.toList++y4 l false=(z1 u).data.toList++y4 m false:=by
   cases b<;>simpa [y4] using h
  obtain⟨h1,h2⟩:=qhY (qkU hl.1) (qkU hm.1) (qhw _ _) (qhw _ _) h'
  rw[qry hl.1 hm.1 (qqw h1),qqE hl.2 hm.2 false h2]
theorem qkf{a b:Atom}(ha:qM a=true)(hb:qM b=true)(h:qE a=qE b):a=b:=by
 have e:=congrArg (fun x:ByteArray=>x.data.toList) h
 have e':a.pred.data.toList++y4 a.args true=b.pred.data.toList++y4 b.args true:=e
 unfold qM at ha hb
 simp only[Bool.and_eq_true,decide_eq_true_eq]at ha hb
 obtain⟨h1,h2⟩:=qhY (qfX ha.1) (qfX hb.1) (qhw _ _) (qhw _ _) e'
 obtain⟨ap,aa⟩:=a
 obtain⟨bp,ba⟩:=b
 dsimp only at h1 h2 ha hb
 rw[qqw h1,qqE ha.2.2 hb.2.2 true h2]
end Go.Abs.Tz
namespace Go.Abs.Tz
open Go Go.Abs Go.Proofs
set_option maxRecDepth 20000
set_option linter.unusedSimpArgs false
attribute [local simp ↓] gT gS jh jg gv ug q9 zu jf ub yD yE gU gW gY gV jm jp ju jn jv jw jq jr jo jk ji jl jj yB yz yC yA gN gL gO gM g8 g6 g7 uh zG jy qX jz gy yF yG yb yd yc g9 ya ym jD jI jL jH jJ jK gh gg jR jT uQ uN ja jd uO uW u9 uZ uY uX uU uJ uK uL uM jb uS uT uH jc je uP uR uV uI jX jS gd gk jU j8 gc gb ga j9 j6 jP gf j3 j5 jM gj gp jV jZ j7 jN gt gi jO gq j0 jW jY jQ ge jE jG jF yg yk yf yh yj qp ur
attribute [local simp] faL fdL iaL ixL qD qY qT eqK eqL qO zi uD ye yy yn yp yr yu yw yx yo yt yq yv zy LV.cells LV.whole qp uq zU jA stL zz zP uc qa.alloc gw gu gx gK gJ gI gH gG gF gD gC gA gz qd ui
def hasP(k:PK)(W:List PK):Bool:=W.any (vl k)
structure NNG where
 f:Nat
 c:Nat
 n:Nat
 w:List PK
structure NNF where
 i:Nat
 n:Nat
 w:List PK
structure NNI2 where
 i:Nat
 n:Nat
 ns:List Int
 own:Own
 ob:List (Nat×qc)
abbrev uB(ns:List Int):List LV:=ns.map LV.int
abbrev arrB(bits:List Bool):qc:=.arr 1 (bits.map LV.bool)
def qxT(V U:List PK):List Bool:=V.map fun k=>hasP k U
section
variable{V U:List PK}{k:PK}(hk:k∈V){o n:Nat}{ob:List (Nat×qc)}(hl:look o ob=some (arrB (qxT V U)))
include hk hl
end
theorem vE{i j:Nat}{x:qc}(h:i≠j):∀{l:List (Nat×qc)},look i (qu j x l)=look i l
 |[]=>rfl
 |(k,y)::r=>by
  simp only[qu]
  by_cases hk:j=k
  ·subst hk
   rw[if_pos rfl]
   simp only[look]
   rw[if_neg h,if_neg h]
  ·rw[if_neg hk]
   simp only[look]
   rw[vE h]
structure NNB where
 i:Nat
 n:Nat
 bs:List Bool
structure Stp where
 atom:Atom
 cl:Int
 frm:List Int
abbrev qeY(s:Stp):List LV:=[.str s.atom.pred,qt s.atom.args,.int s.cl,.sl (s.frm.map LV.int) .no]
abbrev vq(s:Stp):LV:=.agg (qeY s)
abbrev qaM(M:List (ByteArray×Int)):List (LV×LV):=M.map fun e=>(.str e.1,.int e.2)
def vG(k:ByteArray):List (ByteArray×Int)->Option Int
 |[]=>none
 |(j,v)::r=>if eqBA k j then some v else vG k r
theorem qpb(k:ByteArray):∀M:List (ByteArray×Int),vJ (.pl 1) (.str k) (qaM M)=some ((vG k M).map LV.int)
 |[]=>rfl
 |(j,v)::r=>by
  have ih:=qpb k r
  show (match eqK (.pl 1) (.str k) (.str j) with
   |some true=>some (some (LV.int v))
   |some false=>vJ (.pl 1) (.str k) (qaM r)
   |none=>none)=_
  rw[ih]
  simp only[eqK,zi,vG]
  cases eqBA k j<;>rfl
theorem qma(k:ByteArray)(v:Int):∀M:List (ByteArray×Int),vG k M=none->wa (.pl 1) (.str k) (.int v) (qaM M)=some (qaM (M++[(k,v)]))
 |[],_=>rfl
 |(j,u)::r,h=>by
  simp only[vG]at h
  by_cases he:eqBA k j=true
  ·rw[if_pos he]at h;cases h
  ·rw[if_neg he]at h
   have he':eqBA k j=false:=by simpa using he
   have ih:=qma k v r h
   show (match eqK (.pl 1) (.str k) (.str j) with
    |some true=>some ((LV.str j,LV.int v)::qaM r)
    |some false=>(wa (.pl 1) (.str k) (.int v) (qaM r)).map ((LV.str j,LV.int u)::·)
    |none=>none)=_
   rw[ih]
   simp only[eqK,zi,he']
   rfl
def vj:List Stp->Int->List (ByteArray×Int)
 |[],_=>[]
 |s::r,i=>(qE s.atom,i)::vj r (i+1)
theorem qom(s:Stp):∀(F:List Stp)(i:Int),vj (F++[s]) i=vj F i++[(qE s.atom,i+F.length)]
 |[],i=>by simp[vj]
 |q::F,i=>by
  have ih:=qom s F (i+1)
  simp only[List.cons_append,vj,ih,List.length_cons]
  congr 4
  omega
theorem qfq{k:ByteArray}:∀{F:List Stp}{i:Int},vG k (vj F i)=none↔∀q∈F,qE q.atom≠k
 |[],_=>by simp[vj,vG]
 |q::F,i=>by
  have ih:=qfq (k:=k) (F:=F) (i:=i+1)
  simp only[vj,vG]
  by_cases he:eqBA k (qE q.atom)=true
  ·rw[if_pos he]
   have:=wD.1 he
   constructor
   ·intro h;cases h
   ·intro h;exact absurd this.symm (h q List.mem_cons_self)
  ·rw[if_neg he,ih]
   have hne:qE q.atom≠k:=fun e=>he (wD.2 e.symm)
   constructor
   ·intro h x hx
    rcases List.mem_cons.1 hx with rfl|hx
    ·exact hne
    ·exact h x hx
   ·exact fun h x hx=>h x (List.mem_cons_of_mem _ hx)
structure uf(ob:List (Nat×qc))(fo am:Nat)(F:List Stp)(own:Own):Prop where
 pair:look fo ob=some (.cells [.map am,.sl (F.map vq) own])
 map:look am ob=some (.map (qaM (vj F 0)))
 ne:fo≠am
 row:(own=.full/\F=[])\/∃t,own=.tok t/\t≠fo/\t≠am/\look t ob=some (.tok F.length 4)
def qL(ob:List (Nat×qc)):Prop:=∀i m l k n,look i ob≠some (.iter m l k n)
def qfv:qc->Bool
 |.iter _ _ _ _=>true
 |_=>false
theorem qed{ob:List (Nat×qc)}:qL ob↔∀i x,look i ob=some x->qfv x=false:=by
 constructor
 ·intro h i x hx
  cases x<;>first|rfl|exact absurd hx (h _ _ _ _ _)
 ·intro h i m l k n hx
  exact absurd (h i _ hx) (by simp[qfv])
theorem qL.cons{ob:List (Nat×qc)}(h:qL ob)(m:Nat){x:qc}(hx:qfv x=false):qL ((m,x)::ob):=qed.2 fun i y hy=>by
 simp only[look]at hy
 split at hy
 ·cases hy;exact hx
 ·exact qed.1 h i y hy
theorem qnC{o:Nat}{x:qc}:∀{l:List (Nat×qc)}{i:Nat}{y:qc},look i (qu o x l)=some y->y=x\/look i l=some y
 |[],_,_,h=>by cases h
 |(j,z)::r,i,y,h=>by
  simp only[qu]at h
  split at h
  ·simp only[look]at h ⊢
   split at h
   ·cases h;exact .inl rfl
   ·rename_i hne;exact .inr (by rw[if_neg hne];exact h)
  ·simp only[look]at h ⊢
   split at h
   ·rename_i he;exact .inr (by rw[if_pos he];exact h)
   ·rename_i hne;rw[if_neg hne];exact qnC h
theorem qL.put{ob:List (Nat×qc)}(h:qL ob)(m:Nat){x:qc}(hx:qfv x=false):qL (qu m x ob):=qed.2 fun i y hy=>by
 rcases qnC hy with rfl|hy
 ·exact hx
 ·exact qed.1 h i y hy
def qkq(n:Nat)(own own':Own):Prop:=own'=own\/∃t,own'=.tok t/\n<=t
theorem lkM{H:qa}{o:Nat}{M:List (ByteArray×Int)}(h:look o H.objs=some (.map (qaM M)))(k:ByteArray)(z:LV):lkL H (.pl 1) true z (.map o) (.str k)=some (match vG k M with|some t=>.tup [.int t,.bool true]|none=>.tup [z,.bool false]):=by
 unfold lkL
 simp only[eqK,zi,qbi,Option.isSome_some,if_true,h,qpb]
 cases vG k M<;>rfl
theorem muM{H:qa}{o:Nat}{M:List (ByteArray×Int)}{k:ByteArray}(h:look o H.objs=some (.map (qaM M)))(hn:vG k M=none)(v:Int):muL H (.pl 1) (.map o) (.str k) (.int v)=some (H.put o (.map (qaM (M++[(k,v)])))):=by
 unfold muL
 simp only[h,eqK,zi,qbi,Option.isNone_some,Bool.false_eq_true,if_false,qma _ _ _ hn,Option.map_some]
theorem qtl(F:List Stp):(F.map vq).all (fun e=>e.cells.length==4)=true:=by
 rw[List.all_map,List.all_eq_true]
 intro x _
 rfl
theorem qlA(s:Stp)(hs:qM s.atom=true)(fo am:Nat)(F:List Stp)(hF:F.length<=2^20)(own:Own)(ob:List (Nat×qc))(n:Nat)(hA:uf ob fo am F own){kv kp:HP}
  (h0:(∃q∈F,qE q.atom=qE s.atom)->∀n',n<=n'->kv (.tup []) ⟨ob,n'⟩)
  (h1:(∀q∈F,qE q.atom≠qE s.atom)->∀ob' n' own',n<=n'->uf ob' fo am (F++[s]) own'->qkq n own own'->(qL ob->qL ob')->(∀i,i<n->i≠fo->i≠am->(∀t,own=.tok t->i≠t)->look i ob'=look i ob)->kv (.tup []) ⟨ob',n'⟩):
  cP E0 F0 155 [.ptr fo 0,vq s] ⟨ob,n⟩ kv kp:=by
 refine zR c155 fun hH=>⟨Nat.le_of_ble_eq_true rfl,?_⟩
 have hfo:fo<n:=hH.look hA.pair
 have ham:am<n:=hH.look hA.map
 simp(disch:=omega)[b155]
 refine(qgb s.atom hs).go fun n2 hn2=>?_
 simp(disch:=omega)[hA.pair]
 rw[lkM (by rw[qd (by omega)];exact hA.map)]
 cases hl:vG (qE s.atom) (vj F 0) with
 |some t=>
  simp(disch:=omega)[qX]
  have hex:∃q∈F,qE q.atom=qE s.atom:=by
   apply Classical.byContradiction
   intro hno
   have:=qfq (i:=0).2 fun q hq e=>hno ⟨q,hq,e⟩
   rw[hl]at this;cases this
  obtain⟨g1,g2⟩:=zN (l:=(n,qc.cells (qeY s))::ob) (n:=n2) hH (qq.cons' hH (Nat.le_refl _) (by dsimp only;omega) (qq.refl' _))
  exact⟨_,g1,g2,h0 hex n2 (by omega)⟩
 |none=>
  have hnone:=qfq.1 hl
  simp(disch:=omega)[hA.pair,hA.map]
  rw[muM (by rw[qd (by omega)];exact hA.map) hl]
  obtain⟨S,hS⟩:∃S,F.map vq=S:=⟨_,rfl⟩
  have hall:=qtl F
  have hpair:=hA.pair
  have hSl:S.length=F.length:=by rw[<-hS,List.length_map]
  have hF2:(F++[s]).map vq=S++[vq s]:=by rw[<-hS];simp
  have hidx:vj (F++[s]) 0=vj F 0++[(qE s.atom,(F.length:Int))]:=by rw[qom];simp
  rw[hS]at hall hpair
  rw[<-hidx]
  obtain⟨M2,hM2⟩:∃M2,qc.map (qaM (vj (F++[s]) 0))=M2:=⟨_,rfl⟩
  have hMi:qfv M2=false:=by rw[<-hM2];rfl
  rw[hM2]
  have hna:fo≠am:=hA.ne
  have hlp:look fo (qu am M2 ob)=some (.cells [.map am,.sl S own]):=by rw[vE hna];exact hpair
  simp(disch:=omega)[hlp]
  refine zd ?_
  simp(disch:=omega)
  have hmap:look am (qu am M2 ob)=some M2:=vF hA.map
  rcases hA.row with⟨rfl,hFn⟩|⟨t,rfl,t1,t2,t3⟩
  ·rw[qkl hall rfl (by rw[hSl];omega) (by omega)]
   simp(disch:=omega)[hlp,qX]
   refine⟨_,HWk.refl _,fun h=>h,h1 hnone _ _ (.tok n2) (by omega) ⟨?_,?_,hna,.inr ⟨n2,rfl,by omega,by omega,?_⟩⟩ (.inr ⟨n2,rfl,by omega⟩) ?_ fun i hi hif hia _=>?_⟩
   ·rw[qd (by omega),qd (by omega),hF2]
    exact vF hlp
   ·rw[qd (by omega),qd (by omega),vE (Ne.symm hna),hM2]
    exact hmap
   ·simp[look,hSl]
   ·exact fun hI=>qL.cons (qL.cons (qL.put (qL.put hI _ hMi) _ rfl) _ rfl) _ rfl
   ·rw[qd (by omega),qd (by omega),vE hif,vE hia]
  ·have htn:t<n:=hH.look t3
   have hlp2:look fo (qu t (qc.tok (S.length+1) 4) (qu am M2 ob))=some (.cells [.map am,.sl S (.tok t)]):=by rw[vE (Ne.symm t1)];exact hlp
   have htt:look t (qu am M2 ob)=some (.tok F.length 4):=by rw[vE t2];exact t3
   rw[qkk hall rfl (by rw[hSl];omega) (by omega) (by omega) (by rw[qd (by omega),hSl];exact htt)]
   simp(disch:=omega)[hlp2,qX]
   refine⟨_,HWk.refl _,fun h=>h,h1 hnone _ _ (.tok t) (by omega) ⟨?_,?_,hna,.inr ⟨t,rfl,t1,t2,?_⟩⟩ (.inl rfl) ?_ fun i hi hif hia hit=>?_⟩
   ·rw[qd (by omega),hF2]
    exact vF hlp2
   ·rw[qd (by omega),vE (Ne.symm hna),vE (Ne.symm t2),hM2]
    exact hmap
   ·rw[qd (by omega),vE t1,vF htt]
    simp[hSl]
   ·exact fun hI=>qL.cons (qL.put (qL.put (qL.put hI _ hMi) _ rfl) _ rfl) _ rfl
   ·rw[qd (by omega),vE hif,vE (hit t rfl),vE hia]
def zk(k:ByteArray)(F:List Stp):Bool:=(vG k (vj F 0)).isSome
theorem w8{k:ByteArray}{F:List Stp}:zk k F=true↔∃q∈F,qE q.atom=k:=by
 unfold zk
 constructor
 ·intro h
  apply Classical.byContradiction
  intro hno
  rw[qfq.2 fun q hq e=>hno ⟨q,hq,e⟩]at h
  cases h
 ·rintro⟨q,hq,e⟩
  cases hl:vG k (vj F 0) with
  |some v=>rfl
  |none=>exact absurd e (qfq.1 hl q hq)
def zn(F:List Stp)(s:Stp):List Stp:=if zk (qE s.atom) F then F else F++[s]
def zI(F G:List Stp)(s:Stp):List Stp:=if zk (qE s.atom) F then G else if G.length<=300 then zn G s else G
theorem uf.cons{ob:List (Nat×qc)}{fo am n m:Nat}{F:List Stp}{own:Own}(h:uf ob fo am F own)(hH:qa.Ok ⟨ob,n⟩)(hm:n<=m)(x:qc):uf ((m,x)::ob) fo am F own:=by
 have b1:fo<n:=hH.look h.pair
 have b2:am<n:=hH.look h.map
 refine⟨by rw[qd (by omega)];exact h.pair,by rw[qd (by omega)];exact h.map,h.ne,?_⟩
 rcases h.row with h1|⟨t,h1,h2,h3,h4⟩
 ·exact .inl h1
 ·have b3:t<n:=hH.look h4
  exact .inr ⟨t,h1,h2,h3,by rw[qd (by omega)];exact h4⟩
theorem t_do(a:Atom)(ha:qM a=true)(frm:List Int)(fv hv iv:Nat)(i:Int)(fo am go gm:Nat)(F G:List Stp)(hG:G.length<=2^20)(ownF own:Own)(ob:List (Nat×qc))(n:Nat)
  (hF:uf ob fo am F ownF) (hA:uf ob go gm G own) (l1:look fv ob=some (.cells [.ptr fo 0])) (l2:look hv ob=some (.cells [.ptr go 0])) (l3:look iv ob=some (.cells [.int i])) {kv kp:HP}
  (hk:∀ob' n' own',n<=n'->uf ob' go gm (zI F G ⟨a,i,frm⟩) own'->qkq n own own'->(qL ob->qL ob')->(∀i,i<n->i≠go->i≠gm->(∀t,own=.tok t->i≠t)->look i ob'=look i ob)->kv (.tup []) ⟨ob',n'⟩):
  cP E0 F0 154 [ql a,.sl (frm.map LV.int) .no,.ptr fv 0,.ptr hv 0,.ptr iv 0] ⟨ob,n⟩ kv kp:=by
 refine zR c154 fun hH=>⟨Nat.le_of_ble_eq_true rfl,?_⟩
 have b1:fv<n:=hH.look l1
 have b2:hv<n:=hH.look l2
 have b3:iv<n:=hH.look l3
 have b4:fo<n:=hH.look hF.pair
 have b5:am<n:=hH.look hF.map
 have b6:go<n:=hH.look hA.pair
 simp(disch:=omega)[b154,l1,hF.pair]
 refine(qgb a ha).go fun n2 hn2=>?_
 simp(disch:=omega)
 rw[lkM (by rw[qd (by omega)];exact hF.map)]
 have hlast:∀(l:qc),zI F G ⟨a,i,frm⟩=G->∃H'',HWk ⟨(n,l)::ob,n2⟩ H''/\(qa.Ok ⟨(n,l)::ob,n2⟩->H''.Ok)/\kv (.tup []) H'':=fun l e=>by
  obtain⟨g1,g2⟩:=zN (l:=(n,l)::ob) (n:=n2) hH (qq.cons' hH (Nat.le_refl _) (by dsimp only;omega) (qq.refl' _))
  exact⟨_,g1,g2,hk ob n2 own (by omega) (by rw[e];exact hA) (.inl rfl) id fun _ _ _ _ _=>rfl⟩
 have hGl:(G.map vq).length=G.length:=List.length_map ..
 cases hl:vG (qE a) (vj F 0) with
 |some t=>
  simp(disch:=omega)[qX,l1,l2,l3,hF.pair,hA.pair]
  exact hlast _ (by simp[zI,zk,hl])
 |none=>
  by_cases h300:G.length<=300
  ·have h300':(G.length:Int)<=300:=by omega
   simp(disch:=omega)[l1,l2,l3,hF.pair,hA.pair,h300']
   have hnF:zk (qE a) F=false:=by simp[zk,hl]
   refine qlA ⟨a,i,frm⟩ ha go gm G hG own _ n2 (hA.cons hH (Nat.le_refl _) _) (fun hex n3 hn3=>?_) (fun hno ob' n3 own' hn3 hA' hnear hnoit hsame=>?_)
   ·simp(disch:=omega)[qX]
    have e:zI F G ⟨a,i,frm⟩=G:=by simp[zI,hnF,h300,zn,w8.2 hex]
    refine⟨_,HWk.refl _,fun h=>h,hk _ n3 own (by omega) (by rw[e];exact hA.cons hH (Nat.le_refl _) _) (.inl rfl) (fun hI=>hI.cons _ rfl) fun j hj _ _ _=>by rw[qd (by omega)]⟩
   ·simp(disch:=omega)[qX]
    have hnG:zk (qE a) G=false:=by
     cases h:zk (qE a) G with
     |false=>rfl
     |true=>
      obtain⟨q,hq,e⟩:=w8.1 h
      exact absurd e (hno q hq)
    have e:zI F G ⟨a,i,frm⟩=G++[⟨a,i,frm⟩]:=by simp[zI,hnF,h300,zn,hnG]
    refine⟨_,HWk.refl _,fun h=>h,hk ob' n3 own' (by omega) (by rw[e];exact hA') (hnear.imp id fun⟨t,h1,h2⟩=>⟨t,h1,by omega⟩) (fun hI=>hnoit (hI.cons _ rfl)) fun j hj h1 h2 h3=>?_⟩
    rw[hsame j (by omega) h1 h2 h3,qd (by omega)]
  ·have h300':¬(G.length:Int)<=300:=by omega
   simp(disch:=omega)[l1,l2,l3,hF.pair,hA.pair,h300',qX]
   exact hlast _ (by simp[zI,h300])
end Go.Abs.Tz
namespace Go.Abs.Tz
open Go Go.Abs Go.Proofs
def qag(F:List Stp)(K:qx):List Lit->Bool
 |[]=>true
 |x::r=>if x.kind=1 then qag F K r else if x.kind=2 then !zk (qE (zp K x.atom)) F&&qag F K r else qcm K x&&qag F K r
def qV(b:List Lit):List Atom:=(b.filter fun x=>decide (x.kind=1)).map Lit.atom
def vO(F:List Stp)(c:qe):List Atom->qx->List Int->List (qx×List Int)
 |[],K,frm=>if qag F K c.body then [(K,frm)] else []
 |p::ps,K,frm=>(List.range F.length).flatMap fun j=>match F[j]? with
  |some s=>match vW K p s.atom with
   |some R=>vO F c ps R (frm++[(j:Int)])
   |none=>[]
  |none=>[]
def vQ{σ:Type}(step:σ->Atom->List Int->σ)(c:qe)(l:List (qx×List Int))(s:σ):σ:=l.foldl (fun s x=>step s (zp x.1 c.head) x.2) s
theorem qoz(F G:List Stp)(s:Stp):G.length<=(zI F G s).length/\(zI F G s).length<=G.length+1:=by
 unfold zI zn
 by_cases h1:zk (qE s.atom) F=true
 ·rw[if_pos h1];omega
 ·rw[if_neg h1]
  by_cases h2:G.length<=300
  ·rw[if_pos h2]
   by_cases h3:zk (qE s.atom) G=true
   ·rw[if_pos h3];omega
   ·rw[if_neg h3];simp
  ·rw[if_neg h2];omega
theorem qoy{F G:List Stp}{s:Stp}(h:G.length<=301):(zI F G s).length<=301:=by
 have h1:=(qoz F G s).2
 by_cases h2:G.length<=300
 ·omega
 ·have:zI F G s=G:=by
   unfold zI
   by_cases h3:zk (qE s.atom) F=true
   ·rw[if_pos h3]
   ·rw[if_neg h3,if_neg h2]
  rw[this];exact h
end Go.Abs.Tz
namespace Go.Abs.Tz
open Go Go.Abs Go.Proofs
def zl(a:Atom):Prop:=qM a=true/\a.args.all wL=true
structure wu(K:qx):Prop where
 nd:(ut K).Nodup
 ok:∀e∈K,qG e.2=true/\wL e.2=true
theorem wu.nil:wu []:=⟨.nil,fun e h=>by cases h⟩
def qae(K R:qx):Prop:=∀k v,zf k K=some v->zf k R=some v
theorem qae.refl(K:qx):qae K K:=fun _ _ h=>h
theorem qae.trans{K L R:qx}(h:qae K L)(k:qae L R):qae K R:=fun x v hx=>k x v (h x v hx)
def wH(K:qx)(ts:List Term):Prop:=∀t∈ts,t.kind=3->(zf t.s K).isSome=true
theorem wH.ext{K R:qx}{ts:List Term}(h:wH K ts)(he:qae K R):wH R ts:=fun t ht hk=>by
 obtain⟨v,hv⟩:=Option.isSome_iff_exists.1 (h t ht hk)
 rw[he _ _ hv];rfl
theorem qpe{k:ByteArray}{v:Term}:∀{E X:qx},zf k E=some v->zf k (E++X)=some v
 |[],_,h=>by cases h
 |(j,u)::r,X,h=>by
  simp only[zf,List.cons_append]at h ⊢
  split
  ·rename_i hj;rw[if_pos hj]at h;exact h
  ·rename_i hj;rw[if_neg hj]at h;exact qpe h
theorem qpd{k:ByteArray}{v:Term}:∀{E:qx},zf k E=none->zf k (E++[(k,v)])=some v
 |[],_=>by simp[zf,qbi]
 |(j,u)::r,h=>by
  simp only[zf,List.cons_append]at h ⊢
  split
  ·rename_i hj;rw[if_pos hj]at h;cases h
  ·rename_i hj;rw[if_neg hj]at h;exact qpd h
theorem qwt{K R:qx}(h:qae K R){t:Term}(hb:t.kind=3->(zf t.s K).isSome=true):zM R t=zM K t:=by
 unfold zM
 by_cases hk:t.kind=3
 ·obtain⟨v,hv⟩:=Option.isSome_iff_exists.1 (hb hk)
  rw[if_pos hk,if_pos hk,hv,h _ _ hv]
 ·rw[if_neg hk,if_neg hk]
theorem qwu{K R:qx}(h:qae K R){a:Atom}(hb:wH K a.args):zp R a=zp K a:=by
 unfold zp
 congr 1
 exact List.map_congr_left fun t ht=>qwt h (hb t ht)
theorem qkc:∀(ps qs:List Term)(K R:qx),wu K->(∀q∈qs,qG q=true/\wL q=true)->ps.length=qs.length->yN K ps qs=some R ->
  wu R/\qae K R/\wH R ps/\ps.map (zM R)=qs
 |[],[],K,R,hK,_,_,h=>by
  simp only[yN,Option.some.injEq]at h
  subst h
  exact⟨hK,.refl _,fun t ht=>(by cases ht),rfl⟩
 |[],_::_,_,_,_,_,hl,_=>by simp at hl
 |_::_,[],_,_,_,_,hl,_=>by simp at hl
 |p::ps,q::qs,K,R,hK,hq,hl,h=>by
  have hl':ps.length=qs.length:=by simpa using hl
  have hq':∀x∈qs,qG x=true/\wL x=true:=fun x hx=>hq x (List.mem_cons_of_mem _ hx)
  simp only[yN]at h
  by_cases hk:p.kind=3
  ·rw[if_pos hk]at h
   have fin:∀K':qx,wu K'->qae K K'->zf p.s K'=some q->yN K' ps qs=some R->wu R/\qae K R/\wH R (p::ps)/\(p::ps).map (zM R)=q::qs:=by
    intro K' h1 h2 h3 h4
    obtain⟨g1,g2,g3,g4⟩:=qkc ps qs K' R h1 hq' hl' h4
    refine⟨g1,h2.trans g2,fun t ht htk=>?_,?_⟩
    ·rcases List.mem_cons.1 ht with rfl|ht
     ·rw[g2 _ _ h3];rfl
     ·exact g3 t ht htk
    ·rw[List.map_cons,g4]
     congr 1
     unfold zM
     rw[if_pos hk,g2 _ _ h3];rfl
   cases hf:zf p.s K with
   |some old=>
    rw[hf]at h
    simp only at h
    split at h
    ·rename_i he
     have:=qhg he
     subst this
     exact fin K hK (.refl _) hf h
    ·cases h
   |none=>
    rw[hf]at h
    simp only at h
    refine fin _ ⟨?_,fun e he=>?_⟩ (fun k v hv=>qpe hv) (qpd hf) h
    ·unfold ut
     rw[List.map_append]
     refine List.nodup_append.2 ⟨hK.nd,by simp,fun x hx y hy e=>?_⟩
     simp at hy
     subst hy
     subst e
     exact qhe hf hx
    ·rcases List.mem_append.1 he with he|he
     ·exact hK.ok e he
     ·simp at he
      subst he
      exact hq q List.mem_cons_self
  ·rw[if_neg hk]at h
   split at h
   ·rename_i he
    have e:=qhg he
    obtain⟨g1,g2,g3,g4⟩:=qkc ps qs K R hK hq' hl' h
    refine⟨g1,g2,fun t ht htk=>?_,?_⟩
    ·rcases List.mem_cons.1 ht with rfl|ht
     ·exact absurd htk hk
     ·exact g3 t ht htk
    ·rw[List.map_cons,g4]
     congr 1
     unfold zM
     rw[if_neg hk,e]
   ·cases h
theorem zl.args{a:Atom}(h:zl a):∀q∈a.args,qG q=true/\wL q=true:=fun q hq=>
 ⟨List.all_eq_true.1 (qbm h.1).2 q hq,List.all_eq_true.1 h.2 q hq⟩
theorem qqr{K R:qx}{p a:Atom}(hK:wu K)(ha:zl a)(h:vW K p a=some R):wu R/\qae K R/\wH R p.args/\zp R p=a:=by
 unfold vW at h
 split at h
 ·rename_i hc
  simp only[Bool.and_eq_true,decide_eq_true_eq]at hc
  obtain⟨g1,g2,g3,g4⟩:=qkc _ _ K R hK ha.args hc.2 h
  refine⟨g1,g2,g3,?_⟩
  unfold zp
  rw[g4,wD.1 hc.1]
 ·cases h
theorem wu.find{K:qx}(h:wu K){k:ByteArray}{v:Term}(hf:zf k K=some v):qG v=true/\wL v=true:=h.ok _ ((qfB h.nd).1 hf)
theorem qws{K:qx}(h:wu K){t:Term}(ht:qG t=true)(hb:t.kind=3->(zf t.s K).isSome=true):qG (zM K t)=true/\wL (zM K t)=true:=by
 unfold zM
 by_cases hk:t.kind=3
 ·obtain⟨v,hv⟩:=Option.isSome_iff_exists.1 (hb hk)
  rw[if_pos hk,hv]
  exact h.find hv
 ·rw[if_neg hk]
  exact⟨ht,by simp[wL,hk]⟩
theorem qpg{K:qx}(h:wu K){a:Atom}(ha:qM a=true)(hb:wH K a.args):zl (zp K a):=by
 have h1:=qbm ha
 have h2:∀t∈(zp K a).args,qG t=true/\wL t=true:=by
  intro t ht
  obtain⟨u,hu,rfl⟩:=List.mem_map.1 (show t∈a.args.map (zM K) from ht)
  exact qws h (List.all_eq_true.1 h1.2 u hu) (hb u hu)
 refine⟨?_,List.all_eq_true.2 fun t ht=>(h2 t ht).2⟩
 have h3:zK 97 122 a.pred=true:=by
  unfold qM at ha
  simp only[Bool.and_eq_true]at ha
  exact ha.1
 unfold qM
 rw[show (zp K a).pred=a.pred from rfl,h3,show (zp K a).args.length=a.args.length from List.length_map _,List.all_eq_true.2 fun t ht=>(h2 t ht).1]
 simp[h1.1]
theorem qni(K:qx)(a:Atom):ofA (zp K a)=ofA a:=by
 unfold ofA zp
 simp
theorem qrz{t:Term}(h:qG t=true):t.ok:=by
 unfold Term.ok
 rcases qhK h with⟨_,e⟩|⟨_,_,e⟩|⟨_,_,e⟩
 ·rw[e];exact Nat.pow_pos (by omega)
 ·have:=qdO e;omega
 ·have:=qdO e;omega
theorem qhu{a:Atom}(h:qM a=true):a.ok:=by
 have h1:=qbm h
 unfold qM at h
 simp only[Bool.and_eq_true]at h
 have:=qdO h.1
 exact⟨by omega,by omega,fun t ht=>qrz (List.all_eq_true.1 h1.2 t ht)⟩
structure uF(c:qe):Prop where
 ok:uE c=true
 safe:qaV c=true
theorem qub{c:qe}{p:Atom}(h:p∈qV c.body):∃x∈c.body,x.kind=1/\x.atom=p:=by
 obtain⟨x,hx,e⟩:=List.mem_map.1 h
 obtain⟨h1,h2⟩:=List.mem_filter.1 hx
 exact⟨x,h1,by simpa using h2,e⟩
theorem quX{c:qe}{x:Lit}(h:x∈c.body)(hk:x.kind=1):x.atom∈qV c.body:=List.mem_map.2 ⟨x,List.mem_filter.2 ⟨h,by simp[hk]⟩,rfl⟩
theorem qnE{x:Lit}(h:zB x=true)(hk:x.kind=1\/x.kind=2):qM x.atom=true:=by
 unfold zB at h
 rw[if_pos hk]at h
 simp only[Bool.and_eq_true]at h
 exact h.1
theorem uF.posOk{c:qe}(h:uF c):∀p∈qV c.body,qM p=true:=fun p hp=>by
 obtain⟨x,hx,hk,rfl⟩:=qub hp
 exact qnE ((qaN h.ok).2.2 x hx) (.inl hk)
theorem uF.bound{c:qe}(h:uF c){K:qx}(hp:∀p∈qV c.body,wH K p.args):wH K c.head.args/\(∀x∈c.body,x.kind=2->wH K x.atom.args)/\∀x∈c.body,x.kind≠1->x.kind≠2->wH K [x.a,x.b]:=by
 have hs:=h.safe
 unfold qaV at hs
 rw[List.all_eq_true]at hs
 have key:∀v,v∈(wN c.body ([],vn c.head.args [])).2->(zf v K).isSome=true:=by
  intro v hv
  have h1:=qgT.1 (hs v hv)
  rcases qgM.1 h1 with h2|⟨x,hx,hk,t,ht,htk,rfl⟩
  ·cases h2
  ·exact hp _ (quX hx hk) t ht htk
 refine⟨fun t ht hk=>key _ (qfr.2 (.inl (qef.2 (.inr ⟨t,ht,hk,rfl⟩)))),fun x hx hk t ht htk=>key _ (qfr.2 (.inr ⟨x,hx,by omega,t,by rw[if_pos hk];exact ht,htk,rfl⟩)),fun x hx h1 h2 t ht htk=>key _ (qfr.2 (.inr ⟨x,hx,h1,t,by rw[if_neg h2];exact ht,htk,rfl⟩))⟩
theorem uF.leaf{c:qe}(h:uF c){K:qx}(hK:wu K)(hp:∀p∈qV c.body,wH K p.args):(∀x∈c.body,x.kind=2->zl (zp K x.atom))/\zl (zp K c.head):=by
 obtain⟨h1,h2,_⟩:=h.bound hp
 exact⟨fun x hx hk=>qpg hK (qnE ((qaN h.ok).2.2 x hx) (.inr hk)) (h2 x hx hk),qpg hK (qaN h.ok).1 h1⟩
end Go.Abs.Tz
namespace Go.Abs.Tz
open Go Go.Abs Go.Proofs
def qhD(F:List Stp):List Atom->qx->List Int->qx->Prop
 |[],K,js,R=>js=[]/\R=K
 |p::ps,K,js,R=>∃(j:Nat)(s:Stp)(K':qx)(js':List Int),F[j]? = some s/\vW K p s.atom=some K'/\js=(j:Int)::js'/\qhD F ps K' js' R
def qbs(S:Atom->Prop):List Atom->qx->qx->Prop
 |[],K,R=>R=K
 |p::ps,K,R=>∃(a:Atom)(K':qx),S a/\vW K p a=some K'/\qbs S ps K' R
def qau(F:List Stp)(a:Atom):Prop:=∃s∈F,s.atom=a
theorem qjR{F:List Stp}:∀{ps:List Atom}{K:qx}{js:List Int}{R:qx},qhD F ps K js R->qbs (qau F) ps K R
 |[],_,_,_,h=>h.2
 |_::_,_,_,_,⟨_,s,K',_,h1,h2,_,h4⟩=>⟨s.atom,K',⟨s,List.mem_iff_getElem?.2 ⟨_,h1⟩,rfl⟩,h2,qjR h4⟩
theorem qnh{F:List Stp}:∀{ps:List Atom}{K:qx}{R:qx},qbs (qau F) ps K R->∃js,qhD F ps K js R
 |[],_,_,h=>⟨[],rfl,h⟩
 |_::_,_,_,⟨a,K',⟨s,hs,e⟩,h2,h3⟩=>by
  obtain⟨js,hjs⟩:=qnh h3
  obtain⟨j,hj⟩:=List.mem_iff_getElem?.1 hs
  exact⟨(j:Int)::js,j,s,K',js,hj,by rw[e];exact h2,rfl,hjs⟩
theorem qbs.mono{S T:Atom->Prop}(h:∀a,S a->T a):∀{ps:List Atom}{K R:qx},qbs S ps K R->qbs T ps K R
 |[],_,_,hc=>hc
 |_::_,_,_,⟨a,K',h1,h2,h3⟩=>⟨a,K',h a h1,h2,qbs.mono h h3⟩
theorem qhp{S:Atom->Prop}(hS:∀a,S a->zl a):∀{ps:List Atom}{K R:qx},wu K->qbs S ps K R->wu R/\qae K R/\(∀p∈ps,wH R p.args)/\∀p∈ps,S (zp R p)
 |[],K,R,hK,h=>by
  have e:R=K:=h
  subst e
  exact⟨hK,.refl _,fun p hp=>(by cases hp),fun p hp=>(by cases hp)⟩
 |p::ps,K,R,hK,⟨a,K',h1,h2,h3⟩=>by
  obtain⟨g1,g2,g3,g4⟩:=qqr hK (hS a h1) h2
  obtain⟨f1,f2,f3,f4⟩:=qhp hS g1 h3
  refine⟨f1,g2.trans f2,fun q hq=>?_,fun q hq=>?_⟩
  ·rcases List.mem_cons.1 hq with rfl|hq
   ·exact g3.ext f2
   ·exact f3 q hq
  ·rcases List.mem_cons.1 hq with rfl|hq
   ·rw[qwu f2 g3,g4];exact h1
   ·exact f4 q hq
def qcs(S:Atom->Prop)(K:qx)(b:List Lit):Prop:=∀x∈b,(x.kind=2->¬S (zp K x.atom))/\(x.kind≠1->x.kind≠2->qcm K x=true)
def wF(S:Atom->Prop)(c:qe)(h:Atom):Prop:=∃R,qbs S (qV c.body) [] R/\qcs S R c.body/\h=zp R c.head
theorem wF.good{S:Atom->Prop}(hS:∀a,S a->zl a){c:qe}(hc:uF c){h:Atom}(hh:wF S c h):zl h:=by
 obtain⟨R,h1,_,rfl⟩:=hh
 obtain⟨g1,_,g3,_⟩:=qhp hS .nil h1
 exact(hc.leaf g1 g3).2
theorem qop{F:List Stp}(hF:∀s∈F,qM s.atom=true){a:Atom}(ha:qM a=true):zk (qE a) F=true↔qau F a:=by
 rw[w8]
 constructor
 ·rintro⟨q,hq,e⟩
  exact⟨q,hq,qkf (hF q hq) ha e⟩
 ·rintro⟨q,hq,e⟩
  exact⟨q,hq,by rw[e]⟩
theorem qmC{F:List Stp}(hF:∀s∈F,qM s.atom=true){K:qx}:∀{b:List Lit},(∀x∈b,x.kind=2->qM (zp K x.atom)=true)->(qag F K b=true↔qcs (qau F) K b)
 |[],_=>⟨fun _ x hx=>(by cases hx),fun _=>rfl⟩
 |x::r,hb=>by
  have ih:=qmC hF (K:=K) (b:=r) fun y hy=>hb y (List.mem_cons_of_mem _ hy)
  have split:qcs (qau F) K (x::r)↔((x.kind=2->¬qau F (zp K x.atom))/\(x.kind≠1->x.kind≠2->qcm K x=true))/\qcs (qau F) K r:=by
   constructor
   ·intro h
    exact⟨h x List.mem_cons_self,fun y hy=>h y (List.mem_cons_of_mem _ hy)⟩
   ·rintro⟨h1,h2⟩ y hy
    rcases List.mem_cons.1 hy with rfl|hy
    ·exact h1
    ·exact h2 y hy
  rw[split]
  unfold qag
  by_cases h1:x.kind=1
  ·rw[if_pos h1,ih]
   exact⟨fun h=>⟨⟨fun h2=>by omega,fun h3=>absurd h1 h3⟩,h⟩,fun h=>h.2⟩
  ·rw[if_neg h1]
   by_cases h2:x.kind=2
   ·rw[if_pos h2,Bool.and_eq_true,ih]
    have e:(!zk (qE (zp K x.atom)) F)=true↔¬qau F (zp K x.atom):=by
     rw[<-qop hF (hb x List.mem_cons_self h2)]
     simp
    rw[e]
    exact⟨fun h=>⟨⟨fun _=>h.1,fun _ h3=>absurd h2 h3⟩,h.2⟩,fun h=>⟨h.1.1 h2,h.2⟩⟩
   ·rw[if_neg h2,Bool.and_eq_true,ih]
    exact⟨fun h=>⟨⟨fun h3=>absurd h3 h2,fun _ _=>h.1⟩,h.2⟩,fun h=>⟨h.1.2 h1 h2,h.2⟩⟩
theorem qfk{F:List Stp}{c:qe}:∀{ps:List Atom}{K:qx}{frm:List Int}{x:qx×List Int},x∈vO F c ps K frm↔∃js,qhD F ps K js x.1/\qag F x.1 c.body=true/\x.2=frm++js
 |[],K,frm,x=>by
  unfold vO
  constructor
  ·intro h
   split at h
   ·rename_i hr
    simp at h
    subst h
    exact⟨[],⟨rfl,rfl⟩,hr,by simp⟩
   ·cases h
  ·rintro⟨js,⟨rfl,h2⟩,h3,h4⟩
   rw[<-h2,if_pos h3]
   obtain⟨x1,x2⟩:=x
   simp at h4
   subst h4
   simp
 |p::ps,K,frm,x=>by
  unfold vO
  rw[List.mem_flatMap]
  constructor
  ·rintro⟨j,hj,h⟩
   split at h
   ·rename_i s hs
    split at h
    ·rename_i R hR
     obtain⟨js,h1,h2,h3⟩:=qfk.1 h
     exact⟨(j:Int)::js,⟨j,s,R,js,hs,hR,rfl,h1⟩,h2,by rw[h3];simp⟩
    ·cases h
   ·cases h
  ·rintro⟨js,⟨j,s,K',js',h1,h2,h3,h4⟩,h5,h6⟩
   refine⟨j,List.mem_range.2 (List.getElem?_eq_some_iff.1 h1).1,?_⟩
   rw[h1]
   simp only[h2]
   exact qfk.2 ⟨js',h4,h5,by rw[h6,h3];simp⟩
def qgS(F:List Stp)(c:qe)(ci:Int):List Stp:=(vO F c (qV c.body) [] []).map fun x=>⟨zp x.1 c.head,ci,x.2⟩
theorem qjB(F:List Stp)(c:qe)(ci:Int)(l:List (qx×List Int))(G:List Stp):vQ (fun G a frm=>zI F G ⟨a,ci,frm⟩) c l G=(l.map fun x=>(⟨zp x.1 c.head,ci,x.2⟩:Stp)).foldl (zI F) G:=by
 unfold vQ
 rw[List.foldl_map]
theorem qoA(F G:List Stp)(s:Stp):zI F G s=G\/(zI F G s=G++[s]/\zk (qE s.atom) F=false/\zk (qE s.atom) G=false):=by
 unfold zI zn
 cases h1:zk (qE s.atom) F
 ·rw[if_neg (by simp)]
  by_cases h2:G.length<=300
  ·rw[if_pos h2]
   cases h3:zk (qE s.atom) G
   ·rw[if_neg (by simp)];exact .inr ⟨rfl,rfl,rfl⟩
   ·exact .inl (if_pos rfl)
  ·rw[if_neg h2];exact .inl rfl
 ·exact .inl (if_pos rfl)
theorem qwe{F G:List Stp}{s:Stp}(h:(zI F G s).length<=300):zk (qE s.atom) F=true\/zk (qE s.atom) (zI F G s)=true:=by
 cases h1:zk (qE s.atom) F
 ·right
  have hG:G.length<=300:=by have:=(qoz F G s).1;omega
  unfold zI zn
  rw[h1,if_neg (by simp),if_pos hG]
  cases h3:zk (qE s.atom) G
  ·rw[if_neg (by simp)]
   exact w8.2 ⟨s,by simp,rfl⟩
  ·rw[if_pos rfl];exact h3
 ·exact .inl rfl
theorem qvV{k:ByteArray}{G X:List Stp}(h:zk k G=true):zk k (G++X)=true:=by
 obtain⟨q,hq,e⟩:=w8.1 h
 exact w8.2 ⟨q,List.mem_append_left _ hq,e⟩
theorem qfz(F:List Stp):∀(l G:List Stp),∃X,l.foldl (zI F) G=G++X/\∀q∈X,q∈l
 |[],G=>⟨[],by simp,fun q hq=>by cases hq⟩
 |s::l,G=>by
  obtain⟨X,hX,hX2⟩:=qfz F l (zI F G s)
  rw[List.foldl_cons,hX]
  rcases qoA F G s with e|⟨e,_⟩
  ·exact⟨X,by rw[e],fun q hq=>List.mem_cons_of_mem _ (hX2 q hq)⟩
  ·refine⟨s::X,by rw[e];simp,fun q hq=>?_⟩
   rcases List.mem_cons.1 hq with rfl|hq
   ·exact List.mem_cons_self
   ·exact List.mem_cons_of_mem _ (hX2 q hq)
theorem qow(F:List Stp):∀(l G:List Stp),(l.foldl (zI F) G).length<=300->∀s∈l,zk (qE s.atom) F=true\/zk (qE s.atom) (l.foldl (zI F) G)=true
 |[],G,_,s,hs=>by cases hs
 |q::l,G,h,s,hs=>by
  rw[List.foldl_cons]at h ⊢
  rcases List.mem_cons.1 hs with rfl|hs
  ·obtain⟨X,hX,_⟩:=qfz F l (zI F G s)
   rw[hX]at h ⊢
   rw[List.length_append]at h
   rcases qwe (F:=F) (G:=G) (s:=s) (by omega) with h1|h1
   ·exact .inl h1
   ·exact .inr (qvV h1)
  ·exact qow F l _ h s hs
theorem qov(F:List Stp):∀(l G:List Stp),G.length<=301->(l.foldl (zI F) G).length<=301
 |[],_,h=>h
 |s::l,G,h=>qov F l _ (qoy h)
def qbS(F G:List Stp):Prop:=(G.map fun q=>qE q.atom).Nodup/\∀q∈G,zk (qE q.atom) F=false
theorem qbS.nil(F:List Stp):qbS F []:=⟨.nil,fun q hq=>by cases hq⟩
theorem qwf{F G:List Stp}{s:Stp}(h:qbS F G):qbS F (zI F G s):=by
 rcases qoA F G s with e|⟨e,h1,h2⟩
 ·rw[e];exact h
 ·rw[e]
  refine⟨?_,fun q hq=>?_⟩
  ·rw[List.map_append]
   refine List.nodup_append.2 ⟨h.1,by simp,fun x hx y hy hxy=>?_⟩
   simp at hy
   subst hy
   obtain⟨q,hq,e⟩:=List.mem_map.1 hx
   have:zk (qE s.atom) G=true:=w8.2 ⟨q,hq,by rw[e,hxy]⟩
   rw[h2]at this
   cases this
  ·rcases List.mem_append.1 hq with hq|hq
   ·exact h.2 q hq
   ·simp at hq
    subst hq
    exact h1
theorem qox(F:List Stp):∀(l G:List Stp),qbS F G->qbS F (l.foldl (zI F) G)
 |[],_,h=>h
 |_::l,_,h=>qox F l _ (qwf h)
theorem qqK:∀{G F:List Stp},qbS F G->G.foldl zn F=F++G
 |[],F,_=>by simp
 |s::G,F,h=>by
  obtain⟨h1,h2⟩:=h
  have e:zn F s=F++[s]:=by unfold zn;rw[h2 s List.mem_cons_self,if_neg (by simp)]
  rw[List.map_cons,List.nodup_cons]at h1
  rw[List.foldl_cons,e,qqK ⟨h1.2,fun q hq=>?_⟩]
  ·simp
  ·cases hh:zk (qE q.atom) (F++[s])
   ·rfl
   ·obtain⟨r,hr,er⟩:=w8.1 hh
    rcases List.mem_append.1 hr with hr|hr
    ·have:zk (qE q.atom) F=true:=w8.2 ⟨r,hr,er⟩
     rw[h2 q (List.mem_cons_of_mem _ hq)]at this
     cases this
    ·simp at hr
     subst hr
     exact absurd (List.mem_map.2 ⟨q,hq,er.symm⟩) h1.1
end Go.Abs.Tz
namespace Go.Abs.Tz
open Go Go.Abs Go.Proofs
set_option maxRecDepth 20000
set_option linter.unusedSimpArgs false
attribute [local simp ↓] gT gS jh jg gv ug q9 zu jf ub yD yE gU gW gY gV jm jp ju jn jv jw jq jr jo jk ji jl jj yB yz yC yA gN gL gO gM g8 g6 g7 uh zG jy qX jz gy yF yG yb yd yc g9 ya ym jD jI jL jH jJ jK gh gg jR jT uQ uN ja jd uO uW u9 uZ uY uX uU uJ uK uL uM jb uS uT uH jc je uP uR uV uI jX jS gd gk jU j8 gc gb ga j9 j6 jP gf j3 j5 jM gj gp jV jZ j7 jN gt gi jO gq j0 jW jY jQ ge jE jG jF yg yk yf yh yj qp ur
attribute [local simp] faL fdL iaL ixL qD qY qT eqK eqL qO zi uD ye yy yn yp yr yu yw yx yo yt yq yv zy LV.cells LV.whole qp uq zU jA stL zz zP uc qa.alloc gw gu gx gK gJ gI gH gG gF gD gC gA gz qd ui
structure NNG2 where
 i:Nat
 n:Nat
 e:qx
end Go.Abs.Tz
