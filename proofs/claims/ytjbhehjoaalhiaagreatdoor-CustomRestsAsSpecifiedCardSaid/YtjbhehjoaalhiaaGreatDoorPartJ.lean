/- Part of the proof that the law CustomRestsAsSpecified holds. Conditions: none. -/
import Derived.Test.YtjbhehjoaalhiaaGreatDoorPartG
import Derived.Test.YtjbhehjoaalhiaaGreatDoorPartI
import Derived.Lib.AtoiErrMem
import Derived.Test.YtjbhehjoaalhiaaGreatDoorPartH
import Derived.Test.YtjbhehjoaalhiaaGreatDoorPartD
import Derived.Lib.ItoaNum
set_option linter.unusedVariables false
set_option linter.unusedSimpArgs false
set_option linter.unusedSectionVars false
namespace Go.Abs.Tz
open Go Go.Abs Go.Proofs
def qjO(P:Program)(f:FuncId):Bool:=match P.funcs[f]? with
 |some fn=>fn.body.isSome&&fn.name != "runtime.NumGoroutine"
 |none=>false
theorem enters_of{P:Program}{f:FuncId}(h:qjO P f=true):qcZ P f:=by
 unfold qjO at h
 split at h
 ·rename_i fn hf
  simp only[Bool.and_eq_true,bne_iff_ne,ne_eq]at h
  exact⟨fn,hf,h.1,h.2⟩
 ·cases h
theorem qg.of_calls{f:FuncId}{args:List LV}{v:LV}(he:qjO Tryz.prog f=true)
  (h:∀(G:qb)(w:World)(us:Array Value),uR G w args us->Calls Tryz.prog f us w fun e w'=>∃u,e=.returned u/\VR G w' v u/\w.grownBy w' none):qg f args v:=
 qbw.of_calls (fun _ _ _ _ h=>h) (enters_of he) h
theorem qdE{G:qb}{w:World}{x:LV}{us:Array Value}(h:uR G w [x] us):∃u,us=#[u]/\VR G w x u:=by
 obtain⟨h1,h2⟩:=h
 obtain⟨l⟩:=us
 match l,h1 with
 |[u],_=>exact⟨u,rfl,h2 0 x rfl⟩
theorem qqt{G:qb}{w:World}{x y:LV}{us:Array Value}(h:uR G w [x,y] us):∃u v,us=#[u,v]/\VR G w x u/\VR G w y v:=by
 obtain⟨h1,h2⟩:=h
 obtain⟨l⟩:=us
 match l,h1 with
 |[u,v],_=>exact⟨u,v,rfl,h2 0 x rfl,h2 1 y rfl⟩
theorem qhc{w w':World}(h:RowKit.Below w.heap.size w w'):w.grownBy w' none:=⟨h.os,h.tape,h.output,h.size,fun k hk _=>h.block k hk⟩
theorem qlE(x:Int)(h0:0<=x)(h1:x<=18446744073709551615):qg 161 [.sc (.int .u64 x)] (.int (Lib.bitLen x.toNat)):=by
 refine qg.of_calls (by kernel_rfl) fun G w us ha=>?_
 obtain⟨u,rfl,hu⟩:=qdE ha
 obtain rfl:=hu.sc_inv
 refine(Tryz.bits_Len x w h0 h1).mono ?_
 rintro e w' ⟨rfl,rfl⟩
 exact⟨_,rfl,.sc _,qfw _⟩
theorem qsn(s:ByteArray)(c:Int):qg 172 [.str s,U c] (.int (Lib.indexByte s.data.toList c.toNat.toUInt8)):=by
 refine qg.of_calls (by kernel_rfl) fun G w us ha=>?_
 obtain⟨u,v,rfl,hu,hv⟩:=qqt ha
 obtain rfl:=hu.sc_inv
 obtain rfl:=hv.sc_inv
 refine(Tryz.strings_IndexByte s c w).mono ?_
 rintro e w' ⟨rfl,rfl⟩
 exact⟨_,rfl,.sc _,qfw _⟩
theorem qvV(w:World)(k:Nat)(os:Array Obj):w.grownBy (Go.Sort.grow (w.drewN k) os) none:=
 ⟨rfl,rfl,rfl,by show w.heap.size<=(w.heap++os).size;rw[Array.size_append];omega,fun j hj _=>Array.getElem?_append_left hj⟩
theorem qtR{G:qb}{w:World}(h:yX E0 G w){name:String}(hn:Tryz.prog.globalNamed name=some 3):Lib.TabIs Tryz.prog w name .u64 Lib.pow10Tab:=by
 obtain⟨_,t,fz,hw⟩:=h.fix _ (List.mem_cons_self)
 unfold Lib.TabIs World.var?
 rw[hn]
 simp only[Option.bind_some]
 rw[hw]
theorem qsi(n:Int)(h0:-9223372036854775808<=n)(h1:n<=9223372036854775807):qg 178 [.int n] (.str ⟨(Lib.itoa n).toArray⟩):=by
 refine qbw.of_callsE (fun _ _ _ _ h=>h) (enters_of (by kernel_rfl)) fun G w us hE ha=>?_
 obtain⟨u,rfl,hu⟩:=qdE ha
 obtain rfl:=hu.sc_inv
 refine(Tryz.strconv_Itoa n h0 h1 w (qtR hE (by kernel_rfl))).mono ?_
 rintro e w' ⟨rfl,k,os,rfl⟩
 exact⟨_,rfl,.sc _,qvV w k os⟩
theorem qsh(xs:List ByteArray)(own:Own)(sep:ByteArray)(hN:xs.length<=140737488355328)(hlen:(Lib.join (xs.map (·.data.toList)) sep.data.toList).length<=140737488355328):
  qg 129 [.sl (xs.map fun x=>.str x) own,.str sep] (.str ⟨(Lib.join (xs.map (·.data.toList)) sep.data.toList).toArray⟩):=by
 refine qg.of_calls (by kernel_rfl) fun G w us ha=>?_
 obtain⟨u,v,rfl,hu,hv⟩:=qqt ha
 obtain rfl:=hv.sc_inv
 obtain⟨base,cap,rfl,hcap,_,hc⟩:=hu.sl_inv
 rw[List.length_map]at hcap ⊢
 have none_case:xs=[]->Calls Tryz.prog 129 #[.slice base xs.length cap,.string sep] w fun e w'=>∃u,e=.returned u/\VR G w' (.str ⟨(Lib.join (xs.map (·.data.toList)) sep.data.toList).toArray⟩) u/\w.grownBy w' none:=by
  rintro rfl
  refine(Tryz.strings_Join_none base cap sep w).mono ?_
  rintro e w' ⟨rfl,rfl⟩
  exact⟨_,rfl,.sc _,qfw _⟩
 rcases hc with⟨h1,_,_⟩|⟨b,off,sz,xv,rfl,hsz,hx,hr⟩
 ·exact none_case (by simpa using h1)
 ·cases hxs:xs with
  |nil=>rw[<-hxs];exact none_case hxs
  |cons x0 r=>
   rw[<-hxs]
   have h0:xs[0]? = some x0:=by rw[hxs];rfl
   have hg:∀(j:Nat) x,xs[j]? = some x->(xs.map fun x=>LV.str x)[j]? = some (.str x):=fun j x h=>by rw[List.getElem?_map,h];rfl
   have hz:sz=1:=(hsz 0 (.str x0) (hg 0 x0 h0)).symm
   subst hz
   have hcell:∀(j:Nat) x,xs[j]? = some x->w.cell? ⟨b,off+j,none⟩=some (.string x):=by
    intro j x hj
    obtain⟨_,h2,_⟩:=hx j (.str x) 0 (.str x) (hg j x hj) rfl
    have h3:=(hr j (.str x) 0 (.str x) (hg j x hj) rfl).sc_inv
    rw[h3]at h2
    simpa using h2
   have hbk:b<w.heap.size:=by
    have:=hcell 0 x0 h0
    unfold World.cell? at this
    cases ho:w.heap[b]? with
    |none=>simp[ho]at this
    |some o=>exact(Array.getElem?_eq_some_iff.1 ho).1
   refine(Tryz.strings_Join b off cap xs sep w hcell hbk hN hcap hlen).mono ?_
   rintro e w' ⟨rfl,hw⟩
   exact⟨_,rfl,.sc _,qhc hw⟩
theorem qsS(s:ByteArray)(hmax:s.size<=9223372036854775806)(v:Int)(h:Lib.atoiAll s.data.toList=.ok v):qg 171 [.str s] (.tup [.int v,.sc .nilIface]):=by
 refine qg.of_calls (by kernel_rfl) fun G w us ha=>?_
 obtain⟨u,rfl,hu⟩:=qdE ha
 obtain rfl:=hu.sc_inv
 refine(Tryz.strconv_Atoi_ok s hmax v h w).mono ?_
 rintro e w' ⟨rfl,hw⟩
 refine⟨_,rfl,.tup rfl ?_,?_⟩
 ·intro i c hi
  match i with
  |0=>simp at hi;subst hi;exact .sc _
  |1=>simp at hi;subst hi;exact .sc _
  |i+2=>simp at hi
 ·rcases hw with rfl|⟨t,rfl⟩
  ·exact qfw _
  ·exact qhc (Lib.bytesWorld_below w 5 t)
end Go.Abs.Tz
namespace Go.Abs.Tz
open Go Go.Abs Go.Proofs
set_option maxRecDepth 20000
set_option linter.unusedSimpArgs false
attribute [local simp ↓] yb ya jv ju gI ut zg zB jr up yP yQ yc ye yf yd jA jD jG jB jH jI jE jF jC jy jw jz jx yN yL yO yM g7 gZ g8 g6 yk yh yj uu zx jL zh z7 gL yS yT yo yq yp ym yn yz jO jT jW jS jU jV gy gx j5 j7 jb uZ jm jp u9 jh jl jk jj ji jf uV uW uX uY jn jd je uT jo jq ja jc jg uU gb j6 gu gC j8 gj gt gq gp gk gh j0 gw gf gg jX gA gD j9 gd gi jY gG gz jZ gF ge ga gc j3 gv jP jR jQ yu yx yt yv yw qp uL
attribute [local simp] faL fdL iaL ixL qL zb qV eqK eqL qR zo uO yr yK yA yC yE yG yI yJ yB yF yD yH zC LV.cells LV.whole qp uC uw jM stL zF zR uq qa.alloc gJ gH gK gY gW gV gU gT gS gQ gO gN gM qe ux
def qaB(H:qa)(sz:Nat)(a x:LV):Option (LV×qa):=match wy H sz a,qca H sz x with
 |some (cs,H0,n),some (ms,m)=>
  if m=0 then some (a,H)
  else if n+m<=2^30/\sz<=2^10 then some (.asl H0.next 0 (n+m),H0.alloc (.arr sz (cs++ms)))
  else none
 |_,_=>none
theorem qaf{E:Env}{sz:Nat}{a x:BO}{t:FT}{H:qa}{k:HP}(h:evP E a t fun u=>evP E x t fun v=>eP (qaB H sz u v) k):wv E (.ap sz a x) t H k:=.inr h
theorem qcJ{a b n:Nat}{x y:qc}{r r':List (Nat×qc)}(hr:qn r' b)(h:∀i z,look i r'=some z->look i r=some z):HWk ⟨(a,x)::(b,y)::r,n⟩ ⟨(a,x)::r',n⟩:=by
 refine⟨Nat.le_refl _,fun i z hz=>?_⟩
 simp only[look]at hz ⊢
 split at hz
 ·rename_i hi;rw[if_pos hi];exact hz
 ·rename_i hi
  have:=hr.look hz
  rw[if_neg hi,if_neg (by omega)]
  exact h i z hz
structure NNS where
 left:List Nat
 cur:Option Nat
 acc:List qE
theorem qkD{n:Nat}(h:n<=12):IntKind.wrap .u64 (n:Int)=n:=by
 have e:IntKind.u64.bits=64:=rfl
 have e2:IntKind.u64.signed=false:=rfl
 simp only[IntKind.wrap,e,e2,Bool.false_and]
 rw[if_neg (by decide)]
 omega
def qed(x:qE)(k:PK):Bool:=lessB x.pred k.1||(eqBA x.pred k.1&&decide (x.args<k.2))
def wl:List qE->PK->Nat
 |[],_=>0
 |x::r,k=>if qed x k then wl r k+1 else 0
def uM(A:List qE)(k:PK):List qE:=A.take (wl A k)++[⟨k.1,k.2,0⟩]++A.drop (wl A k)
def wO(A:List qE)(a:Atom):Prop:=0<=uN A (ofA a) 0
instance (A:List qE) (a:Atom):Decidable (wO A a):=by unfold wO;infer_instance
def uK(A:List qE)(a:Atom):List qE:=if wO A a then A else uM A (ofA a)
theorem qmW:∀(A:List qE)(k:PK),wl A k<=A.length
 |[],_=>Nat.le_refl _
 |x::r,k=>by
  have:=qmW r k
  simp only[wl,List.length_cons]
  split<;>omega
theorem qgW(A:List qE)(k:PK):(uM A k).length=A.length+1:=by
 have:=qmW A k
 unfold uM
 simp
 omega
theorem qtQ(A:List qE)(a:Atom):(uK A a).length<=A.length+1/\A.length<=(uK A a).length:=by
 unfold uK
 split
 ·omega
 ·rw[qgW];omega
theorem qjD:∀(aa:List Atom)(A:List qE),(aa.foldl uK A).length<=A.length+aa.length/\A.length<=(aa.foldl uK A).length
 |[],A=>by simp
 |a::r,A=>by
  have h1:=qjD r (uK A a)
  have h2:=qtQ A a
  rw[List.foldl_cons,List.length_cons]
  omega
theorem qeQ(A:List qE):(A.map qD).all (fun e=>e.cells.length==3)=true:=by
 rw[List.all_map,List.all_eq_true]
 intro x _
 rfl
inductive RepO (H:qa) (A:List qE):LV->List (Nat×qc)->Nat->Prop
 |sl (own:Own) (n:Nat):H.next<=n->RepO H A (.sl (A.map qD) own) H.objs n
 |asl (o n:Nat):H.next<=o->o<n->RepO H A (.asl o 0 A.length) ((o,qX A)::H.objs) n
inductive qex (H:qa):List qE->LV->List (Nat×qc)->Nat->Prop
 |nil (n:Nat):H.next<=n->qex H [] Nl H.objs n
 |asl (A:List qE) (o n:Nat):H.next<=o->o<n->qex H A (.asl o 0 A.length) ((o,qX A)::H.objs) n
theorem qhq{H:qa}(hH:H.Ok){o:Nat}(ho:H.next<=o):zZ o H.objs=H.objs:=by
 have go:∀(l:List (Nat×qc))(n:Nat),qn l n->n<=o->zZ o l=l:=by
  intro l
  induction l with
  |nil=>intro n _ _;rfl
  |cons e l ih=>
   obtain⟨i,x⟩:=e
   intro n hd hn
   have h1:i<n:=hd.1
   simp only[zZ]
   rw[if_neg (by omega),ih i hd.2 (by omega)]
 exact go _ _ hH ho
theorem qco{H:qa}(hH:H.Ok){A B:List qE}{v:LV}{ob:List (Nat×qc)}{n:Nat}(h:qex H A v ob n)(hl:A.length+B.length<=2^20):
  ∃v' ob' n',(∀ow,qaB ⟨ob,n⟩ 3 v (.sl (B.map qD) ow)=some (v',⟨ob',n'⟩))/\qex H (A++B) v' ob' n'/\n<=n':=by
 have hrow:∀ow,qca ⟨ob,n⟩ 3 (.sl (B.map qD) ow)=some (B.flatMap zH,B.length):=by
  intro ow
  unfold qca
  simp only
  rw[qeQ,if_pos rfl]
  simp[List.flatMap_map,LV.cells]
 cases hB:B with
 |nil=>
  subst hB
  refine⟨v,ob,n,fun ow=>?_,by rw[List.append_nil];exact h,Nat.le_refl _⟩
  unfold qaB
  rw[hrow]
  cases h with
  |nil=>rfl
  |asl _ o _ h1 h2=>
   have h3:(A.flatMap zH).length=A.length*3:=qel qdf A
   have:wy ⟨(o,qX A)::H.objs,n⟩ 3 (.asl o 0 A.length)=some ((A.flatMap zH).take (A.length*3),qa.del ⟨(o,qX A)::H.objs,n⟩ o,A.length):=by
    simp only[wy,look,if_true]
    rw[if_pos ⟨trivial,by rw[h3];exact Nat.le_refl _⟩]
   rw[this]
   rfl
 |cons b B'=>
  rw[<-hB]
  have hpos:0<B.length:=by rw[hB];simp
  cases h with
  |nil _ h1=>
   refine⟨.asl n 0 B.length,(n,qX B)::H.objs,n+1,fun ow=>?_,by rw[List.nil_append];exact .asl B n _ h1 (Nat.lt_succ_self _),Nat.le_succ _⟩
   unfold qaB
   rw[hrow,show wy ⟨H.objs,n⟩ 3 Nl=some ([],⟨H.objs,n⟩,0) from rfl]
   simp only[List.length_nil,Nat.zero_add]at hl ⊢
   rw[if_neg (by omega),if_pos ⟨by omega,by omega⟩]
   rfl
  |asl _ o _ h1 h2=>
   have h3:(A.flatMap zH).length=A.length*3:=qel qdf A
   have:wy ⟨(o,qX A)::H.objs,n⟩ 3 (.asl o 0 A.length)=some (A.flatMap zH,⟨H.objs,n⟩,A.length):=by
    simp only[wy,look,if_true]
    rw[if_pos ⟨trivial,by rw[h3];exact Nat.le_refl _⟩,<-h3,List.take_length]
    simp[qa.del,zZ,qhq hH h1]
   refine⟨.asl n 0 (A.length+B.length),(n,qX (A++B))::H.objs,n+1,fun ow=>?_,?_,Nat.le_succ _⟩
   ·unfold qaB
    rw[hrow,this]
    simp only
    rw[if_neg (by omega),if_pos ⟨by omega,by omega⟩]
    simp[qa.alloc,List.flatMap_append]
   ·rw[<-List.length_append]
    exact .asl (A++B) n _ (by omega) (Nat.lt_succ_self _)
structure NNP2 where
 i:Nat
 n:Nat
 a:List qE
 v:LV
 ob:List (Nat×qc)
def l72b:qo:=match qaX.body with
 |.seq _ (.seq _ (.seq _ (.seq _ (.seq x _))))=>x
 |_=>.bad
theorem qex.toO{H:qa}{A:List qE}{v:LV}{ob:List (Nat×qc)}{n:Nat}(h:qex H A v ob n)(hne:A≠[]):RepO H A v ob n/\∃o,v=.asl o 0 A.length:=by
 cases h with
 |nil=>exact absurd rfl hne
 |asl _ o _ h1 h2=>exact⟨.asl o _ h1 h2,o,rfl⟩
theorem vZ{o:Option (LV×qa)}{k:HP}{v:LV}{H:qa}(h:o=some (v,H))(hk:k v H):eP o k:=⟨v,H,h,hk⟩
theorem qbZ{H:qa}{A B:List qE}{own:Own}{ob:List (Nat×qc)}{n:Nat}(hl:A.length+B.length<=2^20)(h:zP H 3 A.length own ob n):
  ∃own' ob' n',(∀ow,apL ⟨ob,n⟩ 3 (.sl (A.map qD) own) (.sl (B.map qD) ow)=some (.sl ((A++B).map qD) own',⟨ob',n'⟩))/\zP H 3 (A++B).length own' ob' n'/\n<=n':=by
 rcases h with⟨rfl,rfl,h⟩|⟨t,rfl,h1,h2,rfl⟩
 ·refine⟨.tok n,(n,.tok (A++B).length 3)::H.objs,n+1,fun ow=>?_,.inr ⟨n,rfl,h,Nat.lt_succ_self _,rfl⟩,Nat.le_succ _⟩
  unfold apL
  simp only
  rw[qeQ,qeQ]
  simp only[Bool.and_self,if_true,List.length_map]
  rw[if_pos ⟨by omega,by omega,rfl⟩]
  simp[qa.alloc]
 ·refine⟨.tok t,(t,.tok (A++B).length 3)::H.objs,n,fun ow=>?_,.inr ⟨t,rfl,h1,h2,rfl⟩,Nat.le_refl _⟩
  have hcan:vd ⟨(t,.tok A.length 3)::H.objs,n⟩ 3 (.tok t) A.length=true:=by simp[vd,look]
  unfold apL
  simp only
  rw[qeQ,qeQ]
  simp only[Bool.and_self,if_true,List.length_map]
  rw[if_pos ⟨by omega,by omega,hcan⟩]
  simp[qa.put,qx]
theorem t_ins(aa:List Atom)(ownA:Own)(haa:aa≠[])(hl:aa.length<2^18)(H:qa):
  lP E0 F0 l72b (.nd .bot (.nd .bot (.nd (.sl (aa.map qd) ownA) .nil .nil) .nil) (.nd .bot .nil (.nd (Nl) .nil .nil))) H (fun e t' H'=>e=.normal/\∃o n,H.next<=o/\o<n/\FT.Le (.nd .bot .nil (.nd .bot .nil (.nd (.asl o 0 (aa.foldl uK []).length) .nil .nil))) t'/\HWk H' ⟨(o,qX (aa.foldl uK []))::H.objs,n⟩/\(H'.Ok->qa.Ok ⟨(o,qX (aa.foldl uK []))::H.objs,n⟩)):=by
 refine qgV fun hH=>zS ?_
 simp(disch:=omega)[l72b,qaX]
 obtain⟨R,hR⟩:∃R,aa.foldl uK []=R:=⟨_,rfl⟩
 rw[hR]
 refine qy (σ:=NNP2) (fun q=>(.nd .bot (.nd .bot (.nd (.sl (aa.map qd) ownA) (.nd (.int q.i) .nil .nil) .nil) .nil) (.nd .bot .nil (.nd (q.v) .nil .nil)))) (fun q=>⟨q.ob,q.n⟩) (fun q=>aa.length - q.i)
  (fun q=>RepO H q.a q.v q.ob q.n/\q.i<=aa.length/\q.a.length<=q.i/\(aa.drop q.i).foldl uK q.a=R/\((∃own,q.v=.sl (q.a.map qD) own/\∃a∈aa.drop q.i,¬wO q.a a)\/((∃o,q.v=.asl o 0 q.a.length)/\∀a∈aa.drop q.i,wO q.a a)))
  ⟨0,H.next,[],Nl,H.objs⟩ ⟨.sl .full _ (Nat.le_refl _),Nat.zero_le _,Nat.le_refl _,hR,.inl ⟨.full,rfl,aa.head haa,List.head_mem haa,by unfold wO uN;omega⟩⟩ (by simp[FT.Le,Wk]) ⟨HWk.refl _,fun h=>h⟩ ?_
 rintro⟨i,n,A,v,ob⟩ ⟨hr,hi,hAi,he,hm⟩ hok
 dsimp only at hr hi hAi he hm hok
 have hnn:H.next<=n:=by cases hr<;>omega
 by_cases hlt:i<aa.length
 case neg=>
  have hd:aa.drop i=[]:=List.drop_eq_nil_of_le (by omega)
  rw[hd]at he hm
  simp only[List.foldl_nil]at he
  subst he
  rcases hm with⟨_,_,a,ha,_⟩|⟨⟨o,rfl⟩,_⟩
  ·cases ha
  cases hr with
  |asl _ _ h1 h2=>
   simp(disch:=omega)[hlt]
   exact⟨o,h1,n,h2,by simp[FT.Le,Wk],HWk.refl _,fun h=>h⟩
 rw[List.drop_eq_getElem_cons hlt]at he hm
 rw[List.foldl_cons]at he
 rcases hm with⟨own,rfl,hex⟩|⟨⟨o,rfl⟩,hall⟩
 case inr=>
  have hf:wO A aa[i]:=hall _ List.mem_cons_self
  have hp:uK A aa[i]=A:=by unfold uK;rw[if_pos hf]
  rw[hp]at he
  cases hr with
  |asl _ _ h1 h2=>
   simp(disch:=omega)[hlt]
   refine qlm A o _ n (by simp[look]) aa[i] (by omega) fun n1 hn1=>?_
   have hf':(0:Int)<=uN A (ofA aa[i]) 0:=hf
   simp(disch:=omega)[hf',qi (show i<2^62 by omega)]
   exact⟨⟨i+1,n1,A,.asl o 0 A.length,(o,qX A)::H.objs⟩,by dsimp only;omega,⟨.asl o n1 h1 (by omega),by dsimp only;omega,by dsimp only;omega,he,.inr ⟨⟨o,rfl⟩,fun a ha=>hall a (List.mem_cons_of_mem _ ha)⟩⟩,by simp[FT.Le,Wk],HWk.refl _,fun h=>h⟩
 have hob:ob=H.objs:=by cases hr;rfl
 subst hob
 simp(disch:=omega)[hlt]
 refine(qln A own aa[i] (by omega)).go fun n1 hn1=>?_
 by_cases hf:wO A aa[i]
 ·have hf':(0:Int)<=uN A (ofA aa[i]) 0:=hf
  have hp:uK A aa[i]=A:=by unfold uK;rw[if_pos hf]
  rw[hp]at he
  simp(disch:=omega)[hf',qi (show i<2^62 by omega)]
  obtain⟨a,ha,hna⟩:=hex
  refine⟨⟨i+1,n1,A,.sl (A.map qD) own,H.objs⟩,by dsimp only;omega,⟨.sl own n1 (by omega),by dsimp only;omega,by dsimp only;omega,he,.inl ⟨⟨own,rfl⟩,a,?_,hna⟩⟩,by simp[FT.Le,Wk],HWk.refl _,fun h=>h⟩
  rcases List.mem_cons.1 ha with rfl|ha
  ·exact absurd hf hna
  ·exact ha
 have hf':¬(0:Int)<=uN A (ofA aa[i]) 0:=hf
 have hp:uK A aa[i]=uM A (ofA aa[i]):=by unfold uK;rw[if_neg hf]
 rw[hp]at he
 simp(disch:=omega)[hf']
 refine qy (σ:=NN) (fun q=>(.nd .bot (.nd .bot (.nd (.sl (aa.map qd) ownA) (.nd (.int i) .nil .nil) .nil) .nil) (.nd .bot (.nd .bot (.nd (.int q.i) .nil .nil) .nil) (.nd (.sl (A.map qD) own) .nil .nil)))) (fun q=>⟨H.objs,q.n⟩) (fun q=>A.length - q.i)
  (fun q=>n1<=q.n/\q.i<=A.length/\q.i+wl (A.drop q.i) (ofA aa[i])=wl A (ofA aa[i])) ⟨0,n1⟩ ⟨Nat.le_refl _,Nat.zero_le _,by simp⟩ (by simp[FT.Le,Wk]) ⟨HWk.refl _,fun h=>h⟩ ?_
 rintro⟨j,n2⟩ ⟨hn2,hj,hpos⟩ hok2
 simp only at hn2 hj hpos
 by_cases hlt2:j<A.length
 case neg=>
  have hjp:wl A (ofA aa[i])=j:=by
   rw[List.drop_eq_nil_of_le (by omega)]at hpos
   simpa [wl] using hpos.symm
  have hDz:(A.map qD).drop j=[]:=List.drop_eq_nil_of_le (by rw[List.length_map];omega)
  simp(disch:=omega)[hlt,hlt2]
  simp(disch:=omega)[hj]
  have hTl:(A.take j).map qD=(A.map qD).take j:=List.map_take
  have hDl:(A.drop j).map qD=(A.map qD).drop j:=List.map_drop
  obtain⟨S0,hS0⟩:∃S0:qE,(⟨aa[i].pred,aa[i].args.length,0⟩:qE)=S0:=⟨_,rfl⟩
  have hIns:uM A (ofA aa[i])=A.take j++[S0]++A.drop j:=by rw[<-hjp,<-hS0];rfl
  have hSL:[S0].map qD=[.agg [.str aa[i].pred,.int aa[i].args.length,.int 0]]:=by rw[<-hS0];rfl
  have hb1:(A.take j).length<=2^18:=by rw[List.length_take];omega
  have hb2:(A.take j++[S0]).length<=2^18+1:=by rw[List.length_append];simp only[List.length_cons,List.length_nil];omega
  have hb3:(A.drop j).length<=2^18:=by rw[List.length_drop];omega
  have hlen:=qgW A (ofA aa[i])
  have hne:uM A (ofA aa[i])≠[]:=fun e=>by rw[e]at hlen;simp at hlen
  by_cases hlast:∀a∈aa.drop (i+1),wO (uM A (ofA aa[i])) a
  ·obtain⟨v1,ob1,m1,e1,r1,q1⟩:=qco hH (.nil n2 (by omega)) (B:=A.take j) (by simp only[List.length_nil];omega)
   obtain⟨v2,ob2,m2,e2,r2,q2⟩:=qco hH r1 (B:=[S0]) (by rw[List.nil_append];simp only[List.length_cons,List.length_nil];omega)
   obtain⟨v3,ob3,m3,e3,r3,q3⟩:=qco hH r2 (B:=A.drop j) (by rw[List.nil_append];omega)
   rw[List.nil_append,<-hIns]at r3
   obtain⟨r4,o4,h4⟩:=r3.toO hne
   rw[hTl]at e1
   rw[hSL]at e2
   rw[hDl]at e3
   refine qaf ?_
   simp(disch:=omega)
   refine vZ (v:=v1) (H:=⟨ob1,m1⟩) (by simpa [hlt2] using e1 _) ?_
   try simp(disch:=omega)
   refine qaf ?_
   simp(disch:=omega)
   refine vZ (v:=v2) (H:=⟨ob2,m2⟩) (by simpa using e2 _) ?_
   try simp(disch:=omega)
   refine qaf ?_
   simp(disch:=omega)
   refine vZ (v:=v3) (H:=⟨ob3,m3⟩) (by simpa [hlt2,hDz] using e3 _) ?_
   simp(disch:=omega)[qi (show i<2^62 by omega)]
   exact⟨⟨i+1,m3,uM A (ofA aa[i]),v3,ob3⟩,by dsimp only;omega,⟨r4,by dsimp only;omega,by dsimp only;omega,he,.inr ⟨⟨o4,h4⟩,hlast⟩⟩,by simp[FT.Le,Wk],HWk.refl _,fun h=>h⟩
  ·obtain⟨w1,ob1,m1,e1,r1,q1⟩:=qbZ (H:=H) (A:=[]) (B:=A.take j) (own:=.full) (ob:=H.objs) (n:=n2) (by simp only[List.length_nil];omega) (.inl ⟨rfl,rfl,by omega⟩)
   obtain⟨w2,ob2,m2,e2,r2,q2⟩:=qbZ (B:=[S0]) (by rw[List.nil_append];simp only[List.length_cons,List.length_nil];omega) r1
   obtain⟨w3,ob3,m3,e3,r3,q3⟩:=qbZ (B:=A.drop j) (by rw[List.nil_append];omega) r2
   rw[List.nil_append,<-hIns]at r3 e3
   rw[List.nil_append]at e1 e2
   obtain⟨X1,hX1⟩:∃X1,A.take j=X1:=⟨_,rfl⟩
   obtain⟨X2,hX2⟩:∃X2,A.take j++[S0]=X2:=⟨_,rfl⟩
   obtain⟨X3,hX3⟩:∃X3,uM A (ofA aa[i])=X3:=⟨_,rfl⟩
   have e1':∀ow,apL ⟨H.objs,n2⟩ 3 Nl (.sl ((A.map qD).take j) ow)=some (.sl (X1.map qD) w1,⟨ob1,m1⟩):=fun ow=>by rw[<-hTl,<-hX1];exact e1 ow
   have e2':∀ow,apL ⟨ob1,m1⟩ 3 (.sl (X1.map qD) w1) (.sl [.agg [.str aa[i].pred,.int aa[i].args.length,.int 0]] ow)=some (.sl (X2.map qD) w2,⟨ob2,m2⟩):=fun ow=>by rw[<-hSL,<-hX1,<-hX2];exact e2 ow
   have e3':∀ow,apL ⟨ob2,m2⟩ 3 (.sl (X2.map qD) w2) (.sl ((A.map qD).drop j) ow)=some (.sl (X3.map qD) w3,⟨ob3,m3⟩):=fun ow=>by rw[<-hDl,<-hX2,<-hX3];exact e3 ow
   rw[hX3]at he r3 hlast hlen
   have hnl:∃a,a∈aa.drop (i+1)/\¬wO X3 a:=by simpa using hlast
   have hfg:HWk ⟨ob3,m3⟩ ⟨H.objs,m3⟩:=⟨Nat.le_refl _,fun q x hx=>by
    rcases r3 with⟨_,rfl,_⟩|⟨t,_,g1,g2,rfl⟩
    ·exact hx
    ·have:=hH.look hx
     simp only[look]
     rw[if_neg (by omega)]
     exact hx⟩
   refine qU ?_
   simp(disch:=omega)
   refine vZ (v:=.sl (X1.map qD) w1) (H:=⟨ob1,m1⟩) (by simpa [hlt2] using e1' _) ?_
   try simp(disch:=omega)
   refine qU ?_
   simp(disch:=omega)
   refine vZ (v:=.sl (X2.map qD) w2) (H:=⟨ob2,m2⟩) (by simpa using e2' _) ?_
   try simp(disch:=omega)
   refine qU ?_
   simp(disch:=omega)
   refine vZ (v:=.sl (X3.map qD) w3) (H:=⟨ob3,m3⟩) (by simpa [hlt2,hDz] using e3' _) ?_
   simp(disch:=omega)[qi (show i<2^62 by omega)]
   exact⟨⟨i+1,m3,X3,.sl (X3.map qD) w3,H.objs⟩,by dsimp only;omega,⟨.sl w3 m3 (by omega),by dsimp only;omega,by dsimp only;omega,he,.inl ⟨⟨w3,rfl⟩,hnl⟩⟩,by simp[FT.Le,Wk],hfg,fun _=>qn.mono hH (by dsimp only;omega)⟩
 rw[List.drop_eq_getElem_cons hlt2]at hpos
 have em:qed A[j] (ofA aa[i])=(lessB A[j].pred aa[i].pred||(eqBA A[j].pred aa[i].pred&&decide (A[j].args<aa[i].args.length))):=rfl
 have hDz:((A.map qD).drop j).take (A.length - j)=(A.map qD).drop j:=List.take_of_length_le (by rw[List.length_drop,List.length_map];omega)
 simp only[wl]at hpos
 cases h1:lessB A[j].pred aa[i].pred
 ·cases h2:eqBA A[j].pred aa[i].pred
  ·have hjp:wl A (ofA aa[i])=j:=by simp[em,h1,h2]at hpos;omega
   simp(disch:=omega)[hlt,hlt2,h1,h2]
   simp(disch:=omega)[hj]
   have hTl:(A.take j).map qD=(A.map qD).take j:=List.map_take
   have hDl:(A.drop j).map qD=(A.map qD).drop j:=List.map_drop
   obtain⟨S0,hS0⟩:∃S0:qE,(⟨aa[i].pred,aa[i].args.length,0⟩:qE)=S0:=⟨_,rfl⟩
   have hIns:uM A (ofA aa[i])=A.take j++[S0]++A.drop j:=by rw[<-hjp,<-hS0];rfl
   have hSL:[S0].map qD=[.agg [.str aa[i].pred,.int aa[i].args.length,.int 0]]:=by rw[<-hS0];rfl
   have hb1:(A.take j).length<=2^18:=by rw[List.length_take];omega
   have hb2:(A.take j++[S0]).length<=2^18+1:=by rw[List.length_append];simp only[List.length_cons,List.length_nil];omega
   have hb3:(A.drop j).length<=2^18:=by rw[List.length_drop];omega
   have hlen:=qgW A (ofA aa[i])
   have hne:uM A (ofA aa[i])≠[]:=fun e=>by rw[e]at hlen;simp at hlen
   by_cases hlast:∀a∈aa.drop (i+1),wO (uM A (ofA aa[i])) a
   ·obtain⟨v1,ob1,m1,e1,r1,q1⟩:=qco hH (.nil n2 (by omega)) (B:=A.take j) (by simp only[List.length_nil];omega)
    obtain⟨v2,ob2,m2,e2,r2,q2⟩:=qco hH r1 (B:=[S0]) (by rw[List.nil_append];simp only[List.length_cons,List.length_nil];omega)
    obtain⟨v3,ob3,m3,e3,r3,q3⟩:=qco hH r2 (B:=A.drop j) (by rw[List.nil_append];omega)
    rw[List.nil_append,<-hIns]at r3
    obtain⟨r4,o4,h4⟩:=r3.toO hne
    rw[hTl]at e1
    rw[hSL]at e2
    rw[hDl]at e3
    refine qaf ?_
    simp(disch:=omega)
    refine vZ (v:=v1) (H:=⟨ob1,m1⟩) (by simpa [hlt2] using e1 _) ?_
    try simp(disch:=omega)
    refine qaf ?_
    simp(disch:=omega)
    refine vZ (v:=v2) (H:=⟨ob2,m2⟩) (by simpa using e2 _) ?_
    try simp(disch:=omega)
    refine qaf ?_
    simp(disch:=omega)
    refine vZ (v:=v3) (H:=⟨ob3,m3⟩) (by simpa [hlt2,hDz] using e3 _) ?_
    simp(disch:=omega)[qi (show i<2^62 by omega)]
    exact⟨⟨i+1,m3,uM A (ofA aa[i]),v3,ob3⟩,by dsimp only;omega,⟨r4,by dsimp only;omega,by dsimp only;omega,he,.inr ⟨⟨o4,h4⟩,hlast⟩⟩,by simp[FT.Le,Wk],HWk.refl _,fun h=>h⟩
   ·obtain⟨w1,ob1,m1,e1,r1,q1⟩:=qbZ (H:=H) (A:=[]) (B:=A.take j) (own:=.full) (ob:=H.objs) (n:=n2) (by simp only[List.length_nil];omega) (.inl ⟨rfl,rfl,by omega⟩)
    obtain⟨w2,ob2,m2,e2,r2,q2⟩:=qbZ (B:=[S0]) (by rw[List.nil_append];simp only[List.length_cons,List.length_nil];omega) r1
    obtain⟨w3,ob3,m3,e3,r3,q3⟩:=qbZ (B:=A.drop j) (by rw[List.nil_append];omega) r2
    rw[List.nil_append,<-hIns]at r3 e3
    rw[List.nil_append]at e1 e2
    obtain⟨X1,hX1⟩:∃X1,A.take j=X1:=⟨_,rfl⟩
    obtain⟨X2,hX2⟩:∃X2,A.take j++[S0]=X2:=⟨_,rfl⟩
    obtain⟨X3,hX3⟩:∃X3,uM A (ofA aa[i])=X3:=⟨_,rfl⟩
    have e1':∀ow,apL ⟨H.objs,n2⟩ 3 Nl (.sl ((A.map qD).take j) ow)=some (.sl (X1.map qD) w1,⟨ob1,m1⟩):=fun ow=>by rw[<-hTl,<-hX1];exact e1 ow
    have e2':∀ow,apL ⟨ob1,m1⟩ 3 (.sl (X1.map qD) w1) (.sl [.agg [.str aa[i].pred,.int aa[i].args.length,.int 0]] ow)=some (.sl (X2.map qD) w2,⟨ob2,m2⟩):=fun ow=>by rw[<-hSL,<-hX1,<-hX2];exact e2 ow
    have e3':∀ow,apL ⟨ob2,m2⟩ 3 (.sl (X2.map qD) w2) (.sl ((A.map qD).drop j) ow)=some (.sl (X3.map qD) w3,⟨ob3,m3⟩):=fun ow=>by rw[<-hDl,<-hX2,<-hX3];exact e3 ow
    rw[hX3]at he r3 hlast hlen
    have hnl:∃a,a∈aa.drop (i+1)/\¬wO X3 a:=by simpa using hlast
    have hfg:HWk ⟨ob3,m3⟩ ⟨H.objs,m3⟩:=⟨Nat.le_refl _,fun q x hx=>by
     rcases r3 with⟨_,rfl,_⟩|⟨t,_,g1,g2,rfl⟩
     ·exact hx
     ·have:=hH.look hx
      simp only[look]
      rw[if_neg (by omega)]
      exact hx⟩
    refine qU ?_
    simp(disch:=omega)
    refine vZ (v:=.sl (X1.map qD) w1) (H:=⟨ob1,m1⟩) (by simpa [hlt2] using e1' _) ?_
    try simp(disch:=omega)
    refine qU ?_
    simp(disch:=omega)
    refine vZ (v:=.sl (X2.map qD) w2) (H:=⟨ob2,m2⟩) (by simpa using e2' _) ?_
    try simp(disch:=omega)
    refine qU ?_
    simp(disch:=omega)
    refine vZ (v:=.sl (X3.map qD) w3) (H:=⟨ob3,m3⟩) (by simpa [hlt2,hDz] using e3' _) ?_
    simp(disch:=omega)[qi (show i<2^62 by omega)]
    exact⟨⟨i+1,m3,X3,.sl (X3.map qD) w3,H.objs⟩,by dsimp only;omega,⟨.sl w3 m3 (by omega),by dsimp only;omega,by dsimp only;omega,he,.inl ⟨⟨w3,rfl⟩,hnl⟩⟩,by simp[FT.Le,Wk],hfg,fun _=>qn.mono hH (by dsimp only;omega)⟩
  ·by_cases h3:A[j].args<aa[i].args.length
   ·have hq:j+1+wl (A.drop (j+1)) (ofA aa[i])=wl A (ofA aa[i]):=by simp[em,h1,h2,h3]at hpos;omega
    simp(disch:=omega)[hlt,hlt2,h1,h2,h3,qi (show j<2^62 by omega)]
    exact⟨⟨j+1,n2⟩,by dsimp only;omega,⟨by dsimp only;omega,by dsimp only;omega,hq⟩,by simp[FT.Le,Wk],HWk.refl _,fun h=>h⟩
   ·have hjp:wl A (ofA aa[i])=j:=by simp[em,h1,h2,h3]at hpos;omega
    simp(disch:=omega)[hlt,hlt2,h1,h2,h3]
    simp(disch:=omega)[hj]
    have hTl:(A.take j).map qD=(A.map qD).take j:=List.map_take
    have hDl:(A.drop j).map qD=(A.map qD).drop j:=List.map_drop
    obtain⟨S0,hS0⟩:∃S0:qE,(⟨aa[i].pred,aa[i].args.length,0⟩:qE)=S0:=⟨_,rfl⟩
    have hIns:uM A (ofA aa[i])=A.take j++[S0]++A.drop j:=by rw[<-hjp,<-hS0];rfl
    have hSL:[S0].map qD=[.agg [.str aa[i].pred,.int aa[i].args.length,.int 0]]:=by rw[<-hS0];rfl
    have hb1:(A.take j).length<=2^18:=by rw[List.length_take];omega
    have hb2:(A.take j++[S0]).length<=2^18+1:=by rw[List.length_append];simp only[List.length_cons,List.length_nil];omega
    have hb3:(A.drop j).length<=2^18:=by rw[List.length_drop];omega
    have hlen:=qgW A (ofA aa[i])
    have hne:uM A (ofA aa[i])≠[]:=fun e=>by rw[e]at hlen;simp at hlen
    by_cases hlast:∀a∈aa.drop (i+1),wO (uM A (ofA aa[i])) a
    ·obtain⟨v1,ob1,m1,e1,r1,q1⟩:=qco hH (.nil n2 (by omega)) (B:=A.take j) (by simp only[List.length_nil];omega)
     obtain⟨v2,ob2,m2,e2,r2,q2⟩:=qco hH r1 (B:=[S0]) (by rw[List.nil_append];simp only[List.length_cons,List.length_nil];omega)
     obtain⟨v3,ob3,m3,e3,r3,q3⟩:=qco hH r2 (B:=A.drop j) (by rw[List.nil_append];omega)
     rw[List.nil_append,<-hIns]at r3
     obtain⟨r4,o4,h4⟩:=r3.toO hne
     rw[hTl]at e1
     rw[hSL]at e2
     rw[hDl]at e3
     refine qaf ?_
     simp(disch:=omega)
     refine vZ (v:=v1) (H:=⟨ob1,m1⟩) (by simpa [hlt2] using e1 _) ?_
     try simp(disch:=omega)
     refine qaf ?_
     simp(disch:=omega)
     refine vZ (v:=v2) (H:=⟨ob2,m2⟩) (by simpa using e2 _) ?_
     try simp(disch:=omega)
     refine qaf ?_
     simp(disch:=omega)
     refine vZ (v:=v3) (H:=⟨ob3,m3⟩) (by simpa [hlt2,hDz] using e3 _) ?_
     simp(disch:=omega)[qi (show i<2^62 by omega)]
     exact⟨⟨i+1,m3,uM A (ofA aa[i]),v3,ob3⟩,by dsimp only;omega,⟨r4,by dsimp only;omega,by dsimp only;omega,he,.inr ⟨⟨o4,h4⟩,hlast⟩⟩,by simp[FT.Le,Wk],HWk.refl _,fun h=>h⟩
    ·obtain⟨w1,ob1,m1,e1,r1,q1⟩:=qbZ (H:=H) (A:=[]) (B:=A.take j) (own:=.full) (ob:=H.objs) (n:=n2) (by simp only[List.length_nil];omega) (.inl ⟨rfl,rfl,by omega⟩)
     obtain⟨w2,ob2,m2,e2,r2,q2⟩:=qbZ (B:=[S0]) (by rw[List.nil_append];simp only[List.length_cons,List.length_nil];omega) r1
     obtain⟨w3,ob3,m3,e3,r3,q3⟩:=qbZ (B:=A.drop j) (by rw[List.nil_append];omega) r2
     rw[List.nil_append,<-hIns]at r3 e3
     rw[List.nil_append]at e1 e2
     obtain⟨X1,hX1⟩:∃X1,A.take j=X1:=⟨_,rfl⟩
     obtain⟨X2,hX2⟩:∃X2,A.take j++[S0]=X2:=⟨_,rfl⟩
     obtain⟨X3,hX3⟩:∃X3,uM A (ofA aa[i])=X3:=⟨_,rfl⟩
     have e1':∀ow,apL ⟨H.objs,n2⟩ 3 Nl (.sl ((A.map qD).take j) ow)=some (.sl (X1.map qD) w1,⟨ob1,m1⟩):=fun ow=>by rw[<-hTl,<-hX1];exact e1 ow
     have e2':∀ow,apL ⟨ob1,m1⟩ 3 (.sl (X1.map qD) w1) (.sl [.agg [.str aa[i].pred,.int aa[i].args.length,.int 0]] ow)=some (.sl (X2.map qD) w2,⟨ob2,m2⟩):=fun ow=>by rw[<-hSL,<-hX1,<-hX2];exact e2 ow
     have e3':∀ow,apL ⟨ob2,m2⟩ 3 (.sl (X2.map qD) w2) (.sl ((A.map qD).drop j) ow)=some (.sl (X3.map qD) w3,⟨ob3,m3⟩):=fun ow=>by rw[<-hDl,<-hX2,<-hX3];exact e3 ow
     rw[hX3]at he r3 hlast hlen
     have hnl:∃a,a∈aa.drop (i+1)/\¬wO X3 a:=by simpa using hlast
     have hfg:HWk ⟨ob3,m3⟩ ⟨H.objs,m3⟩:=⟨Nat.le_refl _,fun q x hx=>by
      rcases r3 with⟨_,rfl,_⟩|⟨t,_,g1,g2,rfl⟩
      ·exact hx
      ·have:=hH.look hx
       simp only[look]
       rw[if_neg (by omega)]
       exact hx⟩
     refine qU ?_
     simp(disch:=omega)
     refine vZ (v:=.sl (X1.map qD) w1) (H:=⟨ob1,m1⟩) (by simpa [hlt2] using e1' _) ?_
     try simp(disch:=omega)
     refine qU ?_
     simp(disch:=omega)
     refine vZ (v:=.sl (X2.map qD) w2) (H:=⟨ob2,m2⟩) (by simpa using e2' _) ?_
     try simp(disch:=omega)
     refine qU ?_
     simp(disch:=omega)
     refine vZ (v:=.sl (X3.map qD) w3) (H:=⟨ob3,m3⟩) (by simpa [hlt2,hDz] using e3' _) ?_
     simp(disch:=omega)[qi (show i<2^62 by omega)]
     exact⟨⟨i+1,m3,X3,.sl (X3.map qD) w3,H.objs⟩,by dsimp only;omega,⟨.sl w3 m3 (by omega),by dsimp only;omega,by dsimp only;omega,he,.inl ⟨⟨w3,rfl⟩,hnl⟩⟩,by simp[FT.Le,Wk],hfg,fun _=>qn.mono hH (by dsimp only;omega)⟩
 ·have hq:j+1+wl (A.drop (j+1)) (ofA aa[i])=wl A (ofA aa[i]):=by simp[em,h1]at hpos;omega
  simp(disch:=omega)[hlt,hlt2,h1,qi (show j<2^62 by omega)]
  exact⟨⟨j+1,n2⟩,by dsimp only;omega,⟨by dsimp only;omega,by dsimp only;omega,hq⟩,by simp[FT.Le,Wk],HWk.refl _,fun h=>h⟩
def qaM(l:List qf):List qE:=(vl l).foldl uK []
def p72(k:Nat):qo:=match k,qaX.body with
 |0,.seq x _=>x
 |1,.seq _ (.seq x _)=>x
 |2,.seq _ (.seq _ (.seq _ (.seq x _)))=>x
 |3,.seq _ (.seq _ (.seq _ (.seq _ (.seq _ x))))=>x
 |_,_=>.bad
theorem qxI:qaX.body=.seq (p72 0) (.seq (p72 1) (.seq l72a (.seq (p72 2) (.seq l72b (p72 3))))):=rfl
theorem qrG(l:List qf)(hne:l≠[])(hl:l.length<2^18)(hb:∀c∈l,c.body.length<2^18)(hA:(vl l).length<2^18)(H:qa){kv kp:HP}
  (hk:∀o n,H.next<=o->o<n->kv (.asl o 0 (qaM l).length) ⟨(o,qX (qaM l))::H.objs,n⟩):cP E0 F0 150 [qt l] H kv kp:=by
 refine qdA c150 (Nat.le_of_ble_eq_true rfl) fun hH=>?_
 rw[qxI]
 simp(disch:=omega)
 refine g9 (zS ?_)
 simp(disch:=omega)[p72,qaX]
 refine g9 (zS ?_)
 simp(disch:=omega)[p72,qaX]
 refine vh (t':=(.nd (qt l) (.nd .bot (.nd (Nl) .nil .nil) .nil) .nil)) (H':=H) (fun l h=>by cases h) (by simp[FT.Le,Wk]) (HWk.refl _) (fun h=>h) ?_
 refine g9 (qfs (t_all l (by omega) (fun c hc=>by have:=hb c hc;omega) (by omega) H) ?_)
 rintro e t' H' ⟨rfl,own,n,hn,hle,hwk,hok⟩
 show lP E0 F0 (.seq (p72 2) (.seq l72b (p72 3))) t' H' _
 refine vh (fun l h=>by cases h) hle hwk hok ?_
 refine g9 (zS ?_)
 simp(disch:=omega)[p72,qaX]
 have hnn:vl l≠[]:=by
  cases l with
  |nil=>exact absurd rfl hne
  |cons c r=>simp[vl,qbS]
 refine vh (t':=(.nd .bot (.nd .bot (.nd (.sl ((vl l).map qd) own) .nil .nil) .nil) (.nd .bot .nil (.nd (Nl) .nil .nil)))) (H':=⟨H.objs,n⟩) (fun l h=>by cases h) (by simp[FT.Le,Wk]) (HWk.refl _) (fun h=>h) ?_
 refine g9 (qfs (t_ins (vl l) own hnn hA ⟨H.objs,n⟩) ?_)
 rintro e t2 H2 ⟨rfl,o,n2,hn2,ho2,hle2,hwk2,hok2⟩
 show lP E0 F0 (p72 3) t2 H2 _
 refine vh (fun l h=>by cases h) hle2 hwk2 hok2 ?_
 refine zS ?_
 simp(disch:=omega)[p72,qaX,uu]
 exact keep (hk o n2 (by dsimp only at hn2;omega) ho2)
def qH(m:List (PK×Int)):List qE:=m.map fun e=>⟨e.1.1,e.1.2,e.2⟩
def uy(k:PK):List (PK×Int)->Nat
 |[]=>0
 |(j,_)::r=>if vx k j then 0 else uy k r+1
theorem qgN{x:qE}{k:PK}:qch x k=true↔qaR x=k:=by
 obtain⟨p,a,v⟩:=x
 obtain⟨q,b⟩:=k
 simp[qch,qaR,wQ]
theorem qbc(m:List (PK×Int)):(qH m).length=m.length:=List.length_map ..
theorem qdr{k:PK}:∀{m:List (PK×Int)},k∈qu m->uy k m<m.length/\(∀i,uN (qH m) k i=i+uy k m)/\m[uy k m]? = some (k,qm m k)/\∀v,ze k v m=m.set (uy k m) (k,v)
 |[],h=>by cases h
 |(j,u)::r,h=>by
  by_cases hk:vx k j=true
  ·have e:=vw.1 hk
   subst e
   have hm:qch ⟨k.1,k.2,u⟩ k=true:=qgN.2 rfl
   refine⟨by simp[uy,hk],fun i=>?_,by simp[uy,hk,qm,vD],fun v=>by simp[uy,hk,ze]⟩
   show uN (⟨k.1,k.2,u⟩::qH r) k i=_
   simp[uN,hm,uy,hk]
  ·have hr:k∈qu r:=by
    rcases List.mem_cons.1 (show k∈j::qu r from h) with e|h
    ·exact absurd (vw.2 e) hk
    ·exact h
   obtain⟨a1,a2,a3,a4⟩:=qdr hr
   have hm:qch ⟨j.1,j.2,u⟩ k=false:=by
    cases hb:qch ⟨j.1,j.2,u⟩ k with
    |false=>rfl
    |true=>
     have e:j=k:=qgN.1 hb
     exact absurd (vw.2 e.symm) hk
   have hkf:vx k j=false:=by simpa using hk
   refine⟨by simp[uy,hkf];omega,fun i=>?_,?_,fun v=>by simp[uy,hkf,ze,a4 v]⟩
   ·show uN (⟨j.1,j.2,u⟩::qH r) k i=_
    simp only[uN,hm,uy,hkf,Bool.false_eq_true,if_false]
    rw[a2 (i+1)]
    omega
   ·simp only[uy,hkf,Bool.false_eq_true,if_false,List.getElem?_cons_succ,a3]
    simp[qm,vD,hkf]
theorem qij{m:List (PK×Int)}{i:Nat}(h:i<m.length):(qH m)[i]'(by rw[qbc];exact h)=⟨m[i].1.1,m[i].1.2,m[i].2⟩:=by simp[qH]
theorem qtf(m:List (PK×Int))(i:Nat)(k:PK)(v:Int):qH (m.set i (k,v))=(qH m).set i ⟨k.1,k.2,v⟩:=by simp[qH,List.map_set]
theorem qvb{m:List (PK×Int)}{k:PK}(hk:k∈qu m){o:Nat}{ob:List (Nat×qc)}{n:Nat}(hl:look o ob=some (qX (qH m))):qL ⟨ob,n⟩ none (.ptr o (uy k m*3+2))=some (.int (qm m k)):=by
 obtain⟨a1,a2,a3,a4⟩:=qdr hk
 have h:=ldA (n:=n) hl (j:=uy k m) (c:=2) (by rw[qbc];exact a1) (by omega)
 rw[h,qij a1]
 rw[List.getElem?_eq_getElem a1]at a3
 have:=Option.some.inj a3
 rw[this]
 rfl
theorem qvc{m:List (PK×Int)}{k:PK}(hk:k∈qu m){o:Nat}{ob:List (Nat×qc)}{n:Nat}(hl:look o ob=some (qX (qH m))):iaL ⟨ob,n⟩ 3 (.asl o 0 m.length) (.int (uy k m:Int))=some (.ptr o (uy k m*3)):=
 iaA hl (qdr hk).1
theorem qwl(A:List qE){j:Nat}(hj:j<A.length)(v:Int):(A.flatMap zH).take (j*3+2)++[.int v]++(A.flatMap zH).drop (j*3+2+1)=(A.set j ⟨A[j].pred,A[j].args,v⟩).flatMap zH:=by
 rw[<-qwk qdf hj,List.take_add]
 have e:((A.flatMap zH).drop (j*3)).take 2=[.str A[j].pred,.int A[j].args]:=by
  have h:=qoG qdf hj
  have:((A.flatMap zH).drop (j*3)).take 2=(((A.flatMap zH).drop (j*3)).take 3).take 2:=by rw[List.take_take];rfl
  rw[this,h]
  rfl
 rw[e]
 simp
theorem qva{m:List (PK×Int)}{k:PK}(hk:k∈qu m)(v:Int){o:Nat}{ob:List (Nat×qc)}{n:Nat}(hl:look o ob=some (qX (qH m))):stL ⟨ob,n⟩ 1 (.ptr o (uy k m*3+2)) (.int v)=some ⟨qx o (qX (qH (ze k v m))) ob,n⟩:=by
 obtain⟨a1,a2,a3,a4⟩:=qdr hk
 have a1':uy k m<(qH m).length:=by rw[qbc];exact a1
 rw[a4 v,qtf]
 have hfl:((qH m).flatMap zH).length=m.length*3:=by rw[qel qdf,qbc]
 have hs:=qwl (qH m) a1' v
 have hg:(qH m)[uy k m].pred=k.1/\(qH m)[uy k m].args=k.2:=by
  rw[qij a1]
  rw[List.getElem?_eq_getElem a1]at a3
  rw[Option.some.inj a3]
  exact⟨rfl,rfl⟩
 rw[hg.1,hg.2]at hs
 unfold stL
 simp only[hl]
 rw[if_pos ⟨rfl,rfl,by rw[hfl];omega⟩]
 show some (qa.put ⟨ob,n⟩ o (.arr 3 (((qH m).flatMap zH).take (uy k m*3+2)++[.int v]++((qH m).flatMap zH).drop (uy k m*3+2+1))))=_
 rw[hs]
 rfl
def qbM(k:PK):List PK->Nat
 |[]=>0
 |j::r=>if vx k j then 0 else qbM k r+1
theorem qft(k:PK):∀m:List (PK×Int),uy k m=qbM k (qu m)
 |[]=>rfl
 |(j,u)::r=>by
  show uy k ((j,u)::r)=qbM k (j::qu r)
  simp only[uy,qbM,qft k r]
section
variable{m:List (PK×Int)}{V:List PK}{k:PK}(hV:qu m=V)(hk:k∈V){o n:Nat}{ob:List (Nat×qc)}(hl:look o ob=some (qX (qH m)))
include hV hk hl
theorem v_ld:qL ⟨ob,n⟩ none (.ptr o (qbM k V*3+2))=some (.int (qm m k)):=by
 subst hV;rw[<-qft];exact qvb hk hl
theorem v_ia:iaL ⟨ob,n⟩ 3 (.asl o 0 V.length) (.int (qbM k V:Int))=some (.ptr o (qbM k V*3)):=by
 subst hV;rw[<-qft,vG];exact qvc hk hl
theorem v_st(v:Int):stL ⟨ob,n⟩ 1 (.ptr o (qbM k V*3+2)) (.int v)=some ⟨qx o (qX (qH (ze k v m))) ob,n⟩:=by
 subst hV;rw[<-qft];exact qva hk v hl
theorem qkS{a:Atom}(ha:ofA a=k)(hN:V.length<2^40){kv kp:HP}(hkv:∀n',n<=n'->kv (.int (qbM k V:Int)) ⟨ob,n'⟩):cP E0 F0 144 [.asl o 0 V.length,qd a] ⟨ob,n⟩ kv kp:=by
 subst hV;subst ha
 have h:=qlm (qH m) o ob n hl a (by rw[qbc];rw[vG]at hN;exact hN) (kv:=kv) (kp:=kp) fun n' hn=>by
  rw[(qdr hk).2.1 0]
  have:=hkv n' hn
  rw[<-qft]at this
  simpa using this
 rw[qbc]at h
 rw[vG]
 exact h
end
theorem InP.mono{m:List (PK×Int)}{N M:Int}(h:InP m N)(hle:N<=M):InP m M:=fun k=>⟨(h k).1,Int.le_trans (h k).2 hle⟩
theorem qyx{m:List (PK×Int)}{N:Int}(h0:∀k,0<=qm m k)(hN:0<=N)(h:m.any (fun e=>decide (N<e.2))=false):InP m N:=by
 intro k
 refine⟨h0 k,?_⟩
 by_cases hk:k∈qu m
 ·obtain⟨a1,_,a3,_⟩:=qdr hk
  have:=List.any_eq_false.1 h _ (List.mem_of_getElem? a3)
  simp only[decide_eq_true_eq]at this
  omega
 ·have:qm m k=0:=by
   have go:∀{m:List (PK×Int)},k∉qu m->vD k m=none:=by
    intro m
    induction m with
    |nil=>intro _;rfl
    |cons e r ih=>
     obtain⟨j,u⟩:=e
     intro hn
     have h1:¬vx k j=true:=fun e=>hn (by rw[vw.1 e];exact List.mem_cons_self)
     simp only[vD]
     rw[if_neg h1]
     exact ih fun hm=>hn (List.mem_cons_of_mem _ hm)
   unfold qm
   rw[go hk]
   rfl
  omega
theorem qyl{α:Type}(p:α->Bool){l:List α}{i:Nat}(h:i<l.length):(l.drop i).any p=(p l[i]||(l.drop (i+1)).any p):=by
 rw[List.drop_eq_getElem_cons h,List.any_cons]
structure NNR where
 i:Nat
 n:Nat
 m:List (PK×Int)
 ch:Bool
theorem qrJ(l:List qf)(hne:l≠[])(hl:l.length<2^18)(hb:∀c∈l,c.body.length<2^18)(hA:(vl l).length<2^18)(hkd:∀c∈l,∀x∈c.body,1<=x.kind)(m0:List (PK×Int))(hm0:qH m0=qaM l)(hz:∀k,qm m0 k=0)
  (hK:∀c∈l,∀k∈vC c,k∈qu m0) (R:Option (List (PK×Int))) (hR:qaL l (m0.length+2) m0=R) (H:qa) {kv kp:HP} (hk1:R=none->∀n,H.next<=n->kv (.tup [Nl,.bool false]) ⟨H.objs,n⟩)
  (hk2:∀m,R=some m->∀o n,H.next<=o->o<n->kv (.tup [.asl o 0 m.length,.bool true]) ⟨(o,qX (qH m))::H.objs,n⟩):cP E0 F0 89 [qt l] H kv kp:=by
 refine ur c89 fun hH=>⟨Nat.le_of_ble_eq_true rfl,?_⟩
 simp(disch:=omega)[b89]
 refine qrG l hne hl hb hA H fun o n0 ho hn0=>?_
 obtain⟨V,hV⟩:∃V,qu m0=V:=⟨_,rfl⟩
 rw[hV]at hK
 have hlen0:m0.length=V.length:=by rw[<-hV,vG]
 have hNb:V.length<2^18:=by
  rw[<-hlen0,<-qbc,hm0]
  have:=(qjD (vl l) []).1
  unfold qaM
  simp only[List.length_nil]at this
  omega
 rw[show (qaM l).length=V.length by rw[<-hm0,qbc,hlen0],<-hm0]
 rw[hlen0]at hR
 have hVm:∀m:List (PK×Int),qu m=V->m.length=V.length:=fun m h=>by rw[<-h,vG]
 have hOk:∀m:List (PK×Int),∀n,o<n->qa.Ok ⟨(o,qX (qH m))::H.objs,n⟩:=fun m n hn=>⟨hn,qn.mono hH ho⟩
 have hbase:∀(m:List (PK×Int))(n:Nat),o<n->HWk ⟨(o,qX (qH m))::H.objs,n⟩ ⟨H.objs,n⟩/\(qa.Ok ⟨(o,qX (qH m))::H.objs,n⟩->qa.Ok ⟨H.objs,n⟩):=fun m n hn=>
  ⟨⟨Nat.le_refl _,fun i x hx=>by
   have:=hH.look hx
   simp only[look]
   rw[if_neg (by omega)]
   exact hx⟩,fun _=>qn.mono hH (by dsimp only;omega)⟩
 simp(disch:=omega)
 refine qy (σ:=NNP) (fun q=>(.nd (qt l) (.nd .bot (.nd (.bool false) .nil .nil) (.nd (.int q.i) .nil .nil)) (.nd (Nl) (.nd (.asl o 0 V.length) .nil .nil) .nil))) (fun q=>⟨(o,qX (qH q.m))::H.objs,q.n⟩) (fun q=>V.length+2 - q.i)
  (fun q=>n0<=q.n/\q.i<=V.length+2/\qu q.m=V/\InP q.m V.length/\qaL l (V.length+2 - q.i) q.m=R) ⟨0,n0,m0⟩ ⟨Nat.le_refl _,Nat.zero_le _,hV,fun k=>by dsimp only;rw[hz k];omega,hR⟩ (by simp[FT.Le,Wk]) ⟨HWk.refl _,fun h=>h⟩ ?_
 rintro⟨r,n,m⟩ ⟨hn,hr,hkm,hin,he⟩ hok
 dsimp only at hn hr hkm hin he hok
 by_cases hrl:r<=V.length+1
 case neg=>
  have hrl':¬((r:Int)<=(V.length:Int)+1):=by omega
  rw[show V.length+2 - r=0 by omega]at he
  simp(disch:=omega)[qi (show V.length<2^62 by omega),hrl']
  obtain⟨g1,g2⟩:=hbase m n (by omega)
  exact⟨_,g1,g2,hk1 he.symm n (by omega)⟩
 have hrl':((r:Int)<=(V.length:Int)+1):=by omega
 rw[show V.length+2 - r=(V.length+1 - r)+1 by omega]at he
 obtain⟨Q,hQ⟩:∃Q,l.foldl zU (m,false)=Q:=⟨_,rfl⟩
 rw[qaL,hQ]at he
 simp(disch:=omega)[qi (show V.length<2^62 by omega),hrl']
 refine qy (σ:=NNR) (fun q=>(.nd (qt l) (.nd .bot (.nd (.bool false) (.nd (.int q.i) .nil .nil) .nil) (.nd (.int r) .nil .nil)) (.nd (Nl) (.nd (.asl o 0 V.length) .nil .nil) (.nd (.bool q.ch) .nil .nil)))) (fun q=>⟨(o,qX (qH q.m))::H.objs,q.n⟩) (fun q=>l.length - q.i)
  (fun q=>n0<=q.n/\q.i<=l.length/\qu q.m=V/\InP q.m (V.length+q.i*2^18)/\(l.drop q.i).foldl zU (q.m,q.ch)=Q) ⟨0,n,m,false⟩ ⟨hn,Nat.zero_le _,hkm,hin.mono (by dsimp only;omega),hQ⟩ (by simp[FT.Le,Wk]) ⟨HWk.refl _,fun h=>h⟩ ?_
 rintro⟨i,n2,m2,ch2⟩ ⟨hn2,hi,hkm2,hin2,he2⟩ hok2
 dsimp only at hn2 hi hkm2 hin2 he2 hok2
 by_cases hlt:i<l.length
 case neg=>
  rw[List.drop_eq_nil_of_le (by omega)]at he2
  simp only[List.foldl_nil]at he2
  subst he2
  cases ch2
  ·dsimp only at he
   simp(disch:=omega)[hlt]
   rw[<-hVm m2 hkm2]
   exact keep (hk2 m2 he.symm o n2 ho (by omega))
  dsimp only at he
  rw[hVm m2 hkm2]at he
  simp(disch:=omega)[hlt]
  have hnn2:∀k,0<=qm m2 k:=fun k=>(hin2 k).1
  obtain⟨B,hB⟩:∃B,m2.any (fun e=>decide ((V.length:Int)<e.2))=B:=⟨_,rfl⟩
  rw[hB]at he
  refine qy (σ:=NN) (fun q=>(.nd (qt l) (.nd .bot (.nd (.bool false) .nil .nil) (.nd (.int r) .nil .nil)) (.nd (Nl) (.nd (.asl o 0 V.length) .nil (.nd (.int q.i) .nil .nil)) .nil))) (fun q=>⟨(o,qX (qH m2))::H.objs,q.n⟩) (fun q=>V.length - q.i)
   (fun q=>n0<=q.n/\q.i<=V.length/\(m2.drop q.i).any (fun e=>decide ((V.length:Int)<e.2))=B) ⟨0,n2⟩ ⟨hn2,Nat.zero_le _,hB⟩ (by simp[FT.Le,Wk]) ⟨HWk.refl _,fun h=>h⟩ ?_
  rintro⟨j,n3⟩ ⟨hn3,hj,hB3⟩ hok3
  simp only at hn3 hj hB3
  by_cases hlt3:j<V.length
  case neg=>
   rw[List.drop_eq_nil_of_le (by rw[hVm m2 hkm2];omega),List.any_nil]at hB3
   subst hB3
   simp(disch:=omega)[hlt3,qi (show r<2^62 by omega)]
   exact⟨⟨r+1,n3,m2⟩,by dsimp only;omega,⟨by dsimp only;omega,by dsimp only;omega,hkm2,qyx hnn2 (by omega) hB,by dsimp only;rw[show V.length+2 - (r+1)=V.length+1 - r by omega];simpa using he⟩,by simp[FT.Le,Wk],HWk.refl _,fun h=>h⟩
  have hjm:j<m2.length:=by rw[hVm m2 hkm2];exact hlt3
  rw[qyl _ hjm]at hB3
  have hlo3:look o ((o,qX (qH m2))::H.objs)=some (qX (qH m2)):=by simp[look]
  have ia3:=iaA (n:=n3) hlo3 hlt3
  have l3:qL ⟨(o,qX (qH m2))::H.objs,n3⟩ none (.ptr o (j*3+2))=some (.int m2[j].2):=by
   rw[ldA (c:=2) hlo3 (by rw[qbc];exact hjm) (by omega),qij hjm]
   rfl
  by_cases hbig:(V.length:Int)<m2[j].2
  ·simp[hbig]at hB3
   subst hB3
   simp at he
   simp(disch:=omega)[-iaL,-qL,ia3,l3,hlt3,hbig]
   obtain⟨g1,g2⟩:=hbase m2 n3 (by omega)
   exact⟨_,g1,g2,hk1 he.symm n3 (by omega)⟩
  ·simp[hbig]at hB3
   simp(disch:=omega)[-iaL,-qL,ia3,l3,hlt3,hbig,qi (show j<2^62 by omega)]
   exact⟨⟨j+1,n3⟩,by dsimp only;omega,⟨by dsimp only;omega,by dsimp only;omega,by simpa using hB3⟩,by simp[FT.Le,Wk],HWk.refl _,fun h=>h⟩
 rw[List.drop_eq_getElem_cons hlt,List.foldl_cons]at he2
 have hcm:=ub hlt
 have hbl:=hb _ hcm
 have hhd:ofA l[i].head∈V:=hK _ hcm _ List.mem_cons_self
 have hlo:∀m':List (PK×Int),look o ((o,qX (qH m'))::H.objs)=some (qX (qH m')):=fun m'=>by simp[look]
 simp(disch:=omega)[hlt]
 refine qkS hkm2 hhd (hlo m2) rfl (by omega) fun n3 hn3=>?_
 obtain⟨W,hW⟩:∃W,zU (m2,ch2) l[i]=W:=⟨_,rfl⟩
 rw[hW]at he2
 simp(disch:=omega)[hlt]
 refine qy (σ:=NNR) (fun q=>(.nd (qt l) (.nd .bot (.nd (.bool false) (.nd (.int i) .nil .nil) .nil) (.nd (.int r) (.nd (.int q.i) .nil .nil) .nil)) (.nd (Nl) (.nd (.asl o 0 V.length) (.nd (.int (qbM (ofA l[i].head) V:Int)) .nil .nil) .nil) (.nd (.bool q.ch) .nil .nil)))) (fun q=>⟨(o,qX (qH q.m))::H.objs,q.n⟩) (fun q=>l[i].body.length - q.i)
  (fun q=>n0<=q.n/\q.i<=l[i].body.length/\qu q.m=V/\InP q.m (V.length+i*2^18+q.i)/\(l[i].body.drop q.i).foldl (zr (ofA l[i].head)) (q.m,q.ch)=W) ⟨0,n3,m2,ch2⟩ ⟨by dsimp only;omega,Nat.zero_le _,hkm2,hin2.mono (by dsimp only;omega),hW⟩ (by simp[FT.Le,Wk]) ⟨HWk.refl _,fun h=>h⟩ ?_
 rintro⟨j,n4,m4,ch4⟩ ⟨hn4,hj,hkm4,hin4,he4⟩ hok4
 dsimp only at hn4 hj hkm4 hin4 he4 hok4
 by_cases hlt4:j<l[i].body.length
 case neg=>
  rw[List.drop_eq_nil_of_le (by omega)]at he4
  simp only[List.foldl_nil]at he4
  subst he4
  simp(disch:=omega)[hlt,hlt4,qi (show i<2^62 by omega)]
  exact⟨⟨i+1,n4,m4,ch4⟩,by dsimp only;omega,⟨by dsimp only;omega,by dsimp only;omega,hkm4,hin4.mono (by dsimp only;omega),he2⟩,by simp[FT.Le,Wk],HWk.refl _,fun h=>h⟩
 rw[List.drop_eq_getElem_cons hlt4,List.foldl_cons]at he4
 have hkx:=hkd _ hcm _ (ub hlt4)
 have hfg:∀(x:qc)(m':List (PK×Int))(n':Nat),n4+1<=n'->HWk ⟨(n4,x)::(o,qX (qH m'))::H.objs,n'⟩ ⟨(o,qX (qH m'))::H.objs,n'⟩/\(qa.Ok ⟨(n4,x)::(o,qX (qH m'))::H.objs,n'⟩->qa.Ok ⟨(o,qX (qH m'))::H.objs,n'⟩):=fun x m' n' hn'=>
  zK (hOk m' n4 (by omega)) (ql.cons (hOk m' n4 (by omega)) (Nat.le_refl _) (ql.refl (Nat.le_refl _)) (by dsimp only;omega))
 by_cases hk2':l[i].body[j].kind<=2
 case neg=>
  have hst:zr (ofA l[i].head) (m4,ch4) l[i].body[j]=(m4,ch4):=by
   unfold zr
   rw[if_neg]
   have h1:¬l[i].body[j].kind=1:=by omega
   have h2:¬l[i].body[j].kind=2:=by omega
   have:=(hin4 (ofA l[i].head)).1
   simp only[vu,h1,h2,if_false]
   omega
  rw[hst]at he4
  have hgt:(2:Int)<l[i].body[j].kind:=by omega
  simp(disch:=omega)[hlt,hlt4,hgt,qi (show j<2^62 by omega)]
  obtain⟨g1,g2⟩:=hfg (.cells (y6 l[i].body[j])) m4 (n4+1) (Nat.le_refl _)
  exact⟨⟨j+1,n4+1,m4,ch4⟩,by dsimp only;omega,⟨by dsimp only;omega,by dsimp only;omega,hkm4,hin4.mono (by dsimp only;omega),he4⟩,by simp[FT.Le,Wk],g1,g2⟩
 have hngt:¬(2:Int)<l[i].body[j].kind:=by omega
 have hk12:l[i].body[j].kind=1\/l[i].body[j].kind=2:=by omega
 have hat:ofA l[i].body[j].atom∈V:=hK _ hcm _ (List.mem_cons_of_mem _ (List.mem_map.2 ⟨l[i].body[j],List.mem_filter.2 ⟨ub hlt4,by simpa using hk12⟩,rfl⟩))
 have hinS:=qvm (h:=ofA l[i].head) (s:=(m4,ch4)) (x:=l[i].body[j]) hin4
 have hkS:=qjh (h:=ofA l[i].head) (s:=(m4,ch4)) (x:=l[i].body[j]) (by dsimp only;rw[hkm4];exact hhd)
 dsimp only at hinS hkS
 rw[hkm4]at hkS
 have hc:(V.length:Int)+i*2^18+(j:Int)+1=V.length+i*2^18+((j+1:Nat):Int):=by omega
 rw[hc]at hinS
 have hpv:∀k:PK,0<=qm m4 k/\qm m4 k<2^42:=fun k=>⟨(hin4 k).1,by have:=(hin4 k).2;omega⟩
 obtain⟨ob4,hob4⟩:∃ob4:List (Nat×qc),ob4=(n4,qc.cells (y6 l[i].body[j]))::(o,qX (qH m4))::H.objs:=⟨_,rfl⟩
 have hlo4:look o ob4=some (qX (qH m4)):=by rw[hob4,qe (by omega)];exact hlo m4
 have hlit:look n4 ob4=some (.cells (y6 l[i].body[j])):=by rw[hob4];exact qp _ _ _
 have hput:∀m':List (PK×Int),qx o (qX (qH m')) ob4=(n4,qc.cells (y6 l[i].body[j]))::(o,qX (qH m'))::H.objs:=fun m'=>by
  rw[hob4,ux (by omega)]
  simp[qx]
 simp(disch:=omega)[hlt,hlt4,hngt]
 rw[show [LV.int l[i].body[j].kind,LV.str l[i].body[j].atom.pred,qk l[i].body[j].atom.args,LV.int l[i].body[j].a.kind,LV.int l[i].body[j].a.n,LV.str l[i].body[j].a.s,LV.int l[i].body[j].b.kind,LV.int l[i].body[j].b.n,LV.str l[i].body[j].b.s]=y6 l[i].body[j] from rfl,<-hob4]
 refine qkS hkm4 hat hlo4 rfl (by omega) fun n5 hn5=>?_
 have ia1:=v_ia (n:=n5) hkm4 hat hlo4
 have ia2:=v_ia (n:=n5) hkm4 hhd hlo4
 have ld1:=v_ld (n:=n5) hkm4 hat hlo4
 have ld2:=v_ld (n:=n5) hkm4 hhd hlo4
 have ldk:qL ⟨ob4,n5⟩ none (.ptr n4 0)=some (.int l[i].body[j].kind):=by simp[qL,hlit,zb]
 have st:=v_st (n:=n5) hkm4 hhd hlo4
 have hpa:=hpv (ofA l[i].body[j].atom)
 rcases hk12 with hk|hk
 ·have hv:vu m4 l[i].body[j]=qm m4 (ofA l[i].body[j].atom):=by simp[vu,hk]
  by_cases hlt5:qm m4 (ofA l[i].head)<qm m4 (ofA l[i].body[j].atom)
  ·have hst:zr (ofA l[i].head) (m4,ch4) l[i].body[j]=(ze (ofA l[i].head) (qm m4 (ofA l[i].body[j].atom)) m4,true):=by
    unfold zr;dsimp only;rw[hv,if_pos hlt5]
   rw[hst]at hinS hkS he4
   simp(disch:=omega)[-iaL,-qL,-stL,ia1,ia2,ld1,ld2,ldk,st,hk,hlt5,hput,qi (show j<2^62 by omega)]
   obtain⟨g1,g2⟩:=hfg (.cells (y6 l[i].body[j])) (ze (ofA l[i].head) (qm m4 (ofA l[i].body[j].atom)) m4) n5 hn5
   exact⟨⟨j+1,n5,ze (ofA l[i].head) (qm m4 (ofA l[i].body[j].atom)) m4,true⟩,by dsimp only;omega,⟨by dsimp only;omega,by dsimp only;omega,hkS,hinS,he4⟩,by simp[FT.Le,Wk],g1,g2⟩
  ·have hst:zr (ofA l[i].head) (m4,ch4) l[i].body[j]=(m4,ch4):=by
    unfold zr;dsimp only;rw[hv,if_neg hlt5]
   rw[hst]at hinS hkS he4
   simp(disch:=omega)[-iaL,-qL,-stL,ia1,ia2,ld1,ld2,ldk,hk,hlt5,qi (show j<2^62 by omega)]
   obtain⟨g1,g2⟩:=hfg (.cells (y6 l[i].body[j])) m4 n5 hn5
   rw[<-hob4]at g1 g2
   exact⟨⟨j+1,n5,m4,ch4⟩,by dsimp only;omega,⟨by dsimp only;omega,by dsimp only;omega,hkS,hinS,he4⟩,by simp[FT.Le,Wk],g1,g2⟩
 ·have hv:vu m4 l[i].body[j]=qm m4 (ofA l[i].body[j].atom)+1:=by simp[vu,hk]
  by_cases hlt5:qm m4 (ofA l[i].head)<qm m4 (ofA l[i].body[j].atom)+1
  ·have hst:zr (ofA l[i].head) (m4,ch4) l[i].body[j]=(ze (ofA l[i].head) (qm m4 (ofA l[i].body[j].atom)+1) m4,true):=by
    unfold zr;dsimp only;rw[hv,if_pos hlt5]
   rw[hst]at hinS hkS he4
   simp(disch:=omega)[-iaL,-qL,-stL,ia1,ia2,ld1,ld2,ldk,st,hk,ui,hlt5,hput,qi (show j<2^62 by omega)]
   obtain⟨g1,g2⟩:=hfg (.cells (y6 l[i].body[j])) (ze (ofA l[i].head) (qm m4 (ofA l[i].body[j].atom)+1) m4) n5 hn5
   exact⟨⟨j+1,n5,ze (ofA l[i].head) (qm m4 (ofA l[i].body[j].atom)+1) m4,true⟩,by dsimp only;omega,⟨by dsimp only;omega,by dsimp only;omega,hkS,hinS,he4⟩,by simp[FT.Le,Wk],g1,g2⟩
  ·have hst:zr (ofA l[i].head) (m4,ch4) l[i].body[j]=(m4,ch4):=by
    unfold zr;dsimp only;rw[hv,if_neg hlt5]
   rw[hst]at hinS hkS he4
   simp(disch:=omega)[-iaL,-qL,-stL,ia1,ia2,ld1,ld2,ldk,hk,ui,hlt5,qi (show j<2^62 by omega)]
   obtain⟨g1,g2⟩:=hfg (.cells (y6 l[i].body[j])) m4 n5 hn5
   rw[<-hob4]at g1 g2
   exact⟨⟨j+1,n5,m4,ch4⟩,by dsimp only;omega,⟨by dsimp only;omega,by dsimp only;omega,hkS,hinS,he4⟩,by simp[FT.Le,Wk],g1,g2⟩
structure qbv(l:List qf):Prop where
 ok3:l.length<=40->∀c∈l,qf.ok3 c
theorem qpS:∀(l:List qf)(i:Nat),(wa l i).1=0->∀c∈l,yy c=true
 |[],_,_,c,hc=>by cases hc
 |c::l,i,h,d,hd=>by
  simp only[wa]at h
  by_cases hf:yy c=false
  ·rw[if_pos hf]at h;simp at h
  ·rw[if_neg hf]at h
   by_cases hs:qbe c=false
   ·rw[if_pos hs]at h;simp at h
   ·rw[if_neg hs]at h
    rcases List.mem_cons.1 hd with rfl|hd
    ·simpa using hf
    ·exact qpS l (i+1) h d hd
theorem qfJ{l:List qf}(h:(qA l).1=0):l.length<=40/\∀c∈l,yy c=true:=by
 unfold qA at h
 split at h
 ·simp at h
 ·rename_i h1
  exact⟨by omega,qpS l 0 h⟩
theorem qvi{x:Lit}(h:zD x=true):1<=x.kind/\x.kind<=6:=by
 unfold zD at h
 split at h
 ·omega
 ·split at h
  ·omega
  ·cases h
structure qdI(l:List qf):Prop where
 len:l.length<=40
 body:∀c∈l,c.body.length<=5
 kind:∀c∈l,∀x∈c.body,1<=x.kind/\x.kind<=6
theorem qeh{l:List qf}(h:(qA l).1=0):qdI l:=by
 obtain⟨h1,h2⟩:=qfJ h
 exact⟨h1,fun c hc=>(wT (h2 c hc)).2.1,fun c hc x hx=>qvi ((wT (h2 c hc)).2.2 x hx)⟩
theorem qdI.initLen{l:List qf}(h:qdI l):(l.foldl y8 []).length<=240:=by
 have h1:=(qju l [] fun _=>rfl).2.2.2
 have h2:∀l:List qf,(∀c∈l,c.body.length<=5)->(l.map fun c=>c.body.length+1).sum<=6*l.length:=by
  intro l
  induction l with
  |nil=>intro _;exact Nat.le_refl _
  |cons c l ih=>
   intro hb
   have a:=ih fun c hc=>hb c (List.mem_cons_of_mem _ hc)
   have b:=hb c List.mem_cons_self
   simp only[List.map_cons,List.sum_cons,List.length_cons]
   omega
 have h3:=h2 l h.body
 have h4:=h.len
 simp only[List.length_nil]at h1
 omega
theorem qdI.allLen{l:List qf}(h:qdI l):(vl l).length<=240:=by
 have h2:∀l:List qf,(∀c∈l,c.body.length<=5)->(vl l).length<=6*l.length:=by
  intro l
  induction l with
  |nil=>intro _;exact Nat.le_refl _
  |cons c l ih=>
   intro hb
   have a:=ih fun c hc=>hb c (List.mem_cons_of_mem _ hc)
   have b:=hb c List.mem_cons_self
   have e:(qbS c).length<=c.body.length+1:=by
    unfold qbS
    have g:∀b:List Lit,(b.flatMap qbn).length<=b.length:=by
     intro b
     induction b with
     |nil=>exact Nat.le_refl _
     |cons x b ih=>
      rw[List.flatMap_cons,List.length_append,List.length_cons]
      have:(qbn x).length<=1:=by unfold qbn;split<;>simp
      omega
    have:=g c.body
    simp only[List.length_cons]
    omega
   have:vl (c::l)=qbS c++vl l:=rfl
   rw[this,List.length_append,List.length_cons]
   omega
 have h3:=h2 l h.body
 have h4:=h.len
 omega
theorem qsK(l:List qf)(hl:qbv l)(fuel:Nat)(R:Option (List (PK×Int)))(hR:(qA l).1=0->wo l fuel (l.foldl y8 [])=some R)(H:qa){kv kp:HP}
  (h0:(qA l).1≠0->∀n,H.next<=n->kv (.tup [.sc (.map none),.int (qA l).1]) ⟨H.objs,n⟩)
  (h1:(qA l).1=0->R=none->∀n,H.next<=n->kv (.tup [.sc (.map none),.int 81]) ⟨H.objs,n⟩)
  (h2:(qA l).1=0->∀m,R=some m->∀o n,H.next<=o->o<n->kv (.tup [.map o,.int 0]) ⟨(o,.map (qT m))::H.objs,n⟩):cP E0 F0 99 [qt l] H kv kp:=by
 refine ur c99 fun hH=>⟨Nat.le_of_ble_eq_true rfl,?_⟩
 simp(disch:=omega)[b99]
 refine(qlM l hl.ok3).go fun n hn=>?_
 by_cases hc:(qA l).1=0
 case neg=>
  simp(disch:=omega)[hc]
  exact keep (h0 hc n hn)
 have hg:=qeh hc
 simp(disch:=omega)[hc]
 refine qlt l (by have:=hg.len;omega) (fun c hcm=>by have:=hg.body c hcm;omega) (by have:=hg.initLen;omega) fuel R (hR hc) _ (fun hRn n2 hn2=>?_) (fun m hRm n2 hn2=>?_)
 ·dsimp only at hn2
  simp(disch:=omega)
  exact keep (h1 hc hRn n2 (by omega))
 ·dsimp only at hn2
  simp(disch:=omega)
  exact keep (h2 hc m hRm n n2 hn hn2)
abbrev qik(A:List qE):LV:=.sl (A.map qD) .no
def qbh(l:List qf)(S:Option (List (PK×Int))):Int:=if (qA l).1≠0 then (qA l).1 else if S=none then 81 else 0
def qdi(l:List qf)(S:Option (List (PK×Int))):List qE:=if (qA l).1≠0 then [] else qH (S.getD [])
theorem qpL:∀A:List qE,wF 3 A.length (A.flatMap zH)=A.map qD
 |[]=>rfl
 |x::A=>by
  have ih:=qpL A
  rw[List.length_cons,List.flatMap_cons]
  show qea ((zH x++A.flatMap zH).take 3)::wF 3 A.length ((zH x++A.flatMap zH).drop 3)=_
  rw[show (zH x++A.flatMap zH).take 3=zH x from List.take_left (l₁:=zH x),show (zH x++A.flatMap zH).drop 3=A.flatMap zH from List.drop_left (l₁:=zH x),ih]
  rfl
theorem frzS{H:qa}{A:List qE}{o:Nat}(hl:look o H.objs=some (qX A)):qaS H [o] o 0 A.length=qik A:=by
 unfold qaS
 have h1:(A.flatMap zH).length=A.length*3:=qel qdf A
 simp only[List.contains_cons,BEq.rfl,Bool.true_or,if_true,hl]
 rw[if_pos (by rw[h1];omega)]
 rw[Nat.zero_mul,List.drop_zero,qpL]
theorem qcH{L:List Nat}{j:Nat}(h:L.contains j=false):∀{l:List (Nat×qc)},look j (wE L l)=look j l
 |[]=>rfl
 |(i,x)::r=>by
  simp only[wE]
  by_cases hi:L.contains i=true
  ·rw[if_pos hi,qcH h]
   simp only[look]
   rw[if_neg]
   rintro rfl
   rw[hi]at h;cases h
  ·rw[if_neg hi]
   simp only[look]
   rw[qcH h]
def qgv:Option (List (PK×Int))->LV
 |none=>.tup [Nl,.bool false]
 |some m=>.tup [qik (qH m),.bool true]
def wj(l:List qf):List (PK×Int):=(qaM l).map fun s=>((s.pred,s.args),s.level)
theorem qtP(l:List qf):qH (wj l)=qaM l:=by
 unfold qH wj
 rw[List.map_map]
 conv=>rhs;rw[<-List.map_id (qaM l)]
 rfl
structure qqD(l:List qf):Prop where
 zero:∀k,qm (wj l) k=0
 has:∀c∈l,∀k∈vC c,k∈qu (wj l)
def zk(l:List qf):Option (List (PK×Int)):=qaL l ((wj l).length+2) (wj l)
theorem qlg(l:List qf)(hne:l≠[])(hg:qdI l)(hp:qqD l):qg 89 [qt l] (qgv (zk l)):=by
 intro H kv kp hk hH
 have h1:=qrJ (kv:=fun v H'=>(zk l=none/\v=.tup [Nl,.bool false]/\∃n,H.next<=n/\H'=⟨H.objs,n⟩)\/∃m o n,zk l=some m/\H.next<=o/\o<n/\v=.tup [.asl o 0 m.length,.bool true]/\H'=⟨(o,qX (qH m))::H.objs,n⟩) (kp:=fun _ _=>False)
  l hne (by have:=hg.len;omega) (fun c hc=>by have:=hg.body c hc;omega) (by have:=hg.allLen;omega) (fun c hc x hx=>(hg.kind c hc x hx).1) (wj l) (qtP l) hp.zero hp.has (zk l) rfl H
  (fun hR n hn=>.inl ⟨hR,rfl,n,hn,rfl⟩) (fun m hR o n ho hn=>.inr ⟨m,o,n,hR,ho,hn,rfl,rfl⟩) hH
 refine .frz (fun v _=>match v with|.tup [.asl o _ _,_]=>[o]|_=>[]) h1 (fun v H' hT=>?_) (fun v H' hT=>?_)
 ·rcases hT with⟨u,H2,he,hok,hT⟩|⟨u,H2,he,hok,hf⟩
  ·cases he
   rcases hT with⟨hR,rfl,n,hn,rfl⟩|⟨m,o,n,hR,ho,hn,rfl,rfl⟩
   ·refine⟨⟨H.objs,n⟩,⟨Nat.le_refl _,fun i x hx=>(qcH (L:=[]) rfl).trans hx⟩,.inl ⟨_,_,rfl,qn.mono hH hn,?_⟩⟩
    have:=hk n hn
    rw[hR]at this
    exact this
   ·refine⟨⟨H.objs,n⟩,⟨Nat.le_refl _,fun i x hx=>?_⟩,.inl ⟨_,_,rfl,qn.mono hH (by dsimp only;omega),?_⟩⟩
    ·have:=hH.look hx
     have hne:¬i=o:=by omega
     have e1:look i (wE [o] ((o,qX (qH m))::H.objs))=look i ((o,qX (qH m))::H.objs):=qcH (by simp[hne])
     show look i (wE [o] ((o,qX (qH m))::H.objs))=some x
     rw[e1,qe hne]
     exact hx
    ·have:=hk n (by omega)
     rw[hR]at this
     have e:qaS ⟨(o,qX (qH m))::H.objs,n⟩ [o] o 0 (qH m).length=qik (qH m):=frzS (by simp[look])
     rw[qbc]at e
     simpa [yg,frzL,e,qgv] using this
  ·cases he
 ·rcases hT with⟨u,H2,he,hok,hT⟩|⟨u,H2,he,hok,hf⟩
  ·cases he
  ·exact hf.elim
theorem qjI{k:PK}:∀{A:List qE}{i:Nat},0<=uN A k i↔∃x∈A,qaR x=k
 |[],i=>by simp[uN]
 |x::r,i=>by
  have ih:=qjI (k:=k) (A:=r) (i:=i+1)
  simp only[uN]
  by_cases h:qch x k=true
  ·rw[if_pos h]
   exact⟨fun _=>⟨x,List.mem_cons_self,qgN.1 h⟩,fun _=>by omega⟩
  ·rw[if_neg h,ih]
   constructor
   ·rintro⟨y,h1,h2⟩;exact⟨y,List.mem_cons_of_mem _ h1,h2⟩
   ·rintro⟨y,h1,h2⟩
    rcases List.mem_cons.1 h1 with rfl|h1
    ·exact absurd (qgN.2 h2) h
    ·exact⟨y,h1,h2⟩
theorem qnW(k:PK):uM [] k=[⟨k.1,k.2,0⟩]:=rfl
theorem qnX(x:qE)(r:List qE)(k:PK):uM (x::r) k=if qed x k then x::uM r k else ⟨k.1,k.2,0⟩::x::r:=by
 unfold uM
 simp only[wl]
 split
 ·simp
 ·simp
theorem qfi{x:qE}{k:PK}:∀{A:List qE},x∈uM A k↔x=⟨k.1,k.2,0⟩\/x∈A
 |[]=>by rw[qnW];simp
 |y::r=>by
  rw[qnX]
  split
  ·rw[List.mem_cons,qfi,List.mem_cons]
   exact⟨fun h=>h.elim (fun h=>.inr (.inl h)) fun h=>h.elim .inl fun h=>.inr (.inr h),fun h=>h.elim (fun h=>.inr (.inl h)) fun h=>h.elim .inl fun h=>.inr (.inr h)⟩
  ·exact List.mem_cons
theorem qnC{x:qE}{k:PK}:qed x k=true↔vK x ⟨k.1,k.2,0⟩:=by
 unfold qed vK
 simp[wQ]
theorem qlU{k:PK}:∀{A:List qE},A.Pairwise vK->(∀x∈A,qaR x≠k)->(uM A k).Pairwise vK
 |[],_,_=>by rw[qnW];exact List.pairwise_singleton _ _
 |y::r,h,hk=>by
  obtain⟨h1,h2⟩:=List.pairwise_cons.1 h
  rw[qnX]
  by_cases hy:qed y k=true
  ·rw[if_pos hy]
   refine List.pairwise_cons.2 ⟨fun z hz=>?_,qlU h2 fun x hx=>hk x (List.mem_cons_of_mem _ hx)⟩
   rcases qfi.1 hz with rfl|hz
   ·exact qnC.1 hy
   ·exact h1 z hz
  ·rw[if_neg hy]
   have hlt:vK ⟨k.1,k.2,0⟩ y:=by
    apply Classical.byContradiction
    intro hn
    have hy':¬vK y ⟨k.1,k.2,0⟩:=fun e=>hy (qnC.2 e)
    obtain⟨e1,e2⟩:=qvu hy' hn
    refine hk y List.mem_cons_self ?_
    unfold qaR
    rw[e1,e2]
   refine List.pairwise_cons.2 ⟨fun z hz=>?_,h⟩
   rcases List.mem_cons.1 hz with rfl|hz
   ·exact hlt
   ·exact qvt hlt (h1 z hz)
structure qqB(aa:List Atom)(A B:List qE):Prop where
 sub:∀x∈A,x∈B
 new:∀x∈B,x∈A\/(x.level=0/\∃a∈aa,qaR x=ofA a)
 all:∀a∈aa,∃x∈B,qaR x=ofA a
 ord:A.Pairwise vK->B.Pairwise vK
theorem qoB:∀(aa:List Atom)(A:List qE),qqB aa A (aa.foldl uK A)
 |[],A=>⟨fun _ h=>h,fun _ h=>.inl h,fun _ h=>(by cases h),id⟩
 |a::r,A=>by
  have ih:=qoB r (uK A a)
  rw[List.foldl_cons]
  have hp:(∀x∈A,x∈uK A a)/\(∀x∈uK A a,x∈A\/(x.level=0/\qaR x=ofA a))/\(∃x∈uK A a,qaR x=ofA a)/\(A.Pairwise vK->(uK A a).Pairwise vK):=by
   unfold uK
   by_cases hf:wO A a
   ·rw[if_pos hf]
    exact⟨fun _ h=>h,fun _ h=>.inl h,qjI.1 hf,id⟩
   ·rw[if_neg hf]
    refine⟨fun x hx=>qfi.2 (.inr hx),fun x hx=>?_,⟨_,qfi.2 (.inl rfl),rfl⟩,fun h=>qlU h fun x hx e=>hf (qjI.2 ⟨x,hx,e⟩)⟩
    rcases qfi.1 hx with rfl|hx
    ·exact .inr ⟨rfl,rfl⟩
    ·exact .inl hx
  obtain⟨p1,p2,⟨x0,p3,p4⟩,p5⟩:=hp
  refine⟨fun x hx=>ih.sub x (p1 x hx),fun x hx=>?_,fun b hb=>?_,fun h=>ih.ord (p5 h)⟩
  ·rcases ih.new x hx with h|⟨h1,b,hb,h2⟩
   ·rcases p2 x h with h|⟨h1,h2⟩
    ·exact .inl h
    ·exact .inr ⟨h1,a,List.mem_cons_self,h2⟩
   ·exact .inr ⟨h1,b,List.mem_cons_of_mem _ hb,h2⟩
  ·rcases List.mem_cons.1 hb with rfl|hb
   ·exact⟨x0,ih.sub x0 p3,p4⟩
   ·exact ih.all b hb
theorem qgB(l:List qf):qqB (vl l) [] (qaM l):=qoB (vl l) []
theorem qiT(l:List qf):qu (wj l)=(qaM l).map qaR:=by
 unfold qu wj
 rw[List.map_map]
 rfl
theorem qne:∀{m:List (PK×Int)},(∀e∈m,e.2=0)->∀k,qm m k=0
 |[],_,_=>rfl
 |(j,u)::r,h,k=>by
  have ih:=qne (m:=r) (fun e he=>h e (List.mem_cons_of_mem _ he)) k
  unfold qm at ih ⊢
  simp only[vD]
  split
  ·exact h _ List.mem_cons_self
  ·exact ih
theorem quU{l:List qf}(hk:∀c∈l,∀x∈c.body,1<=x.kind){k:PK}:(∃a∈vl l,k=ofA a)↔∃c∈l,k∈vC c:=by
 have hc:∀c∈l,(∃a∈qbS c,k=ofA a)↔k∈vC c:=by
  intro c hcm
  unfold qbS vC
  constructor
  ·rintro⟨a,ha,rfl⟩
   rcases List.mem_cons.1 ha with rfl|ha
   ·exact List.mem_cons_self
   ·obtain⟨x,hx,ha⟩:=List.mem_flatMap.1 ha
    unfold qbn at ha
    split at ha
    ·rename_i h2
     rw[List.mem_singleton.1 ha]
     have h1:=hk c hcm x hx
     have h12:x.kind=1\/x.kind=2:=by omega
     exact List.mem_cons_of_mem _ (List.mem_map.2 ⟨x,List.mem_filter.2 ⟨hx,by simpa using h12⟩,rfl⟩)
    ·cases ha
  ·intro h
   rcases List.mem_cons.1 h with rfl|h
   ·exact⟨c.head,List.mem_cons_self,rfl⟩
   ·obtain⟨x,hx,rfl⟩:=List.mem_map.1 h
    obtain⟨h1,h2⟩:=List.mem_filter.1 hx
    refine⟨x.atom,List.mem_cons_of_mem _ (List.mem_flatMap.2 ⟨x,h1,?_⟩),rfl⟩
    have:x.kind=1\/x.kind=2:=by simpa using h2
    unfold qbn
    rw[if_pos (by omega)]
    exact List.mem_singleton.2 rfl
 constructor
 ·rintro⟨a,ha,e⟩
  obtain⟨c,hcm,ha⟩:=List.mem_flatMap.1 ha
  exact⟨c,hcm,(hc c hcm).1 ⟨a,ha,e⟩⟩
 ·rintro⟨c,hcm,h⟩
  obtain⟨a,ha,e⟩:=(hc c hcm).2 h
  exact⟨a,List.mem_flatMap.2 ⟨c,hcm,ha⟩,e⟩
theorem quS{l:List qf}(hk:∀c∈l,∀x∈c.body,1<=x.kind){k:PK}:k∈qu (wj l)↔∃c∈l,k∈vC c:=by
 rw[<-quU hk,qiT,List.mem_map]
 have h:=qgB l
 constructor
 ·rintro⟨x,hx,rfl⟩
  rcases h.new x hx with h|⟨_,a,ha,e⟩
  ·cases h
  ·exact⟨a,ha,e⟩
 ·rintro⟨a,ha,rfl⟩
  exact h.all a ha
theorem qgC{l:List qf}(hk:∀c∈l,∀x∈c.body,1<=x.kind):qqD l where
 zero:=qne fun e he=>by
  unfold wj at he
  obtain⟨s,hs,rfl⟩:=List.mem_map.1 he
  rcases (qgB l).new s hs with h|⟨h,_⟩
  ·cases h
  ·exact h
 has c hc k hkc:=(quS hk).2 ⟨c,hc,hkc⟩
theorem qvv{x y:qE}(h:vK x y):qaR x≠qaR y:=by
 intro e
 have e1:x.pred=y.pred:=congrArg Prod.fst e
 have e2:x.args=y.args:=congrArg Prod.snd e
 rcases h with h|⟨_,h⟩
 ·rw[e1,qjl,qkh]at h;cases h
 ·omega
theorem quL(l:List qf):(qu (wj l)).Nodup:=by
 rw[qiT]
 have h:(qaM l).Pairwise vK:=(qgB l).ord .nil
 exact List.pairwise_map.2 (h.imp qvv)
theorem qlh:qg 89 [qt []] (.tup [Nl,.bool true]):=by
 refine qg.of c89 fun H hH=>⟨Nat.le_of_ble_eq_true rfl,?_⟩
 simp(disch:=omega)[b89]
 have hp:qg 150 [qt []] Nl:=by
  refine qg.of c150 fun H hH=>⟨Nat.le_of_ble_eq_true rfl,?_⟩
  simp(disch:=omega)[qaX]
  refine qaQ ?_
  simp(disch:=omega)
  refine qaQ ?_
  simp(disch:=omega)
  exact qh hH (by first|rfl|simp[])
 refine hp.go fun n hn=>?_
 simp(disch:=omega)[ui]
 refine qaQ ?_
 simp(disch:=omega)[ui]
 refine qaQ ?_
 simp(disch:=omega)
 exact qh hH (by first|rfl|simp[])
theorem qld(l:List qf)(hl:qbv l):∃own,qg 136 [qt l] (.agg [.sl ((qdi l (zk l)).map qD) own,.int (qbh l (zk l))]):=by
 have hcs:(qcD l).1=(qA l).1:=by rw[qjW]
 by_cases hc:(qA l).1=0
 case neg=>
  refine⟨.full,qg.of c136 fun H hH=>⟨Nat.le_of_ble_eq_true rfl,?_⟩⟩
  simp(disch:=omega)[qfN]
  refine(qdN l hl.ok3).go fun n hn=>?_
  rw[hcs]
  simp(disch:=omega)[hc]
  exact qh hH (by simp[qdi,qbh,hc])
 have hg:=qeh hc
 cases hl0:l with
 |nil=>
  refine⟨.full,qg.of c136 fun H hH=>⟨Nat.le_of_ble_eq_true rfl,?_⟩⟩
  simp(disch:=omega)[qfN]
  rw[hl0]at hl hcs hc
  refine(qdN [] hl.ok3).go fun n hn=>?_
  rw[hcs]
  simp(disch:=omega)[hc]
  refine qlh.go fun n hn=>?_
  simp(disch:=omega)
  have e:zk []=some []:=rfl
  exact qh hH (by simp[qdi,qbh,hc,e,qH])
 |cons c r=>
  rw[<-hl0]
  have hne:l≠[]:=by rw[hl0];simp
  have hp:=qlg l hne hg (qgC fun c hc x hx=>(hg.kind c hc x hx).1)
  cases hS:zk l with
  |none=>
   rw[hS]at hp
   refine⟨.full,qg.of c136 fun H hH=>⟨Nat.le_of_ble_eq_true rfl,?_⟩⟩
   simp(disch:=omega)[qfN]
   refine(qdN l hl.ok3).go fun n hn=>?_
   rw[hcs]
   simp(disch:=omega)[hc]
   refine hp.go fun n hn=>?_
   simp(disch:=omega)[qgv]
   exact qh hH (by simp[qdi,qbh,hc,qH])
  |some m=>
   rw[hS]at hp
   refine⟨.no,qg.of c136 fun H hH=>⟨Nat.le_of_ble_eq_true rfl,?_⟩⟩
   simp(disch:=omega)[qfN]
   refine(qdN l hl.ok3).go fun n hn=>?_
   rw[hcs]
   simp(disch:=omega)[hc]
   refine hp.go fun n hn=>?_
   simp(disch:=omega)[qgv]
   exact qh hH (by simp[qdi,qbh,hc])
end Go.Abs.Tz
namespace Go.Abs.Tz
open Go Go.Abs Go.Proofs
theorem qny:∀(l:List Int)(t:Int),t<=uF t l/\(∀x∈l,x<=uF t l)/\∀N,t<=N->(∀x∈l,x<=N)->uF t l<=N
 |[],t=>⟨Int.le_refl _,fun x hx=>(by cases hx),fun N h _=>h⟩
 |a::l,t=>by
  obtain⟨h1,h2,h3⟩:=qny l (mx t a)
  have e:uF t (a::l)=uF (mx t a) l:=rfl
  have hm:t<=mx t a/\a<=mx t a/\∀N,t<=N->a<=N->mx t a<=N:=by
   unfold mx
   split<;>exact⟨by omega,by omega,fun N _ _=>by omega⟩
  rw[e]
  refine⟨Int.le_trans hm.1 h1,fun x hx=>?_,fun N h k=>h3 N (hm.2.2 N h (k a List.mem_cons_self)) fun x hx=>k x (List.mem_cons_of_mem _ hx)⟩
  rcases List.mem_cons.1 hx with rfl|hx
  ·exact Int.le_trans hm.2.1 h1
  ·exact h2 x hx
theorem qng{k:PK}:∀{m:List (PK×Int)},k∉qu m->vD k m=none
 |[],_=>rfl
 |(j,v)::r,h=>by
  have h1:¬j=k:=fun e=>h (by simp[qu,e])
  have h2:k∉qu r:=fun e=>h (by simp only[qu,List.map_cons];exact List.mem_cons_of_mem _ e)
  unfold vD
  have ih:=qng h2
  split
  ·rename_i he
   exact absurd (vw.1 he).symm h1
  ·exact ih
structure wc(l:List qf)(m:List (PK×Int)):Prop where
 nd:(qu m).Nodup
 has:∀c∈l,∀k∈vC c,k∈qu m
 nn:∀k,0<=qm m k
 sol:yV (vi l) (qN m)
 len:m.length<=240
 bd:∀k,qm m k<=m.length
theorem qnJ{l:List qf}(hg:qdI l){V:List PK}(hN:V.Nodup)(hV:∀c∈l,∀k∈vC c,k∈V)(hVl:V.length<=240){m:List (PK×Int)}(h:qcs l V m):wc l m:=by
 have hl:m.length=V.length:=by rw[<-h.keys,vG]
 refine⟨by rw[h.keys];exact hN,fun c hc k hk=>by rw[h.keys];exact hV c hc k hk,h.nn,h.sol,by omega,fun k=>?_⟩
 by_cases hk:k∈V
 ·have hb:=qgT h.sol (V:=V) (fun g hg=>qlN fun k _=>h.le g hg k) (fun e he=>⟨(qfF hV e he).1,(qfF hV e he).2.1⟩) (fun e he=>(qfF hV e he).2.2) hk
  have h0:=h.nn k
  unfold qN at hb
  omega
 ·have:qm m k=0:=by
   unfold qm
   have:vD k m=none:=by
    rw[<-h.keys]at hk
    exact qng hk
   rw[this];rfl
  omega
theorem qjj(l:List qf)(hc:(qA l).1=0):∃fuel R,wo l fuel (l.foldl y8 [])=some R /\
  ((R=none/\zk l=none)\/∃m q,R=some m/\zk l=some q/\wc l m/\wc l q/\∀k,qm m k=qm q k):=by
 have hg:=qeh hc
 have hk:∀c∈l,∀x∈c.body,1<=x.kind:=fun c hc x hx=>(hg.kind c hc x hx).1
 obtain⟨i1,i2,i3,i4⟩:=qju l [] fun _=>rfl
 have i5:=hg.initLen
 obtain⟨m0,hm0⟩:∃m0,l.foldl y8 []=m0:=⟨_,rfl⟩
 rw[hm0]at i1 i2 i3 i5 ⊢
 have hV:∀c∈l,∀k∈vC c,k∈qu m0:=fun c hc k hkc=>(i3 k).2 (.inr ⟨c,hc,hkc⟩)
 have hz:∀k,qN m0 k=0:=fun k=>by unfold qN;rw[i1 k];rfl
 obtain⟨R,hR,hE⟩:=qxk hV ((qu m0).length*(qu m0).length) m0 rfl (fun k=>by rw[i1 k];omega) (fun g _ k=>by rw[hz k];omega) (Nat.le_add_left _ _)
 have hW:∀c∈l,∀k∈vC c,k∈qu (wj l):=(qgC hk).has
 have hN:=quL l
 have hE2:qfW l (qu (wj l)) (zk l):=qtz hW hN (wj l) rfl (qgC hk).zero ((wj l).length+1) (by rw[vG];omega)
 have hPl:(qu (wj l)).length<=240:=by
  rw[qiT,List.length_map]
  have h1:=(qjD (vl l) []).1
  have h2:=hg.allLen
  unfold qaM
  simp only[List.length_nil,Nat.zero_add]at h1
  omega
 refine⟨_,R,hR,?_⟩
 rcases qtm hE hE2 with h|⟨m,q,h1,h2,h3,h4,h5⟩
 ·exact .inl h
 ·exact .inr ⟨m,q,h1,h2,qnJ hg (i2 .nil) hV (by rw[vG];exact i5) h3,qnJ hg hN hW hPl h4,h5⟩
theorem wc.max{l:List qf}{m:List (PK×Int)}(h:wc l m):0<=uF 0 (m.map (·.2))/\uF 0 (m.map (·.2))<=240/\∀k∈qu m,qm m k<=uF 0 (m.map (·.2)):=by
 obtain⟨h1,h2,h3⟩:=qny (m.map (·.2)) 0
 have hl:=h.len
 refine⟨h1,h3 240 (by omega) fun x hx=>?_,fun k hk=>?_⟩
 ·obtain⟨e,he,rfl⟩:=List.mem_map.1 hx
  have:=h.bd e.1
  rw[qgF h.nd e he]at this
  omega
 ·obtain⟨e,he,rfl⟩:=List.mem_map.1 hk
  rw[qgF h.nd e he]
  exact h2 _ (List.mem_map.2 ⟨e,he,rfl⟩)
theorem qmM{l:List qf}(hc:(qA l).1=0){q:List (PK×Int)}(hq:zk l=some q):wc l q:=by
 obtain⟨fuel,R,_,h⟩:=qjj l hc
 rcases h with⟨_,h⟩|⟨m,q',_,h2,_,h4,_⟩
 ·rw[hq]at h;cases h
 ·rw[hq]at h2;cases h2;exact h4
theorem wc.lits{l:List qf}{m:List (PK×Int)}(h:wc l m){c:qf}(hc:c∈l){x:Lit}(hx:x∈c.body):(x.kind=1->qm m (ofA x.atom)<=qm m (ofA c.head))/\(x.kind=2->qm m (ofA x.atom)<qm m (ofA c.head)):=by
 have hn1:=h.nn (ofA x.atom)
 have hn2:=h.nn (ofA c.head)
 constructor
 ·intro hk
  have he:wS (ofA c.head) x=some (ofA c.head,ofA x.atom,0):=by unfold wS;rw[if_pos hk]
  have:=h.sol _ (List.mem_flatMap.2 ⟨c,hc,List.mem_filterMap.2 ⟨x,hx,he⟩⟩)
  simp only[qN]at this
  omega
 ·intro hk
  have he:wS (ofA c.head) x=some (ofA c.head,ofA x.atom,1):=by unfold wS;rw[if_neg (by omega),if_pos hk]
  have:=h.sol _ (List.mem_flatMap.2 ⟨c,hc,List.mem_filterMap.2 ⟨x,hx,he⟩⟩)
  simp only[qN]at this
  omega
end Go.Abs.Tz
namespace Go.Abs
open Go
section
variable{E:Env}{F:Fns}
theorem qah{b:BFn}{f:FuncId}{args:List LV}{H:qa}{kv kp:HP}(hf:F.fn f b)
  (h:H.Ok->fnP E F b args H (fun v H'=>∃v' H'',Wk v v'/\HWk H' H''/\(H'.Ok->H''.Ok)/\kv v' H'') kp):cP E F f args H kv kp:=by
 intro hH
 obtain⟨hn,h⟩:=h hH
 obtain⟨t,h1,h2⟩:=qfO h
 have ht:t.get=zz args:=by
  funext j
  rw[h2 j]
  simp only[zz]
  by_cases hj:j<args.length
  ·rw[if_pos (by omega)];simp
  ·rw[if_neg (by omega)]
   have:args[j]? = none:=List.getElem?_eq_none (by omega)
   simp[List.getD_eq_getElem?_getD,this,FT.get_nil]
 have hb:=qbg b.body t H _ hH h1
 rw[ht]at hb
 refine .enter hf hn hb (fun fr df H' hT=>?_) (fun v fr df H' hT=>?_) (fun n fr df H' hT=>?_)
 ·have:∃(t':FT),fr=t'.get/\df=[]/\H'.Ok/\vp E b.res t' H' fun v=>∃v' H'',Wk v v'/\HWk H' H''/\(H'.Ok->H''.Ok)/\kv v' H'':=by
   rcases hT with⟨e,t',H'',he,hok,hk⟩|⟨e,t',H'',he,hok,hk⟩<;>cases he
   ·exact⟨t',rfl,rfl,hok,hk⟩
   ·exact⟨t',rfl,rfl,hok,hk⟩
  obtain⟨t',rfl,rfl,hok,v,hv,v',H1,hw,h3,h4,h5⟩:=this
  exact⟨rfl,v,v',H1,hv,hw,h3,.inl ⟨v',H1,rfl,h4 hok,h5⟩⟩
 ·obtain⟨e,t',H'',he,hok,hk⟩:=hT
  cases he
  exact⟨rfl,v,H',.inl rfl,⟨Nat.le_refl _,fun _ _ h=>h⟩,.inr ⟨v,H',rfl,hok,hk⟩⟩
 ·obtain⟨e,t',H'',he,hok,hk⟩:=hT
  cases he
  cases hk
end
end Go.Abs
namespace Go.Abs.Tz
open Go Go.Abs Go.Proofs
set_option maxRecDepth 20000
set_option linter.unusedSimpArgs false
attribute [local simp ↓] yb ya jv ju gI ut zg zB jr up yP yQ yc ye yf yd jA jD jG jB jH jI jE jF jC jy jw jz jx yN yL yO yM g7 gZ g8 g6 yk yh yj uu zx jL zh z7 gL yS yT yo yq yp ym yn yz jO jT jW jS jU jV gy gx j5 j7 jb uZ jm jp u9 jh jl jk jj ji jf uV uW uX uY jn jd je uT jo jq ja jc jg uU gb j6 gu gC j8 gj gt gq gp gk gh j0 gw gf gg jX gA gD j9 gd gi jY gG gz jZ gF ge ga gc j3 gv jP jR jQ yu yx yt yv yw qp uL
attribute [local simp] faL fdL iaL ixL qL zb qV eqK eqL qR zo uO yr yK yA yC yE yG yI yJ yB yF yD yH zC LV.cells LV.whole qp uC uw jM stL zF zR uq qa.alloc gJ gH gK gY gW gV gU gT gS gQ gO gN gM qe ux
theorem qoQ{k:ByteArray}:∀{K:qq},(uj K).Nodup->wC (.pl 1) (.str k) (qJ K)=some ((qS k K).map qW)
 |[],_=>rfl
 |(j,v)::r,hn=>by
  obtain⟨h1,h2⟩:=List.nodup_cons.1 (show (j::uj r).Nodup from hn)
  have ih:=qoQ (k:=k) h2
  show (match eqK (.pl 1) (.str k) (.str j),wC (.pl 1) (.str k) (qJ r) with
   |some true,some none=>some (some (qW v))
   |some false,some x=>some x
   |_,_=>none)=_
  rw[ih]
  by_cases he:k=j
  ·subst he
   have hnone:qS k r=none:=by
    cases hf:qS k r with
    |none=>rfl
    |some t=>exact absurd (List.mem_map.2 ⟨_,(qfC h2).1 hf,rfl⟩) h1
   simp[hnone,qS,qbp]
  ·have:eqBA k j=false:=by
    cases h:eqBA k j with
    |false=>rfl
    |true=>exact absurd (wQ.1 h) he
   simp[qS,this]
theorem lkU{H:qa}{o:Nat}{K:qq}(hl:look o H.objs=some (.um (qJ K)))(hn:(uj K).Nodup)(k:ByteArray)(z:LV):lkL H (.pl 1) false z (.map o) (.str k)=some (match qS k K with|some t=>qW t|none=>z):=by
 simp only[lkL,hl,qoQ hn]
 cases qS k K<;>rfl
def zT:Term:=⟨0,0,⟨⟨[]⟩⟩⟩
def za(K:qq)(t:Term):Term:=if t.kind=3 then (qS t.s K).getD zT else t
def q9(K:qq)(a:Atom):Atom:=⟨a.pred,a.args.map (za K)⟩
theorem qie(t:Term)(K:qq)(hn:(uj K).Nodup)(o:Nat)(H:qa)(hl:look o H.objs=some (.um (qJ K))){kv kp:HP}(hk:∀n,H.next<=n->kv (qW (za K t)) ⟨H.objs,n⟩):
  cP E0 F0 211 [qW t,.map o] H kv kp:=by
 refine ur c211 fun hH=>⟨Nat.le_of_ble_eq_true rfl,?_⟩
 have ho:o<H.next:=hH.look hl
 have fin:∀(x y:qc)(v:LV),v=qW (za K t)->∃H'',HWk ⟨(H.next+1,x)::(H.next,y)::H.objs,H.next+1+1⟩ H''/\(qa.Ok ⟨(H.next+1,x)::(H.next,y)::H.objs,H.next+1+1⟩->H''.Ok)/\kv v H'':=fun x y v hv=>by
  obtain⟨g1,g2⟩:=zK hH (ql.cons' hH (i:=H.next+1) (m:=H.next+1+1) (o:=x) (by omega) (by omega) (ql.cons' hH (i:=H.next) (m:=H.next) (o:=y) (by omega) (by omega) (ql.refl' _)))
  exact⟨_,g1,g2,by rw[hv];exact hk _ (by omega)⟩
 by_cases h3:t.kind=3
 ·simp(disch:=omega)[b211,h3]
  rw[lkU (by rw[qe (by omega),qe (by omega)];exact hl) hn]
  cases hf:qS t.s K with
  |none=>
   simp(disch:=omega)[hf]
   exact fin _ _ _ (by simp[za,h3,hf,zT])
  |some u=>
   simp(disch:=omega)[hf]
   exact fin _ _ _ (by simp[za,h3,hf])
 ·simp(disch:=omega)[b211,h3]
  exact fin _ _ _ (by simp[za,h3])
theorem qhE{H:qa}{sz:Nat}{X:List LV}{x:LV}{ow:Own}(hX:(X.all fun e=>e.cells.length==sz)=true)(hx:x.cells.length=sz)(hc:X.length+1<=2^30)(hs:sz<=2^10):
  apL H sz (.sl X .full) (.sl [x] ow)=some (.sl (X++[x]) (.tok H.next),H.alloc (.tok (X.length+1) sz)):=by
 have hxs:([x].all fun e=>e.cells.length==sz)=true:=by
  show (x.cells.length==sz&&true)=true
  rw[hx];simp
 unfold apL
 simp only
 rw[hX,hxs]
 simp only[Bool.and_self,if_true]
 rw[if_pos ⟨hc,hs,rfl⟩]
 rfl
theorem qhD{H:qa}{sz t:Nat}{X:List LV}{x:LV}{ow:Own}(hX:(X.all fun e=>e.cells.length==sz)=true)(hx:x.cells.length=sz)(hc:X.length+1<=2^30)(hs:sz<=2^10)(h0:0<sz)(hl:look t H.objs=some (.tok X.length sz)):
  apL H sz (.sl X (.tok t)) (.sl [x] ow)=some (.sl (X++[x]) (.tok t),H.put t (.tok (X.length+1) sz)):=by
 have hxs:([x].all fun e=>e.cells.length==sz)=true:=by
  show (x.cells.length==sz&&true)=true
  rw[hx];simp
 have hcan:vd H sz (.tok t) X.length=true:=by
  have:sz≠0:=by omega
  simp[vd,hl,this]
 unfold apL
 simp only
 rw[hX,hxs]
 simp only[Bool.and_self,if_true]
 rw[if_pos ⟨hc,hs,hcan⟩]
 rfl
structure NNFl where
 i:Nat
 n:Nat
 xs:List Term
 own:Own
 ob:List (Nat×qc)
abbrev wP(K:Term->Term)(l:List Term):List LV:=l.map fun t=>qW (K t)
theorem qoY(K:Term->Term)(l:List Term):(wP K l).all (fun e=>e.cells.length==3)=true:=by
 rw[List.all_map,List.all_eq_true]
 intro x _
 rfl
theorem qly(a:Atom)(hA:a.args.length<=2^20)(K:Term->Term)(mv:LV)(H:qa)(hf:∀t∈a.args,∀(l:List (Nat×qc)) (n:Nat) (kv kp:HP),H.next<=n->(∀i,i<H.next->look i l=look i H.objs)->(∀n',n<=n'->kv (qW (K t)) ⟨l,n'⟩)->cP E0 F0 211 [qW t,mv] ⟨l,n⟩ kv kp)
  {kv kp:HP} (hk:∀n,H.next<=n->kv (qd ⟨a.pred,a.args.map K⟩) ⟨H.objs,n⟩):cP E0 F0 181 [qd a,mv] H kv kp:=by
 refine qah c181 fun hH=>⟨Nat.le_of_ble_eq_true rfl,?_⟩
 obtain⟨N,hN⟩:∃N,H.next=N:=⟨_,rfl⟩
 obtain⟨ob0,nx0⟩:=H
 dsimp only at hN hf hk
 subst hN
 simp(disch:=omega)[b181]
 refine qy (σ:=NNFl) (fun q=>(.nd (qd a) (.nd (mv) .nil (.nd (.ptr (nx0+1+1) 0) .nil (.nd (.int a.args.length) .nil .nil))) (.nd (.ptr nx0 0) (.nd (.ptr (nx0+1) 0) .nil (.nd (qk a.args) .nil .nil)) (.nd .bot .nil (.nd (.int q.i) .nil .nil))))) (fun q=>⟨q.ob,q.n⟩) (fun q=>a.args.length - q.i)
  (fun q=>zP ⟨(nx0+1+1,.cells [.str a.pred,.sl (wP K q.xs) q.own])::(nx0+1,.cells [S [],Nl])::(nx0,.cells [.str a.pred,qk a.args])::ob0,nx0+1+1+1⟩ 3 q.i q.own q.ob q.n/\q.i<=a.args.length/\q.xs.length=q.i/\q.xs++a.args.drop q.i=a.args)
  ⟨0,nx0+1+1+1,[],.full,(nx0+1+1,.cells [.str a.pred,Nl])::(nx0+1,.cells [S [],Nl])::(nx0,.cells [.str a.pred,qk a.args])::ob0⟩ ⟨.inl ⟨rfl,rfl,Nat.le_refl _⟩,Nat.zero_le _,rfl,by simp⟩ (by simp[FT.Le,Wk]) ⟨HWk.refl _,fun h=>h⟩ ?_
 rintro⟨i,n,xs,own,ob⟩ ⟨hr,hi,hxl,hxs⟩ hok
 dsimp only at hr hi hok hxl hxs
 have hfin:∀(ow:Own)(H':qa),HWk H' ⟨ob0,n⟩->xs=a.args->∃v',Wk (LV.agg [.str a.pred,.sl (wP K xs) ow]) v'/\∃H'',HWk H' H''/\(H'.Ok->H''.Ok)/\kv v' H'':=by
  intro ow H' hw hx
  have hn0:nx0<=n:=by
   rcases hr with⟨_,_,h3⟩|⟨t,_,g1,g2,_⟩
   ·dsimp only at h3;omega
   ·dsimp only at g1;omega
  refine⟨qd ⟨a.pred,a.args.map K⟩,.inr (.inl ?_),⟨ob0,n⟩,hw,fun _=>qn.mono hH hn0,hk n hn0⟩
  subst hx
  simp[LV.strip,qba,List.map_map,Function.comp_def]
 by_cases hlt:i<a.args.length
 case neg=>
  have hall:xs=a.args:=by rw[List.drop_eq_nil_of_le (by omega),List.append_nil]at hxs;exact hxs
  rcases hr with⟨rfl,rfl,h3⟩|⟨t,rfl,g1,g2,rfl⟩
  ·dsimp only at h3
   simp(disch:=omega)[hlt]
   refine hfin _ _ ⟨Nat.le_refl _,fun i x hx=>?_⟩ hall
   have:i<nx0:=hH.look hx
   rw[qe (by omega),qe (by omega),qe (by omega)]
   exact hx
  ·dsimp only at g1
   simp(disch:=omega)[hlt]
   refine hfin _ _ ⟨Nat.le_refl _,fun i x hx=>?_⟩ hall
   have:i<nx0:=hH.look hx
   rw[qe (by omega),qe (by omega),qe (by omega),qe (by omega)]
   exact hx
 have hX:=qoY K xs
 obtain⟨X,hXe⟩:∃X,wP K xs=X:=⟨_,rfl⟩
 have hXl:X.length=i:=by rw[<-hXe,List.length_map];exact hxl
 have hnew:wP K (xs++[a.args[i]])=X++[qW (K a.args[i])]:=by rw[<-hXe];simp[wP]
 have hxl2:(xs++[a.args[i]]).length=i+1:=by simp[hxl]
 have hxs2:(xs++[a.args[i]])++a.args.drop (i+1)=a.args:=by
  rw[List.append_assoc]
  show xs++(a.args[i]::a.args.drop (i+1))=a.args
  rw[<-List.drop_eq_getElem_cons hlt]
  exact hxs
 rw[hXe]at hX hr
 have hcan:i+1<=2^30:=by omega
 rcases hr with⟨rfl,rfl,h3⟩|⟨t,rfl,g1,g2,rfl⟩
 ·dsimp only at h3
  simp(disch:=omega)[hlt]
  refine hf a.args[i] (List.getElem_mem hlt) _ _ _ _ (by omega) (fun j hj=>by rw[qe (by omega),qe (by omega),qe (by omega),qe (by omega)]) fun n2 hn2=>?_
  simp(disch:=omega)
  refine qU ?_
  simp(disch:=omega)
  rw[qhE hX rfl (by rw[hXl];exact hcan) (by omega)]
  simp(disch:=omega)[hXl,qi (show i<2^62 by omega)]
  refine⟨⟨i+1,n2+1,xs++[a.args[i]],.tok n2,(n2,.tok (i+1) 3)::(nx0+1+1,.cells [.str a.pred,.sl (wP K (xs++[a.args[i]])) (.tok n2)])::(nx0+1,.cells [S [],Nl])::(nx0,.cells [.str a.pred,qk a.args])::ob0⟩,by dsimp only;omega,⟨.inr ⟨n2,rfl,by dsimp only;omega,Nat.lt_succ_self _,rfl⟩,by dsimp only;omega,hxl2,hxs2⟩,by simp[FT.Le,Wk],?_⟩
  dsimp only
  rw[hnew]
  have hB:qn ((nx0+1+1,qc.cells [.str a.pred,.sl (X++[qW (K a.args[i])]) (.tok n2)])::(nx0+1,.cells [S [],Nl])::(nx0,.cells [.str a.pred,qk a.args])::ob0) n:=⟨by omega,by omega,by omega,hH⟩
  exact⟨qcJ hB fun _ _ h=>h,fun _=>⟨Nat.lt_succ_self _,hB.mono (by omega)⟩⟩
 ·dsimp only at g1
  simp(disch:=omega)[hlt]
  refine hf a.args[i] (List.getElem_mem hlt) _ _ _ _ (by omega) (fun j hj=>by rw[qe (by omega),qe (by omega),qe (by omega),qe (by omega),qe (by omega)]) fun n2 hn2=>?_
  simp(disch:=omega)
  refine qU ?_
  simp(disch:=omega)
  rw[qhD hX rfl (by rw[hXl];exact hcan) (by omega) (by omega) (by rw[qe (by omega),hXl];simp[look])]
  simp(disch:=omega)[hXl,qi (show i<2^62 by omega)]
  refine⟨⟨i+1,n2,xs++[a.args[i]],.tok t,(t,.tok (i+1) 3)::(nx0+1+1,.cells [.str a.pred,.sl (wP K (xs++[a.args[i]])) (.tok t)])::(nx0+1,.cells [S [],Nl])::(nx0,.cells [.str a.pred,qk a.args])::ob0⟩,by dsimp only;omega,⟨.inr ⟨t,rfl,g1,by dsimp only;omega,rfl⟩,by dsimp only;omega,hxl2,hxs2⟩,by simp[FT.Le,Wk],?_⟩
  dsimp only
  rw[hnew]
  have hOk3:qa.Ok ⟨(t,.tok (i+1) 3)::(nx0+1+1,qc.cells [.str a.pred,.sl (X++[qW (K a.args[i])]) (.tok t)])::(nx0+1,.cells [S [],Nl])::(nx0,.cells [.str a.pred,qk a.args])::ob0,n⟩:=⟨g2,g1,by omega,by omega,hH⟩
  exact zK hOk3 (ql.cons hOk3 (Nat.le_refl _) (ql.refl (Nat.le_refl _)) (by dsimp only;omega))
theorem qlx(a:Atom)(hA:a.args.length<=2^20)(K:qq)(hn:(uj K).Nodup)(o:Nat)(H:qa)(hl:look o H.objs=some (.um (qJ K))){kv kp:HP}(hk:∀n,H.next<=n->kv (qd (q9 K a)) ⟨H.objs,n⟩):
  cP E0 F0 181 [qd a,.map o] H kv kp:=fun hH=>
 qly a hA (za K) (.map o) H (fun t _ l n kv kp _ hs hk2=>qie t K hn o ⟨l,n⟩ (by dsimp only;rw[hs o (hH.look hl)];exact hl) hk2) hk hH
theorem qsv(t:Term)(h3:t.kind≠3)(H:qa){kv kp:HP}(hk:∀n,H.next<=n->kv (qW t) ⟨H.objs,n⟩):cP E0 F0 211 [qW t,.sc (.map none)] H kv kp:=by
 refine ur c211 fun hH=>⟨Nat.le_of_ble_eq_true rfl,?_⟩
 simp(disch:=omega)[b211,h3]
 obtain⟨g1,g2⟩:=zK hH (ql.cons' hH (i:=H.next+1) (m:=H.next+1+1) (o:=.cells [.int t.kind,.int t.n,.str t.s]) (by omega) (by omega) (ql.cons' hH (i:=H.next) (m:=H.next) (o:=.cells [.int t.kind,.int t.n,.str t.s]) (by omega) (by omega) (ql.refl' _)))
 exact⟨_,g1,g2,hk _ (by omega)⟩
theorem qsu(a:Atom)(hA:a.args.length<=2^20)(hg:∀t∈a.args,t.kind≠3)(H:qa){kv kp:HP}(hk:∀n,H.next<=n->kv (qd a) ⟨H.objs,n⟩):cP E0 F0 181 [qd a,.sc (.map none)] H kv kp:=
 qly a hA id (.sc (.map none)) H (fun t ht l n kv kp _ _ hk2=>qsv t (hg t ht) ⟨l,n⟩ hk2) (by simpa using hk)
def qaa(t:Term):Bool:=decide (t.kind=1)
def qaV(K:qq)(x:Lit):Bool:=
 if x.kind=3 then eqT (za K x.a) (za K x.b)
 else if x.kind=4 then !eqT (za K x.a) (za K x.b)
 else if x.kind=5 then qaa (za K x.a)&&qaa (za K x.b)&&decide ((za K x.a).n<(za K x.b).n)
 else qaa (za K x.a)&&qaa (za K x.b)&&decide ((za K x.a).n<=(za K x.b).n)
theorem qsA(x:Lit)(K:qq)(hn:(uj K).Nodup)(o:Nat)(H:qa)(hl:look o H.objs=some (.um (qJ K))){kv kp:HP}(hk:∀n,H.next<=n->kv (.bool (qaV K x)) ⟨H.objs,n⟩):
  cP E0 F0 193 [qfp x,.map o] H kv kp:=by
 refine ur c193 fun hH=>⟨Nat.le_of_ble_eq_true rfl,?_⟩
 have ho:o<H.next:=hH.look hl
 obtain⟨ob0,nx0⟩:=H
 dsimp only at hl ho hk
 simp(disch:=omega)[b193]
 refine qie x.a K hn o _ (by dsimp only;rw[qe (by omega)];exact hl) fun n2 hn2=>?_
 dsimp only at hn2
 simp(disch:=omega)
 refine qie x.b K hn o _ (by dsimp only;rw[qe (by omega)];exact hl) fun n3 hn3=>?_
 dsimp only at hn3
 have hfin:∀(H':qa)(v:LV),HWk H' ⟨ob0,n3+1+1⟩->v=.bool (qaV K x)->∃H'',HWk H' H''/\(H'.Ok->H''.Ok)/\kv v H'':=fun H' v hw hv=>⟨⟨ob0,n3+1+1⟩,hw,fun _=>qn.mono hH (by dsimp only;omega),by rw[hv];exact hk _ (by omega)⟩
 have hw:∀(c1 c2 c3:qc),HWk ⟨(n3+1,c1)::(n3,c2)::(nx0,c3)::ob0,n3+1+1⟩ ⟨ob0,n3+1+1⟩:=fun c1 c2 c3=>⟨Nat.le_refl _,fun i y hy=>by
  have:i<nx0:=hH.look hy
  rw[qe (by omega),qe (by omega),qe (by omega)]
  exact hy⟩
 obtain⟨P,hP⟩:∃P,za K x.a=P:=⟨_,rfl⟩
 obtain⟨Q,hQ⟩:∃Q,za K x.b=Q:=⟨_,rfl⟩
 have hcl:qaV K x=if x.kind=3 then eqT P Q else if x.kind=4 then !eqT P Q else if x.kind=5 then qaa P&&qaa Q&&decide (P.n<Q.n) else qaa P&&qaa Q&&decide (P.n<=Q.n):=by rw[<-hP,<-hQ];rfl
 rw[hcl]at hfin
 rw[hP,hQ]
 simp(disch:=omega)
 rcases Classical.em (P.kind=1) with p1|p1<;>rcases Classical.em (Q.kind=1) with q1|q1<;>rcases Classical.em (x.kind=3) with k3|k3<;>rcases Classical.em (x.kind=4) with k4|k4<;>rcases Classical.em (x.kind=5) with k5|k5<;>(try (exfalso;omega))
 all_goals (simp(disch:=omega)[p1,q1,k3,k4,k5])
 all_goals (exact hfin _ _ (hw _ _ _) (by simp[k3,k4,k5,qaa,eqT,p1,q1]))
end Go.Abs.Tz
namespace Go.Abs.Tz
open Go
def qkx(p:UInt8->Bool)(r:List UInt8):Prop:=∀c t,r=c::t->p c=false
theorem qim{p:UInt8->Bool}:∀{xs ys r s:List UInt8},(∀x∈xs,p x=true)->(∀y∈ys,p y=true)->qkx p r->qkx p s->xs++r=ys++s->xs=ys/\r=s
 |[],[],_,_,_,_,_,_,h=>⟨rfl,h⟩
 |[],y::ys,r,s,_,hy,hr,_,h=>by
  have:=hr y (ys++s) h
  rw[hy y List.mem_cons_self]at this
  cases this
 |x::xs,[],r,s,hx,_,_,hs,h=>by
  have:=hs x (xs++r) h.symm
  rw[hx x List.mem_cons_self]at this
  cases this
 |x::xs,y::ys,r,s,hx,hy,hr,hs,h=>by
  simp only[List.cons_append,List.cons.injEq]at h
  obtain⟨h1,h2⟩:=qim (fun z hz=>hx z (List.mem_cons_of_mem _ hz)) (fun z hz=>hy z (List.mem_cons_of_mem _ hz)) hr hs h.2
  exact⟨by rw[h.1,h1],h2⟩
theorem qes{d:Nat}(h:d<10):(UInt8.ofNat (48+d)).toNat=48+d:=by
 rw[UInt8.toNat_ofNat']
 omega
theorem qjS(u:Nat):Lib.decDigits u≠[]:=by
 rw[Lib.decDigits]
 split<;>simp
theorem qhr{u:Nat}(h:u<10):Lib.decDigits u=[UInt8.ofNat (48+u)]:=by rw[Lib.decDigits,dif_pos h]
theorem qhs{u:Nat}(h:¬u<10):Lib.decDigits u=Lib.decDigits (u / 10)++[UInt8.ofNat (48+u % 10)]:=by rw[Lib.decDigits,dif_neg h]
theorem qpy(u:Nat):∀v,Lib.decDigits u=Lib.decDigits v->u=v:=by
 induction u using Nat.strongRecOn with
 |_ u ih=>
  intro v h
  by_cases hu:u<10
  ·rw[qhr hu]at h
   by_cases hv:v<10
   ·rw[qhr hv]at h
    have:=congrArg UInt8.toNat (List.cons.inj h).1
    rw[qes hu,qes hv]at this
    omega
   ·rw[qhs hv]at h
    have hl:=congrArg List.length h
    rw[List.length_append]at hl
    have:=List.length_pos_iff.2 (qjS (v / 10))
    simp only[List.length_cons,List.length_nil]at hl
    omega
  ·rw[qhs hu]at h
   by_cases hv:v<10
   ·rw[qhr hv]at h
    have hl:=congrArg List.length h
    rw[List.length_append]at hl
    have:=List.length_pos_iff.2 (qjS (u / 10))
    simp only[List.length_cons,List.length_nil]at hl
    omega
   ·rw[qhs hv]at h
    obtain⟨h1,h2⟩:=List.append_inj' h rfl
    have e1:=ih (u / 10) (by omega) (v / 10) h1
    have:=congrArg UInt8.toNat (List.cons.inj h2).1
    rw[qes (Nat.mod_lt _ (by omega)),qes (Nat.mod_lt _ (by omega))]at this
    omega
theorem qjT(u:Nat):∀c∈Lib.decDigits u,48<=c.toNat/\c.toNat<=57:=by
 induction u using Nat.strongRecOn with
 |_ u ih=>
  intro c hc
  by_cases hu:u<10
  ·rw[qhr hu,List.mem_singleton]at hc
   subst hc
   rw[qes hu];omega
  ·rw[qhs hu,List.mem_append,List.mem_singleton]at hc
   rcases hc with hc|rfl
   ·exact ih (u / 10) (by omega) c hc
   ·rw[qes (Nat.mod_lt _ (by omega))]
    have:=Nat.mod_lt u (show 0<10 by omega)
    omega
theorem qnQ(n:Int):∀c∈Lib.itoa n,c=45\/(48<=c.toNat/\c.toNat<=57):=by
 intro c hc
 unfold Lib.itoa at hc
 split at hc
 ·rcases List.mem_cons.1 hc with h|h
  ·exact .inl h
  ·exact .inr (qjT _ c h)
 ·exact .inr (qjT _ c hc)
theorem qvw(n:Int):Lib.itoa n≠[]:=by
 unfold Lib.itoa
 split
 ·simp
 ·exact qjS _
theorem qvx{m n:Int}(h:Lib.itoa m=Lib.itoa n):m=n:=by
 have no:∀(u:Nat)(r:List UInt8),Lib.decDigits u≠45::r:=by
  intro u r e
  have:=qjT u 45 (by rw[e];exact List.mem_cons_self)
  have h45:(45:UInt8).toNat=45:=rfl
  omega
 unfold Lib.itoa at h
 by_cases hm:m<0
 ·rw[if_pos hm]at h
  by_cases hn:n<0
  ·rw[if_pos hn]at h
   have:=qpy _ _ (List.cons.inj h).2
   omega
  ·rw[if_neg hn]at h
   exact absurd h.symm (no _ _)
 ·rw[if_neg hm]at h
  by_cases hn:n<0
  ·rw[if_pos hn]at h
   exact absurd h (no _ _)
  ·rw[if_neg hn]at h
   have:=qpy _ _ h
   omega
end Go.Abs.Tz
namespace Go.Abs.Tz
open Go Go.Abs Go.Proofs
set_option maxRecDepth 20000
set_option linter.unusedSimpArgs false
attribute [local simp ↓] yb ya jv ju gI ut zg zB jr up yP yQ yc ye yf yd jA jD jG jB jH jI jE jF jC jy jw jz jx yN yL yO yM g7 gZ g8 g6 yk yh yj uu zx jL zh z7 gL yS yT yo yq yp ym yn yz jO jT jW jS jU jV gy gx j5 j7 jb uZ jm jp u9 jh jl jk jj ji jf uV uW uX uY jn jd je uT jo jq ja jc jg uU gb j6 gu gC j8 gj gt gq gp gk gh j0 gw gf gg jX gA gD j9 gd gi jY gG gz jZ gF ge ga gc j3 gv jP jR jQ yu yx yt yv yw qp uL
attribute [local simp] faL fdL iaL ixL qL zb qV eqK eqL qR zo uO yr yK yA yC yE yG yI yJ yB yF yD yH zC LV.cells LV.whole qp uC uw jM stL zF zR uq qa.alloc gJ gH gK gY gW gV gU gT gS gQ gO gN gM qe ux
theorem qqn(a b:List UInt8):((⟨⟨a⟩⟩:ByteArray)++(⟨⟨b⟩⟩:ByteArray))=⟨⟨a++b⟩⟩:=by
 apply ByteArray.ext
 simp
theorem qql(a:List UInt8):(⟨⟨a⟩⟩:ByteArray).size=a.length:=rfl
theorem qqg(a b:Int)(k:IntKind)(hb:b≠0):zt .rem (.sc (.int k a)) (.sc (.int k b))=some (.sc (.int k (a.tmod b))):=by simp[zt,hb]
theorem qqh(a b:Int)(k:IntKind)(hb:b≠0):zt .quo (.sc (.int k a)) (.sc (.int k b))=some (.sc (.int k (k.wrap (a.tdiv b)))):=by simp[zt,hb]
theorem qpw:∀(k u:Nat),u<10^(k+1)->(Lib.decDigits u).length<=k+1
 |0,u,h=>by
  have h':u<10:=by simpa using h
  rw[Lib.decDigits,dif_pos h'];simp
 |k+1,u,h=>by
  by_cases h':u<10
  ·rw[Lib.decDigits,dif_pos h'];simp
  ·have:=qpw k (u / 10) (by rw[Nat.pow_succ]at h;omega)
   rw[Lib.decDigits,dif_neg h',List.length_append]
   simp only[List.length_cons,List.length_nil]
   omega
theorem qpx{u:Nat}(h:u<=2^40):(Lib.decDigits u).length<=13:=qpw 12 u (by omega)
def z6(t:Term):ByteArray:=if t.kind=1 then ⟨⟨Lib.itoa t.n⟩⟩ else t.s
theorem qrx(t:Term)(h:t.kind=1->-(2^40)<=t.n/\t.n<=2^40):qg 128 [qW t] (.str (z6 t)):=by
 refine qg.of c128 fun H hH=>⟨Nat.le_of_ble_eq_true rfl,?_⟩
 by_cases h1:t.kind=1
 ·have:=h h1
  simp(disch:=omega)[b128,h1]
  refine(qsi t.n (by omega) (by omega)).go fun n hn=>?_
  simp(disch:=omega)
  exact qh hH (by simp[z6,h1])
 ·simp(disch:=omega)[b128,h1]
  exact qh hH (by simp[z6,h1])
def vf:List Term->Bool->List UInt8
 |[],first=>if first then [] else [41]
 |t::r,first=>(if first then [40] else [44,32])++(z6 t).data.toList++vf r false
def qG(a:Atom):ByteArray:=⟨⟨a.pred.data.toList++vf a.args true⟩⟩
theorem qxZ(a:ByteArray):a.data.toList.length=a.size:=rfl
theorem qdL{lo hi:Int}{s:ByteArray}(h:zN lo hi s=true):s.size<=24:=by
 unfold zN at h
 simp only[Bool.and_eq_true,decide_eq_true_eq]at h
 omega
theorem qkW{t:Term}(h:qF t=true):(z6 t).size<=24/\(t.kind=1->-(2^40)<=t.n/\t.n<=2^40):=by
 unfold qF at h
 unfold z6
 by_cases h1:t.kind=1
 ·rw[if_pos h1]at h ⊢
  simp only[Bool.and_eq_true,decide_eq_true_eq]at h
  refine⟨?_,fun _=>by omega⟩
  show (Lib.itoa t.n).length<=24
  unfold Lib.itoa
  split
  ·have:=qpx (u:=t.n.natAbs) (by omega)
   rw[List.length_cons];omega
  ·have:=qpx (u:=t.n.toNat) (by omega)
   omega
 ·rw[if_neg h1]at h ⊢
  refine⟨?_,fun h=>absurd h h1⟩
  split at h
  ·simp only[Bool.and_eq_true]at h;exact qdL h.2
  ·split at h
   ·simp only[Bool.and_eq_true]at h;exact qdL h.2
   ·cases h
theorem qqu:∀{l:List Term}{b:Bool},l.all qF=true->(vf l b).length<=26*l.length+1
 |[],b,_=>by unfold vf;split<;>simp
 |t::r,b,h=>by
  simp only[List.all_cons,Bool.and_eq_true]at h
  have h1:=(qkW h.1).1
  have h2:=qqu (b:=false) h.2
  have h3:(z6 t).data.toList.length<=24:=h1
  simp only[vf,List.length_append,List.length_cons]
  split<;>simp only[List.length_cons,List.length_nil]<;>omega
theorem qqo{a:Atom}(h:qM a=true):a.pred.size<=24/\a.args.length<=3/\a.args.all qF=true:=by
 unfold qM at h
 simp only[Bool.and_eq_true,decide_eq_true_eq]at h
 exact⟨qdL h.1,h.2⟩
theorem qya{a:Atom}(h:qM a=true):(qG a).size<=110:=by
 obtain⟨h1,h2,h3⟩:=qqo h
 have:=qqu (b:=true) h3
 show (a.pred.data.toList++vf a.args true).length<=110
 rw[List.length_append,qxZ]
 omega
structure NNX where
 i:Nat
 n:Nat
 s:List UInt8
theorem qnP(sep:List UInt8):∀(x:List UInt8)(r:List (List UInt8)),Lib.join (x::r) sep=x++(r.map (sep++·)).flatten
 |x,[]=>by simp[Lib.join,List.intercalate,List.intersperse]
 |x,y::r=>by
  have ih:=qnP sep y r
  unfold Lib.join at ih ⊢
  unfold List.intercalate at ih ⊢
  rw[show List.intersperse sep (x::y::r)=x::sep::List.intersperse sep (y::r) from rfl]
  rw[List.flatten_cons,List.flatten_cons,ih]
  simp
theorem qqw:∀l:List Term,vf l false=((l.map fun t=>(z6 t).data.toList).map ([44,32]++·)).flatten++[41]
 |[]=>rfl
 |t::r=>by
  have ih:=qqw r
  rw[vf,ih]
  simp
theorem qyc{l:List Term}(h:l≠[]):vf l true=[40]++Lib.join (l.map fun t=>(z6 t).data.toList) [44,32]++[41]:=by
 cases l with
 |nil=>exact absurd rfl h
 |cons t r=>
  rw[List.map_cons,qnP,vf,qqw]
  simp
structure NNY where
 i:Nat
 n:Nat
 xs:List ByteArray
 own:Own
 ob:List (Nat×qc)
abbrev qlQ(xs:List ByteArray):List LV:=xs.map fun x=>.str x
theorem qlP(xs:List ByteArray):(qlQ xs).all (fun e=>e.cells.length==1)=true:=by
 rw[List.all_map,List.all_eq_true]
 intro x _
 rfl
theorem qgh(a:Atom)(h:qM a=true):qg 62 [qd a] (.str (qG a)):=by
 obtain⟨h1,h2,h3⟩:=qqo h
 have hX:(qG a).size<=110:=qya h
 refine qg.of c62 fun H hH=>⟨Nat.le_of_ble_eq_true rfl,?_⟩
 by_cases h0:a.args.length=0
 ·have h0':(a.args.length:Int)=0:=by omega
  have hn:a.args=[]:=List.length_eq_zero_iff.1 h0
  have hX2:qG a=a.pred:=by
   unfold qG
   rw[hn]
   simp[vf]
  simp(disch:=omega)[b62,h0,h0']
  exact qh hH (by simp[hX2])
 have h0':¬(a.args.length:Int)=0:=by omega
 simp(disch:=omega)[b62,h0,h0']
 have hbase:qa.Ok ⟨(H.next,.cells [.str a.pred,qk a.args])::H.objs,H.next+1⟩:=⟨Nat.lt_succ_self _,hH⟩
 obtain⟨L,hL⟩:∃L,a.args.map z6=L:=⟨_,rfl⟩
 have hLl:L.length<=3:=by rw[<-hL,List.length_map];exact h2
 refine qy (σ:=NNY) (fun q=>(.nd .bot (.nd (.ptr H.next 0) (.nd (.sl (qlQ q.xs) q.own) (.nd .bot (.nd (.int q.i) .nil .nil) .nil) .nil) (.nd .bot .nil (.nd (qk a.args) .nil .nil))) (.nd .bot .nil (.nd .bot .nil (.nd (.int a.args.length) .nil .nil))))) (fun q=>⟨q.ob,q.n⟩) (fun q=>a.args.length - q.i)
  (fun q=>zP ⟨(H.next,.cells [.str a.pred,qk a.args])::H.objs,H.next+1⟩ 1 q.xs.length q.own q.ob q.n/\H.next<q.n/\q.i<=a.args.length/\q.xs++(a.args.drop q.i).map z6=L) ⟨0,H.next+1,[],.full,(H.next,.cells [.str a.pred,qk a.args])::H.objs⟩
  ⟨.inl ⟨rfl,rfl,Nat.le_refl _⟩,Nat.lt_succ_self _,Nat.zero_le _,by simpa using hL⟩ (by simp[FT.Le,Wk]) ⟨HWk.refl _,fun h=>h⟩ ?_
 rintro⟨i,n,xs,own,ob⟩ ⟨hr,hn,hi,he⟩ hok
 dsimp only at hr hn hi he hok
 have hxl:xs.length<=3:=by
  have:=congrArg List.length he
  rw[List.length_append]at this
  omega
 have hob:ob=(H.next,.cells [.str a.pred,qk a.args])::H.objs\/∃t,H.next<t/\ob=(t,.tok xs.length 1)::(H.next,.cells [.str a.pred,qk a.args])::H.objs:=by
  rcases hr with⟨_,rfl,_⟩|⟨t,_,g1,g2,rfl⟩
  ·exact .inl rfl
  ·exact .inr ⟨t,g1,rfl⟩
 have hlk:look H.next ob=some (.cells [.str a.pred,qk a.args]):=by
  rcases hob with rfl|⟨t,g1,rfl⟩
  ·simp[look]
  ·rw[qe (by omega)];simp[look]
 have hfg:HWk ⟨ob,n⟩ ⟨H.objs,n⟩:=⟨Nat.le_refl _,fun j x hx=>by
  have:=hH.look hx
  rcases hob with rfl|⟨t,g1,rfl⟩
  ·simp only[look];rw[if_neg (by omega)];exact hx
  ·simp only[look];rw[if_neg (by omega),if_neg (by omega)];exact hx⟩
 by_cases hlt:i<a.args.length
 case neg=>
  rw[List.drop_eq_nil_of_le (by omega),List.map_nil,List.append_nil]at he
  subst he
  have hdata:xs.map (·.data.toList)=a.args.map fun t=>(z6 t).data.toList:=by rw[<-hL,List.map_map];rfl
  have hne:a.args≠[]:=fun e=>h0 (by rw[e];rfl)
  obtain⟨J,hJ⟩:∃J,Lib.join (xs.map (·.data.toList)) [44,32]=J:=⟨_,rfl⟩
  have hAX:qG a=⟨⟨a.pred.data.toList++[40]++J++[41]⟩⟩:=by
   unfold qG
   rw[qyc hne,<-hdata,hJ]
   simp
  obtain⟨P8,hP8⟩:∃P8,a.pred.data.toList=P8:=⟨_,rfl⟩
  have hpr:a.pred=⟨⟨P8⟩⟩:=by rw[<-hP8]
  have hPl:P8.length<=24:=by rw[<-hP8];exact h1
  rw[hP8]at hAX
  have hJl:J.length<=110:=by
   rw[hAX]at hX
   have:(P8++[40]++J++[41]).length<=110:=hX
   simp only[List.length_append]at this
   omega
  have hb1:P8.length+1<=2^40:=by omega
  have hb2:P8.length+1+J.length<=2^40:=by omega
  have hb3:P8.length+(1+J.length)<=2^40:=by omega
  have hb4:P8.length+1+J.length+1<=2^40:=by omega
  have hb5:P8.length+(1+(J.length+1))<=2^40:=by omega
  have hb6:P8.length+(J.length+1)+1<=2^40:=by omega
  have hb7:P8.length+(J.length+1)<=2^40:=by omega
  have hb8:P8.length+(J.length+1+1)<=2^40:=by omega
  rw[hpr]at hlk
  have lk1:qL ⟨ob,n⟩ none (.ptr H.next 0)=some (.str ⟨⟨P8⟩⟩):=by simp[qL,hlk,zb]
  simp(disch:=omega)[hlt,hlk,qqn,qql,hb1]
  refine(qsh xs own ⟨⟨[44,32]⟩⟩ (by omega) (by show (Lib.join _ [44,32]).length<=_;rw[hJ];omega)).x (.sc _) ?_
  rw[show Lib.join (xs.map (·.data.toList)) (ByteArray.mk ⟨[44,32]⟩).data.toList=J from hJ]
  have hJa:(⟨J.toArray⟩:ByteArray)=⟨⟨J⟩⟩:=rfl
  rw[hJa]
  simp(disch:=omega)[hlk,qqn,qql,hb1,hb2,hb3,hb4,hb5,hb6,hb7,hb8]
  refine⟨⟨H.objs,n⟩,hfg,fun _=>qn.mono hH (by first|omega|(dsimp only;omega)),?_,n,by first|omega|(dsimp only;omega),rfl⟩
  rw[hAX]
  simp
 rw[List.drop_eq_getElem_cons hlt,List.map_cons]at he
 have he':(xs++[z6 a.args[i]])++(a.args.drop (i+1)).map z6=L:=by rw[List.append_assoc];exact he
 have htk:=List.all_eq_true.1 h3 _ (ub hlt)
 obtain⟨g1,g2⟩:=qkW htk
 simp(disch:=omega)[hlt]
 refine(qrx _ g2).x (.sc _) ?_
 simp(disch:=omega)
 refine qU ?_
 have hcan:xs.length+1<=2^30:=by omega
 have hlen1:(xs++[z6 a.args[i]]).length=xs.length+1:=by simp
 rcases hr with⟨rfl,rfl,h3⟩|⟨t,rfl,f1,f2,rfl⟩
 ·dsimp only at h3
  simp(disch:=omega)[apL,vd,qlP,hcan,qi (show i<2^62 by omega)]
  refine⟨⟨i+1,n+1+1,xs++[z6 a.args[i]],.tok (n+1),(n+1,.tok (xs.length+1) 1)::(H.next,.cells [.str a.pred,qk a.args])::H.objs⟩,by dsimp only;omega,⟨.inr ⟨n+1,rfl,by dsimp only;omega,Nat.lt_succ_self _,by dsimp only;rw[hlen1]⟩,by dsimp only;omega,by dsimp only;omega,by simpa using he'⟩,by simp[FT.Le,Wk],?_,fun _=>⟨Nat.lt_succ_self _,⟨by omega,hH⟩⟩⟩
  exact qcJ (show qn ((H.next,qc.cells [.str a.pred,qk a.args])::H.objs) n from ⟨hn,hH⟩) fun _ _ h=>h
 ·dsimp only at f1
  simp(disch:=omega)[apL,vd,qlP,hcan,qi (show i<2^62 by omega)]
  refine⟨⟨i+1,n+1,xs++[z6 a.args[i]],.tok t,(t,.tok (xs.length+1) 1)::(H.next,.cells [.str a.pred,qk a.args])::H.objs⟩,by dsimp only;omega,⟨.inr ⟨t,rfl,f1,by dsimp only;omega,by dsimp only;rw[hlen1]⟩,by dsimp only;omega,by dsimp only;omega,by simpa using he'⟩,by simp[FT.Le,Wk],?_⟩
  have hOk3:qa.Ok ⟨(t,.tok (xs.length+1) 1)::(H.next,.cells [.str a.pred,qk a.args])::H.objs,n⟩:=⟨f2,⟨by omega,hH⟩⟩
  exact zK hOk3 (ql.cons hOk3 (Nat.le_refl _) (ql.refl (Nat.le_refl _)) (Nat.le_succ _))
end Go.Abs.Tz
namespace Go.Abs.Tz
open Go Go.Abs Go.Proofs
def pW(c:UInt8):Bool:=qaH c.toNat||decide (c=45)
theorem qms(p:Int->Bool):∀{l:List UInt8},jJ p l=l.length->∀c∈l,p c.toNat=true
 |[],_,c,hc=>by cases hc
 |a::l,h,c,hc=>by
  unfold jJ at h
  by_cases ha:p a.toNat=true
  ·rw[if_pos ha]at h
   have h':jJ p l=l.length:=by simpa using h
   rcases List.mem_cons.1 hc with rfl|hc
   ·exact ha
   ·exact qms p h' c hc
  ·rw[if_neg ha]at h
   simp at h
theorem qgc{lo hi:Int}{s:ByteArray}(h:zN lo hi s=true):∀c∈s.data.toList,pW c=true:=by
 unfold zN at h
 simp only[Bool.and_eq_true,decide_eq_true_eq]at h
 obtain⟨_,_,_,_,_,h⟩:=h
 intro c hc
 unfold pW
 rw[qms qaH h c hc]
 rfl
theorem qeH{lo hi:Int}{s:ByteArray}(h:zN lo hi s=true):∃c r,s.data.toList=c::r/\lo<=(c.toNat:Int)/\(c.toNat:Int)<=hi:=by
 unfold zN at h
 simp only[Bool.and_eq_true,decide_eq_true_eq]at h
 obtain⟨h1,_,_,_,hf,_⟩:=h
 have e:sL s=s.data.toList:=rfl
 rw[e]at hf
 cases hs:s.data.toList with
 |nil=>rw[hs]at hf;simp[qcN]at hf
 |cons c r=>
  rw[hs]at hf
  simp[qcN]at hf
  exact⟨c,r,rfl,hf.1,hf.2⟩
theorem qkX{t:Term}(h:qF t=true):∀c∈(z6 t).data.toList,pW c=true:=by
 unfold qF at h
 unfold z6
 by_cases h1:t.kind=1
 ·rw[if_pos h1]
  intro c hc
  rcases qnQ t.n c (by simpa using hc) with rfl|h
  ·rfl
  ·unfold pW qaH qag
   simp
   omega
 ·rw[if_neg h1]at h ⊢
  by_cases h2:t.kind=2
  ·rw[if_pos h2]at h
   simp only[Bool.and_eq_true]at h
   exact qgc h.2
  ·rw[if_neg h2]at h
   by_cases h3:t.kind=3
   ·rw[if_pos h3]at h
    simp only[Bool.and_eq_true]at h
    exact qgc h.2
   ·rw[if_neg h3]at h;cases h
theorem qqm{a b:ByteArray}(h:a.data.toList=b.data.toList):a=b:=by
 obtain⟨⟨x⟩⟩:=a
 obtain⟨⟨y⟩⟩:=b
 simp at h
 rw[h]
theorem qhR{t:Term}(h:qF t=true):(t.kind=1/\t.s=⟨⟨[]⟩⟩)\/(t.kind=2/\t.n=0/\zN 97 122 t.s=true)\/(t.kind=3/\t.n=0/\zN 65 90 t.s=true):=by
 unfold qF at h
 by_cases h1:t.kind=1
 ·rw[if_pos h1]at h
  simp only[Bool.and_eq_true]at h
  exact .inl ⟨h1,wQ.1 h.1⟩
 ·rw[if_neg h1]at h
  by_cases h2:t.kind=2
  ·rw[if_pos h2]at h
   simp only[Bool.and_eq_true,decide_eq_true_eq]at h
   exact .inr (.inl ⟨h2,h.1,h.2⟩)
  ·rw[if_neg h2]at h
   by_cases h3:t.kind=3
   ·rw[if_pos h3]at h
    simp only[Bool.and_eq_true,decide_eq_true_eq]at h
    exact .inr (.inr ⟨h3,h.1,h.2⟩)
   ·rw[if_neg h3]at h;cases h
theorem qkY{t:Term}(h:t.kind=1):(z6 t).data.toList=Lib.itoa t.n:=by
 unfold z6
 rw[if_pos h]
theorem qbW{t:Term}(h:t.kind≠1):z6 t=t.s:=by
 unfold z6
 rw[if_neg h]
theorem qvy(n:Int):∃c r,Lib.itoa n=c::r/\c.toNat<=57:=by
 cases h:Lib.itoa n with
 |nil=>exact absurd h (qvw n)
 |cons c r=>
  refine⟨c,r,rfl,?_⟩
  rcases qnQ n c (by rw[h];exact List.mem_cons_self) with rfl|h
  ·decide
  ·exact h.2
theorem qro{t u:Term}(ht:qF t=true)(hu:qF u=true)(h:z6 t=z6 u):t=u:=by
 have num_word:∀{t u:Term},t.kind=1->u.kind≠1->(∃lo hi,(65:Int)<=lo/\zN lo hi u.s=true)->z6 t≠z6 u:=by
  intro t u h1 h2 ⟨lo,hi,hlo,hw⟩ e
  have e1:=congrArg (fun x:ByteArray=>x.data.toList) e
  simp only[qkY h1,qbW h2]at e1
  obtain⟨c,r,hc,hc2⟩:=qvy t.n
  obtain⟨d,r2,hd,hd2,_⟩:=qeH hw
  rw[hc,hd]at e1
  obtain⟨rfl,_⟩:=List.cons.inj e1
  omega
 obtain⟨tk,tn,ts⟩:=t
 obtain⟨uk,un,us⟩:=u
 rcases qhR ht with⟨h1,h2⟩|⟨h1,h2,h3⟩|⟨h1,h2,h3⟩<;>rcases qhR hu with⟨g1,g2⟩|⟨g1,g2,g3⟩|⟨g1,g2,g3⟩<;>dsimp only at h1 h2 g1 g2
 ·subst h1;subst g1;subst h2;subst g2
  have e1:=congrArg (fun x:ByteArray=>x.data.toList) h
  simp only[qkY]at e1
  rw[qvx e1]
 ·exact absurd h (num_word h1 (by show uk≠1;omega) ⟨97,122,by omega,g3⟩)
 ·exact absurd h (num_word h1 (by show uk≠1;omega) ⟨65,90,by omega,g3⟩)
 ·exact absurd h.symm (num_word g1 (by show tk≠1;omega) ⟨97,122,by omega,h3⟩)
 ·rw[qbW (by show tk≠1;omega),qbW (by show uk≠1;omega)]at h
  dsimp only at h
  rw[h1,h2,g1,g2,h]
 ·rw[qbW (by show tk≠1;omega),qbW (by show uk≠1;omega)]at h
  dsimp only at h h3 g3
  subst h
  obtain⟨c,r,e,a1,a2⟩:=qeH h3
  obtain⟨d,r2,e2,b1,b2⟩:=qeH g3
  rw[e]at e2
  obtain⟨rfl,_⟩:=List.cons.inj e2
  omega
 ·exact absurd h.symm (num_word g1 (by show tk≠1;omega) ⟨65,90,by omega,h3⟩)
 ·rw[qbW (by show tk≠1;omega),qbW (by show uk≠1;omega)]at h
  dsimp only at h h3 g3
  subst h
  obtain⟨c,r,e,a1,a2⟩:=qeH h3
  obtain⟨d,r2,e2,b1,b2⟩:=qeH g3
  rw[e]at e2
  obtain⟨rfl,_⟩:=List.cons.inj e2
  omega
 ·rw[qbW (by show tk≠1;omega),qbW (by show uk≠1;omega)]at h
  dsimp only at h
  rw[h1,h2,g1,g2,h]
theorem qhC(l:List Term)(b:Bool):qkx pW (vf l b):=by
 intro c t h
 cases l with
 |nil=>
  cases b<;>simp[vf]at h
  rw[<-h.1];rfl
 |cons x l=>
  cases b<;>simp[vf]at h
  ·rw[<-h.1];rfl
  ·rw[<-h.1];rfl
theorem qqv:∀{l m:List Term},l.all qF=true->m.all qF=true->∀b,vf l b=vf m b->l=m
 |[],[],_,_,_,_=>rfl
 |[],u::m,_,_,b,h=>by cases b<;>simp[vf]at h
 |t::l,[],_,_,b,h=>by cases b<;>simp[vf]at h
 |t::l,u::m,hl,hm,b,h=>by
  simp only[List.all_cons,Bool.and_eq_true]at hl hm
  have h':(z6 t).data.toList++vf l false=(z6 u).data.toList++vf m false:=by
   cases b<;>simpa [vf] using h
  obtain⟨h1,h2⟩:=qim (qkX hl.1) (qkX hm.1) (qhC _ _) (qhC _ _) h'
  rw[qro hl.1 hm.1 (qqm h1),qqv hl.2 hm.2 false h2]
theorem qkm{a b:Atom}(ha:qM a=true)(hb:qM b=true)(h:qG a=qG b):a=b:=by
 have e:=congrArg (fun x:ByteArray=>x.data.toList) h
 have e':a.pred.data.toList++vf a.args true=b.pred.data.toList++vf b.args true:=e
 unfold qM at ha hb
 simp only[Bool.and_eq_true,decide_eq_true_eq]at ha hb
 obtain⟨h1,h2⟩:=qim (qgc ha.1) (qgc hb.1) (qhC _ _) (qhC _ _) e'
 obtain⟨ap,aa⟩:=a
 obtain⟨bp,ba⟩:=b
 dsimp only at h1 h2 ha hb
 rw[qqm h1,qqv ha.2.2 hb.2.2 true h2]
end Go.Abs.Tz
namespace Go.Abs.Tz
open Go Go.Abs Go.Proofs
set_option maxRecDepth 20000
set_option linter.unusedSimpArgs false
attribute [local simp ↓] yb ya jv ju gI ut zg zB jr up yP yQ yc ye yf yd jA jD jG jB jH jI jE jF jC jy jw jz jx yN yL yO yM g7 gZ g8 g6 yk yh yj uu zx jL zh z7 gL yS yT yo yq yp ym yn yz jO jT jW jS jU jV gy gx j5 j7 jb uZ jm jp u9 jh jl jk jj ji jf uV uW uX uY jn jd je uT jo jq ja jc jg uU gb j6 gu gC j8 gj gt gq gp gk gh j0 gw gf gg jX gA gD j9 gd gi jY gG gz jZ gF ge ga gc j3 gv jP jR jQ yu yx yt yv yw qp uL
attribute [local simp] faL fdL iaL ixL qL zb qV eqK eqL qR zo uO yr yK yA yC yE yG yI yJ yB yF yD yH zC LV.cells LV.whole qp uC uw jM stL zF zR uq qa.alloc gJ gH gK gY gW gV gU gT gS gQ gO gN gM qe ux
def hasP(k:PK)(W:List PK):Bool:=W.any (vx k)
structure NNG where
 f:Nat
 c:Nat
 n:Nat
 w:List PK
structure NNF where
 i:Nat
 n:Nat
 w:List PK
structure NNI2 where
 i:Nat
 n:Nat
 ns:List Int
 own:Own
 ob:List (Nat×qc)
abbrev zJ(ns:List Int):List LV:=ns.map LV.int
abbrev arrB(bits:List Bool):qc:=.arr 1 (bits.map LV.bool)
def qxP(V U:List PK):List Bool:=V.map fun k=>hasP k U
section
variable{V U:List PK}{k:PK}(hk:k∈V){o n:Nat}{ob:List (Nat×qc)}(hl:look o ob=some (arrB (qxP V U)))
include hk hl
end
theorem vS{i j:Nat}{x:qc}(h:i≠j):∀{l:List (Nat×qc)},look i (qx j x l)=look i l
 |[]=>rfl
 |(k,y)::r=>by
  simp only[qx]
  by_cases hk:j=k
  ·subst hk
   rw[if_pos rfl]
   simp only[look]
   rw[if_neg h,if_neg h]
  ·rw[if_neg hk]
   simp only[look]
   rw[vS h]
structure NNB where
 i:Nat
 n:Nat
 bs:List Bool
structure Stp where
 atom:Atom
 cl:Int
 frm:List Int
abbrev qeR(s:Stp):List LV:=[.str s.atom.pred,qk s.atom.args,.int s.cl,.sl (s.frm.map LV.int) .no]
abbrev vB(s:Stp):LV:=.agg (qeR s)
abbrev qaU(M:List (ByteArray×Int)):List (LV×LV):=M.map fun e=>(.str e.1,.int e.2)
def vJ(k:ByteArray):List (ByteArray×Int)->Option Int
 |[]=>none
 |(j,v)::r=>if eqBA k j then some v else vJ k r
theorem qoU(k:ByteArray):∀M:List (ByteArray×Int),vM (.pl 1) (.str k) (qaU M)=some ((vJ k M).map LV.int)
 |[]=>rfl
 |(j,v)::r=>by
  have ih:=qoU k r
  show (match eqK (.pl 1) (.str k) (.str j) with
   |some true=>some (some (LV.int v))
   |some false=>vM (.pl 1) (.str k) (qaU r)
   |none=>none)=_
  rw[ih]
  simp only[eqK,zo,vJ]
  cases eqBA k j<;>rfl
theorem qmd(k:ByteArray)(v:Int):∀M:List (ByteArray×Int),vJ k M=none->wg (.pl 1) (.str k) (.int v) (qaU M)=some (qaU (M++[(k,v)]))
 |[],_=>rfl
 |(j,u)::r,h=>by
  simp only[vJ]at h
  by_cases he:eqBA k j=true
  ·rw[if_pos he]at h;cases h
  ·rw[if_neg he]at h
   have he':eqBA k j=false:=by simpa using he
   have ih:=qmd k v r h
   show (match eqK (.pl 1) (.str k) (.str j) with
    |some true=>some ((LV.str j,LV.int v)::qaU r)
    |some false=>(wg (.pl 1) (.str k) (.int v) (qaU r)).map ((LV.str j,LV.int u)::·)
    |none=>none)=_
   rw[ih]
   simp only[eqK,zo,he']
   rfl
def vv:List Stp->Int->List (ByteArray×Int)
 |[],_=>[]
 |s::r,i=>(qG s.atom,i)::vv r (i+1)
theorem qog(s:Stp):∀(F:List Stp)(i:Int),vv (F++[s]) i=vv F i++[(qG s.atom,i+F.length)]
 |[],i=>by simp[vv]
 |q::F,i=>by
  have ih:=qog s F (i+1)
  simp only[List.cons_append,vv,ih,List.length_cons]
  congr 4
  omega
theorem qfn{k:ByteArray}:∀{F:List Stp}{i:Int},vJ k (vv F i)=none↔∀q∈F,qG q.atom≠k
 |[],_=>by simp[vv,vJ]
 |q::F,i=>by
  have ih:=qfn (k:=k) (F:=F) (i:=i+1)
  simp only[vv,vJ]
  by_cases he:eqBA k (qG q.atom)=true
  ·rw[if_pos he]
   have:=wQ.1 he
   constructor
   ·intro h;cases h
   ·intro h;exact absurd this.symm (h q List.mem_cons_self)
  ·rw[if_neg he,ih]
   have hne:qG q.atom≠k:=fun e=>he (wQ.2 e.symm)
   constructor
   ·intro h x hx
    rcases List.mem_cons.1 hx with rfl|hx
    ·exact hne
    ·exact h x hx
   ·exact fun h x hx=>h x (List.mem_cons_of_mem _ hx)
structure uh(ob:List (Nat×qc))(fo am:Nat)(F:List Stp)(own:Own):Prop where
 pair:look fo ob=some (.cells [.map am,.sl (F.map vB) own])
 map:look am ob=some (.map (qaU (vv F 0)))
 ne:fo≠am
 row:(own=.full/\F=[])\/∃t,own=.tok t/\t≠fo/\t≠am/\look t ob=some (.tok F.length 4)
def qQ(ob:List (Nat×qc)):Prop:=∀i m l k n,look i ob≠some (.iter m l k n)
def qfu:qc->Bool
 |.iter _ _ _ _=>true
 |_=>false
theorem qdZ{ob:List (Nat×qc)}:qQ ob↔∀i x,look i ob=some x->qfu x=false:=by
 constructor
 ·intro h i x hx
  cases x<;>first|rfl|exact absurd hx (h _ _ _ _ _)
 ·intro h i m l k n hx
  exact absurd (h i _ hx) (by simp[qfu])
theorem qQ.cons{ob:List (Nat×qc)}(h:qQ ob)(m:Nat){x:qc}(hx:qfu x=false):qQ ((m,x)::ob):=qdZ.2 fun i y hy=>by
 simp only[look]at hy
 split at hy
 ·cases hy;exact hx
 ·exact qdZ.1 h i y hy
theorem qnE{o:Nat}{x:qc}:∀{l:List (Nat×qc)}{i:Nat}{y:qc},look i (qx o x l)=some y->y=x\/look i l=some y
 |[],_,_,h=>by cases h
 |(j,z)::r,i,y,h=>by
  simp only[qx]at h
  split at h
  ·simp only[look]at h ⊢
   split at h
   ·cases h;exact .inl rfl
   ·rename_i hne;exact .inr (by rw[if_neg hne];exact h)
  ·simp only[look]at h ⊢
   split at h
   ·rename_i he;exact .inr (by rw[if_pos he];exact h)
   ·rename_i hne;rw[if_neg hne];exact qnE h
theorem qQ.put{ob:List (Nat×qc)}(h:qQ ob)(m:Nat){x:qc}(hx:qfu x=false):qQ (qx m x ob):=qdZ.2 fun i y hy=>by
 rcases qnE hy with rfl|hy
 ·exact hx
 ·exact qdZ.1 h i y hy
def qkv(n:Nat)(own own':Own):Prop:=own'=own\/∃t,own'=.tok t/\n<=t
theorem lkM{H:qa}{o:Nat}{M:List (ByteArray×Int)}(h:look o H.objs=some (.map (qaU M)))(k:ByteArray)(z:LV):lkL H (.pl 1) true z (.map o) (.str k)=some (match vJ k M with|some t=>.tup [.int t,.bool true]|none=>.tup [z,.bool false]):=by
 unfold lkL
 simp only[eqK,zo,qbp,Option.isSome_some,if_true,h,qoU]
 cases vJ k M<;>rfl
theorem muM{H:qa}{o:Nat}{M:List (ByteArray×Int)}{k:ByteArray}(h:look o H.objs=some (.map (qaU M)))(hn:vJ k M=none)(v:Int):muL H (.pl 1) (.map o) (.str k) (.int v)=some (H.put o (.map (qaU (M++[(k,v)])))):=by
 unfold muL
 simp only[h,eqK,zo,qbp,Option.isNone_some,Bool.false_eq_true,if_false,qmd _ _ _ hn,Option.map_some]
theorem qtg(F:List Stp):(F.map vB).all (fun e=>e.cells.length==4)=true:=by
 rw[List.all_map,List.all_eq_true]
 intro x _
 rfl
theorem qlI(s:Stp)(hs:qM s.atom=true)(fo am:Nat)(F:List Stp)(hF:F.length<=2^20)(own:Own)(ob:List (Nat×qc))(n:Nat)(hA:uh ob fo am F own){kv kp:HP}
  (h0:(∃q∈F,qG q.atom=qG s.atom)->∀n',n<=n'->kv (.tup []) ⟨ob,n'⟩)
  (h1:(∀q∈F,qG q.atom≠qG s.atom)->∀ob' n' own',n<=n'->uh ob' fo am (F++[s]) own'->qkv n own own'->(qQ ob->qQ ob')->(∀i,i<n->i≠fo->i≠am->(∀t,own=.tok t->i≠t)->look i ob'=look i ob)->kv (.tup []) ⟨ob',n'⟩):
  cP E0 F0 155 [.ptr fo 0,vB s] ⟨ob,n⟩ kv kp:=by
 refine ur c155 fun hH=>⟨Nat.le_of_ble_eq_true rfl,?_⟩
 have hfo:fo<n:=hH.look hA.pair
 have ham:am<n:=hH.look hA.map
 simp(disch:=omega)[b155]
 refine(qgh s.atom hs).go fun n2 hn2=>?_
 simp(disch:=omega)[hA.pair]
 rw[lkM (by rw[qe (by omega)];exact hA.map)]
 cases hl:vJ (qG s.atom) (vv F 0) with
 |some t=>
  simp(disch:=omega)[zh]
  have hex:∃q∈F,qG q.atom=qG s.atom:=by
   apply Classical.byContradiction
   intro hno
   have:=qfn (i:=0).2 fun q hq e=>hno ⟨q,hq,e⟩
   rw[hl]at this;cases this
  obtain⟨g1,g2⟩:=zK (l:=(n,qc.cells (qeR s))::ob) (n:=n2) hH (ql.cons' hH (Nat.le_refl _) (by dsimp only;omega) (ql.refl' _))
  exact⟨_,g1,g2,h0 hex n2 (by omega)⟩
 |none=>
  have hnone:=qfn.1 hl
  simp(disch:=omega)[hA.pair,hA.map]
  rw[muM (by rw[qe (by omega)];exact hA.map) hl]
  obtain⟨S,hS⟩:∃S,F.map vB=S:=⟨_,rfl⟩
  have hall:=qtg F
  have hpair:=hA.pair
  have hSl:S.length=F.length:=by rw[<-hS,List.length_map]
  have hF2:(F++[s]).map vB=S++[vB s]:=by rw[<-hS];simp
  have hidx:vv (F++[s]) 0=vv F 0++[(qG s.atom,(F.length:Int))]:=by rw[qog];simp
  rw[hS]at hall hpair
  rw[<-hidx]
  obtain⟨M2,hM2⟩:∃M2,qc.map (qaU (vv (F++[s]) 0))=M2:=⟨_,rfl⟩
  have hMi:qfu M2=false:=by rw[<-hM2];rfl
  rw[hM2]
  have hna:fo≠am:=hA.ne
  have hlp:look fo (qx am M2 ob)=some (.cells [.map am,.sl S own]):=by rw[vS hna];exact hpair
  simp(disch:=omega)[hlp]
  refine qU ?_
  simp(disch:=omega)
  have hmap:look am (qx am M2 ob)=some M2:=vI hA.map
  rcases hA.row with⟨rfl,hFn⟩|⟨t,rfl,t1,t2,t3⟩
  ·rw[qhE hall rfl (by rw[hSl];omega) (by omega)]
   simp(disch:=omega)[hlp,zh]
   refine⟨_,HWk.refl _,fun h=>h,h1 hnone _ _ (.tok n2) (by omega) ⟨?_,?_,hna,.inr ⟨n2,rfl,by omega,by omega,?_⟩⟩ (.inr ⟨n2,rfl,by omega⟩) ?_ fun i hi hif hia _=>?_⟩
   ·rw[qe (by omega),qe (by omega),hF2]
    exact vI hlp
   ·rw[qe (by omega),qe (by omega),vS (Ne.symm hna),hM2]
    exact hmap
   ·simp[look,hSl]
   ·exact fun hI=>qQ.cons (qQ.cons (qQ.put (qQ.put hI _ hMi) _ rfl) _ rfl) _ rfl
   ·rw[qe (by omega),qe (by omega),vS hif,vS hia]
  ·have htn:t<n:=hH.look t3
   have hlp2:look fo (qx t (qc.tok (S.length+1) 4) (qx am M2 ob))=some (.cells [.map am,.sl S (.tok t)]):=by rw[vS (Ne.symm t1)];exact hlp
   have htt:look t (qx am M2 ob)=some (.tok F.length 4):=by rw[vS t2];exact t3
   rw[qhD hall rfl (by rw[hSl];omega) (by omega) (by omega) (by rw[qe (by omega),hSl];exact htt)]
   simp(disch:=omega)[hlp2,zh]
   refine⟨_,HWk.refl _,fun h=>h,h1 hnone _ _ (.tok t) (by omega) ⟨?_,?_,hna,.inr ⟨t,rfl,t1,t2,?_⟩⟩ (.inl rfl) ?_ fun i hi hif hia hit=>?_⟩
   ·rw[qe (by omega),hF2]
    exact vI hlp2
   ·rw[qe (by omega),vS (Ne.symm hna),vS (Ne.symm t2),hM2]
    exact hmap
   ·rw[qe (by omega),vS t1,vI htt]
    simp[hSl]
   ·exact fun hI=>qQ.cons (qQ.put (qQ.put (qQ.put hI _ hMi) _ rfl) _ rfl) _ rfl
   ·rw[qe (by omega),vS hif,vS (hit t rfl),vS hia]
def zn(k:ByteArray)(F:List Stp):Bool:=(vJ k (vv F 0)).isSome
theorem qac{k:ByteArray}{F:List Stp}:zn k F=true↔∃q∈F,qG q.atom=k:=by
 unfold zn
 constructor
 ·intro h
  apply Classical.byContradiction
  intro hno
  rw[qfn.2 fun q hq e=>hno ⟨q,hq,e⟩]at h
  cases h
 ·rintro⟨q,hq,e⟩
  cases hl:vJ k (vv F 0) with
  |some v=>rfl
  |none=>exact absurd e (qfn.1 hl q hq)
def zq(F:List Stp)(s:Stp):List Stp:=if zn (qG s.atom) F then F else F++[s]
def zM(F G:List Stp)(s:Stp):List Stp:=if zn (qG s.atom) F then G else if G.length<=300 then zq G s else G
theorem uh.cons{ob:List (Nat×qc)}{fo am n m:Nat}{F:List Stp}{own:Own}(h:uh ob fo am F own)(hH:qa.Ok ⟨ob,n⟩)(hm:n<=m)(x:qc):uh ((m,x)::ob) fo am F own:=by
 have b1:fo<n:=hH.look h.pair
 have b2:am<n:=hH.look h.map
 refine⟨by rw[qe (by omega)];exact h.pair,by rw[qe (by omega)];exact h.map,h.ne,?_⟩
 rcases h.row with h1|⟨t,h1,h2,h3,h4⟩
 ·exact .inl h1
 ·have b3:t<n:=hH.look h4
  exact .inr ⟨t,h1,h2,h3,by rw[qe (by omega)];exact h4⟩
theorem t_do(a:Atom)(ha:qM a=true)(frm:List Int)(fv hv iv:Nat)(i:Int)(fo am go gm:Nat)(F G:List Stp)(hG:G.length<=2^20)(ownF own:Own)(ob:List (Nat×qc))(n:Nat)
  (hF:uh ob fo am F ownF) (hA:uh ob go gm G own) (l1:look fv ob=some (.cells [.ptr fo 0])) (l2:look hv ob=some (.cells [.ptr go 0])) (l3:look iv ob=some (.cells [.int i])) {kv kp:HP}
  (hk:∀ob' n' own',n<=n'->uh ob' go gm (zM F G ⟨a,i,frm⟩) own'->qkv n own own'->(qQ ob->qQ ob')->(∀i,i<n->i≠go->i≠gm->(∀t,own=.tok t->i≠t)->look i ob'=look i ob)->kv (.tup []) ⟨ob',n'⟩):
  cP E0 F0 154 [qd a,.sl (frm.map LV.int) .no,.ptr fv 0,.ptr hv 0,.ptr iv 0] ⟨ob,n⟩ kv kp:=by
 refine ur c154 fun hH=>⟨Nat.le_of_ble_eq_true rfl,?_⟩
 have b1:fv<n:=hH.look l1
 have b2:hv<n:=hH.look l2
 have b3:iv<n:=hH.look l3
 have b4:fo<n:=hH.look hF.pair
 have b5:am<n:=hH.look hF.map
 have b6:go<n:=hH.look hA.pair
 simp(disch:=omega)[b154,l1,hF.pair]
 refine(qgh a ha).go fun n2 hn2=>?_
 simp(disch:=omega)
 rw[lkM (by rw[qe (by omega)];exact hF.map)]
 have hlast:∀(l:qc),zM F G ⟨a,i,frm⟩=G->∃H'',HWk ⟨(n,l)::ob,n2⟩ H''/\(qa.Ok ⟨(n,l)::ob,n2⟩->H''.Ok)/\kv (.tup []) H'':=fun l e=>by
  obtain⟨g1,g2⟩:=zK (l:=(n,l)::ob) (n:=n2) hH (ql.cons' hH (Nat.le_refl _) (by dsimp only;omega) (ql.refl' _))
  exact⟨_,g1,g2,hk ob n2 own (by omega) (by rw[e];exact hA) (.inl rfl) id fun _ _ _ _ _=>rfl⟩
 have hGl:(G.map vB).length=G.length:=List.length_map ..
 cases hl:vJ (qG a) (vv F 0) with
 |some t=>
  simp(disch:=omega)[zh,l1,l2,l3,hF.pair,hA.pair]
  exact hlast _ (by simp[zM,zn,hl])
 |none=>
  by_cases h300:G.length<=300
  ·have h300':(G.length:Int)<=300:=by omega
   simp(disch:=omega)[l1,l2,l3,hF.pair,hA.pair,h300']
   have hnF:zn (qG a) F=false:=by simp[zn,hl]
   refine qlI ⟨a,i,frm⟩ ha go gm G hG own _ n2 (hA.cons hH (Nat.le_refl _) _) (fun hex n3 hn3=>?_) (fun hno ob' n3 own' hn3 hA' hnear hnoit hsame=>?_)
   ·simp(disch:=omega)[zh]
    have e:zM F G ⟨a,i,frm⟩=G:=by simp[zM,hnF,h300,zq,qac.2 hex]
    refine⟨_,HWk.refl _,fun h=>h,hk _ n3 own (by omega) (by rw[e];exact hA.cons hH (Nat.le_refl _) _) (.inl rfl) (fun hI=>hI.cons _ rfl) fun j hj _ _ _=>by rw[qe (by omega)]⟩
   ·simp(disch:=omega)[zh]
    have hnG:zn (qG a) G=false:=by
     cases h:zn (qG a) G with
     |false=>rfl
     |true=>
      obtain⟨q,hq,e⟩:=qac.1 h
      exact absurd e (hno q hq)
    have e:zM F G ⟨a,i,frm⟩=G++[⟨a,i,frm⟩]:=by simp[zM,hnF,h300,zq,hnG]
    refine⟨_,HWk.refl _,fun h=>h,hk ob' n3 own' (by omega) (by rw[e];exact hA') (hnear.imp id fun⟨t,h1,h2⟩=>⟨t,h1,by omega⟩) (fun hI=>hnoit (hI.cons _ rfl)) fun j hj h1 h2 h3=>?_⟩
    rw[hsame j (by omega) h1 h2 h3,qe (by omega)]
  ·have h300':¬(G.length:Int)<=300:=by omega
   simp(disch:=omega)[l1,l2,l3,hF.pair,hA.pair,h300',zh]
   exact hlast _ (by simp[zM,h300])
end Go.Abs.Tz
namespace Go.Abs.Tz
open Go Go.Abs Go.Proofs
def qap(F:List Stp)(K:qq):List Lit->Bool
 |[]=>true
 |x::r=>if x.kind=1 then qap F K r else if x.kind=2 then !zn (qG (q9 K x.atom)) F&&qap F K r else qaV K x&&qap F K r
def qO(b:List Lit):List Atom:=(b.filter fun x=>decide (x.kind=1)).map Lit.atom
def vU(F:List Stp)(c:qf):List Atom->qq->List Int->List (qq×List Int)
 |[],K,frm=>if qap F K c.body then [(K,frm)] else []
 |p::ps,K,frm=>(List.range F.length).flatMap fun j=>match F[j]? with
  |some s=>match z1 K p s.atom with
   |some R=>vU F c ps R (frm++[(j:Int)])
   |none=>[]
  |none=>[]
def vW{σ:Type}(step:σ->Atom->List Int->σ)(c:qf)(l:List (qq×List Int))(s:σ):σ:=l.foldl (fun s x=>step s (q9 x.1 c.head) x.2) s
theorem qos(F G:List Stp)(s:Stp):G.length<=(zM F G s).length/\(zM F G s).length<=G.length+1:=by
 unfold zM zq
 by_cases h1:zn (qG s.atom) F=true
 ·rw[if_pos h1];omega
 ·rw[if_neg h1]
  by_cases h2:G.length<=300
  ·rw[if_pos h2]
   by_cases h3:zn (qG s.atom) G=true
   ·rw[if_pos h3];omega
   ·rw[if_neg h3];simp
  ·rw[if_neg h2];omega
theorem qor{F G:List Stp}{s:Stp}(h:G.length<=301):(zM F G s).length<=301:=by
 have h1:=(qos F G s).2
 by_cases h2:G.length<=300
 ·omega
 ·have:zM F G s=G:=by
   unfold zM
   by_cases h3:zn (qG s.atom) F=true
   ·rw[if_pos h3]
   ·rw[if_neg h3,if_neg h2]
  rw[this];exact h
end Go.Abs.Tz
namespace Go.Abs.Tz
open Go Go.Abs Go.Proofs
def qI(a:Atom):Prop:=qM a=true/\a.args.all ua=true
structure uA(K:qq):Prop where
 nd:(uj K).Nodup
 ok:∀e∈K,qF e.2=true/\ua e.2=true
theorem uA.nil:uA []:=⟨.nil,fun e h=>by cases h⟩
def qal(K R:qq):Prop:=∀k v,qS k K=some v->qS k R=some v
theorem qal.refl(K:qq):qal K K:=fun _ _ h=>h
theorem qal.trans{K L R:qq}(h:qal K L)(k:qal L R):qal K R:=fun x v hx=>k x v (h x v hx)
def yY(K:qq)(ts:List Term):Prop:=∀t∈ts,t.kind=3->(qS t.s K).isSome=true
theorem yY.ext{K R:qq}{ts:List Term}(h:yY K ts)(he:qal K R):yY R ts:=fun t ht hk=>by
 obtain⟨v,hv⟩:=Option.isSome_iff_exists.1 (h t ht hk)
 rw[he _ _ hv];rfl
theorem qoX{k:ByteArray}{v:Term}:∀{E X:qq},qS k E=some v->qS k (E++X)=some v
 |[],_,h=>by cases h
 |(j,u)::r,X,h=>by
  simp only[qS,List.cons_append]at h ⊢
  split
  ·rename_i hj;rw[if_pos hj]at h;exact h
  ·rename_i hj;rw[if_neg hj]at h;exact qoX h
theorem qoW{k:ByteArray}{v:Term}:∀{E:qq},qS k E=none->qS k (E++[(k,v)])=some v
 |[],_=>by simp[qS,qbp]
 |(j,u)::r,h=>by
  simp only[qS,List.cons_append]at h ⊢
  split
  ·rename_i hj;rw[if_pos hj]at h;cases h
  ·rename_i hj;rw[if_neg hj]at h;exact qoW h
theorem qws{K R:qq}(h:qal K R){t:Term}(hb:t.kind=3->(qS t.s K).isSome=true):za R t=za K t:=by
 unfold za
 by_cases hk:t.kind=3
 ·obtain⟨v,hv⟩:=Option.isSome_iff_exists.1 (hb hk)
  rw[if_pos hk,if_pos hk,hv,h _ _ hv]
 ·rw[if_neg hk,if_neg hk]
theorem qwt{K R:qq}(h:qal K R){a:Atom}(hb:yY K a.args):q9 R a=q9 K a:=by
 unfold q9
 congr 1
 exact List.map_congr_left fun t ht=>qws h (hb t ht)
theorem qki:∀(ps qs:List Term)(K R:qq),uA K->(∀q∈qs,qF q=true/\ua q=true)->ps.length=qs.length->zA K ps qs=some R ->
  uA R/\qal K R/\yY R ps/\ps.map (za R)=qs
 |[],[],K,R,hK,_,_,h=>by
  simp only[zA,Option.some.injEq]at h
  subst h
  exact⟨hK,.refl _,fun t ht=>(by cases ht),rfl⟩
 |[],_::_,_,_,_,_,hl,_=>by simp at hl
 |_::_,[],_,_,_,_,hl,_=>by simp at hl
 |p::ps,q::qs,K,R,hK,hq,hl,h=>by
  have hl':ps.length=qs.length:=by simpa using hl
  have hq':∀x∈qs,qF x=true/\ua x=true:=fun x hx=>hq x (List.mem_cons_of_mem _ hx)
  simp only[zA]at h
  by_cases hk:p.kind=3
  ·rw[if_pos hk]at h
   have fin:∀K':qq,uA K'->qal K K'->qS p.s K'=some q->zA K' ps qs=some R->uA R/\qal K R/\yY R (p::ps)/\(p::ps).map (za R)=q::qs:=by
    intro K' h1 h2 h3 h4
    obtain⟨g1,g2,g3,g4⟩:=qki ps qs K' R h1 hq' hl' h4
    refine⟨g1,h2.trans g2,fun t ht htk=>?_,?_⟩
    ·rcases List.mem_cons.1 ht with rfl|ht
     ·rw[g2 _ _ h3];rfl
     ·exact g3 t ht htk
    ·rw[List.map_cons,g4]
     congr 1
     unfold za
     rw[if_pos hk,g2 _ _ h3];rfl
   cases hf:qS p.s K with
   |some old=>
    rw[hf]at h
    simp only at h
    split at h
    ·rename_i he
     have:=qhl he
     subst this
     exact fin K hK (.refl _) hf h
    ·cases h
   |none=>
    rw[hf]at h
    simp only at h
    refine fin _ ⟨?_,fun e he=>?_⟩ (fun k v hv=>qoX hv) (qoW hf) h
    ·unfold uj
     rw[List.map_append]
     refine List.nodup_append.2 ⟨hK.nd,by simp,fun x hx y hy e=>?_⟩
     simp at hy
     subst hy
     subst e
     exact qfB hf hx
    ·rcases List.mem_append.1 he with he|he
     ·exact hK.ok e he
     ·simp at he
      subst he
      exact hq q List.mem_cons_self
  ·rw[if_neg hk]at h
   split at h
   ·rename_i he
    have e:=qhl he
    obtain⟨g1,g2,g3,g4⟩:=qki ps qs K R hK hq' hl' h
    refine⟨g1,g2,fun t ht htk=>?_,?_⟩
    ·rcases List.mem_cons.1 ht with rfl|ht
     ·exact absurd htk hk
     ·exact g3 t ht htk
    ·rw[List.map_cons,g4]
     congr 1
     unfold za
     rw[if_neg hk,e]
   ·cases h
theorem qI.args{a:Atom}(h:qI a):∀q∈a.args,qF q=true/\ua q=true:=fun q hq=>
 ⟨List.all_eq_true.1 (qai h.1).2 q hq,List.all_eq_true.1 h.2 q hq⟩
theorem qhB{K R:qq}{p a:Atom}(hK:uA K)(ha:qI a)(h:z1 K p a=some R):uA R/\qal K R/\yY R p.args/\q9 R p=a:=by
 unfold z1 at h
 split at h
 ·rename_i hc
  simp only[Bool.and_eq_true,decide_eq_true_eq]at hc
  obtain⟨g1,g2,g3,g4⟩:=qki _ _ K R hK ha.args hc.2 h
  refine⟨g1,g2,g3,?_⟩
  unfold q9
  rw[g4,wQ.1 hc.1]
 ·cases h
theorem uA.find{K:qq}(h:uA K){k:ByteArray}{v:Term}(hf:qS k K=some v):qF v=true/\ua v=true:=h.ok _ ((qfC h.nd).1 hf)
theorem qwr{K:qq}(h:uA K){t:Term}(ht:qF t=true)(hb:t.kind=3->(qS t.s K).isSome=true):qF (za K t)=true/\ua (za K t)=true:=by
 unfold za
 by_cases hk:t.kind=3
 ·obtain⟨v,hv⟩:=Option.isSome_iff_exists.1 (hb hk)
  rw[if_pos hk,hv]
  exact h.find hv
 ·rw[if_neg hk]
  exact⟨ht,by simp[ua,hk]⟩
theorem qpa{K:qq}(h:uA K){a:Atom}(ha:qM a=true)(hb:yY K a.args):qI (q9 K a):=by
 have h1:=qai ha
 have h2:∀t∈(q9 K a).args,qF t=true/\ua t=true:=by
  intro t ht
  obtain⟨u,hu,rfl⟩:=List.mem_map.1 (show t∈a.args.map (za K) from ht)
  exact qwr h (List.all_eq_true.1 h1.2 u hu) (hb u hu)
 refine⟨?_,List.all_eq_true.2 fun t ht=>(h2 t ht).2⟩
 have h3:zN 97 122 a.pred=true:=by
  unfold qM at ha
  simp only[Bool.and_eq_true]at ha
  exact ha.1
 unfold qM
 rw[show (q9 K a).pred=a.pred from rfl,h3,show (q9 K a).args.length=a.args.length from List.length_map _,List.all_eq_true.2 fun t ht=>(h2 t ht).1]
 simp[h1.1]
theorem qnn(K:qq)(a:Atom):ofA (q9 K a)=ofA a:=by
 unfold ofA q9
 simp
theorem qrp{t:Term}(h:qF t=true):t.ok:=by
 unfold Term.ok
 rcases qhR h with⟨_,e⟩|⟨_,_,e⟩|⟨_,_,e⟩
 ·rw[e];exact Nat.pow_pos (by omega)
 ·have:=qdL e;omega
 ·have:=qdL e;omega
theorem wX{a:Atom}(h:qM a=true):a.ok:=by
 have h1:=qai h
 unfold qM at h
 simp only[Bool.and_eq_true]at h
 have:=qdL h.1
 exact⟨by omega,by omega,fun t ht=>qrp (List.all_eq_true.1 h1.2 t ht)⟩
structure zQ(c:qf):Prop where
 ok:yy c=true
 safe:qbe c=true
theorem qiM{c:qf}{p:Atom}(h:p∈qO c.body):∃x∈c.body,x.kind=1/\x.atom=p:=by
 obtain⟨x,hx,e⟩:=List.mem_map.1 h
 obtain⟨h1,h2⟩:=List.mem_filter.1 hx
 exact⟨x,h1,by simpa using h2,e⟩
theorem quT{c:qf}{x:Lit}(h:x∈c.body)(hk:x.kind=1):x.atom∈qO c.body:=List.mem_map.2 ⟨x,List.mem_filter.2 ⟨h,by simp[hk]⟩,rfl⟩
theorem qji{x:Lit}(h:zD x=true)(hk:x.kind=1\/x.kind=2):qM x.atom=true:=by
 unfold zD at h
 rw[if_pos hk]at h
 simp only[Bool.and_eq_true]at h
 exact h.1
theorem zQ.posOk{c:qf}(h:zQ c):∀p∈qO c.body,qM p=true:=fun p hp=>by
 obtain⟨x,hx,hk,rfl⟩:=qiM hp
 exact qji ((wT h.ok).2.2 x hx) (.inl hk)
theorem zQ.bound{c:qf}(h:zQ c){K:qq}(hp:∀p∈qO c.body,yY K p.args):yY K c.head.args/\(∀x∈c.body,x.kind=2->yY K x.atom.args)/\∀x∈c.body,x.kind≠1->x.kind≠2->yY K [x.a,x.b]:=by
 have hs:=h.safe
 unfold qbe at hs
 rw[List.all_eq_true]at hs
 have key:∀v,v∈(wL c.body ([],vz c.head.args [])).2->(qS v K).isSome=true:=by
  intro v hv
  have h1:=qhb.1 (hs v hv)
  rcases qgR.1 h1 with h2|⟨x,hx,hk,t,ht,htk,rfl⟩
  ·cases h2
  ·exact hp _ (quT hx hk) t ht htk
 refine⟨fun t ht hk=>key _ (qfo.2 (.inl (qec.2 (.inr ⟨t,ht,hk,rfl⟩)))),fun x hx hk t ht htk=>key _ (qfo.2 (.inr ⟨x,hx,by omega,t,by rw[if_pos hk];exact ht,htk,rfl⟩)),fun x hx h1 h2 t ht htk=>key _ (qfo.2 (.inr ⟨x,hx,h1,t,by rw[if_neg h2];exact ht,htk,rfl⟩))⟩
theorem zQ.leaf{c:qf}(h:zQ c){K:qq}(hK:uA K)(hp:∀p∈qO c.body,yY K p.args):(∀x∈c.body,x.kind=2->qI (q9 K x.atom))/\qI (q9 K c.head):=by
 obtain⟨h1,h2,_⟩:=h.bound hp
 exact⟨fun x hx hk=>qpa hK (qji ((wT h.ok).2.2 x hx) (.inr hk)) (h2 x hx hk),qpa hK (wT h.ok).1 h1⟩
end Go.Abs.Tz
